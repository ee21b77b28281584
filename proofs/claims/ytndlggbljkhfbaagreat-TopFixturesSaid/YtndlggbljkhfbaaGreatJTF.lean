import Derived.Test.YtndlggbljkhfbaaGreatJTE
import Derived.Shelf.SlIterI.Nil
import Derived.Shelf.SortM.Plain
import Derived.Shelf.SortM.SortNone
import Derived.Shelf.Slices.Delete
set_option maxRecDepth 100000
set_option maxHeartbeats 0
set_option linter.unusedSimpArgs false
set_option linter.unusedVariables false
namespace Go.Proofs.YtndlggbljkhfbaaGreat
open Go.Tidy
variable {L : List Blk} {k : V → List Blk → Prop}
def pre5 (p : Pl) (bud : Nat) (fd : FuncId) (caps : List V) (sp : Nat) : List Blk:=[.cells [.d (.rptr (planD p))],.cells [I bud],.cells [.fn fd caps],.cells [I sp],.cells [I 0]]
def capE (N : Nat) : List V:=[.ptr N 0,.ptr (N + 2) 0,.ptr (N + 3) 0,.ptr (N + 1) 0,.ptr (N + 5) 0]
def pre6 (p : Pl) (bud : Nat) (fd : FuncId) (caps : List V) (N sp : Nat) : List Blk:=pre5 p bud fd caps sp ++ [.cells [.fn 93 (capE N)]]
theorem pre6_len (p : Pl) (bud : Nat) (fd : FuncId) (caps : List V) (N sp : Nat) : (pre6 p bud fd caps N sp).length = 6:=rfl
def notD : Blk → Bool
 | .defr=>false
 | _=>true
structure Hand (N : Nat) (U : List Lst → List Blk) (fd : FuncId) (caps : List V) (all : Bool) : Prop where
 len : ∀ fs,(U fs).length = N
 bel : ∀ fs,belB N (U fs) = true
 nol : ∀ fs,noLoop (U fs) = true
 nod : ∀ fs,(U fs).all notD = true
 cap : V.belL N caps = true
 found : ∀ (pn : Nat) (pan : V → List Blk → Prop) (X : List Blk) (fs : List Lst) (l : Lst) (k : V → List Blk → Prop),pn = N + 5 → 5 ≤ X.length → belB (N + X.length) X = true → belB (N + 5) (X.take 5) = true → (X.take 5).all notD = true → fs.length ≤ 1073741824 →
  (all = true → k (.tup []) (U (fs ++ [l]) ++ X)) → (all = false → pan (.d (enoughD 0)) (U (fs ++ [l]) ++ X.take 5)) → CallP (C.wp pn pan) fd (lisV l :: caps) (U fs ++ X) k
theorem capE_bel (N n : Nat) (h : N + 6 ≤ n) : V.belL n (capE N) = true:=by simp [capE,V.belL,V.bel]; omega
theorem pre5_bel {p : Pl} {bud : Nat} {fd : FuncId} {caps : List V} {N sp n : Nat} (hc : V.belL N caps = true) (h : N ≤ n) : belB n (pre5 p bud fd caps sp) = true:=by
 simp [pre5,belB,Blk.bel,V.belL,V.bel,V.belL_le h _ hc]
theorem pre6_bel {p : Pl} {bud : Nat} {fd : FuncId} {caps : List V} {N sp n : Nat} (hc : V.belL N caps = true) (h : N + 6 ≤ n) : belB n (pre6 p bud fd caps N sp) = true:=by
 refine belB_append (pre5_bel hc (by omega)) ?_
 simp [belB,Blk.bel,V.belL,V.bel,capE_bel N n h]
theorem CallP.cnv {X : Ctx} {f : FuncId} {args args' : List V} {L L' : List Blk} {k : V → List Blk → Prop} (ha : args = args') (hL : L = L') (h : CallP X f args' L' k) : CallP X f args L k:=by subst ha hL; exact h
theorem dfB_of {A : List Blk} (h : ∀ (b : Nat) (l : LoopR),A[b]? = some (Blk.loop l) → A[l.df]? = some Blk.defr) : dfB A = true:=by
 unfold dfB
 refine List.all_eq_true.2 fun x hx=>?_
 obtain ⟨b,hb⟩:=List.mem_iff_getElem?.1 hx
 split
 ·rename_i l; rw [h b l hb]
 ·rfl
theorem enough_end {N pn : Nat} {S Y P5 : List Blk} {e : Int} {pan : V → List Blk → Prop} (hS : S.length = N) (hpn : pn = N + 5) (hY : Y.take 5 = P5) (h5 : 5 ≤ Y.length) (hb : belB (N + 5) (S ++ P5) = true) (hd : (S ++ P5).all notD = true) (h : pan (.d (enoughD e)) (S ++ P5)) :
  Need (pn ≤ N + Y.length ∧ belB pn ((S ++ Y).take pn) = true ∧ noDefr pn (S ++ Y) = true) (pan (.d (enoughD e)) ((S ++ Y).take pn)):=by
 subst hpn hY
 have ht:=pre_take S Y hS 5
 refine w6 ⟨by omega,by rw [ht]; exact hb,?_⟩ (by rw [ht]; exact h)
 unfold noDefr
 rw [ht]
 exact hd
theorem CellEq.app (L X : List Blk) : CellEq L (L ++ X):=fun b cs h=>by rw [List.getElem?_append_left (lt_of_get h)]; exact h
theorem rows_snoc {S : Nat → Prop} {L : List Blk} {x : V} {r : List Mt} (h : Cv S L x (mts r)) : ∀ bf : Lst,CvLL S L (rdR bf ++ [[x]]) ((bf ++ [r]).map fun r=>[mts r])
 | []=>.cons (.cons h .nil) .nil
 | _ :: bf=>.cons (.cons (.d _) .nil) (rows_snoc h bf)
theorem ext_cw {S : Nat → Prop} {L : List Blk} {bi bo : Nat} {bf : Lst} {rd : List Mt} {m : Mt} (hSi : S bi) (hSo : S bo) (hi : L[bi]? = some (.row 2 2 (mR (rd ++ [m])))) (ho : L[bo]? = some (.row 2 1 (rdR bf ++ [[.own bi 2 0 (rd.length + 1)]]))) :
  Cw S L (.agg [.own bo 2 0 (bf.length + 1)]) (lisV (bf ++ [rd ++ [m]])):=by
 refine .aggL (.cons (.rowL (ds:=(bf ++ [rd ++ [m]]).map fun r=>[mts r]) hSo ho ?_ (by simp) (lisE _)) .nil)
 rw [List.drop_zero,List.take_of_length_le (by simp [rdR])]
 refine rows_snoc (.rowL (ds:=(rd ++ [m]).map Mt.cells) hSi hi ?_ (by simp) (mtsE _)) bf
 rw [List.drop_zero,List.take_of_length_le (by simp [mR])]
 exact mR_rows _
theorem YieldP.roundE {C' : Ctx} (hC : C'.OK) (cut : Code → Bool) {b : Nat} {args : List V} {L : List Blk} {k : V → List Blk → Prop} {lr : LoopR} {fr : List (Nat × V)} {n : Nat} {ps : List Tmp} {assign body : Code} {df : Nat} (hlr : LoopR.mk .ready none fr n ps assign body df = lr) (hL : L[b]? = some (.loop lr))
  (hb : (Nat.beq ps.length args.length && ps.all (fun p=>Nat.blt p n)) = true)
  (h : vc C' cut L.length assign ⟨zipF ps args fr,n,L,[],some b⟩ fun e σ=>match e with
   | .normal=>match σ.L[b]? with
    | some (.loop r1)=>match r1.st with
     | .ready=>setB σ.L b (.loop { r1 with st:=.busy }) fun L1=>vc C' cut L.length body { σ with L:=L1 } (vRoundEnd b L.length k)
     | _=>False
    | _=>False
   | _=>False) (hpn : C'.pn ≤ L.length) : YieldP C' b args L k:=by
 refine YieldP.round hC cut ?_ hpn
 subst hlr
 unfold vRound
 rw [hL]
 simp only [hb,cond_true]
 exact h
theorem dfB_noLoop {A : List Blk} (h : noLoop A = true) : dfB A = true:=dfB_of fun b l hb=>by
 have:=List.all_eq_true.1 h _ (List.mem_of_getElem? hb)
 simp at this
def memS (U : List Lst → List Blk) (E : Nat → List Blk) : Sr → List Blk
 | .go a b=>U b ++ E a
 | .stop _ a b=>U b ++ E a
def examP (p : Pl) (bud : Nat) (all : Bool) : Nat → Lst → Nat → List Lst → Sr:=exam (fun l=>chs l p) (fun x=>decide (dmA x p < 0)) p bud all
theorem examine_c (p : Pl) (bud : Nat) (all : Bool) (fd : FuncId) (caps : List V) (N : Nat) (U : List Lst → List Blk) (hH : Hand N U fd caps all) (h0 : checkP p = 0) (hs0 : Small [] p) (hbud : bud ≤ 1073741824) (pn : Nat) (pan : V → List Blk → Prop) (hpnE : pn = N + 5) :
  ∀ (n : Nat) (l : Lst) (sp : Nat) (fs : List Lst),PartP l p → roundsN p * halfN p < l.flatten.length + n → sp ≤ bud → (fullC l p = true → fs.length + 1 ≤ sp) → fs.length ≤ sp →
   (∀ e sp' fs',examP p bud all n l sp fs = .stop e sp' fs' → pan (.d (enoughD e)) (U fs' ++ pre5 p bud fd caps sp')) →
   CallP (C.wp pn pan) 93 (lisV l :: capE N) (U fs ++ pre6 p bud fd caps N sp) fun X L'=>X = .tup [] ∧ ∃ sp' fs',examP p bud all n l sp fs = .go sp' fs' ∧ L' = U fs' ++ pre6 p bud fd caps N sp'
 | 0,l,sp,fs,hP,hfu,_,_,_,_=>by have:=part_total hP; omega
 | n + 1,l,sp,fs,hP,hfu,hsp,hf1,hf2,hst=>by
  have hlen : 1 ≤ p.clubs.length ∧ p.clubs.length ≤ 1000:=by
   have hf:=checkP_field h0
   simp only [fieldOk,Bool.and_eq_true,decide_eq_true_eq] at hf; omega
  have hS:=hH.len
  have a0 : ∀ fs X,(U fs ++ X).length = N + X.length:=fun fs X=>pre_len _ _ (hS fs)
  have a1 : ∀ fs X i,(U fs ++ X)[N + i]? = X[i]?:=fun fs X i=>pre_get _ _ (hS fs) i
  have a2 : ∀ fs X,(U fs ++ X)[N]? = X[0]?:=fun fs X=>pre_get0 _ _ (hS fs)
  have a3 : ∀ fs X i y,(U fs ++ X).set (N + i) y = U fs ++ X.set i y:=fun fs X i y=>pre_set _ _ (hS fs) i y
  have a4 : ∀ fs X y,(U fs ++ X).set N y = U fs ++ X.set 0 y:=fun fs X y=>pre_set0 _ _ (hS fs) y
  have a5 : ∀ fs X i,(U fs ++ X)[N + i + 1]? = X[i + 1]?:=fun fs X i=>a1 fs X (i + 1)
  have a6 : ∀ fs X i y,(U fs ++ X).set (N + i + 1) y = U fs ++ X.set (i + 1) y:=fun fs X i y=>a3 fs X (i + 1) y
  have hp5 : ∀ a b,belB (N + 5) (U b ++ pre5 p bud fd caps a) = true:=fun a b=>belB_append (belB_le (Nat.le_add_right N 5) (hH.bel b)) (pre5_bel hH.cap (Nat.le_add_right N 5))
  have hd5 : ∀ a b,(U b ++ pre5 p bud fd caps a).all notD = true:=fun a b=>by rw [List.all_append,hH.nod b]; rfl
  obtain ⟨hsl,hsx⟩:=part_small hs0 hlen.2 hP ⟨0,0⟩
  have hpn : (C.wp pn pan).pn ≤ (U fs ++ pre6 p bud fd caps N sp).length:=by rw [a0]; show pn ≤ _; rw [hpnE]; exact Nat.le_succ _
  have hx : (0 : Int) < ((l.map fun r=>[mts r]).length : Int) → IntKind.i64.wrap (((l.map fun r=>[mts r]).length : Int) - 1) = ((l.length - 1 : Nat) : Int):=fun h=>by
   have:=hsl.hl
   rw [List.length_map] at h ⊢; rw [wrap_in (by omega)]; omega
  have hn : (0 : Int) < ((l.map fun r=>[mts r]).length : Int) → l.length - 1 < l.length:=fun h=>by
   rw [List.length_map] at h; omega
  have hl1 : l.length = roundsN p → IntKind.i64.wrap (((l.map fun r=>[mts r]).length : Int) - 1) = ((l.length - 1 : Nat) : Int):=fun h=>by
   have:=roundsN_pos p
   have:=hsl.hl
   rw [List.length_map,wrap_in (by omega)]; omega
  have hl2 : l.length = roundsN p → l.length - 1 < l.length:=fun h=>by have:=roundsN_pos p; omega
  have hq : ((l.map fun r=>[mts r]).length : Int) = (roundsN p : Int) → l.length = roundsN p:=fun h=>by rw [List.length_map] at h; omega
  by_cases hfull : fullC l p = true
  ·have hfull' : l.length = roundsN p ∧ ∃ h : l.length - 1 < l.length,l[l.length - 1].length = halfN p:=by
    unfold fullC at hfull
    rw [Bool.and_eq_true] at hfull
    obtain ⟨f1,f2⟩:=hfull
    have f1:=of_decide_eq_true f1
    have:=roundsN_pos p
    rw [last_of (by omega)] at f2
    exact ⟨f1,by omega,of_decide_eq_true f2⟩
   obtain ⟨f1,f2,f3⟩:=hfull'
   have hA : ((l.map fun r=>[mts r]).length : Int) = (roundsN p : Int):=by rw [List.length_map,f1]
   have hB : ((l[l.length - 1].map Mt.cells).length : Int) = (halfN p : Int):=by rw [List.length_map,f3]
   refine callP_of (C:=C.wp pn pan) (C_ok.wp pn pan) Tryz.func93 rfl rfl (n:=_) rfl (w18 rfl) (rs:=_) rfl ?_ hpn
   repeat' ((conv=>whnf); first|refine w8 (w19 hA) ?_|refine w8 (w19 hB) ?_|refine w11 (l.length - 1) (hl1 f1) f2 ?_|simp only [a0,a1,a2,a3,a4,List.append_assoc,forceL_eq]|refine w0 ?_|refine w1 ?_|refine w2 (fun h=>?_) (fun h=>?_)|refine w3 ?_|refine w4 (fun h=>?_) (fun h=>?_)|refine w5 _ rfl ?_|refine w6 rfl ?_|refine w7 mixed rfl ?_)
   conv=>whnf
   refine hH.found pn pan _ fs l _ hpnE (w18 rfl) ?_ (pre5_bel hH.cap (Nat.le_add_right N 5)) rfl (by have:=hf1 hfull; omega) (fun hall=>?_) (fun hall=>?_)
   ·exact belB_append (pre6_bel hH.cap (Nat.le_of_lt (Nat.lt_succ_self _))) rfl
   ·repeat' (conv => whnf
             first|refine w0 ?_|refine w1 ?_|refine w2 (fun h=>?_) (fun h=>?_)|refine w3 ?_|refine w4 (fun h=>?_) (fun h=>?_)|refine w5 _ rfl ?_|refine w6 rfl ?_|refine w7 mixed rfl ?_|simp only [a0,a1,a2,a3,a4,List.append_assoc])
    conv=>whnf
    refine w15 (n:=N + 6) (L':=U (fs ++ [l]) ++ pre6 p bud fd caps N sp) (pre_take _ _ (hS _) 6) (w21 _) rfl (belB_append (belB_le (Nat.le_add_right N 6) (hH.bel _)) (pre6_bel hH.cap (w21 _))) ⟨rfl,sp,fs ++ [l],?_,rfl⟩
    show exam _ _ _ _ _ (n + 1) l sp fs = _
    rw [exam,if_pos hfull,if_pos hall]
   ·refine hst 0 sp (fs ++ [l]) ?_
    show exam _ _ _ _ _ (n + 1) l sp fs = _
    rw [exam,if_pos hfull,if_neg (by rw [hall]; decide)]
  obtain ⟨rd,hrd⟩ : ∃ rd,rd = (openR l p).1:=⟨_,rfl⟩
  obtain ⟨fresh,hfresh⟩ : ∃ b,b = (openR l p).2.1:=⟨_,rfl⟩
  have hdl : List.take (l.length - 1 - 0) (List.drop 0 (l.map fun r=>[mts r])) = l.dropLast.map fun r=>[mts r]:=by
   rw [List.drop_zero,← List.map_take,Nat.sub_zero,← List.dropLast_eq_take]
  have hne : fresh = false → 0 < l.length:=fun h=>by
   rw [hfresh] at h
   rcases openR_spec l p with ⟨h1,_⟩ | ⟨_,r,h1,_⟩
   ·rw [h1] at h; cases h
   ·cases l with
    | nil=>cases h1
    | cons=>simp
  have hwn : fresh = false → IntKind.i64.wrap (((l.map fun r=>[mts r]).length : Int) - 1) = ((l.length - 1 : Nat) : Int):=fun h=>by
   have:=hsl.hl
   have:=hne h
   rw [List.length_map,wrap_in (by omega)]; omega
  obtain ⟨bf,hbf⟩ : ∃ bf,bf = if (openR l p).2.1 = true then l else l.dropLast:=⟨_,rfl⟩
  have hext : ∀ m,extL l p m = bf ++ [(openR l p).1 ++ [m]]:=fun m=>by rw [hbf]; rfl
  have hroot : examP p bud all (n + 1) l sp fs = exLoop (examP p bud all n) (extL l p) (fun x=>decide (dmA x p < 0)) bud (chs l p) sp fs:=by
   show exam _ _ _ _ _ (n + 1) l sp fs = _
   rw [exam,if_neg hfull]; rfl
  have hrdl : (openR l p).1.length ≤ 500 ∧ bf.length ≤ 2002:=by
   have b1:=halfN_le hlen.2
   have b2:=roundsN_le hlen.2
   have b3:=hP.1
   refine ⟨?_,?_⟩
   ·rcases openR_spec l p with ⟨_,h2⟩ | ⟨_,r,_,h3,h4,_⟩
    ·rw [h2]; simp
    ·rw [h3]; omega
   ·rw [hbf]; split
    ·omega
    ·rw [List.length_dropLast]; omega
  refine callP_cut (C:=C.wp pn pan) (fun c=>match c with | .seq (.region 6 _ _) _=>true | _=>false) (C_ok.wp pn pan) Tryz.func93 rfl rfl (n:=_) rfl (w18 rfl) (rs:=_) rfl ?_ hpn
  repeat' ((conv=>whnf); first|refine w0 ?_|refine w1 ?_|refine w2 (fun h=>?_) (fun h=>?_)|refine w3 ?_|refine w4 (fun h=>?_) (fun h=>?_)|refine w5 _ rfl ?_|refine w6 rfl ?_|refine w7 mixed rfl ?_|refine w11 (l.length - 1) (hl1 (hq ‹_›)) (hl2 (hq ‹_›)) ?_|refine w14 (open_c l p hsl.hl ?_)|simp only [a0,a1,a2,a3,a4,List.append_assoc])
  ·exfalso
   rename_i h1
   refine hfull ?_
   have hll:=hq h1
   have hp1:=roundsN_pos p
   unfold fullC
   rw [last_of (by omega),decide_eq_true hll]
   simp only [Bool.true_and,decide_eq_true_eq]
   rw [List.length_map] at h; omega
  all_goals
   conv=>whnf
   refine CutP.intro (ι:=Unit) (fun _=>⟨[(1,.ptr N 0),(2,.ptr (N + 2) 0),(3,.ptr (N + 3) 0),(4,.ptr (N + 1) 0),(5,.ptr (N + 5) 0),(6,.ptr (N + 6) 0),(8,.ptr (N + 7) 0),(11,.ptr (N + 8) 0)],Tryz.f93.ntmps,U fs ++ (pre6 p bud fd caps N sp ++ [.cells [.d (lisD l)],.cells [.d (mts (openR l p).1)],.cells [.d (lisD bf)]]),[],none⟩) ?_ (fun _=>?_)
   ·repeat' (conv => whnf
             first|refine w0 ?_|refine w1 ?_|refine w2 (fun h=>?_) (fun h=>?_)|refine w3 ?_|refine w4 (fun h=>?_) (fun h=>?_)|refine w5 _ rfl ?_|refine w6 rfl ?_|refine w7 mixed rfl ?_|refine w6 (lisE l) ?_|refine SliceP.intro 0 (l.length - 1) rfl (hwn (hfresh.trans ‹_›)) (w22 _) (by rw [List.length_map]; exact Nat.sub_le _ _) ?_|simp only [hdl]|simp only [a0,a1,a2,a3,a4,List.append_assoc])
    all_goals conv=>whnf
    ·have e : l = bf:=by rw [hbf,if_pos ‹_›]
     exact ⟨(),Weak.by ⟨rfl,rfl,rfl,rfl,rfl,rfl,rfl,rfl,trivial⟩ (hL:=Eq.trans (b:=U fs ++ (pre6 p bud fd caps N sp ++ [.cells [.d (lisD l)],.cells [.d (mts (openR l p).1)],.cells [.d (lisD l)]])) rfl (congrArg (fun x=>U fs ++ (pre6 p bud fd caps N sp ++ [.cells [.d (lisD l)],.cells [.d (mts (openR l p).1)],.cells [.d (lisD x)]])) e))⟩
    ·have e : l.dropLast = bf:=by rw [hbf,if_neg (by simp [*])]
     exact ⟨(),Weak.by ⟨rfl,rfl,rfl,rfl,rfl,rfl,rfl,rfl,trivial⟩ (hL:=Eq.trans (b:=U fs ++ (pre6 p bud fd caps N sp ++ [.cells [.d (lisD l)],.cells [.d (mts (openR l p).1)],.cells [.d (lisD l.dropLast)]])) rfl (congrArg (fun x=>U fs ++ (pre6 p bud fd caps N sp ++ [.cells [.d (lisD l)],.cells [.d (mts (openR l p).1)],.cells [.d (lisD x)]])) e))⟩
   repeat' ((conv=>whnf); first|refine w0 ?_|refine w1 ?_|refine w2 (fun h=>?_) (fun h=>?_)|refine w3 ?_|refine w4 (fun h=>?_) (fun h=>?_)|refine w5 _ rfl ?_|refine w6 rfl ?_|refine w7 mixed rfl ?_|refine w14 (choices_c l p ?_)|simp only [a0,a1,a2,a3,a4,List.append_assoc])
   conv=>whnf
   refine CallP.cnv (args':=.yld (N + 10) :: [D.rptr [.rptr (planD p)],.rptr [lisD l]].map .d) (L':=U fs ++ (pre6 p bud fd caps N sp ++ [.cells [.d (lisD l)],.cells [.d (mts (openR l p).1)],.cells [.d (lisD bf)],.defr,.loop _])) rfl rfl ?_
   generalize hlr : LoopR.mk _ _ _ _ _ _ _ _ = lr
   obtain ⟨E,hE⟩ : ∃ E : Nat → List Blk,E = fun a=>pre6 p bud fd caps N a ++ [.cells [.d (lisD l)],.cells [.d (mts (openR l p).1)],.cells [.d (lisD bf)],.defr,.loop lr]:=⟨_,rfl⟩
   have hlrd : lr.df = N + 9:=by rw [← hlr]; rfl
   have hlrs : lr.st = .ready:=by rw [← hlr]
   have hlrp : lr.pend = none:=by rw [← hlr]
   have hback : (⟨.ready,none,lr.fr,lr.n,lr.ps,lr.assign,lr.body,lr.df⟩ : LoopR) = lr:=by rw [← hlr]
   have hblkb : (Blk.loop lr).bel (N + 11) = true:=by rw [← hlr]; simp [Blk.bel,belF,V.bel,V.belL,pre6_len]
   have hEl : ∀ a,(E a).length = 11:=fun a=>by rw [hE]; rfl
   have hEb : ∀ a,belB (N + 11) (E a) = true:=fun a=>by
    rw [hE]; exact belB_append (pre6_bel hH.cap (by omega)) (by show (V.belL _ _ && (V.belL _ _ && (V.belL _ _ && (true && ((Blk.loop lr).bel _ && true))))) = true; rw [hblkb]; rfl)
   have hMl : ∀ o,(memS U E o).length = N + 11:=fun o=>by cases o <;> (simp only [memS]; rw [a0,hEl])
   have hMb : ∀ o,belB (N + 11) (memS U E o) = true:=fun o=>by cases o <;> exact belB_append (belB_le (Nat.le_add_right N 11) (hH.bel _)) (hEb _)
   have hMd : ∀ o,dfB (memS U E o) = true:=fun o=>by
    have key : ∀ a b,dfB (U b ++ E a) = true:=fun a b=>by
     refine dfB_of fun c l' hc=>?_
     by_cases hcN : c < N
     ·rw [List.getElem?_append_left (by rw [hS]; exact hcN)] at hc
      have:=List.all_eq_true.1 (hH.nol b) _ (List.mem_of_getElem? hc)
      simp at this
     ·obtain ⟨j,rfl⟩ : ∃ j,c = N + j:=⟨c - N,by omega⟩
      rw [a1,hE] at hc
      match j,hc with
      | 0,hc | 1,hc | 2,hc | 3,hc | 4,hc | 5,hc | 6,hc | 7,hc | 8,hc | 9,hc=>cases hc
      | 10,hc =>
       have : lr = l':=by cases hc; rfl
       rw [← this,hlrd,a1,hE]; rfl
      | j + 11,hc=>simp [pre6,pre5] at hc
    cases o <;> exact key _ _
   have hroot':=hroot
   generalize hf0 : examP p bud all n = f0 at hroot'
   refine CallP.cnv (L':=memS U E (exLoop f0 (extL l p) (fun x=>decide (dmA x p < 0)) bud ((chs l p).take 0) sp fs)) rfl (by rw [hE]; rfl) ?_
   refine choices1_it pn pan l p hsl.hl hsl.hr hlen.2 (N + 10) (N + 11) (fun i=>∃ a b,exLoop f0 (extL l p) (fun x=>decide (dmA x p < 0)) bud ((chs l p).take i) sp fs = .go a b) (fun i=>memS U E (exLoop f0 (extL l p) (fun x=>decide (dmA x p < 0)) bud ((chs l p).take i) sp fs)) _ (show pn ≤ N + 11 by omega) (fun i=>hMl _) (fun i=>hMb _) (fun i=>hMd _) (by omega) ?_ ?_ ⟨sp,fs,rfl⟩
   ·rintro i hi ⟨a,b,hab⟩
    rw [List.length_map] at hi
    rw [List.getElem_map]
    obtain ⟨m,hm⟩ : ∃ m,m = (chs l p)[i]:=⟨_,rfl⟩
    have hnext:=exLoop_next f0 (extL l p) (fun x=>decide (dmA x p < 0)) bud hi hab
    rw [← hm] at hnext ⊢
    obtain ⟨k1,k2,k3⟩:=exLoop_keep _ _ p bud all n (extL l p) _ sp fs hsp hf2 a b (by rw [← hf0] at hab; exact hab)
    refine YieldP.conv (show _ = U b ++ E a by rw [hab]; rfl) ?_
    have hpn2 : (C.wp pn pan).pn ≤ (U b ++ E a).length:=by rw [a0,hEl]; show pn ≤ _; rw [hpnE]; omega
    have hL10 : (U b ++ E a)[N + 10]? = some (.loop lr):=by rw [a1,hE]; rfl
    obtain ⟨x,hx⟩ : ∃ x,x = extL l p m:=⟨_,rfl⟩
    have hxe : x = bf ++ [(openR l p).1 ++ [m]]:=hx.trans (hext m)
    have hsx : Small x p:=hx ▸ (part_small hs0 hlen.2 hP m).2
    refine YieldP.roundE (C_ok.wp pn pan) (fun c=>match c with | .region 12 _ _=>true | .region 13 _ _=>true | .region 14 _ _=>true | _=>false) hlr hL10 rfl ?_ hpn2
    subst hE
    by_cases hsb : a = bud
    ·have hstop : exLoop f0 (extL l p) (fun x=>decide (dmA x p < 0)) bud (chs l p) sp fs = .stop 3 a b:=by
      refine exLoop_stop _ _ _ _ (i:=i + 1) ?_
      rw [hnext,exLoop,if_pos hsb]
     repeat' ((conv=>whnf); first|refine w8 (w19 (show (a : Int) = (bud : Int) by omega)) ?_|simp only [hlrs,setB_eq,a0,a1,a2,a3,a4,List.append_assoc]|refine w0 ?_|refine w1 ?_|refine w2 (fun h=>?_) (fun h=>?_)|refine w3 ?_|refine w4 (fun h=>?_) (fun h=>?_)|refine w5 _ rfl ?_|refine w6 rfl ?_|refine w7 mixed rfl ?_)
     conv=>whnf
     exact enough_end (hS b) hpnE rfl (Nat.le_of_ble_eq_true rfl) (hp5 a b) (hd5 a b) (hst 3 a b (hroot.trans (by rw [hf0]; exact hstop)))
    ·have hi64 : IntKind.i64.wrap ((a : Int) + 1) = ((a + 1 : Nat) : Int):=by rw [wrap_in (by omega)]; omega
     obtain ⟨E2,hE2⟩ : ∃ E2 : List Blk,E2 = pre6 p bud fd caps N (a + 1) ++ [.cells [.d (lisD l)],.cells [.d (mts (openR l p).1)],.cells [.d (lisD bf)],.defr,.loop { lr with st:=.busy },.cells (m.cells.map .d)]:=⟨_,rfl⟩
     repeat' ((conv=>whnf); first|refine w9 (w20 (show ¬ (a : Int) = (bud : Int) by omega)) ?_|simp only [hlrs,setB_eq,a0,a1,a2,a3,a4,List.append_assoc]|refine w0 ?_|refine w1 ?_|refine w2 (fun h=>?_) (fun h=>?_)|refine w3 ?_|refine w4 (fun h=>?_) (fun h=>?_)|refine w5 _ rfl ?_|refine w6 rfl ?_|refine w7 mixed rfl ?_)
     conv=>whnf
     refine CutP.intro (ι:=Unit) (fun _=>⟨[(1,.ptr N 0),(5,.ptr (N + 5) 0),(8,.ptr (N + 7) 0),(11,.ptr (N + 8) 0),(12,.ptr (N + 11) 0)],Tryz.f93.ntmps,U b ++ E2,[],some (N + 10)⟩) ?_ (fun _=>?_)
     ·repeat' (conv => whnf
               first|refine w0 ?_|refine w1 ?_|refine w2 (fun h=>?_) (fun h=>?_)|refine w3 ?_|refine w4 (fun h=>?_) (fun h=>?_)|refine w5 _ rfl ?_|refine w6 rfl ?_|refine w7 mixed rfl ?_|simp only [hlrs,setB_eq,a0,a1,a2,a3,a4,List.append_assoc])
      conv=>whnf
      refine ⟨(),Weak.by ⟨rfl,rfl,rfl,rfl,rfl,trivial⟩ (hL:=?_)⟩
      rw [hE2]
      exact congrArg (fun z : Int=>U b ++ [.cells [.d (.rptr (planD p))],.cells [I bud],.cells [.fn fd caps],.cells [I z],.cells [I 0],.cells [.fn 93 (capE N)],.cells [.d (lisD l)],.cells [.d (mts (openR l p).1)],.cells [.d (lisD bf)],.defr,.loop { lr with st:=.busy },.cells (m.cells.map .d)]) hi64
     subst hE2
     have hR : (mR (openR l p).1).take (openR l p).1.length ++ [m.cells.map .d] = mR ((openR l p).1 ++ [m]):=by rw [mR_snoc,List.take_of_length_le (by rw [mR_len]; exact Nat.le_refl _)]
     conv=>whnf
     refine CutP.intro (ι:=Bool) (fun q=>⟨[(1,.ptr N 0),(5,.ptr (N + 5) 0),(11,.ptr (N + 8) 0),(13,.own (N + cond q 12 13) 2 0 ((openR l p).1.length + 1))],Tryz.f93.ntmps,U b ++ (pre6 p bud fd caps N (a + 1) ++ [.cells [.d (lisD l)],.cells [.d (mts (openR l p).1)],.cells [.d (lisD bf)],.defr,.loop { lr with st:=.busy },.cells (m.cells.map .d),cond q (.row 2 2 (mR ((openR l p).1 ++ [m]))) (.row 0 2 [m.cells.map .d]),cond q (.row 0 2 [m.cells.map .d]) (.row 2 2 (mR ((openR l p).1 ++ [m])))]),[],some (N + 10)⟩) ?_ (fun q=>?_)
     ·conv=>whnf
      refine DrawP.por mixed [1001] [[(0,3),(2,4),(1,5),(3,0),(4,0),(5,0)],[(0,3),(2,4),(3,0),(1,5),(4,0),(5,0)]] (by kernel_rfl) ?_
      conv=>whnf
      refine And.intro ?_ ?_
      all_goals
       repeat' ((conv=>whnf); first|refine w0 ?_|refine w1 ?_|refine w2 (fun h=>?_) (fun h=>?_)|refine w3 ?_|refine w4 (fun h=>?_) (fun h=>?_)|refine w5 _ rfl ?_|refine w6 rfl ?_|refine w7 mixed rfl ?_|simp only [setB_eq,a0,a1,a2,a3,a4,List.append_assoc]|refine QCallK.intro _ _ (w14 (mclone_c (openR l p).1 (by omega) ⟨rfl,rfl⟩)) (CellEq.app _ _) ?_|refine w6 (w23 (m:=4294967296) (show (openR l p).1.length + 1 ≤ 4294967296 by omega) (apLim_ge _)) ?_)
      all_goals conv=>whnf
      all_goals first
       | exact ⟨true,Weak.by ⟨rfl,rfl,rfl,rfl,trivial⟩ (hL:=congrArg (fun z=>U b ++ [.cells [.d (.rptr (planD p))],.cells [I bud],.cells [.fn fd caps],.cells [I (a + 1 : Nat)],.cells [I 0],.cells [.fn 93 (capE N)],.cells [.d (lisD l)],.cells [.d (mts (openR l p).1)],.cells [.d (lisD bf)],.defr,.loop { lr with st:=.busy },.cells (m.cells.map .d),.row 2 2 z,.row 0 2 [m.cells.map .d]]) hR)⟩
       | exact ⟨false,Weak.by ⟨rfl,rfl,rfl,rfl,trivial⟩ (hL:=congrArg (fun z=>U b ++ [.cells [.d (.rptr (planD p))],.cells [I bud],.cells [.fn fd caps],.cells [I (a + 1 : Nat)],.cells [I 0],.cells [.fn 93 (capE N)],.cells [.d (lisD l)],.cells [.d (mts (openR l p).1)],.cells [.d (lisD bf)],.defr,.loop { lr with st:=.busy },.cells (m.cells.map .d),.row 0 2 [m.cells.map .d],.row 2 2 z]) hR)⟩
     have hR2 : (rdR bf).take bf.length ++ [[V.own (N + cond q 12 13) 2 0 ((openR l p).1.length + 1)]] = rdR bf ++ [[V.own (N + cond q 12 13) 2 0 ((openR l p).1.length + 1)]]:=by rw [List.take_of_length_le (by simp [rdR])]
     conv=>whnf
     refine CutP.intro (ι:=Unit) (fun _=>⟨[(1,.ptr N 0),(5,.ptr (N + 5) 0),(14,.ptr (N + 16) 0)],Tryz.f93.ntmps,U b ++ (pre6 p bud fd caps N (a + 1) ++ [.cells [.d (lisD l)],.cells [.d (mts (openR l p).1)],.cells [.d (lisD bf)],.defr,.loop { lr with st:=.busy },.cells (m.cells.map .d),cond q (.row 2 2 (mR ((openR l p).1 ++ [m]))) (.row 0 2 [m.cells.map .d]),cond q (.row 0 2 [m.cells.map .d]) (.row 2 2 (mR ((openR l p).1 ++ [m]))),
      .row 2 1 (rdR bf ++ [[.own (N + cond q 12 13) 2 0 ((openR l p).1.length + 1)]]),.row 0 1 [[.own (N + cond q 12 13) 2 0 ((openR l p).1.length + 1)]],.cells [.own (N + 14) 2 0 (bf.length + 1)]]),[],some (N + 10)⟩) ?_ (fun _=>?_)
     ·repeat' (conv => whnf
               first|refine w0 ?_|refine w1 ?_|refine w2 (fun h=>?_) (fun h=>?_)|refine w3 ?_|refine w4 (fun h=>?_) (fun h=>?_)|refine w5 _ rfl ?_|refine w6 rfl ?_|refine w7 mixed rfl ?_|simp only [setB_eq,a0,a1,a2,a3,a4,List.append_assoc]|refine w14 (rclone_c bf (by omega) ?_)|refine w6 (w23 (m:=4294967296) (show bf.length + 1 ≤ 4294967296 by omega) (apLim_ge _)) ?_)
      conv=>whnf
      exact ⟨(),Weak.by ⟨rfl,rfl,rfl,trivial⟩ (hL:=congrArg (fun z=>U b ++ [.cells [.d (.rptr (planD p))],.cells [I bud],.cells [.fn fd caps],.cells [I (a + 1 : Nat)],.cells [I 0],.cells [.fn 93 (capE N)],.cells [.d (lisD l)],.cells [.d (mts (openR l p).1)],.cells [.d (lisD bf)],.defr,.loop { lr with st:=.busy },.cells (m.cells.map .d),
       cond q (.row 2 2 (mR ((openR l p).1 ++ [m]))) (.row 0 2 [m.cells.map .d]),cond q (.row 0 2 [m.cells.map .d]) (.row 2 2 (mR ((openR l p).1 ++ [m]))),.row 2 1 z,.row 0 1 [[.own (N + cond q 12 13) 2 0 ((openR l p).1.length + 1)]],.cells [.own (N + 14) 2 0 (bf.length + 1)]]) hR2)⟩
     have hcw : ∀ (S : Nat → Prop) (L : List Blk),S (N + cond q 12 13) → S (N + 14) → L[N + cond q 12 13]? = some (.row 2 2 (mR ((openR l p).1 ++ [m]))) → L[N + 14]? = some (.row 2 1 (rdR bf ++ [[.own (N + cond q 12 13) 2 0 ((openR l p).1.length + 1)]])) → Cw S L (.agg [.own (N + 14) 2 0 (bf.length + 1)]) (lisV x):=fun S L h1 h2 h3 h4=>by
      rw [hxe]; exact ext_cw h1 h2 h3 h4
     repeat' ((conv=>whnf); first|refine w0 ?_|refine w1 ?_|refine w2 (fun h=>?_) (fun h=>?_)|refine w3 ?_|refine w4 (fun h=>?_) (fun h=>?_)|refine w5 _ rfl ?_|refine w6 rfl ?_|refine w7 mixed rfl ?_|refine w12 _ (w14 (CallP.lent (dmd_c (L:=[]) x p hsx ⟨rfl,rfl⟩) (.cv (hcw _ _ trivial trivial ((a1 _ _ _).trans (by cases q <;> rfl)) ((a1 _ _ _).trans rfl)) (.keep .nil)) rfl rfl ⟨rfl,rfl⟩)) ?_|simp only [setB_eq,a0,a1,a2,a3,a4,List.append_assoc])
     all_goals conv=>whnf
     ·have hneg : dmA x p < 0:=‹_›
      obtain ⟨-,hPx⟩:=dmA_part hneg
      have hok : decide (dmA (extL l p m) p < 0) = true:=by rw [← hx]; exact decide_eq_true hneg
      have hfx : roundsN p * halfN p < x.flatten.length + n:=by rw [hx,extL_flat,List.length_append]; simp only [List.length_singleton]; omega
      have hih:=examine_c p bud all fd caps N U hH h0 hs0 hbud pn pan hpnE n x (a + 1) b hPx hfx (by omega) (fun _=>by omega) (by omega) fun e sp' fs' hse=>hst e sp' fs' (hroot.trans (by
       rw [hf0]
       refine exLoop_stop _ _ _ _ (i:=i + 1) ?_
       rw [hnext,exLoop,if_neg hsb]
       simp only [hok,if_true]
       rw [← hx,← hf0,hse]))
      refine CallP.freezeP (args:=.agg [.own (N + 14) 2 0 (bf.length + 1)] :: capE N) (dargs:=lisV x :: capE N) [N + cond q 12 13,N + 14] (L':=(U b ++ pre6 p bud fd caps N (a + 1)) ++ [.cells [.d (lisD l)],.cells [.d (mts (openR l p).1)],.cells [.d (lisD bf)],.defr,.loop { lr with st:=.busy },.cells (m.cells.map .d),cond q .dead (.row 0 2 [m.cells.map .d]),cond q (.row 0 2 [m.cells.map .d]) .dead,.dead,.row 0 1 [[.own (N + cond q 12 13) 2 0 ((openR l p).1.length + 1)]],.cells [.own (N + 14) 2 0 (bf.length + 1)]]) ?_ ?_ ?_ ?_
      ·rw [List.append_assoc]; cases q <;> (simp only [killB,cond_true,cond_false,a3]; rfl)
      ·cases q <;> (simp only [plainBlk,List.all_cons,List.all_nil,cond_true,cond_false,a1]; rfl)
      ·exact .cv (hcw _ _ (by simp) (by simp) ((a1 _ _ _).trans (by cases q <;> rfl)) ((a1 _ _ _).trans rfl)) (.keep (.keep (.keep (.keep (.keep .nil)))))
      refine CallP.frameP (by rw [a0]; show pn ≤ _; rw [hpnE]; exact Nat.le_succ _) hih ?_ ?_ ?_ ?_
      ·rw [a0]; exact belB_append (belB_le (Nat.le_add_right N 6) (hH.bel b)) (pre6_bel hH.cap (Nat.le_refl _))
      ·refine dfB_noLoop ?_
       have:=hH.nol b
       unfold noLoop at this ⊢
       rw [List.all_append,this]; rfl
      ·rw [a0]; show (true && V.belL (N + 6) (capE N)) = true; rw [capE_bel N (N + 6) (Nat.le_refl _)]; rfl
      rintro X L1 ⟨rfl,a',b',hgo,rfl⟩
      refine ⟨by rw [a0,a0]; rfl,by rw [a0]; exact belB_append (belB_le (Nat.le_add_right N 6) (hH.bel b')) (pre6_bel hH.cap (w21 _)),rfl,?_⟩
      have hF1 : exLoop f0 (extL l p) (fun x=>decide (dmA x p < 0)) bud ((chs l p).take (i + 1)) sp fs = .go a' b':=by
       rw [hnext,exLoop,if_neg hsb]
       simp only [hok,if_true]
       rw [← hx,← hf0,hgo]; rfl
      rw [hF1]
      repeat' ((conv=>whnf); first|refine w0 ?_|refine w1 ?_|refine w2 (fun h=>?_) (fun h=>?_)|refine w3 ?_|refine w4 (fun h=>?_) (fun h=>?_)|refine w5 _ rfl ?_|refine w6 rfl ?_|refine w7 mixed rfl ?_|simp only [setB_eq,a0,a1,a2,a3,a4,List.append_assoc])
      conv=>whnf
      refine w15 (n:=N + 11) (L':=U b' ++ (pre6 p bud fd caps N a' ++ [.cells [.d (lisD l)],.cells [.d (mts (openR l p).1)],.cells [.d (lisD bf)],.defr,.loop lr])) ?_ (w21 _) rfl (hMb (.go a' b')) (.inl ⟨rfl,rfl,a',b',rfl⟩)
      exact (pre_take _ _ (hS b') 11).trans (congrArg (fun z=>U b' ++ (pre6 p bud fd caps N a' ++ [.cells [.d (lisD l)],.cells [.d (mts (openR l p).1)],.cells [.d (lisD bf)],.defr,.loop z])) hback)
     ·have hneg : ¬ dmA x p < 0:=‹_›
      have hok : decide (dmA (extL l p m) p < 0) = false:=by rw [← hx]; exact decide_eq_false hneg
      have hF1 : exLoop f0 (extL l p) (fun x=>decide (dmA x p < 0)) bud ((chs l p).take (i + 1)) sp fs = .go (a + 1) b:=by
       rw [hnext,exLoop,if_neg hsb]
       simp only [hok]
       rfl
      rw [hF1]
      refine w15 (n:=N + 11) (L':=U b ++ (pre6 p bud fd caps N (a + 1) ++ [.cells [.d (lisD l)],.cells [.d (mts (openR l p).1)],.cells [.d (lisD bf)],.defr,.loop lr])) ?_ (w21 _) rfl (hMb (.go (a + 1) b)) (.inl ⟨rfl,rfl,a + 1,b,rfl⟩)
      exact (pre_take _ _ (hS b) 11).trans (congrArg (fun z=>U b ++ (pre6 p bud fd caps N (a + 1) ++ [.cells [.d (lisD l)],.cells [.d (mts (openR l p).1)],.cells [.d (lisD bf)],.defr,.loop z])) hback)
   ·rintro ⟨a,b,hab⟩
    have hgo : memS U E (exLoop f0 (extL l p) (fun x=>decide (dmA x p < 0)) bud ((chs l p).take ((chs l p).map fun m=>[mtV m]).length) sp fs) = U b ++ E a:=by rw [hab]; rfl
    rw [List.length_map,List.take_length] at hab
    generalize memS U E (exLoop f0 (extL l p) (fun x=>decide (dmA x p < 0)) bud ((chs l p).take ((chs l p).map fun m=>[mtV m]).length) sp fs) = M at hgo ⊢
    subst hgo
    subst hE
    repeat' ((conv=>whnf); first|refine w0 ?_|refine w1 ?_|refine w2 (fun h=>?_) (fun h=>?_)|refine w3 ?_|refine w4 (fun h=>?_) (fun h=>?_)|refine w5 _ rfl ?_|refine w6 rfl ?_|refine w7 mixed rfl ?_|simp only [hlrs,hlrp,setB_eq,a0,a1,a2,a3,a4,a5,a6,List.append_assoc])
    conv=>whnf
    generalize hX : (noLoop _ && List.all _ _ && _) = X
    have hXt : X = true:=by
     rw [← hX]
     have:=hH.nol b
     unfold noLoop at this ⊢
     rw [List.all_append,this]
     simp [pre6,pre5]
    subst hXt
    conv=>whnf
    refine w15 (n:=N + 6) (L':=U b ++ pre6 p bud fd caps N a) ?_ (w21 _) rfl (belB_append (belB_le (Nat.le_add_right N 6) (hH.bel b)) (pre6_bel hH.cap (w21 _))) ⟨rfl,a,b,hroot.trans (by rw [hf0]; exact hab),rfl⟩
    show ((U b ++ _).set (N + _) Blk.dead).take (N + 6) = _
    rw [a3]
    exact pre_take _ _ (hS b) 6
end Go.Proofs.YtndlggbljkhfbaaGreat
namespace Go.Proofs.YtndlggbljkhfbaaGreat
open Go.Tidy
variable {L : List Blk} {k : V → List Blk → Prop}
def nxR (l : Lst) (p : Pl) : List Mt × Lst × Bool:=if (openR l p).2.1 = false then ((openR l p).1,l.dropLast,true) else if l.length < roundsN p then ([],l,true) else ([],[],false)
theorem CvLL.cong {S : Nat → Prop} {L : List Blk} {xs xs' : List (List V)} {ys : List (List D)} (h : xs = xs') (hc : CvLL S L xs' ys) : CvLL S L xs ys:=by subst h; exact hc
theorem app_eq {α : Type} {X Y Z : List α} (n : Nat) (h : X = Y) (hn : (Y ++ Z).length ≤ n) : ((X ++ Z).drop 0).take n = Y ++ Z:=by
 subst h; rw [List.drop_zero,List.take_of_length_le hn]
def prIn (c : Int) : List Int → List Mt
 | []=>[]
 | o :: os=>⟨c,o⟩ :: ⟨o,c⟩ :: prIn c os
def prs : List Int → List Mt
 | []=>[]
 | c :: cs=>prIn c cs ++ prs cs
theorem prIn_len (c : Int) : ∀ os : List Int,(prIn c os).length = 2 * os.length
 | []=>rfl
 | o :: os=>by simp only [prIn,List.length_cons,prIn_len c os]; omega
def extR (l : Lst) (p : Pl) (m : Mt) : Lst:=(nxR l p).2.1 ++ [(nxR l p).1 ++ [m]]
def rchs (l : Lst) (p : Pl) : List Mt:=if (nxR l p).2.2 = true then (prs p.clubs).filter (fun m=>decide (PartR (extR l p m) p)) else []
end Go.Proofs.YtndlggbljkhfbaaGreat
namespace Go.Proofs.YtndlggbljkhfbaaGreat
open Go.Tidy
variable {L : List Blk} {k : V → List Blk → Prop}
theorem clip_c (r : List Mt) (h : k (.clp (r.map Mt.cells)) L) : CallP C 100 [.d (mts r)] L k:=by
 refine CallP.pure ?_ rfl (fun _=>rfl) h
 clear h
 refine callP_of C_ok Tryz.func100 rfl rfl (n:=_) rfl (w18 rfl) (rs:=_) rfl ?_
 repeat' ((conv=>whnf); first|refine w0 ?_|refine w1 ?_|refine w2 (fun h=>?_) (fun h=>?_)|refine w3 ?_|refine w4 (fun h=>?_) (fun h=>?_)|refine w5 _ rfl ?_|refine w6 rfl ?_|refine w7 mixed rfl ?_|refine w6 (mtsE r) ?_|refine SliceP.intro 0 (r.map Mt.cells).length rfl rfl (w22 _) (w21 _) ?_)
 conv=>whnf
 exact FinP.drop (n:=0) rfl (Nat.le_refl 0) rfl rfl ⟨rfl,congrArg V.clp (by rw [List.drop_zero,Nat.sub_zero]; exact List.take_of_length_le (Nat.le_refl _))⟩
theorem clip_nil (h : k .nil L) : CallP C 100 [.nil] L k:=by
 refine CallP.pure ?_ rfl (fun _=>rfl) h
 clear h
 refine callP_of C_ok Tryz.func100 rfl rfl (n:=_) rfl (w18 rfl) (rs:=_) rfl ?_
 repeat' ((conv=>whnf); first|refine w0 ?_|refine w1 ?_|refine w2 (fun h=>?_) (fun h=>?_)|refine w3 ?_|refine w4 (fun h=>?_) (fun h=>?_)|refine w5 _ rfl ?_|refine w6 rfl ?_|refine w7 mixed rfl ?_|refine SliceP.intro 0 0 rfl rfl (w22 _) (w21 _) ?_|refine w6 ⟨rfl,rfl⟩ ?_)
 conv=>whnf
 exact FinP.drop (n:=0) rfl (w21 0) rfl rfl ⟨rfl,rfl⟩
def atN (l : Lst) (p : Pl) : Nat:=if (openR l p).2.1 then l.length else l.length - 1
def nxV (l : Lst) (p : Pl) (m : Mt) : V:=.agg [.d (DI m.home),.d (DI m.away),I (atN l p),.d (.sl ((extL l p m).map fun r=>[mts r]))]
theorem bc_pre {S Z : List Blk} {N : Nat} {z : Blk} (hS : S.length = N) (hb : belB N S = true) {b : Nat} {x y : Blk} (hx : (S ++ Z)[b]? = some x) (hy : (S ++ [z])[b]? = some y) (hz : Z[0]? = some z) {L0 : List Blk} (hzb : z.bel (N + 1) = true:=by rfl) : BC (N + 1) L0 x y:=by
 by_cases h : b < N
 ·rw [List.getElem?_append_left (by omega)] at hx hy
  rw [hx] at hy; cases hy
  exact .inl ⟨rfl,Blk.bel_le (Nat.le_succ N) _ (belB_get hb hx)⟩
 ·rw [List.getElem?_append_right (by omega)] at hx hy
  have e : b - S.length = 0:=by have:=lt_of_get hy; simp at this; omega
  rw [e] at hx hy
  rw [hz] at hx
  cases hx; cases hy
  exact .inl ⟨rfl,hzb⟩
theorem choices_m {l : Lst} {p : Pl} {m : List Mt} (hs : Small l p) (hm : chE l p = m) (h : k (.tup [.d (mts m),I (dmE l p)]) L) : CallP C 99 [lisV l,plV p] L k:=choices0_c l p hs (by rw [hm]; exact h)
def ATS (l : Lst) (p : Pl) : Prop:=(atN l p = l.length ∧ ∀ x,extL l p x = l ++ [[x]]) ∨ (atN l p = l.length - 1 ∧ ∃ hq : l.length - 1 < l.length,∀ x,extL l p x = l.dropLast ++ [l[l.length - 1] ++ [x]])
theorem ways_it (pn : Nat) (pan : V → List Blk → Prop) (l : Lst) (p : Pl) (hs : Small l p) (hp : p.clubs.length ≤ 1000) (hrw : ∀ r ∈ l,r.length + 1 ≤ 4294967296) :
  IterQ (C.wp pn pan) 98 [.rptr [lisD l],.rptr p.cells] ((chE l p).map fun m=>[nxV l p m]):=by
 intro b N P S k hpn hS hbS hdS hb hy h0 hP
 have len : ((chE l p).map fun m=>[nxV l p m]).length = (chE l p).length:=List.length_map ..
 have hpn : (C.wp pn pan).pn ≤ (S 0).length:=by rw [hS]; exact hpn
 have a0 : ∀ c X,(S c ++ X).length = N + X.length:=fun c X=>pre_len _ _ (hS c)
 have a1 : ∀ c X i,(S c ++ X)[N + i]? = X[i]?:=fun c X i=>pre_get _ _ (hS c) i
 have a2 : ∀ c X,(S c ++ X)[N]? = X[0]?:=fun c X=>pre_get0 _ _ (hS c)
 have a3 : ∀ c X i y,(S c ++ X).set (N + i) y = S c ++ X.set i y:=fun c X i y=>pre_set _ _ (hS c) i y
 have a4 : ∀ c X y,(S c ++ X).set N y = S c ++ X.set 0 y:=fun c X y=>pre_set0 _ _ (hS c) y
 have hll:=hs.hl
 have hnl : (0 : Int) < (l.length : Int) → l.length - 1 < l.length:=fun h=>by omega
 have hwl : (0 : Int) < ((l.map fun r=>[mts r]).length : Int) → IntKind.i64.wrap (((l.map fun r=>[mts r]).length : Int) - 1) = ((l.length - 1 : Nat) : Int):=fun h=>by
  rw [List.length_map] at h ⊢; rw [wrap_in (by omega)]; omega
 have hlt2 : ∀ h : (0 : Int) < ((l.map fun r=>[mts r]).length : Int),l.length - 1 < l.length:=fun h=>hnl (by rw [List.length_map] at h; exact h)
 have hhf : IntKind.i64.wrap (((p.clubs.map fun n=>[DI n]).length : Int).tdiv 2) = (halfN p : Int):=by
  rw [List.length_map,show ((p.clubs.length : Nat) : Int).tdiv 2 = ((p.clubs.length / 2 : Nat) : Int) from (Int.ofNat_tdiv _ 2).symm]
  refine wrap_in ?_
  omega
 have hcont : ∀ h : (0 : Int) < ((l.map fun r=>[mts r]).length : Int),((List.map Mt.cells (l[l.length - 1]'(hlt2 h))).length : Int) < IntKind.i64.wrap (((p.clubs.map fun n=>[DI n]).length : Int).tdiv 2) → openR l p = (l[l.length - 1]'(hlt2 h),false,true):=fun h h2=>by
  rw [hhf,List.length_map] at h2
  have:=hlt2 h
  unfold openR; rw [last_of (by omega)]; exact if_pos (by omega)
 have hfre : ∀ h : (0 : Int) < ((l.map fun r=>[mts r]).length : Int),¬ ((List.map Mt.cells (l[l.length - 1]'(hlt2 h))).length : Int) < IntKind.i64.wrap (((p.clubs.map fun n=>[DI n]).length : Int).tdiv 2) → openR l p = ([],true,decide (l.length < roundsN p)):=fun h h2=>by
  rw [hhf,List.length_map] at h2
  have:=hlt2 h
  unfold openR; rw [last_of (by omega)]; exact if_neg (by omega)
 have hfr0 : ¬ (0 : Int) < ((l.map fun r=>[mts r]).length : Int) → openR l p = ([],true,decide (l.length < roundsN p)):=fun h=>by
  rw [List.length_map] at h
  have : l = []:=List.eq_nil_of_length_eq_zero (by omega)
  subst this; rfl
 have hat1 : ∀ (h : (0 : Int) < ((l.map fun r=>[mts r]).length : Int)),((List.map Mt.cells (l[l.length - 1]'(hlt2 h))).length : Int) < IntKind.i64.wrap (((p.clubs.map fun n=>[DI n]).length : Int).tdiv 2) → IntKind.i64.wrap (((l.map fun r=>[mts r]).length : Int) - 1) = (atN l p : Int):=fun h h2=>by
  rw [hwl h]; unfold atN; rw [hcont h h2]; rfl
 have hat2 : openR l p = ([],true,decide (l.length < roundsN p)) → ((l.map fun r=>[mts r]).length : Int) = (atN l p : Int):=fun h=>by
  rw [List.length_map]; unfold atN; rw [h]; rfl
 have hcs1 : ∀ (h : (0 : Int) < ((l.map fun r=>[mts r]).length : Int)),((List.map Mt.cells (l[l.length - 1]'(hlt2 h))).length : Int) < IntKind.i64.wrap (((p.clubs.map fun n=>[DI n]).length : Int).tdiv 2) → ATS l p:=fun h h2=>.inr ⟨by unfold atN; rw [hcont h h2]; rfl,hlt2 h,fun x=>by unfold extL; rw [hcont h h2]; rfl⟩
 have hcs2 : openR l p = ([],true,decide (l.length < roundsN p)) → ATS l p:=fun h=>.inl ⟨by unfold atN; rw [h]; rfl,fun x=>by unfold extL; rw [h]; rfl⟩
 obtain ⟨m,hm⟩ : ∃ m,chE l p = m:=⟨_,rfl⟩
 rw [len] at h0
 rw [hm] at h0
 rw [hm] at hy
 have hml : m.length ≤ 4294967296:=by
  rw [← hm]; unfold chE; split
  ·exact chs_len l p hp
  ·exact Nat.zero_le _
 have hlm : ((m.map Mt.cells).length : Int) = (m.length : Int):=by rw [List.length_map]
 refine callP_cut (C:=C.wp pn pan) (fun c=>match c with | .region 10 _ _=>true | _=>false) (C_ok.wp pn pan) Tryz.func98 rfl rfl (n:=_) rfl (w18 rfl) (rs:=_) rfl ?_ hpn
 conv=>whnf
 repeat' ((conv=>whnf); first|refine w0 ?_|refine w1 ?_|refine w2 (fun h=>?_) (fun h=>?_)|refine w3 ?_|refine w4 (fun h=>?_) (fun h=>?_)|refine w5 _ rfl ?_|refine w6 rfl ?_|refine w7 mixed rfl ?_|refine w14 (choices_m hs hm ?_)|refine w11 (l.length - 1) (hwl ‹_›) (hnl (by have:=‹(0 : Int) < _›; rw [List.length_map] at this; exact this)) ?_|refine w6 (show (2 : Int) ≠ 0 by decide) ?_)
 all_goals conv=>whnf
 all_goals
  have hcase : ATS l p:=by
   first
   | exact hcs1 ‹_› ‹_›
   | exact hcs2 (hfre ‹_› ‹_›)
   | exact hcs2 (hfr0 ‹_›)
  refine LoopP.inv (fun i=>i ≤ m.length ∧ P i) (fun i=>⟨[(0,.yld b),(1,.d (.rptr [lisD l])),(2,.d (.rptr p.cells)),(6,I (atN l p)),(37,.d (mts m)),(38,I m.length),(39,I i)],Tryz.f98.ntmps,S i,[],none⟩) (fun i=>m.length - i) 0 ⟨w22 _,hP⟩ ?_ ?_
  ·exact Weak.by ⟨rfl,rfl,rfl,by
    first
    | exact congrArg I (hat1 ‹_› ‹_›)
    | exact congrArg I (hat2 (hfre ‹_› ‹_›))
    | exact congrArg I (hat2 (hfr0 ‹_›)),rfl,congrArg I hlm,rfl,trivial⟩ (hL:=rfl)
  rintro i ⟨hi,hPi⟩
  by_cases hi' : i < m.length
  ·have hlt : (i : Int) < (m.length : Int):=by omega
   have hw : IntKind.i64.wrap ((i : Int) + 1) = ((i + 1 : Nat) : Int):=by rw [wrap_in (by omega)]; omega
   obtain ⟨X,hXe⟩ : ∃ X,extL l p m[i] = X:=⟨_,rfl⟩
   have hgN : (List.take l.length (rdR l) ++ [[V.nil]])[0 + l.length]? = some [.nil]:=by
    rw [Nat.zero_add,List.take_of_length_le (by simp [rdR]),List.getElem?_append_right (by simp [rdR])]; simp [rdR]
   have hgC : ∀ hq : l.length - 1 < l.length,(rdR l)[0 + (l.length - 1)]? = some [.d (mts l[l.length - 1])]:=fun hq=>by
    rw [Nat.zero_add,rdR,List.getElem?_map,List.getElem?_eq_getElem hq]; rfl
   have hrl : ∀ hq : l.length - 1 < l.length,(l[l.length - 1].map Mt.cells).length + 1 ≤ 4294967296:=fun hq=>by
    rw [List.length_map]; exact hrw _ (List.getElem_mem _)
   have hsN : ∀ y : V,((((List.take l.length (rdR l) ++ [[V.nil]]).set (0 + l.length) [y]).drop 0).take (l.length + 1)) = rdR l ++ [[y]]:=fun y=>by
    rw [List.take_of_length_le (l:=rdR l) (by simp [rdR])]
    simp [rdR]
    exact List.take_of_length_le (by simp)
   have hset : ∀ hq : l.length - 1 < l.length,∀ y : V,(((rdR l).set (0 + (l.length - 1)) [y]).drop 0).take l.length = rdR l.dropLast ++ [[y]]:=fun hq y=>by
    have hne : l ≠ []:=fun e=>by rw [e] at hq; simp at hq
    have hdl:=List.dropLast_concat_getLast hne
    generalize l.dropLast = d at hdl ⊢
    generalize l.getLast hne = r at hdl
    subst hdl
    simp [rdR]
    exact List.take_of_length_le (by simp)
   rcases hcase with ⟨hA,hX⟩ | ⟨hA,hq,hX⟩
   ·have hXq : X = l ++ [[m[i]]]:=hXe.symm.trans (hX _)
    have hcond : (atN l p : Int) = (l.length : Int):=by rw [hA]
    repeat' ((conv=>whnf); first|refine w8 (w19 hlt) ?_|refine w11 i rfl hi' ?_|simp only [hS,a0,a1,a2,a3,a4,List.append_assoc]|refine w14 (rclone_c l (by omega) ?_)|refine w8 (w19 hcond) ?_|refine w6 (w23 (m:=4294967296) (show l.length + 1 ≤ 4294967296 by omega) (apLim_ge _)) ?_|refine w0 ?_|refine w1 ?_|refine w2 (fun h=>?_) (fun h=>?_)|refine w3 ?_|refine w4 (fun h=>?_) (fun h=>?_)|refine w5 _ rfl ?_|refine w6 rfl ?_|refine w7 mixed rfl ?_)
    conv=>whnf
    refine CutP.intro (ι:=Unit) (fun _=>⟨[(0,.yld b),(1,.d (.rptr [lisD l])),(2,.d (.rptr p.cells)),(6,I (atN l p)),(8,.ptr N 0),(9,.d (lisD X)),(37,.d (mts m)),(38,I m.length),(39,I i)],Tryz.f98.ntmps,S i ++ [.cells (m[i].cells.map .d)],[],none⟩) ?_ (fun _=>?_)
    ·refine DrawP.por mixed [] [[(0,0),(1,0),(2,0),(3,0),(4,3),(5,3),(6,1),(7,0),(8,0),(9,0),(10,0),(11,0)]] (by kernel_rfl) ?_
     all_goals
      repeat' ((conv=>whnf); first|refine w0 ?_|refine w1 ?_|refine w2 (fun h=>?_) (fun h=>?_)|refine w3 ?_|refine w4 (fun h=>?_) (fun h=>?_)|refine w5 _ rfl ?_|refine w6 rfl ?_|refine w7 mixed rfl ?_|refine IdxN.intro l.length hcond (Nat.lt_succ_self _) ?_|refine w5 _ hgN ?_|refine w12 _ (w14 (clip_nil ⟨rfl,rfl⟩)) ?_|refine w14 (clip_nil ?_)|simp only [hS,a0,a1,a2,a3,a4,List.append_assoc]|refine w6 (w23 (m:=4294967296) (show 1 ≤ 4294967296 by decide) (apLim_ge _)) ?_)
     all_goals conv=>whnf
     all_goals
      clear hXe
      subst hXq
      refine ⟨(),Weak.thaw (N + 1) (Nat.le_succ N) (by rw [a0]; exact Nat.add_le_add_left (w18 rfl) N) (a0 _ _) ⟨.inl ⟨rfl,by simp [V.bel]; omega⟩,.inl ⟨rfl,rfl⟩,.inl ⟨rfl,rfl⟩,.inl ⟨rfl,rfl⟩,.inl ⟨rfl,by simp [V.bel]⟩,.inr ?_,.inl ⟨rfl,rfl⟩,.inl ⟨rfl,rfl⟩,.inl ⟨rfl,rfl⟩,trivial⟩ (fun bb x y hx hy=>?_)⟩
      ·refine .d (.rowL (ds:=(l ++ [[m[i]]]).map fun r=>[mts r]) (w21 _) ((a1 _ _ _).trans rfl) ?_ ?_ (lisE _))
       ·exact CvLL.cong (hsN _) (rows_snoc (.rowL (ds:=[m[i]].map Mt.cells) (Nat.add_le_add_left (w18 rfl) N) ((a1 _ _ _).trans rfl) (mR_rows [m[i]]) rfl (mtsE _)) l)
       ·simp
      ·exact bc_pre (hS i) (hbS i) hx hy rfl
    ·subst hXe
     have hyc:=hy i (by rw [List.length_map]; exact hi') hPi
     rw [List.getElem_map] at hyc
     repeat' ((conv=>whnf); first|refine w0 ?_|refine w1 ?_|refine w2 (fun h=>?_) (fun h=>?_)|refine w3 ?_|refine w4 (fun h=>?_) (fun h=>?_)|refine w5 _ rfl ?_|refine w6 rfl ?_|refine w7 mixed rfl ?_|simp only [hS,a0,a1,a2,a3,a4,List.append_assoc])
     conv=>whnf
     refine YR.frameP ‹_› hyc (hS i) (hS _) (hbS i) (hbS _) (hdS i) hb rfl ?_ ?_
     ·intro M hM hP1
      subst hM
      repeat' ((conv=>whnf); first|refine w0 ?_|refine w1 ?_|refine w2 (fun h=>?_) (fun h=>?_)|refine w3 ?_|refine w4 (fun h=>?_) (fun h=>?_)|refine w5 _ rfl ?_|refine w6 rfl ?_|refine w7 mixed rfl ?_|simp only [hS,a0,a1,a2,a3,a4,List.append_assoc])
      conv=>whnf
      exact ⟨i + 1,⟨hi',hP1⟩,by omega,Weak.to N (List.take_left' (hS _)) (Nat.le_refl _) (by simp [hS]) ⟨rfl,rfl,rfl,rfl,rfl,rfl,congrArg I hw,trivial⟩ (hf:=by simp [belF,V.bel]; omega) (hB:=hbS _)⟩
     ·rintro Z M rfl hz1 hz2 hz3
      repeat' ((conv=>whnf); first|refine w0 ?_|refine w1 ?_|refine w2 (fun h=>?_) (fun h=>?_)|refine w3 ?_|refine w4 (fun h=>?_) (fun h=>?_)|refine w5 _ rfl ?_|refine w6 rfl ?_|refine w7 mixed rfl ?_)
      conv=>whnf
      exact FinP.drop (n:=N) (List.take_left' hz1) (w21 _) rfl hz2 hz3
   ·have hXq : X = l.dropLast ++ [l[l.length - 1] ++ [m[i]]]:=hXe.symm.trans (hX _)
    have hcond : ¬ (atN l p : Int) = (l.length : Int):=by omega
    repeat' ((conv=>whnf); first|refine w8 (w19 hlt) ?_|refine w11 i rfl hi' ?_|simp only [hS,a0,a1,a2,a3,a4,List.append_assoc]|refine w14 (rclone_c l (by omega) ?_)|refine w9 (w20 hcond) ?_|refine w0 ?_|refine w1 ?_|refine w2 (fun h=>?_) (fun h=>?_)|refine w3 ?_|refine w4 (fun h=>?_) (fun h=>?_)|refine w5 _ rfl ?_|refine w6 rfl ?_|refine w7 mixed rfl ?_)
    conv=>whnf
    refine CutP.intro (ι:=Unit) (fun _=>⟨[(0,.yld b),(1,.d (.rptr [lisD l])),(2,.d (.rptr p.cells)),(6,I (atN l p)),(8,.ptr N 0),(9,.d (lisD X)),(37,.d (mts m)),(38,I m.length),(39,I i)],Tryz.f98.ntmps,S i ++ [.cells (m[i].cells.map .d)],[],none⟩) ?_ (fun _=>?_)
    ·refine DrawP.por mixed [] [[(0,0),(1,0),(2,0),(3,0),(4,3),(5,3),(6,1),(7,0),(8,0),(9,0),(10,0),(11,0)]] (by kernel_rfl) ?_
     all_goals
      repeat' ((conv=>whnf); first|refine w0 ?_|refine w1 ?_|refine w2 (fun h=>?_) (fun h=>?_)|refine w3 ?_|refine w4 (fun h=>?_) (fun h=>?_)|refine w5 _ rfl ?_|refine w6 rfl ?_|refine w7 mixed rfl ?_|refine IdxN.intro (l.length - 1) (by rw [hA]) hq ?_|refine w5 _ (hgC hq) ?_|refine w12 _ (w14 (clip_c _ ⟨rfl,rfl⟩)) ?_|refine w14 (clip_c _ ?_)|refine w6 ⟨Nat.zero_lt_one,mtsE _⟩ ?_|simp only [hS,a0,a1,a2,a3,a4,List.append_assoc]|refine w6 (w23 (m:=4294967296) (hrl hq) (apLim_ge _)) ?_)
     all_goals conv=>whnf
     all_goals
      clear hXe
      subst hXq
      refine ⟨(),Weak.thaw (N + 1) (Nat.le_succ N) (by rw [a0]; exact Nat.add_le_add_left (w18 rfl) N) (a0 _ _) ⟨.inl ⟨rfl,by simp [V.bel]; omega⟩,.inl ⟨rfl,rfl⟩,.inl ⟨rfl,rfl⟩,.inl ⟨rfl,rfl⟩,.inl ⟨rfl,by simp [V.bel]⟩,.inr ?_,.inl ⟨rfl,rfl⟩,.inl ⟨rfl,rfl⟩,.inl ⟨rfl,rfl⟩,trivial⟩ (fun bb x y hx hy=>?_)⟩
      ·refine .d (.rowL (ds:=(l.dropLast ++ [l[l.length - 1] ++ [m[i]]]).map fun r=>[mts r]) (w21 _) ((a1 _ _ _).trans rfl) ?_ ?_ (lisE _))
       ·refine CvLL.cong (hset hq _) (rows_snoc (.rowL (ds:=(l[l.length - 1] ++ [m[i]]).map Mt.cells) (Nat.add_le_add_left (w18 rfl) N) ((a1 _ _ _).trans rfl) ?_ ?_ (mtsE _)) l.dropLast)
        ·refine CvLL.cong (app_eq (Y:=mR l[l.length - 1]) (Z:=[m[i].cells.map .d]) _ (by simp [mR]) (by simp [mR])) ?_
         rw [← mR_snoc]; exact mR_rows _
        ·simp
       ·simp; omega
      ·exact bc_pre (hS i) (hbS i) hx hy rfl
    ·subst hXe
     have hyc:=hy i (by rw [List.length_map]; exact hi') hPi
     rw [List.getElem_map] at hyc
     repeat' ((conv=>whnf); first|refine w0 ?_|refine w1 ?_|refine w2 (fun h=>?_) (fun h=>?_)|refine w3 ?_|refine w4 (fun h=>?_) (fun h=>?_)|refine w5 _ rfl ?_|refine w6 rfl ?_|refine w7 mixed rfl ?_|simp only [hS,a0,a1,a2,a3,a4,List.append_assoc])
     conv=>whnf
     refine YR.frameP ‹_› hyc (hS i) (hS _) (hbS i) (hbS _) (hdS i) hb rfl ?_ ?_
     ·intro M hM hP1
      subst hM
      repeat' ((conv=>whnf); first|refine w0 ?_|refine w1 ?_|refine w2 (fun h=>?_) (fun h=>?_)|refine w3 ?_|refine w4 (fun h=>?_) (fun h=>?_)|refine w5 _ rfl ?_|refine w6 rfl ?_|refine w7 mixed rfl ?_|simp only [hS,a0,a1,a2,a3,a4,List.append_assoc])
      conv=>whnf
      exact ⟨i + 1,⟨hi',hP1⟩,by omega,Weak.to N (List.take_left' (hS _)) (Nat.le_refl _) (by simp [hS]) ⟨rfl,rfl,rfl,rfl,rfl,rfl,congrArg I hw,trivial⟩ (hf:=by simp [belF,V.bel]; omega) (hB:=hbS _)⟩
     ·rintro Z M rfl hz1 hz2 hz3
      repeat' ((conv=>whnf); first|refine w0 ?_|refine w1 ?_|refine w2 (fun h=>?_) (fun h=>?_)|refine w3 ?_|refine w4 (fun h=>?_) (fun h=>?_)|refine w5 _ rfl ?_|refine w6 rfl ?_|refine w7 mixed rfl ?_)
      conv=>whnf
      exact FinP.drop (n:=N) (List.take_left' hz1) (w21 _) rfl hz2 hz3
  ·have hlt : ¬ (i : Int) < (m.length : Int):=by omega
   have hie : i = m.length:=by omega
   subst hie
   repeat' ((conv=>whnf); first|refine w9 (w20 hlt) ?_|refine w0 ?_|refine w1 ?_|refine w2 (fun h=>?_) (fun h=>?_)|refine w3 ?_|refine w4 (fun h=>?_) (fun h=>?_)|refine w5 _ rfl ?_|refine w6 rfl ?_|refine w7 mixed rfl ?_)
   conv=>whnf
   refine w15 (n:=N) (L':=S m.length) ?_ (Nat.le_of_eq (hS _)) rfl (hbS _) (h0 hPi)
   exact List.take_of_length_le (Nat.le_of_eq (hS _))
end Go.Proofs.YtndlggbljkhfbaaGreat
namespace Go.Proofs.YtndlggbljkhfbaaGreat
open Go.Tidy
variable {L : List Blk} {k : V → List Blk → Prop}
def fuelN (p : Pl) : Nat:=roundsN p * halfN p + 1
def Sr.out (U : List Lst → List Blk) (k : V → List Blk → Prop) : Sr → Prop
 | .go sp fs=>k (.tup [I sp,I 0]) (U fs)
 | .stop e sp fs=>k (.tup [I sp,I e]) (U fs)
theorem part_nil (p : Pl) : PartP [] p:=⟨w22 _,fun i hi=>absurd hi (Nat.not_lt_zero i)⟩
theorem full_nil (p : Pl) : fullC [] p = false:=by unfold fullC; simp
theorem DefP.cnv {C' : Ctx} {f : FuncId} {caps caps' : List V} {X : Option V} {L : List Blk} {k : List Blk → Prop} (h : caps = caps') (hd : DefP C' f caps' X L k) : DefP C' f caps X L k:=by subst h; exact hd
theorem search_c (p : Pl) (bud : Nat) (all : Bool) (fd : FuncId) (caps : List V) (N : Nat) (U : List Lst → List Blk) (hH : Hand N U fd caps all) (h0 : checkP p = 0) (hs0 : Small [] p) (hbud : bud ≤ 1073741824) (h : (examP p bud all (fuelN p) [] 0 []).out U k) :
  CallP C 38 [.d (.rptr (planD p)),I bud,.fn fd caps] (U []) k:=by
 have hS:=hH.len
 have a0 : ∀ fs X,(U fs ++ X).length = N + X.length:=fun fs X=>pre_len _ _ (hS fs)
 have a1 : ∀ fs X i,(U fs ++ X)[N + i]? = X[i]?:=fun fs X i=>pre_get _ _ (hS fs) i
 have a2 : ∀ fs X,(U fs ++ X)[N]? = X[0]?:=fun fs X=>pre_get0 _ _ (hS fs)
 have a3 : ∀ fs X i y,(U fs ++ X).set (N + i) y = U fs ++ X.set i y:=fun fs X i y=>pre_set _ _ (hS fs) i y
 have a4 : ∀ fs X y,(U fs ++ X).set N y = U fs ++ X.set 0 y:=fun fs X y=>pre_set0 _ _ (hS fs) y
 have kA : ∀ L,killAll [] L = L:=fun _=>rfl
 refine callP_defer C_ok (fun _=>false) (N + 5) (fun X L1=>∃ e sp fs,examP p bud all (fuelN p) [] 0 [] = .stop e sp fs ∧ X = .d (enoughD e) ∧ L1 = U fs ++ pre5 p bud fd caps sp) Tryz.func38 rfl rfl (n:=_) rfl (w18 rfl) (rs:=_) rfl ?_
 repeat' ((conv=>whnf); first|refine w0 ?_|refine w1 ?_|refine w2 (fun h=>?_) (fun h=>?_)|refine w3 ?_|refine w4 (fun h=>?_) (fun h=>?_)|refine w5 _ rfl ?_|refine w6 rfl ?_|refine w7 mixed rfl ?_|simp only [hS,a0,a1,a2,a3,a4,List.append_assoc,forceL_eq])
 conv=>whnf
 refine DefR.intro (by rw [a0]; exact Nat.le_refl _) (Nat.le_add_right N 5) ?_ ?_ ?_ ?_
 ·show (V.bel (N + 5) (.ptr (N + 3) 0) && (V.bel (N + 5) (.ptr (N + 4) 0) && true)) = true
  simp [V.bel]
 ·simp [V.belL,V.bel]
 ·rintro X L1 ⟨e,sp,fs,hst,rfl,rfl⟩
  refine DefP.cnv (caps':=[.ptr (N + 4) 0]) rfl ?_
  refine search1_p (U fs) (hS fs) _ _ _ _ e 0 (belB_append (belB_le (Nat.le_add_right N 5) (hH.bel fs)) (by have:=pre5_bel (p:=p) (bud:=bud) (fd:=fd) (sp:=sp) hH.cap (Nat.le_add_right N 5); simp [pre5,belB,Blk.bel,V.belL,V.bel] at this ⊢; exact this)) ?_
  repeat' ((conv=>whnf); first|refine w0 ?_|refine w1 ?_|refine w2 (fun h=>?_) (fun h=>?_)|refine w3 ?_|refine w4 (fun h=>?_) (fun h=>?_)|refine w5 _ rfl ?_|refine w6 rfl ?_|refine w7 mixed rfl ?_|simp only [hS,kA,a0,a1,a2,a3,a4,List.append_assoc,forceL_eq])
  conv=>whnf
  rw [hst] at h
  exact FinP.drop (n:=N) (L':=U fs) (List.take_left' (hS fs)) (w21 _) rfl (hH.bel fs) h
 ·repeat' (conv => whnf
           first|refine w0 ?_|refine w1 ?_|refine w2 (fun h=>?_) (fun h=>?_)|refine w3 ?_|refine w4 (fun h=>?_) (fun h=>?_)|refine w5 _ rfl ?_|refine w6 rfl ?_|refine w7 mixed rfl ?_|refine w6 (Nat.add_le_add_left (w18 rfl) N) ?_|simp only [hS,a0,a1,a2,a3,a4,List.append_assoc,forceL_eq])
  conv=>whnf
  refine CallP.cnv (args':=.agg [.nil] :: capE N) (L':=U [] ++ pre6 p bud fd caps N 0) rfl rfl ?_
  refine CallP.freezeP (args:=.agg [.nil] :: capE N) (dargs:=lisV [] :: capE N) [] rfl rfl (.cv (.aggL (.cons .nil .nil)) (.keep (.keep (.keep (.keep (.keep .nil)))))) ?_
  refine (examine_c p bud all fd caps N U hH h0 hs0 hbud (N + 5) _ rfl (fuelN p) [] 0 [] (part_nil p) (by unfold fuelN; simp) (w22 _) (fun hf=>by rw [full_nil] at hf; cases hf) (w22 _) (fun e sp' fs' he=>⟨e,sp',fs',he,rfl,rfl⟩)).mono ?_
  rintro X L' ⟨rfl,sp',fs',hgo,rfl⟩
  rw [hgo] at h
  repeat' ((conv=>whnf); first|refine w0 ?_|refine w1 ?_|refine w2 (fun h=>?_) (fun h=>?_)|refine w3 ?_|refine w4 (fun h=>?_) (fun h=>?_)|refine w5 _ rfl ?_|refine w6 rfl ?_|refine w7 mixed rfl ?_|refine w6 (Nat.add_le_add_left (w18 rfl) N) ?_|simp only [hS,a0,a1,a2,a3,a4,List.append_assoc,forceL_eq])
  conv=>whnf
  refine DefP.cnv (caps':=[.ptr (N + 4) 0]) rfl ?_
  refine search1_n (U fs') _ (hS fs') ?_ ?_
  ·rw [a0]
   have hp:=pre6_bel (p:=p) (bud:=bud) (fd:=fd) (N:=N) (sp:=sp') (n:=N + 6) hH.cap (w21 _)
   exact belB_append (belB_le (Nat.le_add_right N 6) (hH.bel fs')) hp
  repeat' ((conv=>whnf); first|refine w0 ?_|refine w1 ?_|refine w2 (fun h=>?_) (fun h=>?_)|refine w3 ?_|refine w4 (fun h=>?_) (fun h=>?_)|refine w5 _ rfl ?_|refine w6 rfl ?_|refine w7 mixed rfl ?_|simp only [hS,kA,a0,a1,a2,a3,a4,List.append_assoc,forceL_eq])
  conv=>whnf
  exact FinP.drop (n:=N) (L':=U fs') (List.take_left' (hS fs')) (w21 _) rfl (hH.bel fs') h
theorem enough_endL {N pn : Nat} {M S Y P5 : List Blk} {e : Int} {pan : V → List Blk → Prop} (hM : M = S ++ Y) (hS : S.length = N) (hpn : pn = N + 5) (hY : Y.take 5 = P5) (h5 : 5 ≤ Y.length) (hb : belB (N + 5) (S ++ P5) = true) (hd : (S ++ P5).all notD = true) (h : pan (.d (enoughD e)) (S ++ P5)) :
  Need (pn ≤ M.length ∧ belB pn (M.take pn) = true ∧ noDefr pn M = true) (pan (.d (enoughD e)) (M.take pn)):=by
 subst hM
 have:=enough_end hS hpn hY h5 hb hd h
 rw [← hS,← List.length_append] at this
 exact this
def planU (p : Pl) (fs : List Lst) : List Blk:=[.cells (p.cells.map .d),.cells [match fs.getLast? with | some l=>.d (.sl (l.map fun r=>[mts r])) | none=>.nil],.cells [B fs.getLast?.isSome]]
theorem plan_hand (p : Pl) : Hand 3 (planU p) 39 [.ptr 1 0,.ptr 2 0] false where
 len _:=rfl
 bel fs:=by unfold planU; cases fs.getLast? <;> rfl
 nol fs:=by unfold planU; cases fs.getLast? <;> rfl
 nod fs:=by unfold planU; cases fs.getLast? <;> rfl
 cap:=rfl
 found:=by
  intro pn pan X fs l k hpnE hX hXb hX5 hXd hfs _ hpan
  have hpan:=hpan rfl
  have hpn : (C.wp pn pan).pn ≤ (planU p fs ++ X).length:=by rw [List.length_append]; show pn ≤ 3 + _; omega
  have hU : planU p (fs ++ [l]) = [.cells (p.cells.map .d),.cells [.d (lisD l)],.cells [B true]]:=by unfold planU; simp [lisD]
  rw [hU] at hpan
  cases hg : fs.getLast? with
  | _ =>
   have hU0 : planU p fs = planU p fs:=rfl
   conv at hU0=>rhs; unfold planU; rw [hg]
   rw [hU0] at hpn ⊢
   refine callP_of (C:=C.wp pn pan) (C_ok.wp pn pan) Tryz.func39 rfl rfl (n:=_) rfl (w18 rfl) (rs:=_) rfl ?_ hpn
   repeat' ((conv=>whnf); first|refine w0 ?_|refine w1 ?_|refine w2 (fun h=>?_) (fun h=>?_)|refine w3 ?_|refine w4 (fun h=>?_) (fun h=>?_)|refine w5 _ rfl ?_|refine w6 rfl ?_|refine w7 mixed rfl ?_|simp only [List.getElem?_concat_length])
   conv=>whnf
   refine enough_endL (S:=[.cells (p.cells.map .d),.cells [.d (lisD l)],.cells [B true]]) (Y:=X ++ [.cells [.d (lisD l)]]) rfl rfl hpnE (List.take_append_of_le_length hX) (by rw [List.length_append]; omega) (belB_append rfl hX5) (by rw [List.all_append,hXd]; rfl) hpan
def argE (p : Pl) (most : Int) : Int:=if checkP p = 0 then (if most < 0 ∨ 1073741824 < most then 1 else 0) else checkP p
theorem pcheck_c (p : Pl) (most : Int) (hl : p.clubs.length ≤ 4611686018427387904) (hd : ∀ d ∈ p.demands,d.clubs.length ≤ 4611686018427387904) (hD : p.demands.length ≤ 4611686018427387904) (h : k (I (argE p most)) L) : CallP C 36 [plV p,I most] L k:=by
 refine CallP.pure ?_ rfl (fun _=>rfl) h
 clear h
 refine callP_of C_ok Tryz.func36 rfl rfl (n:=_) rfl (w18 rfl) (rs:=_) rfl ?_
 by_cases h0 : checkP p = 0
 ·repeat' (conv => whnf
           first|refine w0 ?_|refine w1 ?_|refine w2 (fun h=>?_) (fun h=>?_)|refine w3 ?_|refine w4 (fun h=>?_) (fun h=>?_)|refine w5 _ rfl ?_|refine w6 rfl ?_|refine w7 mixed rfl ?_|refine check_c p hl hd hD ?_)
  all_goals first | exact absurd h0 ‹¬ checkP p = 0› | skip
  all_goals conv=>whnf
  all_goals refine w15 (n:=0) rfl (w21 0) rfl rfl ⟨rfl,congrArg I ?_⟩
  all_goals
   unfold argE
   rw [if_pos h0]
   first
   | (rw [if_pos (by omega)]; done)
   | (rw [if_neg (by omega)]; done)
 ·repeat' (conv => whnf
           first|refine w0 ?_|refine w1 ?_|refine w2 (fun h=>?_) (fun h=>?_)|refine w3 ?_|refine w4 (fun h=>?_) (fun h=>?_)|refine w5 _ rfl ?_|refine w6 rfl ?_|refine w7 mixed rfl ?_|refine check_c p hl hd hD ?_)
  all_goals first | exact absurd ‹checkP p = 0› h0 | skip
  conv=>whnf
  exact FinP.drop (n:=0) rfl (w21 0) rfl rfl ⟨rfl,congrArg I (if_neg h0).symm⟩
structure PlanR where
 l : Lst
 sp : Nat
 e : Int
def Sr.sp : Sr → Nat
 | .go sp _=>sp
 | .stop _ sp _=>sp
def Sr.fs : Sr → List Lst
 | .go _ fs=>fs
 | .stop _ _ fs=>fs
def Sr.e : Sr → Int
 | .go _ _=>0
 | .stop e _ _=>e
theorem Sr.out_of {U : List Lst → List Blk} {k : V → List Blk → Prop} (o : Sr) (h : k (.tup [I o.sp,I o.e]) (U o.fs)) : o.out U k:=by cases o <;> exact h
def runP (p : Pl) (most : Int) (all : Bool) : Sr:=examP p most.toNat all (fuelN p) [] 0 []
def planF (p : Pl) (most : Int) : PlanR := if argE p most = 0 then (match (runP p most false).fs.getLast? with
    | some l=>⟨l,(runP p most false).sp,0⟩
    | none=>⟨[],0,if (runP p most false).e = 0 then 320 else (runP p most false).e⟩) else ⟨[],0,argE p most⟩
theorem argE_zero {p : Pl} {most : Int} (h : argE p most = 0) : checkP p = 0 ∧ 0 ≤ most ∧ most ≤ 1073741824:=by
 unfold argE at h
 split at h
 ·split at h
  ·cases h
  ·exact ⟨‹_›,by omega,by omega⟩
 ·exact absurd h ‹_›
theorem plan_c (p : Pl) (most : Int) (hs0 : Small [] p) (h : k (.tup [lisV (planF p most).l,I (planF p most).sp,I (planF p most).e]) L) : CallP C 13 [plV p,I most] L k:=by
 have hD:=hs0.hD
 refine CallP.pure ?_ rfl (fun _=>rfl) h
 clear h
 refine callP_of C_ok Tryz.func13 rfl rfl (n:=_) rfl (w18 rfl) (rs:=_) rfl ?_
 by_cases hA : argE p most = 0
 ·obtain ⟨h0,hm1,hm2⟩:=argE_zero hA
  have hlen : 1 ≤ p.clubs.length ∧ p.clubs.length ≤ 1000:=by
   have hf:=checkP_field h0
   simp only [fieldOk,Bool.and_eq_true,decide_eq_true_eq] at hf; omega
  obtain ⟨bud,hbud⟩ : ∃ bud : Nat,most = (bud : Int):=⟨most.toNat,by omega⟩
  subst hbud
  repeat' ((conv=>whnf); first|refine pcheck_c p bud hs0.hc hs0.hd (by omega) ?_|refine w3 ?_|refine w8 (w19 hA) ?_|refine newPlan_c p hlen ?_|refine w0 ?_|refine w1 ?_|refine w2 (fun h=>?_) (fun h=>?_)|refine w3 ?_|refine w4 (fun h=>?_) (fun h=>?_)|refine w5 _ rfl ?_|refine w6 rfl ?_|refine w7 mixed rfl ?_)
  conv=>whnf
  refine CallP.cnv (args':=[.d (.rptr (planD p)),I bud,.fn 39 [.ptr 1 0,.ptr 2 0]]) (L':=planU p []) rfl rfl ?_
  refine search_c p bud false _ _ 3 (planU p) (plan_hand p) h0 hs0 (by omega) ?_
  refine Sr.out_of (runP p bud false) ?_
  unfold planF
  rw [if_pos hA]
  generalize runP p bud false = o
  cases hg : o.fs.getLast? with
  | some l =>
   have hU : planU p o.fs = [.cells (p.cells.map .d),.cells [.d (lisD l)],.cells [B true]]:=by unfold planU; rw [hg]; rfl
   generalize planU p o.fs = M at hU ⊢
   subst hU
   repeat' ((conv=>whnf); first|refine w0 ?_|refine w1 ?_|refine w2 (fun h=>?_) (fun h=>?_)|refine w3 ?_|refine w4 (fun h=>?_) (fun h=>?_)|refine w5 _ rfl ?_|refine w6 rfl ?_|refine w7 mixed rfl ?_)
   conv=>whnf
   exact FinP.data (L':=[]) (.triple (.aggL (.cons (.d _) .nil)) (.d (.d _)) (.d (.d _))) rfl rfl ⟨rfl,rfl⟩
  | none =>
   have hU : planU p o.fs = [.cells (p.cells.map .d),.cells [.nil],.cells [B false]]:=by unfold planU; rw [hg]; rfl
   generalize planU p o.fs = M at hU ⊢
   subst hU
   repeat' ((conv=>whnf); first|refine w0 ?_|refine w1 ?_|refine w2 (fun h=>?_) (fun h=>?_)|refine w3 ?_|refine w4 (fun h=>?_) (fun h=>?_)|refine w5 _ rfl ?_|refine w6 rfl ?_|refine w7 mixed rfl ?_)
   all_goals conv=>whnf
   all_goals
    refine w16 (L':=[]) (.triple (.aggL (.cons .nil .nil)) (.d (.d _)) (.d (.d _))) rfl rfl ⟨rfl,?_⟩
    show V.tup [lisV [],I 0,I _] = V.tup [lisV [],I 0,I (if o.e = 0 then 320 else o.e)]
    first
    | rw [if_pos ‹_›]
    | rw [if_neg ‹_›]
 ·repeat' (conv => whnf
           first|refine pcheck_c p most hs0.hc hs0.hd (by omega) ?_|refine w3 ?_|refine w9 (w20 hA) ?_|refine w0 ?_|refine w1 ?_|refine w2 (fun h=>?_) (fun h=>?_)|refine w3 ?_|refine w4 (fun h=>?_) (fun h=>?_)|refine w5 _ rfl ?_|refine w6 rfl ?_|refine w7 mixed rfl ?_)
  conv=>whnf
  refine w16 (L':=[]) (.triple (.aggL (.cons .nil .nil)) (.d (.d _)) (.d (.d _))) rfl rfl ⟨rfl,?_⟩
  unfold planF; rw [if_neg hA]; rfl
end Go.Proofs.YtndlggbljkhfbaaGreat
namespace Go.Proofs.YtndlggbljkhfbaaGreat
open Go.Tidy
variable {L : List Blk} {k : V → List Blk → Prop}
theorem ext_eq {l : Lst} {p : Pl} (h : (nxR l p).2.2 = true) (m : Mt) : extR l p m = extL l p m:=by
 unfold extR extL nxR at *
 rcases openR_spec l p with ⟨h1,h2⟩ | ⟨h1,r,h2,h3,h4,h5⟩
 ·rw [h1] at h ⊢
  simp only [Bool.true_eq_false,if_false] at h ⊢
  split at h
  ·rename_i hlt; rw [if_pos hlt,h2]; simp
  ·cases h
 ·rw [if_pos h1,h1]; rfl
end Go.Proofs.YtndlggbljkhfbaaGreat
namespace Go.Proofs.YtndlggbljkhfbaaGreat
open Go.Tidy
variable {L : List Blk} {k : V → List Blk → Prop}
end Go.Proofs.YtndlggbljkhfbaaGreat
namespace Go.Proofs.YtndlggbljkhfbaaGreat
open Go.Tidy
variable {L : List Blk} {k : V → List Blk → Prop}
theorem fvalid_c (l : List Int) (hl : l.length ≤ 4611686018427387904) (h : k (B (fieldOk l 2)) L) : CallP C 108 [.d (ints l)] L k:=by
 refine CallP.pure ?_ rfl (fun _=>rfl) h
 clear h
 refine callP_of C_ok Tryz.func108 rfl rfl (n:=_) rfl (w18 rfl) (rs:=_) rfl ?_
 by_cases hsz : 2 ≤ l.length ∧ l.length ≤ 24
 ·have e1 : ¬ ((l.map fun c=>[DI c]).length : Int) < 2:=by rw [List.length_map]; omega
  have e2 : ¬ (24 : Int) < ((l.map fun c=>[DI c]).length : Int):=by rw [List.length_map]; omega
  repeat' ((conv=>whnf); first|refine w9 (w20 e1) ?_|refine w9 (w20 e2) ?_|refine w0 ?_|refine w1 ?_|refine w2 (fun h=>?_) (fun h=>?_)|refine w3 ?_|refine w4 (fun h=>?_) (fun h=>?_)|refine w5 _ rfl ?_|refine w6 rfl ?_|refine w7 mixed rfl ?_)
  conv=>whnf
  refine LoopP.intro (ι:=FarOk l) (fun s=>⟨[(0,.d (ints l)),(13,.d (ints l)),(14,I l.length),(15,I s.i)],Tryz.f108.ntmps,[],[],none⟩) (fun s=>l.length - s.i) (FarOk.zero l) ?_ ?_
  ·exact Weak.forget ⟨rfl,rfl,congrArg I (by simp),rfl,trivial⟩
  intro s
  conv=>whnf
  refine w2 (fun h=>?_) (fun h=>?_)
  ·have hi : s.i < l.length:=by simpa using h
   conv=>whnf
   refine w11 s.i rfl hi ?_
   repeat' ((conv=>whnf); first|refine w0 ?_|refine w1 ?_|refine w2 (fun h=>?_) (fun h=>?_)|refine w3 ?_|refine w4 (fun h=>?_) (fun h=>?_)|refine w5 _ rfl ?_|refine w6 rfl ?_|refine w7 mixed rfl ?_|refine w11 (s.i - 1) (by rw [wrap_id] <;> omega) (by omega) ?_|refine w15 (n:=0) rfl (w21 0) rfl rfl ⟨rfl,congrArg B ?_⟩)
   ·exact fieldOk_no (j:=s.i) fun ho=>by have:=((okAt_at hi).1 ho).1; omega
   ·exact fieldOk_no (j:=s.i) fun ho=>by have:=((okAt_at hi).1 ho).1; omega
   ·rename_i h0 h2
    exact fieldOk_no (j:=s.i) fun ho=>by have:=((okAt_at hi).1 ho).2 (by omega); omega
   ·rename_i h3 h2 h1 h0
    exact ⟨s.next hi ((okAt_at hi).2 ⟨by omega,fun _=>by omega⟩),by simp only [FarOk.next]; omega,Weak.by ⟨rfl,rfl,rfl,congrArg I (by rw [wrap_id] <;> (try simp only [FarOk.next]) <;> omega),trivial⟩⟩
   ·rename_i h2 h1 h0
    exact ⟨s.next hi ((okAt_at hi).2 ⟨by omega,fun _=>by omega⟩),by simp only [FarOk.next]; omega,Weak.by ⟨rfl,rfl,rfl,congrArg I (by rw [wrap_id] <;> (try simp only [FarOk.next]) <;> omega),trivial⟩⟩
  ·have hi : ¬ s.i < l.length:=by simpa using h
   have hin:=s.all hi
   repeat' ((conv=>whnf); first|refine w0 ?_|refine w1 ?_|refine w2 (fun h=>?_) (fun h=>?_)|refine w3 ?_|refine w4 (fun h=>?_) (fun h=>?_)|refine w5 _ rfl ?_|refine w6 rfl ?_|refine w7 mixed rfl ?_)
   conv=>whnf
   refine w15 (n:=0) rfl (w21 0) rfl rfl ⟨rfl,congrArg B ?_⟩
   simp [fieldOk,hin]; omega
 ·have hno : fieldOk l 2 = false:=by
   simp only [fieldOk,Bool.and_eq_false_iff,decide_eq_false_iff_not]; omega
  rw [hno]
  repeat' ((conv=>whnf); first|refine w0 ?_|refine w1 ?_|refine w2 (fun h=>?_) (fun h=>?_)|refine w3 ?_|refine w4 (fun h=>?_) (fun h=>?_)|refine w5 _ rfl ?_|refine w6 rfl ?_|refine w7 mixed rfl ?_)
  all_goals conv=>whnf
  all_goals first
   | exact FinP.drop (n:=0) rfl (w21 0) rfl rfl ⟨rfl,rfl⟩
   | (exfalso; simp only [List.length_map] at *; omega)
@[irreducible] def bsA (ks : List Int) : List V:=(List.range 192).map fun i : Nat=>B (decide ((i : Int) ∈ ks))
theorem bsA_len (ks : List Int) : (bsA ks).length = 192:=by unfold bsA; simp
theorem bsA_nil : bsA [] = List.replicate 192 (B false):=by
 unfold bsA
 simp only [List.not_mem_nil,decide_false]
 rw [List.map_const']; simp
theorem bsA_at (ks : List Int) {h : Nat} (hh : h < 192) : (bsA ks)[h]? = some (B (decide ((h : Int) ∈ ks))):=by
 unfold bsA; rw [List.getElem?_map,List.getElem?_eq_getElem (by rw [List.length_range]; exact hh),List.getElem_range]; rfl
theorem bsA_get (ks : List Int) {h : Nat} (hh : h < 192) : ((bsA ks).drop (0 + h * 1)).take 1 = [B (decide ((h : Int) ∈ ks))]:=by
 have e:=bsA_at ks hh
 rw [Nat.zero_add,Nat.mul_one]
 have hl : h < (bsA ks).length:=by rw [bsA_len]; exact hh
 rw [List.drop_eq_getElem_cons hl]
 rw [List.getElem?_eq_getElem hl] at e
 rw [Option.some.inj e]; rfl
theorem bsA_set (ks : List Int) {h : Nat} (hh : h < 192) : setCells (bsA ks) (0 + h * 1) [B true] = bsA (ks ++ [(h : Int)]):=by
 rw [Nat.zero_add,Nat.mul_one,setCells_eq]
 have e : ∀ (l : List V),h < l.length → l.take h ++ [B true] ++ l.drop (h + 1) = l.set h (B true):=fun l hl=>by rw [List.set_eq_take_append_cons_drop,if_pos hl]; simp
 show (bsA ks).take h ++ [B true] ++ (bsA ks).drop (h + 1) = _
 rw [e _ (by rw [bsA_len]; exact hh)]
 apply List.ext_getElem?
 intro i
 rw [List.getElem?_set,bsA_len]
 by_cases hi : i < 192
 ·rw [bsA_at _ hi,bsA_at _ hi]
  by_cases e : h = i
  ·subst e; rw [if_pos rfl,if_pos hh]; simp
  ·rw [if_neg e]
   refine congrArg (fun b=>some (B b)) ?_
   rw [decide_eq_decide]
   simp only [List.mem_append,List.mem_singleton]
   constructor
   ·exact .inl
   ·rintro (h | h)
    ·exact h
    ·omega
 ·have e1 : (bsA ks)[i]? = none:=List.getElem?_eq_none (by rw [bsA_len]; omega)
  have e2 : (bsA (ks ++ [(h : Int)]))[i]? = none:=List.getElem?_eq_none (by rw [bsA_len]; omega)
  rw [e1,e2,if_neg (by omega)]
theorem bsA_put (ks : List Int) {h : Nat} (hh : h < 192) : setCells (bsA ks) (0 + h * 1) (cellsOf (V.d (D.bool true))) = bsA (ks ++ [(h : Int)]):=bsA_set ks hh
theorem bsA_bel (n : Nat) (ks : List Int) : V.belL n (bsA ks) = true:=by
 unfold bsA
 generalize List.range 192 = r
 induction r with
 | nil=>rfl
 | cons a r ih=>simp only [List.map_cons,V.belL,V.bel,Bool.true_and]; exact ih
theorem ble_192 {h : Nat} (hh : h < 192) : Nat.ble (0 + h * 1 + 1) 192 = true:=Nat.ble_eq_true_of_le (by omega)
def OkX (cs : List Int) (met r : List Mt) (k : Nat) (hk : k < r.length) : Prop :=
 r[k].home ≠ r[k].away ∧ r[k] ∉ met ++ r.take k ∧ r[k].home ∈ cs ∧ r[k].away ∈ cs ∧ r[k].home ∉ busyL (r.take k) ∧ r[k].away ∉ busyL (r.take k)
def FixP (l : List (List Mt)) (cs : List Int) : Prop:=∀ (i : Nat) (hi : i < l.length) (k : Nat) (hk : k < l[i].length),OkX cs (l.take i).flatten l[i] k hk
open Classical in
noncomputable def fixE (l : List (List Mt)) (cs : List Int) : Int:=if fieldOk cs 2 = true then (if l.length ≤ 46 then (if FixP l cs then 0 else 300) else 2) else 1
def MatK (l : List (List Mt)) (cs : List Int) (X : V) (L : List Blk) : Prop :=
 (fixE l cs ≠ 0 ∧ X = .tup [.d .nilmap,I (fixE l cs)] ∧ L = []) ∨ (fixE l cs = 0 ∧ X = .tup [.map 0,I 0] ∧ L = [.map (esM l.flatten)])
theorem field_192 {cs : List Int} (h : fieldOk cs 2 = true) {c : Int} (hc : c ∈ cs) : ∃ n : Nat,c = (n : Int) ∧ n < 192:=by
 simp only [fieldOk,Bool.and_eq_true] at h
 obtain ⟨j,hj,rfl⟩:=List.getElem_of_mem hc
 obtain ⟨h1,h2⟩:=((okAt_at hj).1 ((incr_iff cs).1 h.1.1 j)).1
 exact ⟨(cs[j]).toNat,by omega,by omega⟩
theorem esM_rn (ρ : Nat → Nat) (ks : List Mt) : (Blk.map (esM ks)).rn ρ = .map (esM ks):=by
 rw [Blk.rn]
 refine congrArg Blk.map ?_
 induction ks with
 | nil=>rfl
 | cons a ks ih=>unfold esM at ih ⊢; rw [List.map_cons,rnM,ih]; rfl
def xL (l : List (List Mt)) (i : Nat) : List Blk:=[.cells [.d (lisD l)],.map (esM (l.take i).flatten)]
def yL (l : List (List Mt)) (i : Nat) (r : List Mt) (k : Nat) : List Blk:=[.cells [.d (lisD l)],.map (esM ((l.take i).flatten ++ r.take k)),.cells (bsA (busyL (r.take k)))]
theorem xL_bel (n : Nat) (l : List (List Mt)) (i : Nat) : belB n (xL l i) = true:=by
 show (true && (belM n (esM (l.take i).flatten) && true)) = true
 rw [esM_bel]; rfl
theorem yL_bel (n : Nat) (l : List (List Mt)) (i : Nat) (r : List Mt) (k : Nat) : belB n (yL l i r k) = true:=by
 show (true && (belM n (esM ((l.take i).flatten ++ r.take k)) && (V.belL n (bsA (busyL (r.take k))) && true))) = true
 rw [esM_bel,bsA_bel]; rfl
theorem matches_c (l : List (List Mt)) (cs : List Int) (hl : l.length ≤ 1073741824) (hr : ∀ r ∈ l,r.length ≤ 4611686018427387904) (hcs : cs.length ≤ 4611686018427387904) :
  CallP C 51 [lisV l,.d (ints cs)] [] (MatK l cs):=by
 refine callP_of C_ok Tryz.func51 rfl rfl (n:=_) rfl (w18 rfl) (rs:=_) rfl ?_
 cases hv : fieldOk cs 2 with
 | false =>
  have e : fixE l cs = 1:=by unfold fixE; rw [if_neg (by rw [hv]; decide)]
  repeat' ((conv=>whnf); first|refine fvalid_c cs hcs ?_|refine w9 hv ?_|refine w0 ?_|refine w1 ?_|refine w2 (fun h=>?_) (fun h=>?_)|refine w3 ?_|refine w4 (fun h=>?_) (fun h=>?_)|refine w5 _ rfl ?_|refine w6 rfl ?_|refine w7 mixed rfl ?_)
  conv=>whnf
  exact FinP.drop (n:=0) rfl (Nat.le_refl 0) rfl rfl (.inl ⟨by rw [e]; decide,Eq.trans (b:=V.tup [.d .nilmap,I 1]) rfl (by rw [e]),rfl⟩)
 | true =>
  by_cases hl46 : l.length ≤ 46
  ·have h46 : ¬ (46 : Int) < ((l.map fun r=>[mts r]).length : Int):=by rw [List.length_map]; omega
   repeat' ((conv=>whnf); first|refine fvalid_c cs hcs ?_|refine w8 hv ?_|refine w9 (w20 h46) ?_|refine w0 ?_|refine w1 ?_|refine w2 (fun h=>?_) (fun h=>?_)|refine w3 ?_|refine w4 (fun h=>?_) (fun h=>?_)|refine w5 _ rfl ?_|refine w6 rfl ?_|refine w7 mixed rfl ?_)
   conv=>whnf
   have hfail : ∀ (i : Nat) (hi : i < l.length) (k : Nat) (hk : k < l[i].length),¬ OkX cs (l.take i).flatten l[i] k hk → fixE l cs = 300:=fun i hi k hk h=>by
    unfold fixE; rw [if_pos hv,if_pos hl46,if_neg fun hf=>h (hf i hi k hk)]
   refine LoopP.inv (fun i=>i ≤ l.length ∧ ∀ (j : Nat) (hj : j < l.length),j < i → ∀ (k : Nat) (hk : k < l[j].length),OkX cs (l.take j).flatten l[j] k hk) (fun i=>⟨[(1,.d (ints cs)),(2,.ptr 0 0),(4,.map 1),(20,.d (.sl (l.map fun r=>[mts r]))),(21,I l.length),(22,I i)],Tryz.f51.ntmps,xL l i,[],none⟩) (fun i=>l.length - i) 0 ⟨w22 _,fun j _ h=>absurd h (Nat.not_lt_zero j)⟩ ?_ ?_
   ·exact Weak.by ⟨rfl,rfl,rfl,rfl,congrArg I (by simp),rfl,trivial⟩
   rintro i ⟨hi,hok⟩
   by_cases hi' : i < l.length
   ·obtain ⟨r,hr1⟩ : ∃ r,r = l[i]:=⟨_,rfl⟩
    have hrl : r.length ≤ 4611686018427387904:=hr r (hr1 ▸ List.getElem_mem hi')
    have hlt : (i : Int) < (l.length : Int):=by omega
    have hw : IntKind.i64.wrap ((i : Int) + 1) = ((i + 1 : Nat) : Int):=by rw [wrap_in (by omega)]; omega
    have r1 : (l.map fun r=>[mts r])[i]? = some [mts r]:=by rw [List.getElem?_map,List.getElem?_eq_getElem hi',← hr1]; rfl
    repeat' ((conv=>whnf); first|refine w8 (w19 hlt) ?_|refine w10 i _ rfl r1 ?_|refine w0 ?_|refine w1 ?_|refine w2 (fun h=>?_) (fun h=>?_)|refine w3 ?_|refine w4 (fun h=>?_) (fun h=>?_)|refine w5 _ rfl ?_|refine w6 rfl ?_|refine w7 mixed rfl ?_)
    conv=>whnf
    refine LoopP.inv (fun k=>k ≤ r.length ∧ ∀ (j : Nat) (hj : j < r.length),j < k → OkX cs (l.take i).flatten r j hj) (fun k=>⟨[(1,.d (ints cs)),(2,.ptr 0 0),(4,.map 1),(20,.d (.sl (l.map fun r=>[mts r]))),(21,I l.length),(22,I i),(8,.ptr 2 0),(26,.d (mts r)),(27,I r.length),(28,I k)],Tryz.f51.ntmps,yL l i r k,[],none⟩) (fun k=>r.length - k) 0 ⟨w22 _,fun j _ h=>absurd h (Nat.not_lt_zero j)⟩ ?_ ?_
    ·exact Weak.by ⟨rfl,rfl,rfl,rfl,rfl,rfl,rfl,rfl,congrArg I (by simp),rfl,trivial⟩ (hL:=by unfold yL; rw [List.take_zero,List.append_nil]; show _ = [_,_,Blk.cells (bsA [])]; rw [bsA_nil]; rfl)
    rintro kk ⟨hk,hkok⟩
    by_cases hk' : kk < r.length
    ·have hlt2 : (kk : Int) < (r.length : Int):=by omega
     have hw2 : IntKind.i64.wrap ((kk : Int) + 1) = ((kk + 1 : Nat) : Int):=by rw [wrap_in (by omega)]; omega
     obtain ⟨m,hm⟩ : ∃ m,m = r[kk]:=⟨_,rfl⟩
     have r2 : (r.map Mt.cells)[kk]? = some m.cells:=by rw [List.getElem?_map,List.getElem?_eq_getElem hk',hm]; rfl
     have hfl : ¬ OkX cs (l.take i).flatten r kk hk' → fixE l cs = 300:=by subst hr1; exact hfail i hi' kk hk'
     have hO : (m.home ≠ m.away ∧ m ∉ (l.take i).flatten ++ r.take kk ∧ m.home ∈ cs ∧ m.away ∈ cs ∧ m.home ∉ busyL (r.take kk) ∧ m.away ∉ busyL (r.take kk)) ↔ OkX cs (l.take i).flatten r kk hk':=by subst hm; exact Iff.rfl
     have q1t : m.home = m.away → (decide (m.home = m.away) && (decide (m.away = m.home) && true)) = true:=fun h=>by simp [h]
     have q1f : m.home ≠ m.away → (decide (m.home = m.away) && (decide (m.away = m.home) && true)) = false:=fun h=>by simp [h]
     have cT : ∀ c,c ∈ cs → cs.contains c = true:=fun c h=>List.contains_iff_mem.2 h
     have cF : ∀ c,c ∉ cs → cs.contains c = false:=fun c h=>by
      cases e : cs.contains c with
      | false=>rfl
      | true=>exact absurd (List.contains_iff_mem.1 e) h
     by_cases c1 : m.home = m.away
     ·have e:=hfl fun h=>(hO.2 h).1 c1
      repeat' ((conv=>whnf); first|refine w8 (w19 hlt2) ?_|refine w10 kk _ rfl r2 ?_|refine w8 (q1t c1) ?_|refine w0 ?_|refine w1 ?_|refine w2 (fun h=>?_) (fun h=>?_)|refine w3 ?_|refine w4 (fun h=>?_) (fun h=>?_)|refine w5 _ rfl ?_|refine w6 rfl ?_|refine w7 mixed rfl ?_)
      all_goals conv=>whnf
      all_goals exact FinP.drop (n:=0) rfl (Nat.le_refl 0) rfl rfl (.inl ⟨by rw [e]; decide,Eq.trans (b:=V.tup [.d .nilmap,I 300]) rfl (by rw [e]),rfl⟩)
     by_cases c2 : m ∈ (l.take i).flatten ++ r.take kk
     ·have e:=hfl fun h=>(hO.2 h).2.1 c2
      repeat' ((conv=>whnf); first|refine w8 (w19 hlt2) ?_|refine w10 kk _ rfl r2 ?_|refine w9 (q1f c1) ?_|refine MapF.memM ((l.take i).flatten ++ r.take kk) m (fun h j=>?_) (fun h=>absurd c2 h)|refine w0 ?_|refine w1 ?_|refine w2 (fun h=>?_) (fun h=>?_)|refine w3 ?_|refine w4 (fun h=>?_) (fun h=>?_)|refine w5 _ rfl ?_|refine w6 rfl ?_|refine w7 mixed rfl ?_)
      all_goals conv=>whnf
      all_goals exact FinP.drop (n:=0) rfl (Nat.le_refl 0) rfl rfl (.inl ⟨by rw [e]; decide,Eq.trans (b:=V.tup [.d .nilmap,I 300]) rfl (by rw [e]),rfl⟩)
     by_cases c3 : m.home ∈ cs
     rotate_left
     ·have e:=hfl fun h=>c3 (hO.2 h).2.2.1
      repeat' ((conv=>whnf); first|refine w8 (w19 hlt2) ?_|refine w10 kk _ rfl r2 ?_|refine w9 (q1f c1) ?_|refine MapF.memM ((l.take i).flatten ++ r.take kk) m (fun h=>absurd h c2) (fun h=>?_)|refine contains_c cs _ hcs ?_|refine w9 (cF _ c3) ?_|refine w0 ?_|refine w1 ?_|refine w2 (fun h=>?_) (fun h=>?_)|refine w3 ?_|refine w4 (fun h=>?_) (fun h=>?_)|refine w5 _ rfl ?_|refine w6 rfl ?_|refine w7 mixed rfl ?_)
      all_goals conv=>whnf
      all_goals exact FinP.drop (n:=0) rfl (Nat.le_refl 0) rfl rfl (.inl ⟨by rw [e]; decide,Eq.trans (b:=V.tup [.d .nilmap,I 300]) rfl (by rw [e]),rfl⟩)
     by_cases c4 : m.away ∈ cs
     rotate_left
     ·have e:=hfl fun h=>c4 (hO.2 h).2.2.2.1
      repeat' ((conv=>whnf); first|refine w8 (w19 hlt2) ?_|refine w10 kk _ rfl r2 ?_|refine w9 (q1f c1) ?_|refine MapF.memM ((l.take i).flatten ++ r.take kk) m (fun h=>absurd h c2) (fun h=>?_)|refine contains_c cs _ hcs ?_|refine w8 (cT _ c3) ?_|refine w9 (cF _ c4) ?_|refine w0 ?_|refine w1 ?_|refine w2 (fun h=>?_) (fun h=>?_)|refine w3 ?_|refine w4 (fun h=>?_) (fun h=>?_)|refine w5 _ rfl ?_|refine w6 rfl ?_|refine w7 mixed rfl ?_)
      all_goals conv=>whnf
      all_goals exact FinP.drop (n:=0) rfl (Nat.le_refl 0) rfl rfl (.inl ⟨by rw [e]; decide,Eq.trans (b:=V.tup [.d .nilmap,I 300]) rfl (by rw [e]),rfl⟩)
     obtain ⟨hn,ehn,bhn⟩:=field_192 hv c3
     obtain ⟨an,ean,ban⟩:=field_192 hv c4
     by_cases c5 : (hn : Int) ∈ busyL (r.take kk)
     ·have e:=hfl fun h=>(hO.2 h).2.2.2.2.1 (by rw [ehn]; exact c5)
      repeat' ((conv=>whnf); first|refine w8 (w19 hlt2) ?_|refine w10 kk _ rfl r2 ?_|refine w9 (q1f c1) ?_|refine MapF.memM ((l.take i).flatten ++ r.take kk) m (fun h=>absurd h c2) (fun h=>?_)|refine contains_c cs _ hcs ?_|refine w8 (cT _ c3) ?_|refine w8 (cT _ c4) ?_|refine IdxN.intro hn ehn bhn ?_|refine IdxN.intro an ean ban ?_|simp only [bsA_len,ble_192 bhn,ble_192 ban,bsA_get _ bhn,bsA_get _ ban]|refine w8 (w19 c5) ?_|refine w0 ?_|refine w1 ?_|refine w2 (fun h=>?_) (fun h=>?_)|refine w3 ?_|refine w4 (fun h=>?_) (fun h=>?_)|refine w5 _ rfl ?_|refine w6 rfl ?_|refine w7 mixed rfl ?_)
      all_goals conv=>whnf
      all_goals exact FinP.drop (n:=0) rfl (Nat.le_refl 0) rfl rfl (.inl ⟨by rw [e]; decide,Eq.trans (b:=V.tup [.d .nilmap,I 300]) rfl (by rw [e]),rfl⟩)
     by_cases c6 : (an : Int) ∈ busyL (r.take kk)
     ·have e:=hfl fun h=>(hO.2 h).2.2.2.2.2 (by rw [ean]; exact c6)
      repeat' ((conv=>whnf); first|refine w8 (w19 hlt2) ?_|refine w10 kk _ rfl r2 ?_|refine w9 (q1f c1) ?_|refine MapF.memM ((l.take i).flatten ++ r.take kk) m (fun h=>absurd h c2) (fun h=>?_)|refine contains_c cs _ hcs ?_|refine w8 (cT _ c3) ?_|refine w8 (cT _ c4) ?_|refine IdxN.intro hn ehn bhn ?_|refine IdxN.intro an ean ban ?_|simp only [bsA_len,ble_192 bhn,ble_192 ban,bsA_get _ bhn,bsA_get _ ban]|refine w9 (w20 c5) ?_|refine w8 (w19 c6) ?_|refine w0 ?_|refine w1 ?_|refine w2 (fun h=>?_) (fun h=>?_)|refine w3 ?_|refine w4 (fun h=>?_) (fun h=>?_)|refine w5 _ rfl ?_|refine w6 rfl ?_|refine w7 mixed rfl ?_)
      all_goals conv=>whnf
      all_goals exact FinP.drop (n:=0) rfl (Nat.le_refl 0) rfl rfl (.inl ⟨by rw [e]; decide,Eq.trans (b:=V.tup [.d .nilmap,I 300]) rfl (by rw [e]),rfl⟩)
     repeat' ((conv=>whnf); first|refine w8 (w19 hlt2) ?_|refine w10 kk _ rfl r2 ?_|refine w9 (q1f c1) ?_|refine MapF.memM ((l.take i).flatten ++ r.take kk) m (fun h=>absurd h c2) (fun h=>?_)|refine contains_c cs _ hcs ?_|refine w8 (cT _ c3) ?_|refine w8 (cT _ c4) ?_|refine IdxN.intro hn ehn bhn ?_|refine IdxN.intro an ean ban ?_|simp only [bsA_len,ble_192 bhn,ble_192 ban,bsA_get _ bhn,bsA_get _ ban]|refine w9 (w20 c5) ?_|refine w9 (w20 c6) ?_|refine w0 ?_|refine w1 ?_|refine w2 (fun h=>?_) (fun h=>?_)|refine w3 ?_|refine w4 (fun h=>?_) (fun h=>?_)|refine w5 _ rfl ?_|refine w6 rfl ?_|refine w7 mixed rfl ?_)
     have hnext : [Blk.cells [.d (lisD l)],.map (esM ((l.take i).flatten ++ r.take kk) ++ [(mtV m,B true)]),.cells (bsA (busyL (r.take kk) ++ [(hn : Int)] ++ [(an : Int)]))] = yL l i r (kk + 1):=by
      have e1 : ∀ (A : List Mt) (x : Mt),esM (A ++ [x]) = esM A ++ [(mtV x,B true)]:=fun A x=>by unfold esM; rw [List.map_append]; rfl
      have e2 : ∀ (A : List Mt) (x : Mt),busyL (A ++ [x]) = busyL A ++ [x.home] ++ [x.away]:=fun A x=>by unfold busyL; rw [List.flatMap_append,List.append_assoc]; rfl
      unfold yL
      rw [take_next hk',← List.append_assoc,e1,e2,← hm,← ehn,← ean]
     refine DrawP.por mixed [1,3,5] [[(0,0),(2,0),(4,0),(1,2),(3,2),(5,2),(6,0),(7,0),(8,0),(9,0),(10,0)],[(0,0),(2,0),(4,0),(1,2),(3,2),(6,0),(7,1),(5,2),(8,0),(9,0),(10,0)],[(0,0),(2,0),(4,0),(1,2),(3,2),(6,0),(7,1),(8,0),(5,2),(9,0),(10,0)],[(0,0),(2,0),(4,0),(1,2),(5,2),(3,2),(6,0),(7,0),(8,0),(9,0),(10,0)],[(0,0),(2,0),(4,0),(1,2),(5,2),(6,0),(3,2),(7,0),(8,0),(9,0),(10,0)],[(0,0),(2,0),(4,0),(1,2),(6,0),(3,2),(7,1),(5,2),(8,0),(9,0),(10,0)],[(0,0),(2,0),(4,0),(1,2),(6,0),(3,2),(7,1),(8,0),(5,2),(9,0),(10,0)],[(0,0),(2,0),(4,0),(1,2),(6,0),(5,2),(3,2),(7,0),(8,0),(9,0),(10,0)],[(0,0),(2,0),(4,0),(3,2),(1,2),(5,2),(6,0),(7,0),(8,0),(9,0),(10,0)],[(0,0),(2,0),(4,0),(3,2),(1,2),(6,0),(7,1),(5,2),(8,0),(9,0),(10,0)],[(0,0),(2,0),(4,0),(3,2),(1,2),(6,0),(7,1),(8,0),(5,2),(9,0),(10,0)],[(0,0),(2,0),(4,0),(3,2),(5,2),(1,2),(6,0),(7,0),(8,0),(9,0),(10,0)],[(0,0),(2,0),(4,0),(5,2),(1,2),(3,2),(6,0),(7,0),(8,0),(9,0),(10,0)],[(0,0),(2,0),(4,0),(5,2),(1,2),(6,0),(3,2),(7,0),(8,0),(9,0),(10,0)],[(0,0),(2,0),(4,0),(5,2),(3,2),(1,2),(6,0),(7,0),(8,0),(9,0),(10,0)]] (by kernel_rfl) ?_
     conv=>whnf
     refine And.intro ?_ ?_
     rotate_left 1
     conv=>whnf
     refine And.intro ?_ ?_
     rotate_left 1
     conv=>whnf
     refine And.intro ?_ ?_
     rotate_left 1
     conv=>whnf
     refine And.intro ?_ ?_
     rotate_left 1
     conv=>whnf
     refine And.intro ?_ ?_
     rotate_left 1
     conv=>whnf
     refine And.intro ?_ ?_
     rotate_left 1
     conv=>whnf
     refine And.intro ?_ ?_
     rotate_left 1
     conv=>whnf
     refine And.intro ?_ ?_
     rotate_left 1
     conv=>whnf
     refine And.intro ?_ ?_
     rotate_left 1
     conv=>whnf
     refine And.intro ?_ ?_
     rotate_left 1
     conv=>whnf
     refine And.intro ?_ ?_
     rotate_left 1
     conv=>whnf
     refine And.intro ?_ ?_
     rotate_left 1
     conv=>whnf
     refine And.intro ?_ ?_
     rotate_left 1
     conv=>whnf
     refine And.intro ?_ ?_
     all_goals
      repeat' ((conv=>whnf); first|refine w13 (mtV m) _ ⟨rfl,rfl⟩ ?_|refine w13 (I m.home) _ ⟨rfl,rfl⟩ ?_|refine w13 (I m.away) _ ⟨rfl,rfl⟩ ?_|refine MapF.memM ((l.take i).flatten ++ r.take kk) m (fun h=>absurd h c2) (fun _=>?_)|refine IdxN.intro hn ehn bhn ?_|refine IdxN.intro an ean ban ?_|simp only [bsA_len,ble_192 bhn,ble_192 ban,bsA_put _ bhn,bsA_put _ ban]|refine w0 ?_|refine w1 ?_|refine w2 (fun h=>?_) (fun h=>?_)|refine w3 ?_|refine w4 (fun h=>?_) (fun h=>?_)|refine w5 _ rfl ?_|refine w6 rfl ?_|refine w7 mixed rfl ?_)
     all_goals conv=>whnf
     all_goals exact ⟨kk + 1,⟨hk',fun j hj hji=>by
      by_cases e : j = kk
      ·subst e; exact hO.1 ⟨c1,c2,c3,c4,fun h=>c5 (by rw [← ehn]; exact h),fun h=>c6 (by rw [← ean]; exact h)⟩
      ·exact hkok j hj (by omega)⟩,by omega,Weak.to 3 (Eq.trans rfl hnext) (w22 _) (w18 rfl) ⟨rfl,rfl,rfl,rfl,rfl,rfl,rfl,rfl,rfl,congrArg I hw2,trivial⟩ (hB:=yL_bel 3 l _ _ _)⟩
    ·have hlt2 : ¬ (kk : Int) < (r.length : Int):=by omega
     have hkr : r.take kk = r:=List.take_of_length_le (by omega)
     repeat' ((conv=>whnf); first|refine w9 (w20 hlt2) ?_|refine w0 ?_|refine w1 ?_|refine w2 (fun h=>?_) (fun h=>?_)|refine w3 ?_|refine w4 (fun h=>?_) (fun h=>?_)|refine w5 _ rfl ?_|refine w6 rfl ?_|refine w7 mixed rfl ?_)
     conv=>whnf
     have hfx : (l.take (i + 1)).flatten = (l.take i).flatten ++ r:=by rw [take_next hi',List.flatten_append,← hr1]; simp
     exact ⟨i + 1,⟨hi',fun j hj hji=>by
      by_cases e : j = i
      ·subst e; intro k hk3; subst hr1; exact hkok k hk3 (by omega)
      ·exact hok j hj (by omega)⟩,by omega,Weak.to 2 (Eq.trans (b:=[Blk.cells [.d (lisD l)],.map (esM ((l.take i).flatten ++ r.take kk))]) rfl (by rw [hkr,← hfx]; rfl)) (Nat.zero_le _) (Nat.le_of_ble_eq_true rfl) ⟨rfl,rfl,rfl,rfl,rfl,congrArg I hw,trivial⟩ (hB:=xL_bel 2 l _)⟩
   ·have hlt : ¬ (i : Int) < (l.length : Int):=by omega
    have e : fixE l cs = 0:=by
     unfold fixE; rw [if_pos hv,if_pos hl46,if_pos (show FixP l cs from fun j hj k hk=>hok j hj (by omega) k hk)]
    repeat' ((conv=>whnf); first|refine w9 (w20 hlt) ?_|refine w0 ?_|refine w1 ?_|refine w2 (fun h=>?_) (fun h=>?_)|refine w3 ?_|refine w4 (fun h=>?_) (fun h=>?_)|refine w5 _ rfl ?_|refine w6 rfl ?_|refine w7 mixed rfl ?_)
    conv=>whnf
    have ht : l.take i = l:=List.take_of_length_le (by omega)
    refine FinP.part [1] [.map (esM (l.take i).flatten)] (Part.one rfl (esM_rn _ _) (esM_bel _ _) rfl) (fun b hb=>absurd hb (Nat.not_lt_zero b)) (X':=.tup [.map 0,I 0]) rfl rfl (.inr ⟨e,rfl,by rw [ht]⟩)
  ·have e : fixE l cs = 2:=by unfold fixE; rw [if_pos hv,if_neg hl46]
   have h46 : (46 : Int) < ((l.map fun r=>[mts r]).length : Int):=by rw [List.length_map]; omega
   repeat' ((conv=>whnf); first|refine fvalid_c cs hcs ?_|refine w8 hv ?_|refine w8 (w19 h46) ?_|refine w0 ?_|refine w1 ?_|refine w2 (fun h=>?_) (fun h=>?_)|refine w3 ?_|refine w4 (fun h=>?_) (fun h=>?_)|refine w5 _ rfl ?_|refine w6 rfl ?_|refine w7 mixed rfl ?_)
   conv=>whnf
   exact FinP.drop (n:=0) rfl (Nat.le_refl 0) rfl rfl (.inl ⟨by rw [e]; decide,Eq.trans (b:=V.tup [.d .nilmap,I 2]) rfl (by rw [e]),rfl⟩)
end Go.Proofs.YtndlggbljkhfbaaGreat
namespace Go.Proofs.YtndlggbljkhfbaaGreat
open Go.Tidy
variable {L : List Blk} {k : V → List Blk → Prop}
def backM (m : Mt) : Mt:=⟨m.away,m.home⟩
end Go.Proofs.YtndlggbljkhfbaaGreat
namespace Go.Proofs.YtndlggbljkhfbaaGreat
open Go.Tidy
variable {L : List Blk} {k : V → List Blk → Prop}
def GamesP (met : List Mt) (dbl : Bool) (a b : Int) : Prop:=if dbl = true then (⟨a,b⟩ : Mt) ∈ met ∧ (⟨b,a⟩ : Mt) ∈ met else ((⟨a,b⟩ : Mt) ∈ met ↔ (⟨b,a⟩ : Mt) ∉ met)
def FullX (met : List Mt) (cs : List Int) (dbl : Bool) : Prop:=∀ (i : Nat) (hi : i < cs.length) (j : Nat) (hj : j < i),GamesP met dbl cs[i] (cs[j]'(by omega))
open Classical in
noncomputable def fullB (l : List (List Mt)) (cs : List Int) (dbl : Bool) : Bool:=if fixE l cs = 0 ∧ FullX l.flatten cs dbl then true else false
theorem esM_sh (m : Nat) (ks : List Mt) : (Blk.map (esM ks)).sh m = .map (esM ks):=by
 rw [Blk.sh]
 refine congrArg Blk.map ?_
 induction ks with
 | nil=>rfl
 | cons a ks ih=>unfold esM at ih ⊢; rw [List.map_cons,shM,ih]; rfl
theorem lenC (cs : List Int) : ∀ e ∈ cs.map (fun n=>[DI n]),e.length = 1:=by
 intro e he; obtain ⟨x,_,rfl⟩:=List.mem_map.1 he; rfl
def mapS (l : List (List Mt)) : List Blk:=[.cells [.d (lisD l)],.map (esM l.flatten)]
theorem ffull_c (l : List (List Mt)) (cs : List Int) (dbl : Bool) (hl : l.length ≤ 1073741824) (hr : ∀ r ∈ l,r.length ≤ 4611686018427387904) (hcs : cs.length ≤ 4611686018427387904) (h : k (.tup [B (fullB l cs dbl),I (fixE l cs)]) L) :
  CallP C 16 [lisV l,.d (ints cs),B dbl] L k:=by
 refine CallP.pure ?_ rfl (fun _=>rfl) h
 clear h
 refine callP_of C_ok Tryz.func16 rfl rfl (n:=_) rfl (w18 rfl) (rs:=_) rfl ?_
 conv=>whnf
 refine CallP.frame (matches_c l cs hl hr hcs) rfl ?_
 rintro X L' (⟨e,rfl,rfl⟩ | ⟨e,rfl,rfl⟩)
 ·have hf : fullB l cs dbl = false:=by unfold fullB; exact if_neg fun h=>e h.1
  rw [hf]
  repeat' ((conv=>whnf); first|refine w8 (w19 e) ?_|refine w9 (w20 e) ?_|refine w0 ?_|refine w1 ?_|refine w2 (fun h=>?_) (fun h=>?_)|refine w3 ?_|refine w4 (fun h=>?_) (fun h=>?_)|refine w5 _ rfl ?_|refine w6 rfl ?_|refine w7 mixed rfl ?_)
  all_goals conv=>whnf
  all_goals exact FinP.drop (n:=0) rfl (w21 0) rfl rfl ⟨rfl,rfl⟩
 ·have hno : ∀ (i : Nat) (hi : i < cs.length) (j : Nat) (hj : j < i),¬ GamesP l.flatten dbl cs[i] (cs[j]'(by omega)) → fullB l cs dbl = false:=fun i hi j hj h=>by
   unfold fullB; exact if_neg fun hh=>h (hh.2 i hi j hj)
  repeat' ((conv=>whnf); first|refine w8 (w19 (rfl : (0 : Int) = 0)) ?_|refine w0 ?_|refine w1 ?_|refine w2 (fun h=>?_) (fun h=>?_)|refine w3 ?_|refine w4 (fun h=>?_) (fun h=>?_)|refine w5 _ rfl ?_|refine w6 rfl ?_|refine w7 mixed rfl ?_)
  conv=>whnf
  refine LoopP.inv (fun i=>i ≤ cs.length ∧ ∀ (a : Nat) (ha : a < cs.length),a < i → ∀ (j : Nat) (hj : j < a),GamesP l.flatten dbl cs[a] (cs[j]'(by omega))) (fun i=>⟨[(1,.d (ints cs)),(2,B dbl),(8,.map 1),(24,.d (ints cs)),(25,I cs.length),(26,I i)],Tryz.f16.ntmps,mapS l,[],none⟩) (fun i=>cs.length - i) 0 ⟨w22 _,fun j _ h=>absurd h (Nat.not_lt_zero j)⟩ ?_ ?_
  ·exact Weak.by ⟨rfl,rfl,rfl,rfl,congrArg I (by simp),rfl,trivial⟩ (hL:=Eq.trans (b:=[Blk.cells [.d (lisD l)],(Blk.map (esM l.flatten)).sh _]) rfl (by rw [esM_sh]; rfl))
  rintro i ⟨hi,hok⟩
  by_cases hi' : i < cs.length
  ·have hlt : (i : Int) < (cs.length : Int):=by omega
   have hw : IntKind.i64.wrap ((i : Int) + 1) = ((i + 1 : Nat) : Int):=by rw [wrap_in (by omega)]; omega
   have r1 : (cs.map fun c=>[DI c])[i]? = some [DI cs[i]]:=by rw [List.getElem?_map,List.getElem?_eq_getElem hi']; rfl
   repeat' ((conv=>whnf); first|refine w8 (w19 hlt) ?_|refine w10 i _ rfl r1 ?_|refine w6 (lenC cs) ?_|refine SliceP.intro 0 i rfl rfl (w22 _) (by rw [List.length_map]; omega) ?_|refine w0 ?_|refine w1 ?_|refine w2 (fun h=>?_) (fun h=>?_)|refine w3 ?_|refine w4 (fun h=>?_) (fun h=>?_)|refine w5 _ rfl ?_|refine w6 rfl ?_|refine w7 mixed rfl ?_)
   conv=>whnf
   refine LoopP.inv (fun j=>j ≤ i ∧ ∀ (a : Nat) (ha : a < i),a < j → GamesP l.flatten dbl cs[i] (cs[a]'(by omega))) (fun j=>⟨[(1,.d (ints cs)),(2,B dbl),(8,.map 1),(24,.d (ints cs)),(25,I cs.length),(26,I i),(10,I cs[i]),(33,.d (ints (cs.take i))),(34,I i),(35,I j)],Tryz.f16.ntmps,mapS l,[],none⟩) (fun j=>i - j) 0 ⟨w22 _,fun j _ h=>absurd h (Nat.not_lt_zero j)⟩ ?_ ?_
   ·exact Weak.by ⟨rfl,rfl,rfl,rfl,rfl,rfl,rfl,congrArg (fun x=>V.d (D.sl x)) (by show ((cs.map fun c=>[DI c]).drop 0).take (i - 0) = (cs.take i).map fun c=>[DI c]; rw [List.drop_zero,Nat.sub_zero,List.map_take]),congrArg (fun n : Nat=>I (n : Int)) (by show (((cs.map fun c=>[DI c]).drop 0).take (i - 0)).length = i; simp; omega),rfl,trivial⟩
   rintro j ⟨hj,hjok⟩
   by_cases hj' : j < i
   ·have hlt2 : (j : Int) < (i : Int):=by omega
    have hw2 : IntKind.i64.wrap ((j : Int) + 1) = ((j + 1 : Nat) : Int):=by rw [wrap_in (by omega)]; omega
    have hjc : j < cs.length:=by omega
    obtain ⟨a,ha⟩ : ∃ a,a = cs[i]:=⟨_,rfl⟩
    obtain ⟨b,hb⟩ : ∃ b,b = cs[j]:=⟨_,rfl⟩
    have r2 : ((cs.take i).map fun c=>[DI c])[j]? = some [DI b]:=by rw [List.getElem?_map,List.getElem?_take,if_pos hj',List.getElem?_eq_getElem hjc,hb]; rfl
    have hnx : GamesP l.flatten dbl a b → ∀ (x : Nat) (hx : x < i),x < j + 1 → GamesP l.flatten dbl cs[i] (cs[x]'(by omega)):=fun hg x hx hxj=>by
     by_cases e : x = j
     ·subst e; rw [← ha,← hb]; exact hg
     ·exact hjok x hx (by omega)
    have hfl : ¬ GamesP l.flatten dbl a b → fullB l cs dbl = false:=fun h=>hno i hi' j hj' (by rw [← ha,← hb]; exact h)
    rw [← ha]
    by_cases c1 : (⟨a,b⟩ : Mt) ∈ l.flatten
    ·by_cases c2 : (⟨b,a⟩ : Mt) ∈ l.flatten
     ·cases dbl with
      | false =>
       repeat' ((conv=>whnf); first|refine w8 (w19 hlt2) ?_|refine w10 j _ rfl r2 ?_|refine MapF.memM l.flatten ⟨a,b⟩ (fun h y=>?_) (fun h=>absurd c1 h)|refine MapF.memM l.flatten ⟨b,a⟩ (fun h y=>?_) (fun h=>absurd c2 h)|refine w0 ?_|refine w1 ?_|refine w2 (fun h=>?_) (fun h=>?_)|refine w3 ?_|refine w4 (fun h=>?_) (fun h=>?_)|refine w5 _ rfl ?_|refine w6 rfl ?_|refine w7 mixed rfl ?_)
       all_goals conv=>whnf
       have hg : ¬ GamesP l.flatten false a b:=by unfold GamesP; rw [if_neg (by decide)]; exact fun h=>(h.1 c1) c2
       have hf:=hfl hg
       exact FinP.drop (n:=0) rfl (Nat.le_refl 0) rfl rfl ⟨rfl,Eq.trans (b:=V.tup [B false,I 0]) rfl (by rw [hf,e])⟩
      | true =>
       repeat' ((conv=>whnf); first|refine w8 (w19 hlt2) ?_|refine w10 j _ rfl r2 ?_|refine MapF.memM l.flatten ⟨a,b⟩ (fun h y=>?_) (fun h=>absurd c1 h)|refine MapF.memM l.flatten ⟨b,a⟩ (fun h y=>?_) (fun h=>absurd c2 h)|refine w0 ?_|refine w1 ?_|refine w2 (fun h=>?_) (fun h=>?_)|refine w3 ?_|refine w4 (fun h=>?_) (fun h=>?_)|refine w5 _ rfl ?_|refine w6 rfl ?_|refine w7 mixed rfl ?_)
       all_goals conv=>whnf
       have hg : GamesP l.flatten true a b:=by unfold GamesP; rw [if_pos rfl]; exact ⟨c1,c2⟩
       exact ⟨j + 1,⟨hj',by have:=hnx hg; rw [← ha] at this; exact this⟩,by omega,Weak.by ⟨rfl,rfl,rfl,rfl,rfl,rfl,rfl,rfl,rfl,congrArg I hw2,trivial⟩⟩
     ·cases dbl with
      | false =>
       repeat' ((conv=>whnf); first|refine w8 (w19 hlt2) ?_|refine w10 j _ rfl r2 ?_|refine MapF.memM l.flatten ⟨a,b⟩ (fun h y=>?_) (fun h=>absurd c1 h)|refine MapF.memM l.flatten ⟨b,a⟩ (fun h y=>absurd h c2) (fun h=>?_)|refine w0 ?_|refine w1 ?_|refine w2 (fun h=>?_) (fun h=>?_)|refine w3 ?_|refine w4 (fun h=>?_) (fun h=>?_)|refine w5 _ rfl ?_|refine w6 rfl ?_|refine w7 mixed rfl ?_)
       all_goals conv=>whnf
       have hg : GamesP l.flatten false a b:=by unfold GamesP; rw [if_neg (by decide)]; exact ⟨fun _=>c2,fun _=>c1⟩
       exact ⟨j + 1,⟨hj',by have:=hnx hg; rw [← ha] at this; exact this⟩,by omega,Weak.by ⟨rfl,rfl,rfl,rfl,rfl,rfl,rfl,rfl,rfl,congrArg I hw2,trivial⟩⟩
      | true =>
       repeat' ((conv=>whnf); first|refine w8 (w19 hlt2) ?_|refine w10 j _ rfl r2 ?_|refine MapF.memM l.flatten ⟨a,b⟩ (fun h y=>?_) (fun h=>absurd c1 h)|refine MapF.memM l.flatten ⟨b,a⟩ (fun h y=>absurd h c2) (fun h=>?_)|refine w0 ?_|refine w1 ?_|refine w2 (fun h=>?_) (fun h=>?_)|refine w3 ?_|refine w4 (fun h=>?_) (fun h=>?_)|refine w5 _ rfl ?_|refine w6 rfl ?_|refine w7 mixed rfl ?_)
       all_goals conv=>whnf
       have hg : ¬ GamesP l.flatten true a b:=by unfold GamesP; rw [if_pos rfl]; exact fun h=>c2 h.2
       have hf:=hfl hg
       exact FinP.drop (n:=0) rfl (Nat.le_refl 0) rfl rfl ⟨rfl,Eq.trans (b:=V.tup [B false,I 0]) rfl (by rw [hf,e])⟩
    ·by_cases c2 : (⟨b,a⟩ : Mt) ∈ l.flatten
     ·cases dbl with
      | false =>
       repeat' ((conv=>whnf); first|refine w8 (w19 hlt2) ?_|refine w10 j _ rfl r2 ?_|refine MapF.memM l.flatten ⟨a,b⟩ (fun h y=>absurd h c1) (fun h=>?_)|refine MapF.memM l.flatten ⟨b,a⟩ (fun h y=>?_) (fun h=>absurd c2 h)|refine w0 ?_|refine w1 ?_|refine w2 (fun h=>?_) (fun h=>?_)|refine w3 ?_|refine w4 (fun h=>?_) (fun h=>?_)|refine w5 _ rfl ?_|refine w6 rfl ?_|refine w7 mixed rfl ?_)
       all_goals conv=>whnf
       have hg : GamesP l.flatten false a b:=by unfold GamesP; rw [if_neg (by decide)]; exact ⟨fun h=>absurd h c1,fun h=>absurd c2 h⟩
       exact ⟨j + 1,⟨hj',by have:=hnx hg; rw [← ha] at this; exact this⟩,by omega,Weak.by ⟨rfl,rfl,rfl,rfl,rfl,rfl,rfl,rfl,rfl,congrArg I hw2,trivial⟩⟩
      | true =>
       repeat' ((conv=>whnf); first|refine w8 (w19 hlt2) ?_|refine w10 j _ rfl r2 ?_|refine MapF.memM l.flatten ⟨a,b⟩ (fun h y=>absurd h c1) (fun h=>?_)|refine MapF.memM l.flatten ⟨b,a⟩ (fun h y=>?_) (fun h=>absurd c2 h)|refine w0 ?_|refine w1 ?_|refine w2 (fun h=>?_) (fun h=>?_)|refine w3 ?_|refine w4 (fun h=>?_) (fun h=>?_)|refine w5 _ rfl ?_|refine w6 rfl ?_|refine w7 mixed rfl ?_)
       all_goals conv=>whnf
       have hg : ¬ GamesP l.flatten true a b:=by unfold GamesP; rw [if_pos rfl]; exact fun h=>c1 h.1
       have hf:=hfl hg
       exact FinP.drop (n:=0) rfl (Nat.le_refl 0) rfl rfl ⟨rfl,Eq.trans (b:=V.tup [B false,I 0]) rfl (by rw [hf,e])⟩
     ·cases dbl with
      | false =>
       repeat' ((conv=>whnf); first|refine w8 (w19 hlt2) ?_|refine w10 j _ rfl r2 ?_|refine MapF.memM l.flatten ⟨a,b⟩ (fun h y=>absurd h c1) (fun h=>?_)|refine MapF.memM l.flatten ⟨b,a⟩ (fun h y=>absurd h c2) (fun h=>?_)|refine w0 ?_|refine w1 ?_|refine w2 (fun h=>?_) (fun h=>?_)|refine w3 ?_|refine w4 (fun h=>?_) (fun h=>?_)|refine w5 _ rfl ?_|refine w6 rfl ?_|refine w7 mixed rfl ?_)
       all_goals conv=>whnf
       have hg : ¬ GamesP l.flatten false a b:=by unfold GamesP; rw [if_neg (by decide)]; exact fun h=>c1 (h.2 c2)
       have hf:=hfl hg
       exact FinP.drop (n:=0) rfl (Nat.le_refl 0) rfl rfl ⟨rfl,Eq.trans (b:=V.tup [B false,I 0]) rfl (by rw [hf,e])⟩
      | true =>
       repeat' ((conv=>whnf); first|refine w8 (w19 hlt2) ?_|refine w10 j _ rfl r2 ?_|refine MapF.memM l.flatten ⟨a,b⟩ (fun h y=>absurd h c1) (fun h=>?_)|refine MapF.memM l.flatten ⟨b,a⟩ (fun h y=>absurd h c2) (fun h=>?_)|refine w0 ?_|refine w1 ?_|refine w2 (fun h=>?_) (fun h=>?_)|refine w3 ?_|refine w4 (fun h=>?_) (fun h=>?_)|refine w5 _ rfl ?_|refine w6 rfl ?_|refine w7 mixed rfl ?_)
       all_goals conv=>whnf
       have hg : ¬ GamesP l.flatten true a b:=by unfold GamesP; rw [if_pos rfl]; exact fun h=>c1 h.1
       have hf:=hfl hg
       exact FinP.drop (n:=0) rfl (Nat.le_refl 0) rfl rfl ⟨rfl,Eq.trans (b:=V.tup [B false,I 0]) rfl (by rw [hf,e])⟩
   ·have hlt2 : ¬ (j : Int) < (i : Int):=by omega
    repeat' ((conv=>whnf); first|refine w9 (w20 hlt2) ?_|refine w0 ?_|refine w1 ?_|refine w2 (fun h=>?_) (fun h=>?_)|refine w3 ?_|refine w4 (fun h=>?_) (fun h=>?_)|refine w5 _ rfl ?_|refine w6 rfl ?_|refine w7 mixed rfl ?_)
    conv=>whnf
    exact ⟨i + 1,⟨hi',fun x hx hxi=>by
     by_cases e : x = i
     ·subst e; exact fun y hy=>hjok y hy (by omega)
     ·exact hok x hx (by omega)⟩,by omega,Weak.by ⟨rfl,rfl,rfl,rfl,rfl,congrArg I hw,trivial⟩⟩
  ·have hlt : ¬ (i : Int) < (cs.length : Int):=by omega
   have hf : fullB l cs dbl = true:=by
    unfold fullB; exact if_pos ⟨e,fun x hx y hy=>hok x hx (by omega) y hy⟩
   rw [hf,e]
   repeat' ((conv=>whnf); first|refine w9 (w20 hlt) ?_|refine w0 ?_|refine w1 ?_|refine w2 (fun h=>?_) (fun h=>?_)|refine w3 ?_|refine w4 (fun h=>?_) (fun h=>?_)|refine w5 _ rfl ?_|refine w6 rfl ?_|refine w7 mixed rfl ?_)
   conv=>whnf
   exact FinP.drop (n:=0) rfl (w21 0) rfl rfl ⟨rfl,rfl⟩
end Go.Proofs.YtndlggbljkhfbaaGreat
namespace Go.Proofs.YtndlggbljkhfbaaGreat
open Go.Tidy
theorem flat_ind {l : List (List Mt)} {S : List Mt → Prop} (h0 : S [])
  (hs : ∀ (i : Nat) (hi : i < l.length) (k : Nat) (hk : k < l[i].length),S ((l.take i).flatten ++ l[i].take k) → S ((l.take i).flatten ++ l[i].take k ++ [l[i][k]])) : S l.flatten:=by
 have key : ∀ i,i ≤ l.length → S (l.take i).flatten:=by
  intro i
  induction i with
  | zero=>intro _; exact h0
  | succ i ih =>
   intro hi
   have hi' : i < l.length:=by omega
   have inner : ∀ k,k ≤ l[i].length → S ((l.take i).flatten ++ l[i].take k):=by
    intro k
    induction k with
    | zero=>intro _; rw [List.take_zero,List.append_nil]; exact ih (by omega)
    | succ k ih2 =>
     intro hk
     have:=hs i hi' k (by omega) (ih2 (by omega))
     rw [take_next (by omega),← List.append_assoc]; exact this
   have:=inner l[i].length (w21 _)
   rw [List.take_length] at this
   rw [take_next hi',List.flatten_append]
   simpa using this
 have:=key l.length (w21 _)
 rwa [List.take_length] at this
theorem backM_back (m : Mt) : backM (backM m) = m:=rfl
def pairsL (cs : List Int) : List Mt:=cs.flatMap fun a=>(cs.filter fun b=>!decide (b = a)).map fun b=>⟨a,b⟩
theorem mem_pairs {cs : List Int} {m : Mt} (h1 : m.home ∈ cs) (h2 : m.away ∈ cs) (h3 : m.home ≠ m.away) : m ∈ pairsL cs:=by
 unfold pairsL
 refine List.mem_flatMap.2 ⟨m.home,h1,List.mem_map.2 ⟨m.away,List.mem_filter.2 ⟨h2,?_⟩,rfl⟩⟩
 simp only [Bool.not_eq_true',decide_eq_false_iff_not]
 exact fun e=>h3 e.symm
theorem filter_ne {cs : List Int} {a : Int} (h : a ∈ cs) : (cs.filter fun b=>!decide (b = a)).length ≤ cs.length - 1:=by
 induction cs with
 | nil=>simp at h
 | cons c cs ih =>
  have hle : (cs.filter fun b=>!decide (b = a)).length ≤ cs.length:=List.length_filter_le _ _
  by_cases e : c = a
  ·rw [List.filter_cons_of_neg (by simp [e])]; simpa using hle
  ·rw [List.filter_cons_of_pos (by simp [e])]
   have hm : a ∈ cs:=by
    rcases List.mem_cons.1 h with h | h
    ·exact absurd h.symm e
    ·exact h
   have:=ih hm
   have : 0 < cs.length:=List.length_pos_of_mem hm
   simp only [List.length_cons]; omega
theorem sum_le {α : Type} (f : α → Nat) (m : Nat) : ∀ l : List α,(∀ a ∈ l,f a ≤ m) → (l.map f).sum ≤ l.length * m
 | [],_=>by simp
 | a :: l,h=>by
  have:=sum_le f m l fun b hb=>h b (by simp [hb])
  have:=h a (by simp)
  simp only [List.map_cons,List.sum_cons,List.length_cons,Nat.add_mul,Nat.one_mul]; omega
theorem pairs_len (cs : List Int) : (pairsL cs).length ≤ cs.length * (cs.length - 1):=by
 unfold pairsL
 rw [List.length_flatMap]
 exact sum_le _ _ cs fun a ha=>by rw [List.length_map]; exact filter_ne ha
theorem sum_const {α : Type} (f : α → Nat) (m : Nat) : ∀ l : List α,(∀ a ∈ l,f a = m) → (l.map f).sum = l.length * m
 | [],_=>by simp
 | a :: l,h=>by
  have:=sum_const f m l fun b hb=>h b (by simp [hb])
  have:=h a (by simp)
  simp only [List.map_cons,List.sum_cons,List.length_cons,Nat.add_mul,Nat.one_mul]; omega
theorem all_of {N P : List Mt} (hn : N.Nodup) (hs : ∀ m ∈ N,m ∈ P) (hl : P.length ≤ N.length) {x : Mt} (hx : x ∈ P) : x ∈ N:=by
 refine Classical.byContradiction fun h=>?_
 have h2 : (x :: N).Nodup:=List.nodup_cons.2 ⟨h,hn⟩
 have h3 : (x :: N).length ≤ P.length:=List.Nodup.length_le_of_subset h2 (fun y hy=>by
  rcases List.mem_cons.1 hy with rfl | hy
  ·exact hx
  ·exact hs y hy)
 simp only [List.length_cons] at h3; omega
theorem full_len {l : List (List Mt)} {p : Pl} (hF : FullP l p) : l.flatten.length = roundsN p * halfN p:=by
 obtain ⟨hP,hl,hg⟩:=hF
 rw [List.length_flatten,← hl]
 refine sum_const _ _ l fun r hr=>?_
 obtain ⟨i,hi,rfl⟩:=List.getElem_of_mem hr
 obtain ⟨h1,h2,h3,_⟩:=hP.2 i hi
 by_cases e : i + 1 < l.length
 ·have:=h3 e; omega
 ·have : l.getLast? = some l[i]:=by
   rw [List.getLast?_eq_getElem?]
   have : l.length - 1 = i:=by omega
   rw [this,List.getElem?_eq_getElem hi]
  have:=hg _ this; omega
theorem rounds_half (n : Nat) (h : 2 ≤ n) : ((n - 1) / 2 * 2 + 1) * (n / 2) * 2 = n * (n - 1):=by
 have hk : ∃ k,n = 2 * k ∨ n = 2 * k + 1:=⟨n / 2,by omega⟩
 obtain ⟨k,rfl | rfl⟩:=hk
 ·obtain ⟨j,rfl⟩ : ∃ j,k = j + 1:=⟨k - 1,by omega⟩
  have e1 : (2 * (j + 1) - 1) / 2 = j:=by omega
  have e2 : 2 * (j + 1) / 2 = j + 1:=by omega
  have e3 : 2 * (j + 1) - 1 = j * 2 + 1:=by omega
  rw [e1,e2,e3,Nat.mul_comm 2 (j + 1),Nat.mul_assoc,Nat.mul_comm]
 ·have e1 : (2 * k + 1 - 1) / 2 = k:=by omega
  have e2 : (2 * k + 1) / 2 = k:=by omega
  have e3 : 2 * k + 1 - 1 = k * 2:=by omega
  rw [e1,e2,e3,Nat.mul_assoc,Nat.mul_comm k 2]
theorem full_fix {l : List (List Mt)} {p : Pl} (h0 : checkP p = 0) (hF : FullP l p) : FixP l p.clubs:=fun i hi k hk=>by
 obtain ⟨h1,h2,h3,h4,h5,h6,_⟩:=(hF.1.2 i hi).2.2.2.1 k hk
 exact ⟨h1,h6,h2,h3,h4,h5⟩
theorem full_fixE {l : List (List Mt)} {p : Pl} (h0 : checkP p = 0) (hF : FullP l p) : fixE l p.clubs = 0:=by
 have hf:=checkP_field h0
 have hn : p.clubs.length ≤ 24:=by simp only [fieldOk,Bool.and_eq_true,decide_eq_true_eq] at hf; omega
 have hl:=hF.2.1
 have h46 : l.length ≤ 46:=by
  rw [hl]; unfold roundsN
  split <;> omega
 unfold fixE; rw [if_pos hf,if_pos h46,if_pos (full_fix h0 hF)]
theorem full_games {l : List (List Mt)} {p : Pl} (h0 : checkP p = 0) (hF : FullP l p) : FullX l.flatten p.clubs p.double:=by
 have hf:=checkP_field h0
 have hn : 2 ≤ p.clubs.length:=by simp only [fieldOk,Bool.and_eq_true,decide_eq_true_eq] at hf; omega
 have hM:=full_len hF
 have hok : ∀ (i : Nat) (hi : i < l.length) (k : Nat) (hk : k < l[i].length),OkI p (l.take i).flatten l[i] k hk:=fun i hi=>(hF.1.2 i hi).2.2.2.1
 have hnd : l.flatten.Nodup:=flat_ind (S:=List.Nodup) List.nodup_nil fun i hi k hk hS=>by
  rw [List.nodup_append]
  refine ⟨hS,by simp,fun a ha b hb=>?_⟩
  rw [List.mem_singleton.1 hb]
  rintro rfl
  exact (hok i hi k hk).2.2.2.2.2.1 ha
 have hin : ∀ m ∈ l.flatten,m.home ∈ p.clubs ∧ m.away ∈ p.clubs ∧ m.home ≠ m.away:=flat_ind (S:=fun M=>∀ m ∈ M,m.home ∈ p.clubs ∧ m.away ∈ p.clubs ∧ m.home ≠ m.away) (by simp) fun i hi k hk hS m hm=>by
  rcases List.mem_append.1 hm with hm | hm
  ·exact hS m hm
  ·rw [List.mem_singleton.1 hm]
   obtain ⟨h1,h2,h3,_⟩:=hok i hi k hk
   exact ⟨h2,h3,h1⟩
 have hcs : ∀ (i : Nat) (hi : i < p.clubs.length) (j : Nat) (hj : j < i),p.clubs[i] ≠ p.clubs[j]'(by omega):=fun i hi j hj e=>by
  have hp : p.clubs.Pairwise (· < ·):=incr_lt (by simp only [fieldOk,Bool.and_eq_true] at hf; exact hf.1.1)
  have:=List.pairwise_iff_getElem.1 hp j i (by omega) hi hj
  omega
 have hrh:=rounds_half _ hn
 intro i hi j hj
 have ha : p.clubs[i] ∈ p.clubs:=List.getElem_mem hi
 have hb : p.clubs[j]'(by omega) ∈ p.clubs:=List.getElem_mem _
 have hab:=hcs i hi j hj
 unfold GamesP
 cases hd : p.double with
 | true =>
  rw [if_pos rfl]
  have hlen : (pairsL p.clubs).length ≤ l.flatten.length:=by
   rw [hM]
   refine w23 (pairs_len _) ?_
   unfold roundsN halfN; rw [if_pos hd,← hrh,Nat.mul_assoc 2,Nat.mul_comm 2]; exact Nat.le_refl _
  have all:=fun {x : Mt} (hx : x ∈ pairsL p.clubs)=>all_of hnd (fun m hm=>by obtain ⟨h1,h2,h3⟩:=hin m hm; exact mem_pairs h1 h2 h3) hlen hx
  exact ⟨all (mem_pairs ha hb hab),all (mem_pairs hb ha (Ne.symm hab))⟩
 | false =>
  rw [if_neg (by decide)]
  have hbk : ∀ m ∈ l.flatten,backM m ∉ l.flatten:=flat_ind (S:=fun M=>∀ m ∈ M,backM m ∉ M) (by simp) fun i hi k hk hS m hm=>by
   obtain ⟨h1,_,_,_,_,h6,h7,_⟩:=hok i hi k hk
   have h7:=h7 hd
   rcases List.mem_append.1 hm with hm | hm
   ·intro hx
    rcases List.mem_append.1 hx with hx | hx
    ·exact hS m hm hx
    ·have e:=List.mem_singleton.1 hx
     refine h7 ?_
     have : backM (l[i][k]) = m:=by rw [← e]; rfl
     show backM (l[i][k]) ∈ _
     rw [this]; exact hm
   ·rw [List.mem_singleton.1 hm]
    intro hx
    rcases List.mem_append.1 hx with hx | hx
    ·exact h7 hx
    ·have e:=List.mem_singleton.1 hx
     exact h1 (congrArg Mt.home e).symm
  have hN : (l.flatten ++ l.flatten.map backM).Nodup:=by
   rw [List.nodup_append]
   refine ⟨hnd,?_,fun a ha b hb=>?_⟩
   ·exact List.Pairwise.map backM (fun a b h e=>h (by rw [← backM_back a,e]; rfl)) hnd
   ·obtain ⟨m,hm,rfl⟩:=List.mem_map.1 hb
    rintro rfl
    exact hbk m hm ha
  have hlen : (pairsL p.clubs).length ≤ (l.flatten ++ l.flatten.map backM).length:=by
   rw [List.length_append,List.length_map,hM]
   refine w23 (pairs_len _) ?_
   unfold roundsN halfN; rw [if_neg (by rw [hd]; decide),← hrh,Nat.one_mul,Nat.mul_two]; exact Nat.le_refl _
  have all:=fun {x : Mt} (hx : x ∈ pairsL p.clubs)=>all_of hN (fun m hm=>by
   rcases List.mem_append.1 hm with hm | hm
   ·obtain ⟨h1,h2,h3⟩:=hin m hm; exact mem_pairs h1 h2 h3
   ·obtain ⟨y,hy,rfl⟩:=List.mem_map.1 hm
    obtain ⟨h1,h2,h3⟩:=hin y hy; exact mem_pairs h2 h1 (Ne.symm h3)) hlen hx
  constructor
  ·exact fun h=>hbk _ h
  ·intro h
   rcases List.mem_append.1 (all (mem_pairs (m:=⟨p.clubs[i],p.clubs[j]'(by omega)⟩) ha hb hab)) with h1 | h1
   ·exact h1
   ·obtain ⟨y,hy,e⟩:=List.mem_map.1 h1
    exfalso
    refine h ?_
    have : y = backM ⟨p.clubs[i],p.clubs[j]'(by omega)⟩:=by rw [← e]; rfl
    rw [this] at hy; exact hy
theorem full_fullB {l : List (List Mt)} {p : Pl} (h0 : checkP p = 0) (hF : FullP l p) : fullB l p.clubs p.double = true:=by
 unfold fullB; exact if_pos ⟨full_fixE h0 hF,full_games h0 hF⟩
end Go.Proofs.YtndlggbljkhfbaaGreat
namespace Go.Proofs.YtndlggbljkhfbaaGreat
open Go.Tidy
variable {L : List Blk} {k : V → List Blk → Prop}
def FewP (p : Pl) : Prop:=(∀ (i : Nat) (hi : i < p.demands.length),p.demands[i].clubs.length ≤ 30) ∧ p.clubs.length ≤ 5 ∧ p.demands.length ≤ 8
instance (p : Pl) : Decidable (FewP p):=by unfold FewP; infer_instance
def FewL (l : Lst) : Prop:=(l.map List.length).sum ≤ 30 ∧ l.length ≤ 14
instance (l : Lst) : Decidable (FewL l):=by unfold FewL; infer_instance
end Go.Proofs.YtndlggbljkhfbaaGreat
namespace Go.Proofs.YtndlggbljkhfbaaGreat
open Go.Tidy
theorem firstM_lt {a b : Int} (h : a < b) : firstM ⟨a,b⟩ = a ∧ firstM ⟨b,a⟩ = a:=by unfold firstM; constructor <;> (simp only; split <;> omega)
theorem prIn_mem {c : Int} {m : Mt} : ∀ {os : List Int},m ∈ prIn c os ↔ ∃ o ∈ os,m = ⟨c,o⟩ ∨ m = ⟨o,c⟩
 | []=>by simp [prIn]
 | o :: os=>by
  simp only [prIn,List.mem_cons,prIn_mem (os:=os)]
  constructor
  ·rintro (h | h | ⟨x,hx,h⟩)
   ·exact ⟨o,.inl rfl,.inl h⟩
   ·exact ⟨o,.inl rfl,.inr h⟩
   ·exact ⟨x,.inr hx,h⟩
  ·rintro ⟨x,rfl | hx,h⟩
   ·exact h.elim .inl fun h=>.inr (.inl h)
   ·exact .inr (.inr ⟨x,hx,h⟩)
theorem prs_mem {m : Mt} : ∀ {cs : List Int},cs.Pairwise (· < ·) → m ∈ prs cs → ∃ a b,a ∈ cs ∧ b ∈ cs ∧ a < b ∧ firstM m = a ∧ (m = ⟨a,b⟩ ∨ m = ⟨b,a⟩)
 | [],_,h=>by simp [prs] at h
 | c :: cs,hp,h=>by
  obtain ⟨hc,hp⟩:=List.pairwise_cons.1 hp
  rw [prs,List.mem_append] at h
  rcases h with h | h
  ·obtain ⟨o,ho,h⟩:=prIn_mem.1 h
   refine ⟨c,o,by simp,by simp [ho],hc o ho,?_,h⟩
   rcases h with rfl | rfl
   ·exact (firstM_lt (hc o ho)).1
   ·exact (firstM_lt (hc o ho)).2
  ·obtain ⟨a,b,h1,h2,h3⟩:=prs_mem hp h
   exact ⟨a,b,by simp [h1],by simp [h2],h3⟩
theorem mem_prs {a b : Int} : ∀ {cs : List Int},cs.Pairwise (· < ·) → a ∈ cs → b ∈ cs → a < b → (⟨a,b⟩ : Mt) ∈ prs cs ∧ (⟨b,a⟩ : Mt) ∈ prs cs
 | [],_,h,_,_=>by simp at h
 | c :: cs,hp,ha,hb,hab=>by
  obtain ⟨hc,hp⟩:=List.pairwise_cons.1 hp
  rw [prs]
  rcases List.mem_cons.1 ha with rfl | ha'
  ·rcases List.mem_cons.1 hb with rfl | hb
   ·omega
   ·exact ⟨List.mem_append_left _ (prIn_mem.2 ⟨b,hb,.inl rfl⟩),List.mem_append_left _ (prIn_mem.2 ⟨b,hb,.inr rfl⟩)⟩
  ·rcases List.mem_cons.1 hb with rfl | hb
   ·have:=hc a ha'; omega
   ·have:=mem_prs hp ha' hb hab
    exact ⟨List.mem_append_right _ this.1,List.mem_append_right _ this.2⟩
def cntF (bz : List Int) (x : Int) (cs : List Int) : Nat:=cs.countP fun c=>decide (c < x) && decide (c ∉ bz)
def Pch (bz : List Int) (tk : List Mt) (least : Int) (cs : List Int) (may : Nat) (m : Mt) : Bool:=decide (m.home ∉ bz ∧ m.away ∉ bz ∧ m ∉ tk ∧ least < firstM m ∧ cntF bz (firstM m) cs ≤ may)
theorem chIn_eq (bz : List Int) (tk : List Mt) (c : Int) (f : Mt → Bool) : ∀ os : List Int,(∀ o ∈ os,f ⟨c,o⟩ = decide (o ∉ bz ∧ (⟨c,o⟩ : Mt) ∉ tk) ∧ f ⟨o,c⟩ = decide (o ∉ bz ∧ (⟨o,c⟩ : Mt) ∉ tk)) → (prIn c os).filter f = chIn bz tk c os
 | [],_=>rfl
 | o :: os,h=>by
  obtain ⟨h1,h2⟩:=h o (by simp)
  have ih:=chIn_eq bz tk c f os fun x hx=>h x (by simp [hx])
  rw [prIn,chIn,← ih]
  by_cases hb : o ∈ bz
  ·rw [if_pos hb,List.filter_cons_of_neg (by rw [h1]; simp [hb]),List.filter_cons_of_neg (by rw [h2]; simp [hb])]
  ·rw [if_neg hb]
   simp only [List.filter_cons,h1,h2,hb,not_false_eq_true,true_and,List.filter_nil]
   split <;> split <;> simp
theorem cntF_zero {bz : List Int} {x : Int} {cs : List Int} (h : ∀ c ∈ cs,x ≤ c) : cntF bz x cs = 0:=by
 unfold cntF
 rw [List.countP_eq_zero]
 intro c hc
 have:=h c hc
 rw [decide_eq_false (by omega)]; simp
theorem chOut_eq (bz : List Int) (tk : List Mt) (least : Int) : ∀ (cs : List Int) (may : Nat),cs.Pairwise (· < ·) → chOut bz tk least may cs = (prs cs).filter (Pch bz tk least cs may)
 | [],_,_=>rfl
 | c :: cs,may,hp=>by
  obtain ⟨hc,hp'⟩:=List.pairwise_cons.1 hp
  rw [chOut_cons,prs,List.filter_append]
  have hcnt0 : cntF bz c (c :: cs) = 0:=cntF_zero fun x hx=>by
   rcases List.mem_cons.1 hx with rfl | hx
   ·exact Int.le_refl _
   ·have:=hc x hx; omega
  have hrest : ∀ m ∈ prs cs,cntF bz (firstM m) (c :: cs) = cntF bz (firstM m) cs + (if c ∈ bz then 0 else 1):=fun m hm=>by
   obtain ⟨a,b,ha,_,_,he,_⟩:=prs_mem hp' hm
   have hca:=hc a ha
   unfold cntF
   rw [List.countP_cons,he,decide_eq_true (by omega : c < a)]
   by_cases hb : c ∈ bz <;> simp [hb]
  by_cases hb : c ∈ bz
  ·rw [if_pos hb,chOut_eq bz tk least cs may hp']
   have e1 : (prIn c cs).filter (Pch bz tk least (c :: cs) may) = []:=by
    rw [List.filter_eq_nil_iff]
    intro m hm
    obtain ⟨o,ho,h⟩:=prIn_mem.1 hm
    rcases h with rfl | rfl <;> simp [Pch,hb]
   rw [e1,List.nil_append]
   refine List.filter_congr fun m hm=>?_
   unfold Pch
   rw [hrest m hm,if_pos hb,Nat.add_zero]
  ·rw [if_neg hb]
   have e1 : (prIn c cs).filter (Pch bz tk least (c :: cs) may) = if least < c then chIn bz tk c cs else []:=by
    split
    ·rename_i hl
     refine chIn_eq bz tk c _ cs fun o ho=>?_
     obtain ⟨f1,f2⟩:=firstM_lt (hc o ho)
     unfold Pch
     rw [f1,f2,hcnt0]
     refine ⟨decide_eq_decide.2 ⟨fun h=>⟨h.2.1,h.2.2.1⟩,fun h=>⟨hb,h.1,h.2,hl,Nat.zero_le _⟩⟩,decide_eq_decide.2 ⟨fun h=>⟨h.1,h.2.2.1⟩,fun h=>⟨h.1,hb,h.2,hl,Nat.zero_le _⟩⟩⟩
    ·rename_i hl
     rw [List.filter_eq_nil_iff]
     intro m hm
     obtain ⟨o,ho,h⟩:=prIn_mem.1 hm
     obtain ⟨f1,f2⟩:=firstM_lt (hc o ho)
     rcases h with rfl | rfl
     ·unfold Pch; rw [f1]; simp [hl]
     ·unfold Pch; rw [f2]; simp [hl]
   rw [e1]
   congr 1
   by_cases hm0 : may = 0
   ·rw [if_pos hm0]
    symm
    rw [List.filter_eq_nil_iff]
    intro m hm
    unfold Pch
    rw [hrest m hm,if_neg hb,hm0]; simp
   ·rw [if_neg hm0,chOut_eq bz tk least cs (may - 1) hp']
    refine List.filter_congr fun m hm=>?_
    unfold Pch
    rw [hrest m hm,if_neg hb]
    exact decide_eq_decide.2 ⟨fun h=>⟨h.1,h.2.1,h.2.2.1,h.2.2.2.1,by omega⟩,fun h=>⟨h.1,h.2.1,h.2.2.1,h.2.2.2.1,by omega⟩⟩
theorem snoc_all {α : Type} {P : Nat → List α → α → Prop} (l : List α) (m : α) : (∀ (k : Nat) (hk : k < (l ++ [m]).length),P k ((l ++ [m]).take k) (l ++ [m])[k]) ↔ (∀ (k : Nat) (hk : k < l.length),P k (l.take k) l[k]) ∧ P l.length l m:=by
 constructor
 ·intro h
  refine ⟨fun k hk=>?_,?_⟩
  ·have:=h k (by simp; omega)
   rwa [List.getElem_append_left hk,List.take_append_of_le_length (Nat.le_of_lt hk)] at this
  ·have:=h l.length (by simp)
   rw [List.getElem_append_right (Nat.le_refl _),List.take_left' rfl] at this
   simpa using this
 ·rintro ⟨h1,h2⟩ k hk
  by_cases h : k < l.length
  ·rw [List.getElem_append_left h,List.take_append_of_le_length (Nat.le_of_lt h)]; exact h1 k h
  ·have e : k = l.length:=by simp at hk; omega
   subst e
   rw [List.getElem_append_right (Nat.le_refl _),List.take_left' rfl]
   simpa using h2
def OkQ (p : Pl) (met t : List Mt) (m : Mt) : Prop:=m.home ≠ m.away ∧ m.home ∈ p.clubs ∧ m.away ∈ p.clubs ∧ m.home ∉ busyL t ∧ m.away ∉ busyL t ∧ m ∉ met ++ t ∧ (p.double = false → (⟨m.away,m.home⟩ : Mt) ∉ met ++ t) ∧ ∀ x,t.getLast? = some x → firstM x < firstM m
theorem OkI_Q {p : Pl} {met r : List Mt} {k : Nat} (hk : k < r.length) : OkI p met r k hk ↔ OkQ p met (r.take k) r[k]:=by
 unfold OkI OkQ
 have e : (0 < k → firstM (r[k - 1]'(by omega)) < firstM r[k]) ↔ ∀ x,(r.take k).getLast? = some x → firstM x < firstM r[k]:=by
  rw [List.getLast?_eq_getElem?,List.length_take,Nat.min_eq_left (Nat.le_of_lt hk)]
  by_cases h0 : 0 < k
  ·rw [List.getElem?_take_of_lt (by omega),List.getElem?_eq_getElem (by omega)]
   exact ⟨fun h x hx=>by cases hx; exact h h0,fun h _=>h _ rfl⟩
  ·have : k = 0:=by omega
   subst this
   simp
 rw [e]
def RQ (p : Pl) (row : List Mt) (met : List Mt) (more : Prop) : Prop:=row.length ≠ 0 ∧ row.length ≤ halfN p ∧ (more → halfN p ≤ row.length) ∧ (∀ (k : Nat) (hk : k < row.length),OkQ p met (row.take k) row[k]) ∧ leftGo (p.clubs.length % 2) (lastM row) (busyL row) p.clubs 0 = true
theorem RoundP_Q {l : List (List Mt)} {p : Pl} {i : Nat} (hi : i < l.length) : RoundP l p i hi ↔ RQ p l[i] (l.take i).flatten (i + 1 < l.length):=by
 unfold RoundP RQ
 exact and_congr_right fun _=>and_congr_right fun _=>and_congr_right fun _=>and_congr_left fun _=>forall_congr' fun k=>forall_congr' fun hk=>OkI_Q hk
theorem PartP_snoc {bf : Lst} {w : List Mt} {p : Pl} : PartP (bf ++ [w]) p ↔ bf.length + 1 ≤ roundsN p ∧ (∀ (i : Nat) (hi : i < bf.length),RQ p bf[i] (bf.take i).flatten True) ∧ RQ p w bf.flatten False:=by
 unfold PartP
 have e1 : (bf ++ [w]).length = bf.length + 1:=by simp
 have e2 : (∀ (i : Nat) (hi : i < (bf ++ [w]).length),RoundP (bf ++ [w]) p i hi) ↔ ∀ (i : Nat) (hi : i < (bf ++ [w]).length),RQ p (bf ++ [w])[i] ((bf ++ [w]).take i).flatten (i + 1 < bf.length + 1) :=
  forall_congr' fun i=>forall_congr' fun hi=>by rw [RoundP_Q,e1]
 rw [e2,snoc_all (P:=fun i t row=>RQ p row t.flatten (i + 1 < bf.length + 1)),e1]
 refine and_congr_right fun _=>and_congr ?_ ?_
 ·refine forall_congr' fun i=>forall_congr' fun hi=>?_
  unfold RQ
  have : (i + 1 < bf.length + 1) ↔ True:=iff_true_intro (by omega)
  rw [this]
 ·unfold RQ
  have : (bf.length + 1 < bf.length + 1) ↔ False:=iff_false_intro (by omega)
  rw [this]
theorem lastM_snoc (rd : List Mt) (m : Mt) : lastM (rd ++ [m]) = firstM m:=by unfold lastM; rw [List.getLast?_concat]
theorem firstM_le {m : Mt} {c : Int} (h : m.home = c ∨ m.away = c) : firstM m ≤ c:=by unfold firstM; split <;> rcases h with h | h <;> omega
theorem part_snoc {bf : Lst} {rd : List Mt} {p : Pl} (m : Mt) (hinc : p.clubs.Pairwise (· < ·)) (hb : ∀ (i : Nat) (hi : i < bf.length),RQ p bf[i] (bf.take i).flatten True) (hn : bf.length + 1 ≤ roundsN p) (hr : rd.length < halfN p)
  (hk : ∀ (k : Nat) (hk : k < rd.length),OkQ p bf.flatten (rd.take k) rd[k]) : PartP (bf ++ [rd ++ [m]]) p ↔ OkQ p bf.flatten rd m ∧ cntF (busyL rd) (firstM m) p.clubs ≤ p.clubs.length % 2:=by
 rw [PartP_snoc]
 have e : RQ p (rd ++ [m]) bf.flatten False ↔ OkQ p bf.flatten rd m ∧ cntF (busyL rd) (firstM m) p.clubs ≤ p.clubs.length % 2:=by
  unfold RQ
  have e0 : leftGo (p.clubs.length % 2) (lastM (rd ++ [m])) (busyL (rd ++ [m])) p.clubs 0 = true ↔ cntF (busyL rd) (firstM m) p.clubs ≤ p.clubs.length % 2:=by
   rw [leftGo_eq hinc (Nat.zero_le _),Nat.zero_add,decide_eq_true_eq,lastM_snoc]
   unfold cntF
   have : p.clubs.countP (fun c=>decide (c < firstM m) && !busyB (rd ++ [m]) c) = p.clubs.countP fun c=>decide (c < firstM m) && decide (c ∉ busyL rd):=by
    refine List.countP_congr fun c _=>?_
    simp only [Bool.and_eq_true,decide_eq_true_eq,Bool.not_eq_true',← Bool.not_eq_true,busyB_iff,busyL_append,List.mem_append,not_or]
    refine and_congr_right fun hc=>⟨fun h=>h.1,fun h=>⟨h,fun h'=>?_⟩⟩
    obtain ⟨x,hx,he⟩:=mem_busyL.1 h'
    rw [List.mem_singleton.1 hx] at he
    have:=firstM_le he
    omega
   rw [this]
  rw [e0,snoc_all (P:=fun k t x=>OkQ p bf.flatten t x)]
  have l1 : (rd ++ [m]).length = rd.length + 1:=by simp
  rw [l1]
  exact ⟨fun h=>⟨h.2.2.2.1.2,h.2.2.2.2⟩,fun h=>⟨by omega,by omega,False.elim,⟨hk,h.1⟩,h.2⟩⟩
 rw [e]
 exact ⟨fun h=>h.2.2,fun h=>⟨hn,hb,h⟩⟩
theorem open_of {l : Lst} {p : Pl} (hh : 0 < halfN p) (hP : PartP l p) (hx : (nxR l p).2.2 = true) :
  (∀ (i : Nat) (hi : i < (nxR l p).2.1.length),RQ p (nxR l p).2.1[i] ((nxR l p).2.1.take i).flatten True) ∧ (nxR l p).2.1.length + 1 ≤ roundsN p ∧ (nxR l p).1.length < halfN p ∧ (∀ (k : Nat) (hk : k < (nxR l p).1.length),OkQ p (nxR l p).2.1.flatten ((nxR l p).1.take k) (nxR l p).1[k]) ∧
  (nxR l p).1 = (openR l p).1 ∧ (nxR l p).2.1.flatten ++ (nxR l p).1 = l.flatten:=by
 rcases openR_spec l p with ⟨h1,h2⟩ | ⟨h1,r,h2,h3,h4,h5⟩
 ·have hlt : l.length < roundsN p:=by
   unfold nxR at hx
   rw [h1] at hx
   simp only [Bool.true_eq_false,if_false] at hx
   split at hx
   ·assumption
   ·cases hx
  have e : nxR l p = ([],l,true):=by unfold nxR; rw [h1]; simp only [Bool.true_eq_false,if_false,if_pos hlt]
  rw [e]
  refine ⟨fun i hi=>?_,hlt,hh,fun k hk=>absurd hk (Nat.not_lt_zero k),h2.symm,by simp⟩
  replace hi : i < l.length:=hi
  have hR:=(RoundP_Q hi).1 (hP.2 i hi)
  show RQ p l[i] (l.take i).flatten True
  refine ⟨hR.1,hR.2.1,fun _=>?_,hR.2.2.2⟩
  by_cases hl : i + 1 < l.length
  ·exact hR.2.2.1 hl
  ·have hi' : i = l.length - 1:=by omega
   have hla:=last_of (l:=l) (by omega)
   unfold openR at h1
   rw [hla] at h1
   simp only at h1
   split at h1
   ·cases h1
   ·rename_i hge
    subst hi'
    exact Nat.le_of_not_lt hge
 ·have e : nxR l p = (r,l.dropLast,true):=by unfold nxR; rw [if_pos h1,h3]
  rw [e]
  rw [h5] at hP
  obtain ⟨q1,q2,q3⟩:=PartP_snoc.1 hP
  exact ⟨q2,q1,h4,q3.2.2.2.1,h3.symm,by conv=>{ rhs; rw [h5] }; simp⟩
theorem nx_open {l : Lst} {p : Pl} : (nxR l p).2.2 = (openR l p).2.2:=by
 unfold nxR openR
 cases l.getLast? with
 | none=>simp only [Bool.true_eq_false,if_false]; by_cases h : l.length < roundsN p <;> simp [h]
 | some r =>
  simp only
  by_cases h : r.length < halfN p
  ·rw [if_pos h]; simp
  ·rw [if_neg h]; simp only [Bool.true_eq_false,if_false]; by_cases h : l.length < roundsN p <;> simp [h]
theorem mem_taken {p : Pl} {l : Lst} {m : Mt} : m ∉ takenOf l p ↔ m ∉ l.flatten ∧ (p.double = false → (⟨m.away,m.home⟩ : Mt) ∉ l.flatten):=by
 unfold takenOf tkM
 rw [List.mem_flatMap]
 cases hd : p.double with
 | true=>simp
 | false =>
  simp only [Bool.false_eq_true,if_false,List.mem_cons,List.not_mem_nil,or_false,not_exists,not_and,forall_const]
  constructor
  ·intro h
   refine ⟨fun hm=>h m hm (.inl rfl),fun hm=>h _ hm (.inr rfl)⟩
  ·rintro ⟨h1,h2⟩ x hx (rfl | rfl)
   ·exact h1 hx
   ·exact h2 hx
theorem chs_eq {l : Lst} {p : Pl} (h0 : checkP p = 0) (hP : PartP l p) : chs l p = rchs l p:=by
 have hp:=checkP_field h0
 have hp':=hp
 simp only [fieldOk,Bool.and_eq_true,decide_eq_true_eq] at hp'
 have hinc : p.clubs.Pairwise (· < ·):=incr_lt hp'.1.1
 have hnn : ∀ c ∈ p.clubs,(0 : Int) ≤ c:=fun c hc=>by
  obtain ⟨j,hj,rfl⟩:=List.getElem_of_mem hc
  exact ((okAt_at hj).1 ((incr_iff p.clubs).1 hp'.1.1 j)).1.1
 have hh : 0 < halfN p:=by unfold halfN; have:=hp'.1.2; omega
 unfold chs rchs
 rw [nx_open]
 by_cases hx : (openR l p).2.2 = true
 ·rw [if_pos hx,if_pos hx]
  rw [← nx_open] at hx
  obtain ⟨a1,a2,a3,a4,a5,a6⟩:=open_of hh hP hx
  rw [chOut_eq _ _ _ _ _ hinc]
  refine List.filter_congr fun m hm=>?_
  obtain ⟨a,b,ha,hb,hab,hf,hm'⟩:=prs_mem hinc hm
  unfold Pch extR
  rw [decide_eq_decide,← PartP_iff _ _ hp,part_snoc m hinc a1 a2 a3 a4,← a5]
  unfold OkQ
  rw [a6,mem_taken]
  have hm1 : m.home ≠ m.away ∧ m.home ∈ p.clubs ∧ m.away ∈ p.clubs:=by
   rcases hm' with rfl | rfl
   ·exact ⟨by show a ≠ b; omega,ha,hb⟩
   ·exact ⟨by show b ≠ a; omega,hb,ha⟩
  have hle : leastOf (nxR l p).1 < firstM m ↔ ∀ x,(nxR l p).1.getLast? = some x → firstM x < firstM m:=by
   unfold leastOf
   cases (nxR l p).1.getLast? with
   | none =>
    have:=hnn a ha
    simp only [reduceCtorEq,false_implies,implies_true,iff_true]
    omega
   | some x =>
    simp only [Option.some.injEq,forall_eq']
    unfold firstM
    split <;> omega
  rw [hle]
  show (m.home ∉ busyL (nxR l p).1 ∧ m.away ∉ busyL (nxR l p).1 ∧ _ ∧ _ ∧ cntF (busyL (nxR l p).1) _ _ ≤ _) ↔ _
  exact ⟨fun h=>⟨⟨hm1.1,hm1.2.1,hm1.2.2,h.1,h.2.1,h.2.2.1.1,h.2.2.1.2,h.2.2.2.1⟩,h.2.2.2.2⟩,fun ⟨⟨_,_,_,q1,q2,q3,q4,q5⟩,q6⟩=>⟨q1,q2,⟨q3,q4⟩,q5,q6⟩⟩
 ·rw [if_neg hx,if_neg hx]
end Go.Proofs.YtndlggbljkhfbaaGreat
namespace Go.Proofs.YtndlggbljkhfbaaGreat
open Go.Tidy
variable {L : List Blk} {k : V → List Blk → Prop}
theorem fewlen {p : Pl} (h0 : checkP p = 0) : p.clubs.length ≤ 1000:=by
 have hf:=checkP_field h0
 simp only [fieldOk,Bool.and_eq_true,decide_eq_true_eq] at hf; omega
theorem plan_e {p : Pl} {most : Int} {o : PlanR} (hs : Small [] p) (ho : planF p most = o) (h : k (.tup [lisV o.l,I o.sp,I o.e]) L) : CallP C 13 [plV p,I most] L k:=plan_c p most hs (by rw [ho]; exact h)
theorem len6 {l : List (List D)} (h : l.all (fun e=>decide (e.length = 6)) = true) : ∀ e ∈ l,e.length = 6:=fun e he=>by simpa using List.all_eq_true.1 h e he
end Go.Proofs.YtndlggbljkhfbaaGreat
namespace Go.Proofs.YtndlggbljkhfbaaGreat
open Go.Tidy
theorem exLoop_mem {ok : Lst → Bool} {p : Pl} {bud : Nat} {G : Lst → Prop} {f : Lst → Nat → List Lst → Sr} {ext : Mt → Lst} : ∀ (ms : List Mt) (sp : Nat) (fs : List Lst),(∀ m ∈ ms,ok (ext m) = true → ∀ sp fs,∀ x ∈ (f (ext m) sp fs).fs,x ∈ fs ∨ G x) → ∀ x ∈ (exLoop f ext ok bud ms sp fs).fs,x ∈ fs ∨ G x
 | [],sp,fs,_,x,hx=>.inl hx
 | m :: ms,sp,fs,h,x,hx=>by
  have ih:=fun sp fs=>exLoop_mem (ok:=ok) (p:=p) (bud:=bud) (G:=G) (f:=f) (ext:=ext) ms sp fs fun x hx=>h x (by simp [hx])
  simp only [exLoop] at hx
  split at hx
  ·exact .inl hx
  ·split at hx
   ·rename_i hok
    have h2:=h m (by simp) hok (sp + 1) fs
    split at hx
    ·rename_i e
     rw [e] at h2
     rcases ih _ _ x hx with h3 | h3
     ·exact h2 x h3
     ·exact .inr h3
    ·rename_i e
     rw [e] at h2
     exact h2 x hx
   ·exact ih _ _ x hx
theorem exam_mem {p : Pl} {ch : Lst → List Mt} {ok : Lst → Bool} {Q G : Lst → Prop} {bud : Nat} {all : Bool} (hQ : ∀ l m,Q l → m ∈ ch l → ok (extL l p m) = true → Q (extL l p m) ∧ G (extL l p m)) : ∀ (n : Nat) (l : Lst) (sp : Nat) (fs : List Lst),Q l → (fullC l p = true → G l) → ∀ x ∈ (exam ch ok p bud all n l sp fs).fs,x ∈ fs ∨ (G x ∧ fullC x p = true)
 | 0,l,sp,fs,_,_,x,hx=>.inl hx
 | n + 1,l,sp,fs,h,hg,x,hx=>by
  unfold exam at hx
  split at hx
  ·rename_i hf
   have : x ∈ fs ++ [l]:=by split at hx <;> exact hx
   rcases List.mem_append.1 this with h1 | h1
   ·exact .inl h1
   ·rw [List.mem_singleton.1 h1]; exact .inr ⟨hg hf,hf⟩
  ·exact exLoop_mem (p:=p) _ _ _ (fun m hm ho sp fs=>exam_mem hQ n _ sp fs (hQ l m h hm ho).1 fun _=>(hQ l m h hm ho).2) x hx
theorem run_mem {p : Pl} {most : Int} {all : Bool} {x : Lst} (hx : x ∈ (runP p most all).fs) : PartP x p ∧ dmA x p < 0 ∧ fullC x p = true:=by
 rcases exam_mem (p:=p) (Q:=fun l=>PartP l p) (G:=fun l=>PartP l p ∧ dmA l p < 0) (fun l m h _ ho=>by
  have ho:=of_decide_eq_true ho
  exact ⟨(dmA_part ho).2,(dmA_part ho).2,ho⟩) _ _ _ _ (part_nil p) (fun h=>by rw [full_nil] at h; cases h) x hx with h | ⟨⟨h1,h2⟩,h3⟩
 ·simp at h
 ·exact ⟨h1,h2,h3⟩
end Go.Proofs.YtndlggbljkhfbaaGreat
namespace Go.Proofs.YtndlggbljkhfbaaGreat
open Go.Tidy
inductive Ev where
 | tick
 | found (l : Lst)
def ticks : List Ev → Nat
 | []=>0
 | .tick :: r=>ticks r + 1
 | .found _ :: r=>ticks r
def fulls : List Ev → List Lst
 | []=>[]
 | .tick :: r=>fulls r
 | .found l :: r=>l :: fulls r
theorem fulls_append : ∀ a b : List Ev,fulls (a ++ b) = fulls a ++ fulls b
 | [],b=>rfl
 | .tick :: a,b=>fulls_append a b
 | .found l :: a,b=>congrArg (l :: ·) (fulls_append a b)
def runE (bud : Nat) (all : Bool) : List Ev → Nat → List Lst → Sr
 | [],sp,fs=>.go sp fs
 | .tick :: r,sp,fs=>if sp = bud then .stop 3 sp fs else runE bud all r (sp + 1) fs
 | .found l :: r,sp,fs=>if all then runE bud all r sp (fs ++ [l]) else .stop 0 sp (fs ++ [l])
theorem runE_append (bud : Nat) (all : Bool) (b : List Ev) : ∀ (a : List Ev) (sp : Nat) (fs : List Lst),runE bud all (a ++ b) sp fs = match runE bud all a sp fs with
  | .go sp fs=>runE bud all b sp fs
  | .stop e sp fs=>.stop e sp fs
 | [],sp,fs=>rfl
 | .tick :: a,sp,fs=>by
  rw [List.cons_append]
  simp only [runE]
  split
  ·rfl
  ·exact runE_append bud all b a _ _
 | .found l :: a,sp,fs=>by
  rw [List.cons_append]
  simp only [runE]
  split
  ·exact runE_append bud all b a _ _
  ·rfl
def trace (full : Lst → Bool) (ext : Lst → Mt → Lst) (ch : Lst → List Mt) (ok : Lst → Bool) : Nat → Lst → List Ev
 | 0,_=>[]
 | n + 1,l=>if full l then [.found l] else (ch l).flatMap fun m=>.tick :: if ok (ext l m) then trace full ext ch ok n (ext l m) else []
theorem exam_trace (ch : Lst → List Mt) (ok : Lst → Bool) (p : Pl) (bud : Nat) (all : Bool) : ∀ (n : Nat) (l : Lst) (sp : Nat) (fs : List Lst),exam ch ok p bud all n l sp fs = runE bud all (trace (fun l=>fullC l p) (fun l m=>extL l p m) ch ok n l) sp fs
 | 0,l,sp,fs=>rfl
 | n + 1,l,sp,fs=>by
  unfold exam trace
  split
  ·simp only [runE]
  ·generalize ch l = ms
   induction ms generalizing sp fs with
   | nil=>rfl
   | cons m ms ih =>
    rw [List.flatMap_cons,List.cons_append]
    simp only [exLoop,runE]
    split
    ·rfl
    ·split
     ·rw [runE_append,← exam_trace ch ok p bud all n]
      cases exam ch ok p bud all n (extL l p m) (sp + 1) fs with
      | go sp fs=>exact ih _ _
      | stop e sp fs=>rfl
     ·exact ih _ _
theorem run_all {bud : Nat} : ∀ (T : List Ev) (sp : Nat) (fs : List Lst),sp ≤ bud → (sp + ticks T ≤ bud → runE bud true T sp fs = .go (sp + ticks T) (fs ++ fulls T)) ∧ (bud < sp + ticks T → ∃ fs',runE bud true T sp fs = .stop 3 bud fs')
 | [],sp,fs,h=>⟨fun _=>by simp [runE,ticks,fulls],fun h2=>by simp only [ticks] at h2; omega⟩
 | .tick :: r,sp,fs,h=>by
  simp only [runE,ticks,fulls]
  by_cases he : sp = bud
  ·rw [if_pos he]
   exact ⟨fun h2=>by omega,fun _=>⟨fs,by rw [he]⟩⟩
  ·rw [if_neg he]
   obtain ⟨h1,h2⟩:=run_all (bud:=bud) r (sp + 1) fs (by omega)
   have e : sp + 1 + ticks r = sp + (ticks r + 1):=by omega
   rw [e] at h1 h2
   exact ⟨h1,h2⟩
 | .found l :: r,sp,fs,h=>by
  simp only [runE,ticks,fulls,if_true]
  obtain ⟨h1,h2⟩:=run_all (bud:=bud) r sp (fs ++ [l]) h
  exact ⟨fun h3=>by rw [h1 h3,List.append_assoc]; rfl,h2⟩
def firstAtE : List Ev → Nat
 | []=>0
 | .tick :: r=>firstAtE r + 1
 | .found _ :: _=>0
theorem first_le : ∀ T : List Ev,firstAtE T ≤ ticks T
 | []=>w21 _
 | .tick :: r=>Nat.succ_le_succ (first_le r)
 | .found _ :: r=>w22 _
theorem run_first {bud : Nat} : ∀ (T : List Ev) (sp : Nat),sp ≤ bud → (fulls T = [] → (sp + ticks T ≤ bud → runE bud false T sp [] = .go (sp + ticks T) []) ∧ (bud < sp + ticks T → runE bud false T sp [] = .stop 3 bud [])) ∧
  (∀ x r,fulls T = x :: r → (sp + firstAtE T ≤ bud → runE bud false T sp [] = .stop 0 (sp + firstAtE T) [x]) ∧ (bud < sp + firstAtE T → runE bud false T sp [] = .stop 3 bud []))
 | [],sp,h=>⟨fun _=>⟨fun _=>by simp [runE,ticks],fun h2=>by simp only [ticks] at h2; omega⟩,fun x r h=>by simp [fulls] at h⟩
 | .tick :: r,sp,h=>by
  simp only [runE,ticks,fulls,firstAtE]
  by_cases he : sp = bud
  ·rw [if_pos he]
   exact ⟨fun _=>⟨fun h2=>by omega,fun _=>by rw [he]⟩,fun x r _=>⟨fun h2=>by omega,fun _=>by rw [he]⟩⟩
  ·rw [if_neg he]
   obtain ⟨h1,h2⟩:=run_first (bud:=bud) r (sp + 1) (by omega)
   have e : sp + 1 + ticks r = sp + (ticks r + 1):=by omega
   have e' : sp + 1 + firstAtE r = sp + (firstAtE r + 1):=by omega
   rw [e] at h1; rw [e'] at h2
   exact ⟨h1,h2⟩
 | .found l :: r,sp,h=>by
  simp only [runE,ticks,fulls,firstAtE,Bool.false_eq_true,if_false]
  refine ⟨fun h=>by simp at h,fun x r' h2=>?_⟩
  obtain ⟨rfl,_⟩:=List.cons.inj h2
  exact ⟨fun _=>rfl,fun h3=>by omega⟩
def okD (p : Pl) (l : Lst) : Bool:=decide (dmA l p < 0)
def trP (p : Pl) : List Ev:=trace (fun l=>fullC l p) (fun l m=>extL l p m) (fun l=>chs l p) (okD p) (fuelN p) []
theorem run_tr (p : Pl) (most : Int) (all : Bool) : runP p most all = runE most.toNat all (trP p) 0 []:=exam_trace _ _ _ _ _ _ _ _ _
theorem argE_of {p : Pl} {most : Int} (h0 : checkP p = 0) (h1 : 0 ≤ most) (h2 : most ≤ 1073741824) : argE p most = 0:=by
 unfold argE; rw [if_pos h0,if_neg (by omega)]
theorem plan_tr {p : Pl} {most : Int} (h0 : checkP p = 0) (h1 : 0 ≤ most) (h2 : most ≤ 1073741824) :
  (fulls (trP p) = [] → ((ticks (trP p) : Int) ≤ most → planF p most = ⟨[],0,320⟩) ∧ (most < (ticks (trP p) : Int) → planF p most = ⟨[],0,3⟩)) ∧
  (∀ x r,fulls (trP p) = x :: r → ((firstAtE (trP p) : Int) ≤ most → planF p most = ⟨x,firstAtE (trP p),0⟩) ∧ (most < (firstAtE (trP p) : Int) → planF p most = ⟨[],0,3⟩)):=by
 have hA:=argE_of h0 h1 h2
 obtain ⟨a1,a2⟩:=run_first (bud:=most.toNat) (trP p) 0 (w22 _)
 unfold planF
 rw [if_pos hA,run_tr]
 refine ⟨fun h=>⟨fun h3=>?_,fun h3=>?_⟩,fun x r h=>⟨fun h3=>?_,fun h3=>?_⟩⟩
 ·rw [(a1 h).1 (by omega)]; rfl
 ·rw [(a1 h).2 (by omega)]; rfl
 ·rw [(a2 x r h).1 (by omega),Nat.zero_add]; rfl
 ·rw [(a2 x r h).2 (by omega)]; rfl
theorem dmA_neg {l : Lst} {p : Pl} : dmA l p < 0 ↔ checkP p = 0 ∧ PartP l p ∧ ∀ d ∈ p.demands,doomsF (pR l p) d = false:=by
 unfold dmA
 by_cases h : checkP p = 0 ∧ PartP l p
 ·rw [if_pos h]
  refine ⟨fun hh=>⟨h.1,h.2,fun d hd=>?_⟩,fun hh=>?_⟩
  ·rcases doomL_head (pR l p) p with ⟨_,h2⟩ | h2
   ·obtain ⟨a,ha,rfl⟩:=List.getElem_of_mem hd
    cases he : doomsF (pR l p) p.demands[a] with
    | false=>rfl
    | true =>
     have : (a : Int) ∈ doomL (pR l p) p:=doomL_mem.2 ⟨a,ha,rfl,he⟩
     rw [h2] at this; simp at this
   ·obtain ⟨a,ha,e,_⟩:=doomL_mem.1 h2
    omega
  ·rcases doomL_head (pR l p) p with ⟨h1,_⟩ | h2
   ·omega
   ·obtain ⟨a,ha,_,hd⟩:=doomL_mem.1 h2
    rw [hh.2.2 _ (List.getElem_mem ha)] at hd; cases hd
 ·rw [if_neg h]
  exact ⟨fun hh=>by omega,fun hh=>absurd ⟨hh.1,hh.2.1⟩ h⟩
theorem trace_sub {full : Lst → Bool} {ext : Lst → Mt → Lst} {ch : Lst → List Mt} {ok ok' : Lst → Bool} (h : ∀ l,ok l = true → ok' l = true) : ∀ (n : Nat) (l : Lst),(trace full ext ch ok n l).Sublist (trace full ext ch ok' n l)
 | 0,l=>.slnil
 | n + 1,l=>by
  unfold trace
  split
  ·exact List.Sublist.refl _
  ·generalize ch l = ms
   induction ms with
   | nil=>exact .slnil
   | cons m ms ih =>
    rw [List.flatMap_cons,List.flatMap_cons]
    refine List.Sublist.append (.cons_cons _ ?_) ih
    split
    ·rename_i ho
     rw [if_pos (h _ ho)]; exact trace_sub h n _
    ·exact List.nil_sublist _
theorem fulls_sub {a b : List Ev} (h : a.Sublist b) : (fulls a).Sublist (fulls b):=by
 induction h with
 | slnil=>exact .slnil
 | cons e h ih=>cases e with
  | tick=>exact ih
  | found l=>exact .cons _ ih
 | cons_cons e h ih=>cases e with
  | tick=>exact ih
  | found l=>exact .cons_cons _ ih
theorem tr_fewer {p : Pl} {ds : List Dm} (hx : checkP ⟨p.clubs,p.double,ds⟩ = 0) (hd : ∀ d ∈ ds,d ∈ p.demands) : (trP p).Sublist (trP ⟨p.clubs,p.double,ds⟩) :=
 trace_sub (ok:=okD p) (ok':=okD ⟨p.clubs,p.double,ds⟩) (fun l h=>w19 (dmA_neg.2 (by
  obtain ⟨h1,h2,h3⟩:=dmA_neg.1 (of_decide_eq_true h)
  exact ⟨hx,h2,fun d hd'=>h3 d (hd d hd')⟩))) _ _
theorem check_of {p : Pl} {ds : List Dm} (h0 : checkP p = 0) (hl : ds.length ≤ 128) (hd : ∀ d ∈ ds,validF p d = true) : checkP ⟨p.clubs,p.double,ds⟩ = 0:=by
 have hf:=checkP_field h0
 unfold checkP
 rw [if_pos hf,if_pos hl]
 exact if_pos (List.all_eq_true.2 hd)
end Go.Proofs.YtndlggbljkhfbaaGreat
namespace Go.Proofs.YtndlggbljkhfbaaGreat
open Go.Tidy
theorem full_of {x : Lst} {p : Pl} (hP : PartP x p) (hf : fullC x p = true) : FullP x p:=by
 unfold fullC at hf
 rw [Bool.and_eq_true] at hf
 refine ⟨hP,of_decide_eq_true hf.1,fun r hr=>?_⟩
 have h2:=hf.2
 rw [hr] at h2
 exact Nat.le_of_eq (of_decide_eq_true h2).symm
theorem fulls_mem {p : Pl} {x : Lst} (hx : x ∈ fulls (trP p)) : FullP x p ∧ dmA x p < 0:=by
 have e:=(run_all (bud:=ticks (trP p)) (trP p) 0 [] (w22 _)).1 (by omega)
 obtain ⟨h1,h2,h3⟩:=run_mem (p:=p) (most:=(ticks (trP p) : Int)) (all:=true) (x:=x) (by rw [run_tr,Int.toNat_natCast,e]; simpa [Sr.fs] using hx)
 exact ⟨full_of h1 h3,h2⟩
theorem fulls_small {p : Pl} (hs : Small [] p) {x : Lst} (hx : x ∈ fulls (trP p)) : Small x p:=by
 obtain ⟨h1,h2⟩:=fulls_mem hx
 exact (part_small hs (fewlen (dmA_part h2).1) h1.1 ⟨0,0⟩).1
theorem fulls_brk {p : Pl} {x : Lst} (hx : x ∈ fulls (trP p)) : brkE x p = 0 ∧ brkL x p = []:=by
 obtain ⟨h1,h2⟩:=fulls_mem hx
 obtain ⟨h3,h4,h5⟩:=dmA_neg.1 h2
 unfold brkE brkL
 rw [if_pos h3,if_pos h1,if_pos ⟨h3,h1⟩]
 refine ⟨rfl,?_⟩
 rw [List.eq_nil_iff_forall_not_mem]
 intro a ha
 obtain ⟨i,hi,_,hd⟩:=doomL_mem.1 ha
 rw [h5 _ (List.getElem_mem hi)] at hd; cases hd
end Go.Proofs.YtndlggbljkhfbaaGreat
namespace Go.Proofs.YtndlggbljkhfbaaGreat
open Go.Tidy
theorem prIn_nodup {c : Int} : ∀ {os : List Int},os.Pairwise (· < ·) → (∀ o ∈ os,c < o) → (prIn c os).Nodup
 | [],_,_=>.nil
 | o :: os,hp,hc=>by
  obtain ⟨h1,hp⟩:=List.pairwise_cons.1 hp
  have hco:=hc o (by simp)
  have ih:=prIn_nodup hp fun x hx=>hc x (by simp [hx])
  rw [prIn,List.nodup_cons,List.nodup_cons,List.mem_cons,prIn_mem,prIn_mem]
  refine ⟨?_,?_,ih⟩
  ·rintro (h | ⟨x,hx,h | h⟩)
   ·have:=congrArg Mt.home h; simp at this; omega
   ·have:=congrArg Mt.away h; have:=h1 x hx; simp at *; omega
   ·have:=congrArg Mt.home h; have:=hc x (by simp [hx]); simp at *; omega
  ·rintro ⟨x,hx,h | h⟩
   ·have:=congrArg Mt.home h; simp at this; omega
   ·have:=congrArg Mt.home h; have:=h1 x hx; simp at *; omega
theorem prs_nodup : ∀ {cs : List Int},cs.Pairwise (· < ·) → (prs cs).Nodup
 | [],_=>.nil
 | c :: cs,hp=>by
  obtain ⟨hc,hp'⟩:=List.pairwise_cons.1 hp
  rw [prs,List.nodup_append]
  refine ⟨prIn_nodup hp' hc,prs_nodup hp',fun a ha b hb e=>?_⟩
  subst e
  obtain ⟨x,y,hx,hy,hxy,hf,_⟩:=prs_mem hp' hb
  obtain ⟨o,ho,h⟩:=prIn_mem.1 ha
  have h1:=hc x hx
  have h2 : firstM a = c:=by
   rcases h with rfl | rfl
   ·exact (firstM_lt (hc o ho)).1
   ·exact (firstM_lt (hc o ho)).2
  omega
theorem sorted_of {p : Pl} (h0 : checkP p = 0) : p.clubs.Pairwise (· < ·):=by
 have hp:=checkP_field h0
 simp only [fieldOk,Bool.and_eq_true,decide_eq_true_eq] at hp
 exact incr_lt hp.1.1
theorem chs_nodup {l : Lst} {p : Pl} (h0 : checkP p = 0) (hP : PartP l p) : (chs l p).Nodup:=by
 rw [chs_eq h0 hP]
 unfold rchs
 split
 ·exact (prs_nodup (sorted_of h0)).filter _
 ·exact .nil
theorem ch_mem {l : Lst} {p : Pl} (h0 : checkP p = 0) (hP : PartP l p) {m : Mt} (hm : m ∈ chs l p) : PartP (extL l p m) p:=by
 rw [chs_eq h0 hP] at hm
 unfold rchs at hm
 split at hm
 ·rename_i hx
  have:=of_decide_eq_true (List.mem_filter.1 hm).2
  rw [ext_eq hx] at this
  exact (PartP_iff _ _ (checkP_field h0)).2 this
 ·simp at hm
theorem full_chs {l : Lst} {p : Pl} (h0 : checkP p = 0) (hP : PartP l p) (hf : fullB l p.clubs p.double = true) : chs l p = []:=by
 have hinc:=sorted_of h0
 have hX : FullX l.flatten p.clubs p.double:=by
  unfold fullB at hf
  split at hf
  ·rename_i h; exact h.2
  ·cases hf
 rw [List.eq_nil_iff_forall_not_mem]
 intro m hm
 unfold chs at hm
 split at hm
 ·rw [chOut_eq _ _ _ _ _ hinc] at hm
  obtain ⟨h1,h2⟩:=List.mem_filter.1 hm
  obtain ⟨a,b,ha,hb,hab,_,hm'⟩:=prs_mem hinc h1
  obtain ⟨_,_,h3,_⟩:=of_decide_eq_true h2
  obtain ⟨h4,h5⟩:=mem_taken.1 h3
  obtain ⟨j,hj,rfl⟩:=List.getElem_of_mem ha
  obtain ⟨i,hi,rfl⟩:=List.getElem_of_mem hb
  have hji : j < i:=by
   refine Nat.lt_of_not_le fun h=>?_
   by_cases e : i = j
   ·subst e; omega
   ·have:=List.pairwise_iff_getElem.1 hinc i j hi hj (by omega); omega
  have hg:=hX i hi j hji
  unfold GamesP at hg
  cases hd : p.double with
  | true =>
   rw [hd,if_pos rfl] at hg
   rcases hm' with rfl | rfl
   ·exact h4 hg.2
   ·exact h4 hg.1
  | false =>
   rw [hd,if_neg (by decide)] at hg
   have h5:=h5 hd
   rcases hm' with rfl | rfl
   ·exact h5 (hg.2 h4)
   ·exact h4 (hg.2 h5)
 ·simp at hm
theorem dmE_of {l : Lst} {p : Pl} (h0 : checkP p = 0) (hP : PartP l p) : dmE l p = 0:=by unfold dmE; rw [if_pos h0,if_pos hP]
end Go.Proofs.YtndlggbljkhfbaaGreat
namespace Go.Proofs.YtndlggbljkhfbaaGreat
open Go.Tidy
variable {L : List Blk} {k : V → List Blk → Prop}
theorem ways_c (l : Lst) (p : Pl) (h : k (.d (.fn 98 [.rptr [lisD l],.rptr p.cells])) L) : CallP C 42 [lisV l,plV p] L k:=by
 refine CallP.pure ?_ rfl (fun _=>rfl) h
 clear h
 refine callP_of C_ok Tryz.func42 rfl rfl (n:=_) rfl (w18 rfl) (rs:=_) rfl ?_
 repeat' ((conv=>whnf); first|refine w0 ?_|refine w1 ?_|refine w2 (fun h=>?_) (fun h=>?_)|refine w3 ?_|refine w4 (fun h=>?_) (fun h=>?_)|refine w5 _ rfl ?_|refine w6 rfl ?_|refine w7 mixed rfl ?_)
 conv=>whnf
 exact FinP.data (L':=[]) (.d (.fnL (.cons (.ptrL (w22 _) rfl (.cons (.d _) .nil)) (.cons (.ptrL (w22 _) rfl (.cons (.d _) (.cons (.d _) (.cons (.d _) .nil)))) .nil)))) rfl rfl ⟨rfl,rfl⟩
theorem full_c (l : Lst) (p : Pl) (hs : Small l p) (h : k (B (fullB l p.clubs p.double)) L) : CallP C 44 [lisV l,plV p] L k:=by
 obtain ⟨f,hf⟩ : ∃ f,fullB l p.clubs p.double = f:=⟨_,rfl⟩
 rw [hf] at h
 refine CallP.pure ?_ rfl (fun _=>rfl) h
 clear h
 refine callP_of C_ok Tryz.func44 rfl rfl (n:=_) rfl (w18 rfl) (rs:=_) rfl ?_
 repeat' ((conv=>whnf); first|refine w0 ?_|refine w1 ?_|refine w2 (fun h=>?_) (fun h=>?_)|refine w3 ?_|refine w4 (fun h=>?_) (fun h=>?_)|refine w5 _ rfl ?_|refine w6 rfl ?_|refine w7 mixed rfl ?_|refine ffull_c l p.clubs p.double hs.hl hs.hr hs.hc (hf ▸ ?_))
 all_goals conv=>whnf
 all_goals exact FinP.drop (n:=0) rfl (w21 0) rfl rfl ⟨rfl,rfl⟩
theorem fullB_part {l : Lst} {p : Pl} (h0 : checkP p = 0) (hP : PartP l p) (hf : fullC l p = true) : fullB l p.clubs p.double = true:=full_fullB h0 (full_of hP hf)
inductive Brc where
 | mk (m : Mt) (r b : Int) (t : List Brc)
mutual
def Brc.cells : Brc → List D
 | .mk m r b t=>[DI m.home,DI m.away,DI r,DI b,.sl (brcs t)]
def brcs : List Brc → List (List D)
 | []=>[]
 | x :: t=>x.cells :: brcs t
end
theorem brcs_map : ∀ t : List Brc,brcs t = t.map Brc.cells
 | []=>rfl
 | x :: t=>by rw [brcs,brcs_map t]; rfl
inductive Bs where
 | go (sp : Nat) (us : List Int) (t : List Brc)
 | stop (e : Int)
def brLoop (f : Lst → Nat → List Int → Bs) (l : Lst) (p : Pl) (bud : Nat) : List Mt → Nat → List Int → List Brc → Bs
 | [],sp,us,t=>.go sp us t
 | m :: ms, sp, us, t => if sp = bud then .stop 3 else
     if 0 ≤ dmA (extL l p m) p then brLoop f l p bud ms (sp + 1) (if dmA (extL l p m) p ∈ us then us else us ++ [dmA (extL l p m) p]) (t ++ [.mk m (atN l p) (dmA (extL l p m) p) []])
     else if fullC (extL l p m) p then .stop 300
     else match f (extL l p m) (sp + 1) us with
      | .go sp us t'=>brLoop f l p bud ms sp us (t ++ [.mk m (atN l p) (dmA (extL l p m) p) t'])
      | .stop e=>.stop e
def brs (p : Pl) (bud : Nat) : Nat → Lst → Nat → List Int → Bs
 | 0,_,sp,us=>.go sp us []
 | n + 1,l,sp,us=>brLoop (brs p bud n) l p bud (chE l p) sp us []
end Go.Proofs.YtndlggbljkhfbaaGreat
namespace Go.Proofs.YtndlggbljkhfbaaGreat
open Go.Tidy
variable {L : List Blk} {k : V → List Blk → Prop}
def FewQ (p : Pl) : Prop:=(∀ (i : Nat) (hi : i < p.demands.length),p.demands[i].clubs.length ≤ 8) ∧ (p.clubs.length ≤ 3 ∨ p.clubs.length = 4 ∧ p.double = false) ∧ p.demands.length ≤ 6
instance (p : Pl) : Decidable (FewQ p):=by unfold FewQ; infer_instance
end Go.Proofs.YtndlggbljkhfbaaGreat
namespace Go.Proofs.YtndlggbljkhfbaaGreat
open Go.Tidy
def Bs.sim : Bs → Sr → Prop
 | .go sp _ _,.go sp' fs=>sp = sp' ∧ fs = []
 | .stop e,.stop e' _ fs=>(e = 3 ∧ e' = 3) ∨ (e = 300 ∧ e' = 0 ∧ fs ≠ [])
 | _,_=>False
theorem brs_sim {p : Pl} {bud : Nat} : ∀ (n : Nat) (l : Lst) (sp : Nat) (us : List Int),checkP p = 0 → PartP l p → fullC l p = false → roundsN p * halfN p < l.flatten.length + n → Bs.sim (brs p bud n l sp us) (examP p bud false n l sp [])
 | 0,l,sp,us,_,_,_,_=>⟨rfl,rfl⟩
 | n + 1,l,sp,us,h0,hP,hf,hn=>by
  have hch : chE l p = chs l p:=by unfold chE; rw [if_pos (dmE_of h0 hP)]
  show Bs.sim (brLoop (brs p bud n) l p bud (chE l p) sp us []) (exam _ _ p bud false (n + 1) l sp [])
  unfold exam
  rw [hf,hch,if_neg (by decide)]
  have key : ∀ (ms : List Mt) (sp : Nat) (us : List Int) (t : List Brc),Bs.sim (brLoop (brs p bud n) l p bud ms sp us t) (exLoop (examP p bud false n) (extL l p) (fun x=>decide (dmA x p < 0)) bud ms sp []):=by
   intro ms
   induction ms with
   | nil=>intro sp us t; exact ⟨rfl,rfl⟩
   | cons m ms ih =>
    intro sp us t
    simp only [brLoop,exLoop]
    by_cases he : sp = bud
    ·rw [if_pos he,if_pos he]; exact .inl ⟨rfl,rfl⟩
    rw [if_neg he,if_neg he]
    by_cases hd : 0 ≤ dmA (extL l p m) p
    ·have hdn : ¬ decide (dmA (extL l p m) p < 0) = true:=by simpa using hd
     rw [if_pos hd,if_neg hdn]
     exact ih _ _ _
    have hdn : decide (dmA (extL l p m) p < 0) = true:=by simpa using hd
    rw [if_neg hd,if_pos hdn]
    have hPx:=(dmA_part (Int.not_le.1 hd)).2
    have hnx : roundsN p * halfN p < (extL l p m).flatten.length + n:=by rw [extL_flat,List.length_append]; simp only [List.length_singleton]; omega
    by_cases hfx : fullC (extL l p m) p = true
    ·rw [if_pos hfx]
     cases n with
     | zero =>
      exfalso
      have:=part_total hPx
      omega
     | succ n =>
      unfold examP exam
      rw [if_pos hfx,if_neg (by decide)]
      exact .inr ⟨rfl,rfl,by simp⟩
    ·rw [if_neg hfx]
     have h2:=brs_sim (p:=p) (bud:=bud) n (extL l p m) (sp + 1) us h0 hPx (by simpa using hfx) hnx
     cases e1 : brs p bud n (extL l p m) (sp + 1) us with
     | go sp1 us1 t1 =>
      cases e2 : examP p bud false n (extL l p m) (sp + 1) [] with
      | go sp2 fs2 =>
       rw [e1,e2] at h2
       obtain ⟨rfl,rfl⟩:=h2
       exact ih _ _ _
      | stop e sp2 fs2=>rw [e1,e2] at h2; exact h2.elim
     | stop e =>
      cases e2 : examP p bud false n (extL l p m) (sp + 1) [] with
      | go sp2 fs2=>rw [e1,e2] at h2; exact h2.elim
      | stop e' sp2 fs2=>rw [e1,e2] at h2; exact h2
  exact key _ _ _ _
theorem prov_tr {p : Pl} (bud : Nat) (h0 : checkP p = 0) :
  (fulls (trP p) = [] → (ticks (trP p) ≤ bud → ∃ sp us t,brs p bud (fuelN p) [] 0 [] = .go sp us t) ∧ (bud < ticks (trP p) → brs p bud (fuelN p) [] 0 [] = .stop 3)) ∧
  (∀ x r,fulls (trP p) = x :: r → (firstAtE (trP p) ≤ bud → brs p bud (fuelN p) [] 0 [] = .stop 300) ∧ (bud < firstAtE (trP p) → brs p bud (fuelN p) [] 0 [] = .stop 3)):=by
 have hs:=brs_sim (p:=p) (bud:=bud) (fuelN p) [] 0 [] h0 (part_nil p) (full_nil p) (by unfold fuelN; simp)
 have hr : examP p bud false (fuelN p) [] 0 [] = runE bud false (trP p) 0 []:=exam_trace _ _ _ _ _ _ _ _ _
 rw [hr] at hs
 obtain ⟨a1,a2⟩:=run_first (bud:=bud) (trP p) 0 (w22 _)
 generalize brs p bud (fuelN p) [] 0 [] = o at hs ⊢
 refine ⟨fun h=>⟨fun h3=>?_,fun h3=>?_⟩,fun x r h=>⟨fun h3=>?_,fun h3=>?_⟩⟩
 ·rw [(a1 h).1 (by omega)] at hs
  cases o with
  | go sp us t=>exact ⟨_,_,_,rfl⟩
  | stop e=>exact hs.elim
 ·rw [(a1 h).2 (by omega)] at hs
  cases o with
  | go sp us t=>exact hs.elim
  | stop e => rcases hs with ⟨rfl, _⟩ | ⟨_, h4, _⟩
              ·rfl
              ·cases h4
 ·rw [(a2 x r h).1 (by omega)] at hs
  cases o with
  | go sp us t=>exact hs.elim
  | stop e => rcases hs with ⟨_, h4⟩ | ⟨rfl, _⟩
              ·cases h4
              ·rfl
 ·rw [(a2 x r h).2 (by omega)] at hs
  cases o with
  | go sp us t=>exact hs.elim
  | stop e => rcases hs with ⟨rfl, _⟩ | ⟨_, h4, _⟩
              ·rfl
              ·cases h4
end Go.Proofs.YtndlggbljkhfbaaGreat
namespace Go.Proofs.YtndlggbljkhfbaaGreat
open Go.Tidy
def errD (e : Int) : D:=.iface 27 false [DI e]
theorem prove1_n (M : List Blk) (hb : belB M.length M = true) {kd : List Blk → Prop} (h : kd M) : DefP C 40 [.ptr 2 0,.ptr 3 0] none M kd:=by
 refine defP_of C_ok (fun _=>false) Tryz.func40 rfl rfl (n:=_) rfl (w18 rfl) rfl rfl rfl rfl rfl rfl rfl (by decide) (by decide) (w22 _) ?_
 repeat' ((conv=>whnf); first|refine w0 ?_|refine w1 ?_|refine w2 (fun h=>?_) (fun h=>?_)|refine w3 ?_|refine w4 (fun h=>?_) (fun h=>?_)|refine w5 _ rfl ?_|refine w6 rfl ?_|refine w7 mixed rfl ?_)
 conv=>whnf
 exact FinP.drop (n:=M.length) (List.take_length ..) (w21 _) rfl hb h
theorem prove1_p (c0 c1 : Blk) (r0 r1 : V) (e x : Int) (hb : belB 4 [c0,c1,.cells [.nil,.nil],.cells [I e]] = true) {kd : List Blk → Prop} (h : kd [c0,c1,.cells [.nil,.nil],.cells [I e]]) :
  DefP C 40 [.ptr 2 0,.ptr 3 0] (some (.d (errD e))) [c0,c1,.cells [r0,r1],.cells [I x]] kd:=by
 refine defP_of C_ok (fun _=>false) Tryz.func40 rfl rfl (n:=_) rfl (w18 rfl) rfl rfl rfl rfl rfl rfl rfl (by decide) (by decide) (w22 _) ?_
 repeat' ((conv=>whnf); first|refine w0 ?_|refine w1 ?_|refine w2 (fun h=>?_) (fun h=>?_)|refine w3 ?_|refine w4 (fun h=>?_) (fun h=>?_)|refine w5 _ rfl ?_|refine w6 rfl ?_|refine w7 mixed rfl ?_)
 all_goals conv=>whnf
 all_goals refine w15 (n:=4) rfl (w21 _) rfl hb h
end Go.Proofs.YtndlggbljkhfbaaGreat
namespace Go.Proofs.YtndlggbljkhfbaaGreat
open Go.Tidy
variable {L : List Blk} {k : V → List Blk → Prop}
end Go.Proofs.YtndlggbljkhfbaaGreat
namespace Go.Proofs.YtndlggbljkhfbaaGreat
open Go.Tidy
variable {L : List Blk} {k : V → List Blk → Prop}
end Go.Proofs.YtndlggbljkhfbaaGreat
namespace Go.Proofs.YtndlggbljkhfbaaGreat
open Go.Tidy
variable {L : List Blk} {k : V → List Blk → Prop}
end Go.Proofs.YtndlggbljkhfbaaGreat
namespace Go.Proofs.YtndlggbljkhfbaaGreat
open Go.Tidy
theorem filter_ne_len {cs : List Int} (hn : cs.Nodup) {a : Int} (h : a ∈ cs) : cs.length - 1 ≤ (cs.filter fun b=>!decide (b = a)).length:=by
 induction cs with
 | nil=>simp at h
 | cons c cs ih =>
  obtain ⟨h1,h2⟩:=List.nodup_cons.1 hn
  by_cases e : c = a
  ·subst e
   rw [List.filter_cons_of_neg (by simp),List.filter_eq_self.2 fun b hb=>by
    simp only [Bool.not_eq_true',decide_eq_false_iff_not]; rintro rfl; exact h1 hb]
   simp
  ·rw [List.filter_cons_of_pos (by simp [e])]
   have hm : a ∈ cs:=(List.mem_cons.1 h).resolve_left fun h=>e h.symm
   have:=ih h2 hm
   have : 0 < cs.length:=List.length_pos_of_mem hm
   simp only [List.length_cons]; omega
theorem sum_ge {α : Type} (f : α → Nat) (m : Nat) : ∀ l : List α,(∀ a ∈ l,m ≤ f a) → l.length * m ≤ (l.map f).sum
 | [],_=>by simp
 | a :: l,h=>by
  have:=sum_ge f m l fun b hb=>h b (by simp [hb])
  have:=h a (by simp)
  simp only [List.map_cons,List.sum_cons,List.length_cons,Nat.add_mul,Nat.one_mul]; omega
theorem pairs_ge {cs : List Int} (hn : cs.Nodup) : cs.length * (cs.length - 1) ≤ (pairsL cs).length:=by
 unfold pairsL
 rw [List.length_flatMap]
 exact sum_ge _ _ cs fun a ha=>by rw [List.length_map]; exact filter_ne_len hn ha
theorem pairs_nodup {cs : List Int} (hn : cs.Nodup) : (pairsL cs).Nodup:=by
 unfold pairsL
 refine List.pairwise_flatMap.2 ⟨fun a ha=>?_,hn.imp fun {a b} hab x hx y hy e=>?_⟩
 ·exact List.Pairwise.map _ (fun x y h e=>h (by injection e)) (hn.filter _)
 ·subst e
  obtain ⟨u,_,rfl⟩:=List.mem_map.1 hx
  obtain ⟨v,_,e⟩:=List.mem_map.1 hy
  injection e with e1
  exact hab e1.symm
theorem pairs_in {cs : List Int} {m : Mt} (h : m ∈ pairsL cs) : m.home ∈ cs ∧ m.away ∈ cs ∧ m.home ≠ m.away:=by
 unfold pairsL at h
 obtain ⟨a,ha,h⟩:=List.mem_flatMap.1 h
 obtain ⟨b,hb,rfl⟩:=List.mem_map.1 h
 obtain ⟨h1,h2⟩:=List.mem_filter.1 hb
 simp only [Bool.not_eq_true',decide_eq_false_iff_not] at h2
 exact ⟨ha,h1,fun e=>h2 e.symm⟩
theorem sorted_nodup {p : Pl} (h0 : checkP p = 0) : p.clubs.Nodup:=(sorted_of h0).imp fun {a b} h=>by omega
theorem clubs_two {p : Pl} (h0 : checkP p = 0) : 2 ≤ p.clubs.length:=by
 have hf:=checkP_field h0
 simp only [fieldOk,Bool.and_eq_true,decide_eq_true_eq] at hf; omega
theorem fullC_len {l : Lst} {p : Pl} (h0 : checkP p = 0) (hP : PartP l p) (h : roundsN p * halfN p ≤ l.flatten.length) : fullC l p = true:=by
 have hh : 1 ≤ halfN p:=by have:=clubs_two h0; unfold halfN; omega
 have hr:=fun r hr=>part_row hP (r:=r) hr
 have h1:=sum_len hr
 have hl : l.length = roundsN p:=by
  refine Nat.le_antisymm hP.1 ?_
  exact Nat.le_of_mul_le_mul_right (w23 h h1) hh
 have hpos : 0 < l.length:=by rw [hl]; exact roundsN_pos p
 have hne : l ≠ []:=List.length_pos_iff.1 hpos
 unfold fullC
 rw [decide_eq_true hl,last_of hpos]
 simp only [Bool.true_and,decide_eq_true_eq]
 refine Nat.le_antisymm (hr _ (List.getElem_mem _)) ?_
 have hd:=List.dropLast_concat_getLast hne
 have hlast : l.getLast hne = l[l.length - 1]:=List.getLast_eq_getElem hne
 rw [hlast] at hd
 have h2 : l.dropLast.flatten.length ≤ l.dropLast.length * halfN p:=sum_len fun r hx=>hr r (List.dropLast_subset l hx)
 have h3 : l.flatten.length = l.dropLast.flatten.length + l[l.length - 1].length:=by
  conv=>lhs; rw [← hd]
  rw [List.flatten_append,List.length_append,List.flatten_singleton]
 rw [List.length_dropLast,hl] at h2
 obtain ⟨n,hn⟩ : ∃ n,roundsN p = n + 1:=⟨roundsN p - 1,by have:=roundsN_pos p; omega⟩
 rw [hn,Nat.add_sub_cancel] at h2
 rw [hn,Nat.add_mul,Nat.one_mul] at h
 omega
theorem fullB_len {l : Lst} {p : Pl} (h0 : checkP p = 0) (hX : FullX l.flatten p.clubs p.double) : roundsN p * halfN p ≤ l.flatten.length:=by
 have hn:=clubs_two h0
 have hrh:=rounds_half _ hn
 have hnd:=pairs_nodup (sorted_nodup h0)
 have hge:=pairs_ge (sorted_nodup h0)
 have hG : ∀ a ∈ p.clubs,∀ b ∈ p.clubs,a ≠ b → GamesP l.flatten p.double a b ∨ GamesP l.flatten p.double b a:=fun a ha b hb hab=>by
  obtain ⟨i,hi,rfl⟩:=List.getElem_of_mem ha
  obtain ⟨j,hj,rfl⟩:=List.getElem_of_mem hb
  rcases Nat.lt_trichotomy j i with h | h | h
  ·exact .inl (hX i hi j h)
  ·subst h; exact absurd rfl hab
  ·exact .inr (hX j hj i h)
 cases hd : p.double with
 | true =>
  have hs : ∀ m ∈ pairsL p.clubs,m ∈ l.flatten:=fun m hm=>by
   obtain ⟨h1,h2,h3⟩:=pairs_in hm
   rcases hG _ h1 _ h2 h3 with h | h
   ·unfold GamesP at h; rw [hd,if_pos rfl] at h; exact h.1
   ·unfold GamesP at h; rw [hd,if_pos rfl] at h; exact h.2
  have:=List.Nodup.length_le_of_subset hnd hs
  unfold roundsN halfN; rw [if_pos hd]
  rw [Nat.mul_assoc 2,Nat.mul_comm 2,hrh]; omega
 | false =>
  have hs : ∀ m ∈ pairsL p.clubs,m ∈ l.flatten ++ l.flatten.map backM:=fun m hm=>by
   obtain ⟨h1,h2,h3⟩:=pairs_in hm
   have key : m ∈ l.flatten ∨ backM m ∈ l.flatten:=by
    rcases hG _ h1 _ h2 h3 with h | h
    ·unfold GamesP at h; rw [hd,if_neg (by decide)] at h
     exact Classical.byCases (fun h4 : m ∈ l.flatten=>.inl h4) fun h4=>.inr (Classical.byContradiction fun h5=>h4 (h.2 h5))
    ·unfold GamesP at h; rw [hd,if_neg (by decide)] at h
     exact Classical.byCases (fun h4 : backM m ∈ l.flatten=>.inr h4) fun h4=>.inl (Classical.byContradiction fun h5=>h4 (h.2 h5))
   rcases key with h | h
   ·exact List.mem_append_left _ h
   ·exact List.mem_append_right _ (List.mem_map.2 ⟨_,h,backM_back m⟩)
  have:=List.Nodup.length_le_of_subset hnd hs
  rw [List.length_append,List.length_map] at this
  unfold roundsN halfN; rw [if_neg (by rw [hd]; decide),Nat.one_mul]
  omega
theorem fullB_eq {l : Lst} {p : Pl} (h0 : checkP p = 0) (hP : PartP l p) : fullB l p.clubs p.double = fullC l p:=by
 cases hc : fullC l p with
 | true=>exact fullB_part h0 hP hc
 | false =>
  cases hb : fullB l p.clubs p.double with
  | false=>rfl
  | true =>
   unfold fullB at hb
   split at hb
   ·rename_i h
    rw [fullC_len h0 hP (fullB_len h0 h.2)] at hc; cases hc
   ·cases hb
end Go.Proofs.YtndlggbljkhfbaaGreat
namespace Go.Proofs.YtndlggbljkhfbaaGreat
open Go.Tidy
variable {L : List Blk} {k : V → List Blk → Prop}
theorem brLoop_append (f : Lst → Nat → List Int → Bs) (l : Lst) (p : Pl) (bud : Nat) (ys : List Mt) : ∀ (xs : List Mt) (sp : Nat) (us : List Int) (t : List Brc),brLoop f l p bud (xs ++ ys) sp us t = match brLoop f l p bud xs sp us t with
  | .go sp us t=>brLoop f l p bud ys sp us t
  | .stop e=>.stop e
 | [],sp,us,t=>rfl
 | m :: ms,sp,us,t=>by
  simp only [List.cons_append,brLoop]
  split
  ·rfl
  ·split
   ·exact brLoop_append f l p bud ys ms _ _ _
   ·split
    ·rfl
    ·split
     ·exact brLoop_append f l p bud ys ms _ _ _
     ·rfl
theorem brLoop_next (f : Lst → Nat → List Int → Bs) (l : Lst) (p : Pl) (bud : Nat) {ms : List Mt} {i : Nat} (hi : i < ms.length) {sp sp' : Nat} {us us' : List Int} {t t' : List Brc} (h : brLoop f l p bud (ms.take i) sp us t = .go sp' us' t') :
  brLoop f l p bud (ms.take (i + 1)) sp us t = brLoop f l p bud [ms[i]] sp' us' t':=by
 rw [take_next hi,brLoop_append,h]
theorem brLoop_stop (f : Lst → Nat → List Int → Bs) (l : Lst) (p : Pl) (bud : Nat) {ms : List Mt} {i : Nat} {sp : Nat} {us : List Int} {t : List Brc} {e : Int} (h : brLoop f l p bud (ms.take i) sp us t = .stop e) : brLoop f l p bud ms sp us t = .stop e:=by
 conv=>lhs; rw [← List.take_append_drop i ms]
 rw [brLoop_append,h]
mutual
theorem brs_keep (p : Pl) (bud : Nat) : ∀ (n : Nat) (l : Lst) (sp : Nat) (us : List Int),sp ≤ bud → ∀ sp' us' t',brs p bud n l sp us = .go sp' us' t' → sp' ≤ bud ∧ sp ≤ sp' ∧ t'.length ≤ sp'
 | 0,l,sp,us,hs,sp',us',t',h=>by cases h; exact ⟨hs,Nat.le_refl _,Nat.zero_le _⟩
 | n + 1,l,sp,us,hs,sp',us',t',h=>brLoop_keep p bud n l (chE l p) sp us [] hs (w22 _) sp' us' t' h
theorem brLoop_keep (p : Pl) (bud : Nat) (n : Nat) (l : Lst) : ∀ (ms : List Mt) (sp : Nat) (us : List Int) (t : List Brc),sp ≤ bud → t.length ≤ sp → ∀ sp' us' t',brLoop (brs p bud n) l p bud ms sp us t = .go sp' us' t' → sp' ≤ bud ∧ sp ≤ sp' ∧ t'.length ≤ sp'
 | [],sp,us,t,hs,ht,sp',us',t',h=>by cases h; exact ⟨hs,Nat.le_refl _,ht⟩
 | m :: ms,sp,us,t,hs,ht,sp',us',t',h=>by
  simp only [brLoop] at h
  split at h
  ·cases h
  ·split at h
   ·obtain ⟨h1,h2,h3⟩:=brLoop_keep p bud n l ms (sp + 1) _ _ (by omega) (by rw [List.length_append]; simp only [List.length_singleton]; omega) _ _ _ h
    exact ⟨h1,by omega,h3⟩
   ·split at h
    ·cases h
    ·split at h
     ·rename_i sp2 us2 t2 h2
      obtain ⟨k1,k2,k3⟩:=brs_keep p bud n _ (sp + 1) us (by omega) _ _ _ h2
      obtain ⟨h1,h2,h3⟩:=brLoop_keep p bud n l ms sp2 _ _ k1 (by rw [List.length_append]; simp only [List.length_singleton]; omega) _ _ _ h
      exact ⟨h1,by omega,h3⟩
     ·cases h
end
def pre4 (p : Pl) (bud : Nat) : List Blk:=[.cells (p.cells.map .d),.cells [I bud],.cells [.nil,.nil],.cells [I 0]]
def capR : List V:=[.ptr 0 0,.ptr 6 0,.ptr 1 0,.ptr 5 0,.ptr 7 0]
def preR (p : Pl) (bud : Nat) (us : List Int) (sp : Nat) : List Blk:=pre4 p bud ++ [.map (boolM (intK us)),.cells [.map 4],.cells [I sp],.cells [.fn 41 capR]]
def brR (t : List Brc) : List (List V):=t.map fun b=>b.cells.map .d
theorem Brc.len (b : Brc) : b.cells.length = 5:=by cases b; rfl
theorem brR_len (t : List Brc) : (brR t).length = t.length:=by unfold brR; rw [List.length_map]
theorem brR_bel (n : Nat) : ∀ t : List Brc,belR n (brR t) = true
 | []=>rfl
 | b :: t=>by simp only [brR,List.map_cons,belR,V.belL_d,Bool.true_and]; exact brR_bel n t
theorem brR_snoc (t : List Brc) (b : Brc) : brR (t ++ [b]) = brR t ++ [b.cells.map .d]:=by unfold brR; rw [List.map_append]; rfl
theorem brR_rows {S : Nat → Prop} {L : List Blk} : ∀ t : List Brc,CvLL S L (brR t) (brcs t)
 | []=>.nil
 | b :: t=>.cons (CvL.data b.cells) (brR_rows t)
theorem brcs_len (t : List Brc) : (brcs t).length = t.length:=by rw [brcs_map,List.length_map]
theorem brcs_row (t : List Brc) : ∀ e ∈ brcs t,e.length = 5:=fun e he=>by
 rw [brcs_map] at he
 obtain ⟨b,_,rfl⟩:=List.mem_map.1 he; exact b.len
theorem brR_get (t : List Brc) (z : List V) : ((brR t).take t.length ++ [z])[0 + t.length]? = some z:=by
 rw [Nat.zero_add,List.take_of_length_le (by rw [brR_len]; exact Nat.le_refl _),List.getElem?_append_right (by rw [brR_len]; exact Nat.le_refl _),brR_len,Nat.sub_self]; rfl
theorem brR_put (t : List Brc) (z y : List V) : ((brR t).take t.length ++ [z]).set (0 + t.length) y = brR t ++ [y]:=by
 rw [Nat.zero_add,List.take_of_length_le (by rw [brR_len]; exact Nat.le_refl _),List.set_append_right _ _ (by rw [brR_len]; exact Nat.le_refl _),brR_len,Nat.sub_self]; rfl
theorem preR_bel (p : Pl) (bud : Nat) (us : List Int) (sp : Nat) : belB 8 (preR p bud us sp) = true:=by
 show (V.belL 8 (p.cells.map .d) && (true && (true && (true && (belM 8 (boolM (intK us)) && true))))) = true
 rw [V.belL_d,intM_bel]; rfl
def bsS (p : Pl) (bud : Nat) (l : Lst) (lr : LoopR) (sp : Nat) (us : List Int) (t : List Brc) : List Blk:=preR p bud us sp ++ [.cells [.d (lisD l)],.cells [.own 10 t.length 0 t.length],.row t.length 5 (brR t),.defr,.loop lr]
def bsM (p : Pl) (bud : Nat) (l : Lst) (lr : LoopR) : Bs → List Blk
 | .go sp us t=>bsS p bud l lr sp us t
 | .stop e=>bsS p bud l lr 0 [] []
theorem bsS_next (p : Pl) (bud : Nat) (l : Lst) (lr : LoopR) (sp : Nat) (us : List Int) (c : List Brc) (b : Brc) (z : List V) :
  preR p bud us sp ++ [.cells [.d (lisD l)],.cells [.own 10 (c.length + 1) 0 (c.length + 1)],.row (c.length + 1) 5 (((brR c).take c.length ++ [z]).set (0 + c.length) (b.cells.map .d)),.defr,.loop lr] = bsS p bud l lr sp us (c ++ [b]):=by
 unfold bsS; rw [brR_put,← brR_snoc,List.length_append]; rfl
def bsT (p : Pl) (bud : Nat) (l : Lst) (lr : LoopR) (c : List Brc) (m : Mt) (x : Lst) (mp : List (V × V)) (sp : Int) (b : List V) : List Blk :=
 pre4 p bud ++ [.map mp,.cells [.map 4],.cells [I sp],.cells [.fn 41 capR]] ++ [.cells [.d (lisD l)],.cells [.own 10 c.length 0 c.length],.row c.length 5 (brR c),.defr,.loop { lr with st:=.busy },.cells [.d (DI m.home),.d (DI m.away),I (atN l p),.d (lisD x)],.cells b]
theorem bsT_eq {p : Pl} {bud : Nat} {l : Lst} {lr : LoopR} {c : List Brc} {m : Mt} {x : Lst} {mp mp' : List (V × V)} {sp sp' : Int} {b : List V} (h1 : mp = mp') (h2 : sp = sp') : bsT p bud l lr c m x mp sp b = bsT p bud l lr c m x mp' sp' b:=by subst h1 h2; rfl
theorem us_next (us : List Int) (d : Int) : (∀ i : Nat,I d ∈ intK us → (boolM (intK us)).set i (I d,B true) = boolM (intK us) → (boolM (intK us)).set i (I d,B true) = boolM (intK (if d ∈ us then us else us ++ [d]))) ∧ (I d ∉ intK us → boolM (intK us) ++ [(I d,B true)] = boolM (intK (if d ∈ us then us else us ++ [d]))) :=
 ⟨fun i h1 h2=>by rw [if_pos ((intK_mem us d).1 h1)]; exact h2,fun h1=>by rw [if_neg fun h=>h1 ((intK_mem us d).2 h),boolM_snoc,intK_snoc]⟩
theorem branches_c (p : Pl) (bud : Nat) (h0 : checkP p = 0) (hs0 : Small [] p) (hbud : bud ≤ 1073741824) (pan : V → List Blk → Prop) :
  ∀ (n : Nat) (l : Lst) (sp : Nat) (us : List Int),PartP l p → roundsN p * halfN p < l.flatten.length + n → sp ≤ bud →
   (∀ e,brs p bud n l sp us = .stop e → pan (.d (errD e)) (pre4 p bud)) →
   CallP (C.wp 4 pan) 41 (lisV l :: capR) (preR p bud us sp) fun X L'=>∃ sp' us' t,brs p bud n l sp us = .go sp' us' t ∧ X = .d (.sl (brcs t)) ∧ L' = preR p bud us' sp'
 | 0,l,sp,us,hP,hfu,_,_=>by have:=part_total hP; omega
 | n + 1,l,sp,us,hP,hfu,hsp,hst=>by
  have hlen : 1 ≤ p.clubs.length ∧ p.clubs.length ≤ 1000:=by
   have hf:=checkP_field h0
   simp only [fieldOk,Bool.and_eq_true,decide_eq_true_eq] at hf; omega
  obtain ⟨hsl,hsx⟩:=part_small hs0 hlen.2 hP ⟨0,0⟩
  have hh:=halfN_le hlen.2
  have hrw : ∀ r ∈ l,r.length + 1 ≤ 4294967296:=fun r hr=>by have:=part_row hP hr; omega
  have hroot : brs p bud (n + 1) l sp us = brLoop (brs p bud n) l p bud (chE l p) sp us []:=rfl
  refine callP_cut (C:=C.wp 4 pan) (fun c=>match c with | .region 1 _ _=>true | _=>false) (C_ok.wp 4 pan) Tryz.func41 rfl rfl (n:=_) rfl (w18 rfl) (rs:=_) rfl ?_ (w18 rfl)
  conv=>whnf
  refine CutP.intro (ι:=Unit) (fun _=>⟨[(1,.ptr 0 0),(2,.ptr 6 0),(3,.ptr 1 0),(4,.ptr 5 0),(5,.ptr 7 0),(6,.ptr 8 0),(7,.ptr 9 0),(12,.d (.fn 98 [.rptr [lisD l],.rptr p.cells]))],Tryz.f41.ntmps,preR p bud us sp ++ [.cells [.d (lisD l)],.cells [.own 10 0 0 0],.row 0 5 []],[],none⟩) ?_ (fun _=>?_)
  ·repeat' (conv => whnf
            first|refine w0 ?_|refine w1 ?_|refine w2 (fun h=>?_) (fun h=>?_)|refine w3 ?_|refine w4 (fun h=>?_) (fun h=>?_)|refine w5 _ rfl ?_|refine w6 rfl ?_|refine w7 mixed rfl ?_|refine w14 (ways_c l p ?_))
   conv=>whnf
   exact ⟨(),Weak.nilCellTo 9 0 5 _ rfl rfl (by decide) rfl ⟨rfl,rfl,rfl,rfl,rfl,rfl,rfl,rfl,trivial⟩⟩
  conv=>whnf
  refine CallP.cnv (args':=.yld 12 :: [D.rptr [lisD l],.rptr p.cells].map .d) (L':=preR p bud us sp ++ [.cells [.d (lisD l)],.cells [.own 10 0 0 0],.row 0 5 [],.defr,.loop _]) rfl rfl ?_
  generalize hlr : LoopR.mk _ _ _ _ _ _ _ _ = lr
  have hlrd : lr.df = 11:=by rw [← hlr]; rfl
  have hlrs : lr.st = .ready:=by rw [← hlr]
  have hlrp : lr.pend = none:=by rw [← hlr]
  have hback : (⟨.ready,none,lr.fr,lr.n,lr.ps,lr.assign,lr.body,lr.df⟩ : LoopR) = lr:=by rw [← hlr]
  have hblkb : (Blk.loop lr).bel 13 = true:=by rw [← hlr]; rfl
  have hMl : ∀ o,(bsM p bud l lr o).length = 13:=fun o=>by cases o <;> rfl
  have hSb : ∀ sp us t,belB 13 (bsS p bud l lr sp us t) = true:=fun sp us t=>by
   refine belB_append (belB_le (by decide) (preR_bel p bud us sp)) ?_
   show (true && (true && (belR 13 (brR t) && (true && ((Blk.loop lr).bel 13 && true))))) = true
   rw [hblkb,brR_bel]; rfl
  have hMb : ∀ o,belB 13 (bsM p bud l lr o) = true:=fun o=>by cases o <;> exact hSb _ _ _
  have hMd : ∀ o,dfB (bsM p bud l lr o) = true:=fun o=>by
   have key : ∀ sp us t,dfB (bsS p bud l lr sp us t) = true:=fun sp us t=>by
    refine dfB_of fun c l' hc=>?_
    match c,hc with
    | 0,hc | 1,hc | 2,hc | 3,hc | 4,hc | 5,hc | 6,hc | 7,hc | 8,hc | 9,hc | 10,hc | 11,hc=>cases hc
    | 12,hc =>
     have : lr = l':=by cases hc; rfl
     rw [← this,hlrd]; rfl
    | c + 13,hc=>cases hc
   cases o <;> exact key _ _ _
  have hroot':=hroot
  generalize hf0 : brs p bud n = f0 at hroot'
  refine CallP.cnv (L':=bsM p bud l lr (brLoop f0 l p bud ((chE l p).take 0) sp us [])) rfl rfl ?_
  refine ways_it 4 pan l p hsl hlen.2 hrw 12 13 (fun i=>∃ a b c,brLoop f0 l p bud ((chE l p).take i) sp us [] = .go a b c) (fun i=>bsM p bud l lr (brLoop f0 l p bud ((chE l p).take i) sp us [])) _ (w18 rfl) (fun i=>hMl _) (fun i=>hMb _) (fun i=>hMd _) (by omega) ?_ ?_ ⟨sp,us,[],rfl⟩
  ·rintro i hi ⟨a,b,c,hab⟩
   rw [List.length_map] at hi
   rw [List.getElem_map]
   obtain ⟨m,hm⟩ : ∃ m,m = (chE l p)[i]:=⟨_,rfl⟩
   have hnext:=brLoop_next f0 l p bud hi hab
   rw [← hm] at hnext ⊢
   obtain ⟨k1,k2,k3⟩:=brLoop_keep p bud n l _ sp us [] hsp (Nat.zero_le _) a b c (by rw [hf0]; exact hab)
   refine YieldP.conv (show _ = bsS p bud l lr a b c by rw [hab]; rfl) ?_
   obtain ⟨x,hx⟩ : ∃ x,x = extL l p m:=⟨_,rfl⟩
   have hnx : nxV l p m = .agg [.d (DI m.home),.d (DI m.away),I (atN l p),.d (lisD x)]:=by rw [hx]; rfl
   have hsx : Small x p:=hx ▸ (part_small hs0 hlen.2 hP m).2
   rw [hnx]
   refine YieldP.roundE (C_ok.wp 4 pan) (fun c=>match c with | .block 2 _=>true | _=>false) hlr rfl rfl ?_ (w18 rfl)
   by_cases hsb : a = bud
   ·have hstop : brLoop f0 l p bud (chE l p) sp us [] = .stop 3:=by
     refine brLoop_stop _ _ _ _ (i:=i + 1) ?_
     rw [hnext,brLoop,if_pos hsb]
    repeat' ((conv=>whnf); first|refine w8 (w19 (show (a : Int) = (bud : Int) by omega)) ?_|simp only [hlrs,setB_eq]|refine w0 ?_|refine w1 ?_|refine w2 (fun h=>?_) (fun h=>?_)|refine w3 ?_|refine w4 (fun h=>?_) (fun h=>?_)|refine w5 _ rfl ?_|refine w6 rfl ?_|refine w7 mixed rfl ?_)
    exact Need.intro ⟨Nat.le_of_ble_eq_true rfl,rfl,rfl⟩ (hst 3 (hroot.trans (by rw [hf0]; exact hstop)))
   ·have hi64 : IntKind.i64.wrap ((a : Int) + 1) = ((a + 1 : Nat) : Int):=by rw [wrap_in (by omega)]; omega
    have hsb' : ¬ (a : Int) = (bud : Int):=by omega
    let R:={ q : List Int × Nat × List Brc // brLoop f0 l p bud [m] a b c = .go q.2.1 q.1 (c ++ [.mk m (atN l p) (dmA x p) q.2.2]) ∧ q.2.1 ≤ bud }
    repeat' ((conv=>whnf); first|refine w9 (w20 hsb') ?_|simp only [hlrs,setB_eq]|refine w14 (dmd_c x p hsx ?_)|refine w0 ?_|refine w1 ?_|refine w2 (fun h=>?_) (fun h=>?_)|refine w3 ?_|refine w4 (fun h=>?_) (fun h=>?_)|refine w5 _ rfl ?_|refine w6 rfl ?_|refine w7 mixed rfl ?_)
    conv=>whnf
    refine CutP.intro (ι:=R) (fun q=>⟨[(7,.ptr 9 0),(9,.ptr 14 0)],Tryz.f41.ntmps,preR p bud q.1.1 q.1.2.1 ++ [.cells [.d (lisD l)],.cells [.own 10 c.length 0 c.length],.row c.length 5 (brR c),.defr,.loop { lr with st:=.busy },.cells [.d (DI m.home),.d (DI m.away),I (atN l p),.d (lisD x)],.cells ((Brc.mk m (atN l p) (dmA x p) q.1.2.2).cells.map .d)],[],some 12⟩) ?_ (fun q=>?_)
    ·by_cases hd : 0 ≤ dmA x p
     ·obtain ⟨e1,e2⟩:=us_next b (dmA x p)
      have hd1 : brLoop f0 l p bud [m] a b c = .go (a + 1) (if dmA x p ∈ b then b else b ++ [dmA x p]) (c ++ [.mk m (atN l p) (dmA x p) []]):=by
       simp only [brLoop]; rw [if_neg hsb,← hx,if_pos hd]
      repeat' ((conv=>whnf); first|refine w8 (w19 hd) ?_|refine MapF.set (intK b) rfl (intK_ok b) (fun i h1 h2=>?_) (fun h1=>?_)|refine w0 ?_|refine w1 ?_|refine w2 (fun h=>?_) (fun h=>?_)|refine w3 ?_|refine w4 (fun h=>?_) (fun h=>?_)|refine w5 _ rfl ?_|refine w6 rfl ?_|refine w7 mixed rfl ?_)
      all_goals conv=>whnf
      ·exact ⟨⟨(if dmA x p ∈ b then b else b ++ [dmA x p],a + 1,[]),hd1,by show a + 1 ≤ bud; omega⟩,Weak.nilDTo 14 4 [.d (DI m.home),.d (DI m.away),I (atN l p),I (dmA x p),.nil] rfl rfl (bsT_eq (p:=p) (bud:=bud) (l:=l) (lr:=lr) (c:=c) (m:=m) (x:=x) (mp:=(boolM (intK b)).set i (I (dmA x p),B true)) (sp:=IntKind.i64.wrap ((a : Int) + 1)) (b:=[.d (DI m.home),.d (DI m.away),I (atN l p),I (dmA x p),.d (.sl [])]) (e1 i h1 h2) hi64) ⟨rfl,rfl,trivial⟩⟩
      ·exact ⟨⟨(if dmA x p ∈ b then b else b ++ [dmA x p],a + 1,[]),hd1,by show a + 1 ≤ bud; omega⟩,Weak.nilDTo 14 4 [.d (DI m.home),.d (DI m.away),I (atN l p),I (dmA x p),.nil] rfl rfl (bsT_eq (p:=p) (bud:=bud) (l:=l) (lr:=lr) (c:=c) (m:=m) (x:=x) (mp:=boolM (intK b) ++ [(I (dmA x p),B true)]) (sp:=IntKind.i64.wrap ((a : Int) + 1)) (b:=[.d (DI m.home),.d (DI m.away),I (atN l p),I (dmA x p),.d (.sl [])]) (e2 h1) hi64) ⟨rfl,rfl,trivial⟩⟩
     ·obtain ⟨-,hPx⟩:=dmA_part (Int.not_le.1 hd)
      have hbig : roundsN p * halfN p < x.flatten.length + n:=by rw [hx,extL_flat,List.length_append]; simp only [List.length_singleton]; omega
      by_cases hfx : fullC x p = true
      ·have hfB : fullB x p.clubs p.double = true:=(fullB_eq h0 hPx).trans hfx
       have hstop : brLoop f0 l p bud (chE l p) sp us [] = .stop 300:=by
        refine brLoop_stop _ _ _ _ (i:=i + 1) ?_
        rw [hnext]; simp only [brLoop]; rw [if_neg hsb,← hx,if_neg hd,if_pos hfx]
       repeat' ((conv=>whnf); first|refine w9 (w20 hd) ?_|refine w14 (full_c x p hsx ?_)|refine w8 hfB ?_|refine w0 ?_|refine w1 ?_|refine w2 (fun h=>?_) (fun h=>?_)|refine w3 ?_|refine w4 (fun h=>?_) (fun h=>?_)|refine w5 _ rfl ?_|refine w6 rfl ?_|refine w7 mixed rfl ?_)
       conv=>whnf
       exact Need.intro ⟨Nat.le_of_ble_eq_true rfl,rfl,rfl⟩ (hst 300 (hroot.trans (by rw [hf0]; exact hstop)))
      ·have hfB : fullB x p.clubs p.double = false:=(fullB_eq h0 hPx).trans (by simpa using hfx)
       repeat' ((conv=>whnf); first|refine w9 (w20 hd) ?_|refine w14 (full_c x p hsx ?_)|refine w9 hfB ?_|refine w0 ?_|refine w1 ?_|refine w2 (fun h=>?_) (fun h=>?_)|refine w3 ?_|refine w4 (fun h=>?_) (fun h=>?_)|refine w5 _ rfl ?_|refine w6 rfl ?_|refine w7 mixed rfl ?_)
       conv=>whnf
       refine CallP.cnv (args':=lisV x :: capR) (L':=bsT p bud l lr c m x (boolM (intK b)) (IntKind.i64.wrap ((a : Int) + 1)) [.d (DI m.home),.d (DI m.away),I (atN l p),I (dmA x p),.nil]) rfl rfl ?_
       rw [hi64]
       refine CallP.cnv (args':=lisV x :: capR) (L':=preR p bud b (a + 1) ++ [.cells [.d (lisD l)],.cells [.own 10 c.length 0 c.length],.row c.length 5 (brR c),.defr,.loop { lr with st:=.busy },.cells [.d (DI m.home),.d (DI m.away),I (atN l p),.d (lisD x)],.cells [.d (DI m.home),.d (DI m.away),I (atN l p),I (dmA x p),.nil]]) rfl rfl ?_
       have hst2 : ∀ e,brs p bud n x (a + 1) b = .stop e → pan (.d (errD e)) (pre4 p bud):=fun e he=>hst e (hroot.trans (by
        rw [hf0]
        refine brLoop_stop _ _ _ _ (i:=i + 1) ?_
        rw [hnext]; simp only [brLoop]; rw [if_neg hsb,← hx,if_neg hd,if_neg hfx,← hf0,he]))
       have hih:=branches_c p bud h0 hs0 hbud pan n x (a + 1) b hPx hbig (by omega) hst2
       refine CallP.frameP (w18 rfl) hih (preR_bel p bud b (a + 1)) rfl rfl ?_
       rintro X L1 ⟨a',b',t',hgo,rfl,rfl⟩
       refine ⟨rfl,preR_bel p bud b' a',rfl,?_⟩
       have hd1 : brLoop f0 l p bud [m] a b c = .go a' b' (c ++ [.mk m (atN l p) (dmA x p) t']):=by
        simp only [brLoop]; rw [if_neg hsb,← hx,if_neg hd,if_neg hfx,← hf0,hgo]
       obtain ⟨k4,_,_⟩:=brs_keep p bud n x (a + 1) b (by omega) _ _ _ hgo
       repeat' ((conv=>whnf); first|refine w0 ?_|refine w1 ?_|refine w2 (fun h=>?_) (fun h=>?_)|refine w3 ?_|refine w4 (fun h=>?_) (fun h=>?_)|refine w5 _ rfl ?_|refine w6 rfl ?_|refine w7 mixed rfl ?_)
       conv=>whnf
       exact ⟨⟨(b',a',t'),hd1,k4⟩,Weak.by ⟨rfl,rfl,trivial⟩⟩
    ·obtain ⟨⟨b',a',t'⟩,hq1,hq2⟩:=q
     conv=>whnf
     refine DrawP.por mixed [5] [[(0,3),(1,3),(2,3),(3,0),(4,0),(5,2),(6,0),(7,0)],[(0,3),(1,3),(2,3),(3,0),(4,0),(5,2),(7,0),(6,0)],[(0,3),(1,3),(2,3),(3,0),(4,0),(7,0),(5,2),(6,0)]] (by kernel_rfl) ?_
     conv=>whnf
     refine And.intro ?_ ?_
     rotate_left 1
     conv=>whnf
     refine And.intro ?_ ?_
     all_goals
      repeat' ((conv=>whnf); first|refine w0 ?_|refine w1 ?_|refine w2 (fun h=>?_) (fun h=>?_)|refine w3 ?_|refine w4 (fun h=>?_) (fun h=>?_)|refine w5 _ rfl ?_|refine w6 rfl ?_|refine w7 mixed rfl ?_|refine QCallW.rd (.eptr 10 (c.length + 1) (0 + c.length) 0) ?_ ?_|exact ⟨rfl,rfl⟩|exact ⟨trivial,trivial⟩|simp only [Nat.beq_refl,Bool.and_self]|refine IdxN.intro c.length rfl (Nat.lt_succ_self _) ?_|refine w5 _ (brR_get c _) ?_|refine w6 (w23 (m:=4294967296) (show c.length + 1 ≤ 4294967296 by omega) (apLim_ge _)) ?_)
     all_goals conv=>whnf
     all_goals
      have hF : brLoop f0 l p bud ((chE l p).take (i + 1)) sp us [] = .go a' b' (c ++ [.mk m (atN l p) (dmA x p) t']):=hnext.trans hq1
      refine w15 (n:=13) (L':=bsS p bud l lr a' b' (c ++ [.mk m (atN l p) (dmA x p) t'])) ?_ (w21 _) rfl (hSb _ _ _) (.inl ⟨rfl,by rw [hF]; rfl,⟨a',b',_,hF⟩⟩)
      exact (congrArg (fun y : LoopR=>preR p bud b' a' ++ [.cells [.d (lisD l)],.cells [.own 10 (c.length + 1) 0 (c.length + 1)],.row (c.length + 1) 5 (((brR c).take c.length ++ [[I 0,I 0,I 0,I 0,.nil]]).set (0 + c.length) ((Brc.mk m (atN l p) (dmA x p) t').cells.map .d)),.defr,.loop y]) hback).trans (bsS_next p bud l lr a' b' c _ _)
  ·rintro ⟨a,b,c,hab⟩
   have hgo : bsM p bud l lr (brLoop f0 l p bud ((chE l p).take ((chE l p).map fun m=>[nxV l p m]).length) sp us []) = bsS p bud l lr a b c:=by rw [hab]; rfl
   rw [List.length_map,List.take_length] at hab
   generalize bsM p bud l lr (brLoop f0 l p bud ((chE l p).take ((chE l p).map fun m=>[nxV l p m]).length) sp us []) = M at hgo ⊢
   subst hgo
   repeat' ((conv=>whnf); first|refine w0 ?_|refine w1 ?_|refine w2 (fun h=>?_) (fun h=>?_)|refine w3 ?_|refine w4 (fun h=>?_) (fun h=>?_)|refine w5 _ rfl ?_|refine w6 rfl ?_|refine w7 mixed rfl ?_|simp only [hlrs,hlrp])
   conv=>whnf
   exact FinP.data (L':=preR p bud b a) (.d (.rowL (ds:=brcs c) (Nat.le_of_ble_eq_true rfl) rfl (CvLL.cong (by rw [List.drop_zero,List.take_of_length_le (by rw [brR_len]; exact Nat.le_refl _)]) (brR_rows c)) (brcs_len c).symm (brcs_row c))) rfl (preR_bel p bud b a) ⟨a,b,c,hroot'.trans hab,rfl,rfl⟩
end Go.Proofs.YtndlggbljkhfbaaGreat
namespace Go.Proofs
open Go.Shelf
def Tryz.keysA_ren : Go.Shelf.Ren:=⟨fun | 7=>46 | 10=>102 | n=>n,fun | 23=>83 | 26=>3 | 3=>4 | 28=>96 | 0=>0 | 27=>95 | 33=>103 | 4=>4 | n=>n,fun | n=>n⟩
theorem Tryz.keysA : Go.Proofs.SlLaysZI.n7 Tryz.prog Tryz.keysA_ren:={
 mixed:=by kernel_rfl
 f7:=⟨Tryz.f46.name,by decide,Tryz.func46.trans (congrArg some (by kernel_rfl))⟩
 f10:=⟨Tryz.f102.name,by decide,Tryz.func102.trans (congrArg some (by kernel_rfl))⟩
 t0:=Tryz.underlying0
 a0:=Tryz.isAgg0
 z0:=Tryz.sizeOf0
 v0:=Tryz.zeroValue0
 t4:=Tryz.underlying4
 a4:=Tryz.isAgg4
 z4:=Tryz.sizeOf4
 v4:=Tryz.zeroValue4
 t23:=Tryz.underlying83
 a23:=Tryz.isAgg83
 z23:=Tryz.sizeOf83
 v23:=Tryz.zeroValue83
 t26:=Tryz.underlying3
 a26:=Tryz.isAgg3
 z26:=Tryz.sizeOf3
 v26:=Tryz.zeroValue3
 t27:=Tryz.underlying95
 a27:=Tryz.isAgg95
 z27:=Tryz.sizeOf95
 v27:=Tryz.zeroValue95
 t28:=Tryz.underlying96
 a28:=Tryz.isAgg96
 z28:=Tryz.sizeOf96
 v28:=Tryz.zeroValue96
 t33:=Tryz.underlying103
 a33:=Tryz.isAgg103
 z33:=Tryz.sizeOf103
 v33:=Tryz.zeroValue103 }
def Tryz.sortedA_ren : Go.Shelf.Ren:=⟨fun | 6=>45 | 8=>49 | 9=>101 | 11=>106 | 13=>135 | 12=>134 | 23=>164 | 24=>165 | 14=>155 | 15=>156 | 16=>157 | 17=>158 | 18=>159 | 19=>160 | 20=>161 | 21=>162 | 22=>163 | 25=>174 | 26=>175 | 27=>176 | 28=>177 | 29=>178 | 30=>179 | 31=>185 | n=>n,fun | 26=>3 | 28=>96 | 24=>22 | 0=>0 | 3=>3 | 37=>171 | 48=>197 | 50=>199 | 4=>4 | 40=>190 | 39=>189 | 45=>194 | 5=>5 | 9=>9 | 51=>205 | 55=>209 | 57=>214 | 58=>215 | 33=>103 | n=>n,fun | n=>n⟩
theorem Tryz.sortedA : Go.Proofs.SlLaysZI.n6 Tryz.prog Tryz.sortedA_ren:={
 mixed:=by kernel_rfl
 f6:=⟨Tryz.f45.name,by decide,Tryz.func45.trans (congrArg some (by kernel_rfl))⟩
 f8:=⟨Tryz.f49.name,by decide,Tryz.func49.trans (congrArg some (by kernel_rfl))⟩
 f11:=⟨Tryz.f106.name,by decide,Tryz.func106.trans (congrArg some (by kernel_rfl))⟩
 t0:=Tryz.underlying0
 a0:=Tryz.isAgg0
 z0:=Tryz.sizeOf0
 v0:=Tryz.zeroValue0
 t24:=Tryz.underlying22
 a24:=Tryz.isAgg22
 z24:=Tryz.sizeOf22
 v24:=Tryz.zeroValue22
 t26:=Tryz.underlying3
 a26:=Tryz.isAgg3
 z26:=Tryz.sizeOf3
 v26:=Tryz.zeroValue3
 t28:=Tryz.underlying96
 a28:=Tryz.isAgg96
 z28:=Tryz.sizeOf96
 v28:=Tryz.zeroValue96
 i26:=by kernel_rfl }
def Tryz.sortA_ren : Go.Shelf.Ren:=⟨fun | 5=>101 | 8=>135 | 7=>134 | 19=>164 | 20=>165 | 10=>155 | 11=>156 | 12=>157 | 13=>158 | 14=>159 | 15=>160 | 16=>161 | 17=>162 | 18=>163 | 30=>174 | 31=>175 | 32=>176 | 33=>177 | 34=>178 | 35=>179 | 40=>185 | n=>n,fun | 23=>22 | 25=>3 | 3=>3 | 32=>171 | 22=>22 | 0=>0 | 44=>197 | 46=>199 | 4=>4 | 36=>190 | 35=>189 | 41=>194 | 5=>5 | 9=>9 | 53=>205 | 57=>209 | 63=>214 | 64=>215 | n=>n,fun | n=>n⟩
theorem Tryz.sortA : Go.Proofs.SlLaysM.n5 Tryz.prog Tryz.sortA_ren:={
 mixed:=by kernel_rfl
 f5:=⟨Tryz.f101.name,by decide,Tryz.func101.trans (congrArg some (by kernel_rfl))⟩
 f7:=⟨Tryz.f134.name,by decide,Tryz.func134.trans (congrArg some (by kernel_rfl))⟩
 f8:=Tryz.func135.trans (congrArg some (by kernel_rfl))
 f10:=⟨Tryz.f155.name,by decide,Tryz.func155.trans (congrArg some (by kernel_rfl))⟩
 f11:=⟨Tryz.f156.name,by decide,Tryz.func156.trans (congrArg some (by kernel_rfl))⟩
 f12:=⟨Tryz.f157.name,by decide,Tryz.func157.trans (congrArg some (by kernel_rfl))⟩
 f13:=⟨Tryz.f158.name,by decide,Tryz.func158.trans (congrArg some (by kernel_rfl))⟩
 f14:=⟨Tryz.f159.name,by decide,Tryz.func159.trans (congrArg some (by kernel_rfl))⟩
 f15:=⟨Tryz.f160.name,by decide,Tryz.func160.trans (congrArg some (by kernel_rfl))⟩
 f16:=⟨Tryz.f161.name,by decide,Tryz.func161.trans (congrArg some (by kernel_rfl))⟩
 f17:=⟨Tryz.f162.name,by decide,Tryz.func162.trans (congrArg some (by kernel_rfl))⟩
 f18:=⟨Tryz.f163.name,by decide,Tryz.func163.trans (congrArg some (by kernel_rfl))⟩
 f19:=Tryz.func164.trans (congrArg some (by kernel_rfl))
 f20:=Tryz.func165.trans (congrArg some (by kernel_rfl))
 f30:=⟨Tryz.f174.name,by decide,Tryz.func174.trans (congrArg some (by kernel_rfl))⟩
 f31:=Tryz.func175.trans (congrArg some (by kernel_rfl))
 f32:=Tryz.func176.trans (congrArg some (by kernel_rfl))
 f33:=⟨Tryz.f177.name,by decide,Tryz.func177.trans (congrArg some (by kernel_rfl))⟩
 f34:=⟨Tryz.f178.name,by decide,Tryz.func178.trans (congrArg some (by kernel_rfl))⟩
 f35:=⟨Tryz.f179.name,by decide,Tryz.func179.trans (congrArg some (by kernel_rfl))⟩
 f40:=⟨Tryz.f185.name,by decide,Tryz.func185.trans (congrArg some (by kernel_rfl))⟩
 t0:=Tryz.underlying0
 a0:=Tryz.isAgg0
 z0:=Tryz.sizeOf0
 v0:=Tryz.zeroValue0
 t3:=Tryz.underlying3
 a3:=Tryz.isAgg3
 z3:=Tryz.sizeOf3
 v3:=Tryz.zeroValue3
 t4:=Tryz.underlying4
 a4:=Tryz.isAgg4
 z4:=Tryz.sizeOf4
 v4:=Tryz.zeroValue4
 t5:=Tryz.underlying5
 a5:=Tryz.isAgg5
 z5:=Tryz.sizeOf5
 v5:=Tryz.zeroValue5
 t9:=Tryz.underlying9
 a9:=Tryz.isAgg9
 z9:=Tryz.sizeOf9
 v9:=Tryz.zeroValue9
 t22:=Tryz.underlying22
 a22:=Tryz.isAgg22
 z22:=Tryz.sizeOf22
 v22:=Tryz.zeroValue22
 t23:=Tryz.underlying22
 a23:=Tryz.isAgg22
 z23:=Tryz.sizeOf22
 v23:=Tryz.zeroValue22
 t25:=Tryz.underlying3
 a25:=Tryz.isAgg3
 z25:=Tryz.sizeOf3
 v25:=Tryz.zeroValue3
 t32:=Tryz.underlying171
 a32:=Tryz.isAgg171
 z32:=Tryz.sizeOf171
 v32:=Tryz.zeroValue171
 t35:=Tryz.underlying189
 a35:=Tryz.isAgg189
 z35:=Tryz.sizeOf189
 v35:=Tryz.zeroValue189
 t36:=Tryz.underlying190
 a36:=Tryz.isAgg190
 z36:=Tryz.sizeOf190
 v36:=Tryz.zeroValue190
 t41:=Tryz.underlying194
 a41:=Tryz.isAgg194
 z41:=Tryz.sizeOf194
 v41:=Tryz.zeroValue194
 t44:=Tryz.underlying197
 a44:=Tryz.isAgg197
 z44:=Tryz.sizeOf197
 v44:=Tryz.zeroValue197
 t46:=Tryz.underlying199
 a46:=Tryz.isAgg199
 z46:=Tryz.sizeOf199
 v46:=Tryz.zeroValue199
 t53:=Tryz.underlying205
 a53:=Tryz.isAgg205
 z53:=Tryz.sizeOf205
 v53:=Tryz.zeroValue205
 t57:=Tryz.underlying209
 a57:=Tryz.isAgg209
 z57:=Tryz.sizeOf209
 v57:=Tryz.zeroValue209
 t63:=Tryz.underlying214
 a63:=Tryz.isAgg214
 z63:=Tryz.sizeOf214
 v63:=Tryz.zeroValue214
 t64:=Tryz.underlying215
 a64:=Tryz.isAgg215
 z64:=Tryz.sizeOf215
 v64:=Tryz.zeroValue215 }
def Tryz.delA_ren : Go.Shelf.Ren:=⟨fun | 23=>57 | n=>n,fun | 22=>22 | 3=>3 | 4=>4 | 0=>0 | n=>n,fun | n=>n⟩
theorem Tryz.delA : Go.Proofs.Lays2.n23 Tryz.prog Tryz.delA_ren:={
 mixed:=by kernel_rfl
 f23:=Tryz.func57.trans (congrArg some (by kernel_rfl))
 t0:=Tryz.underlying0
 a0:=Tryz.isAgg0
 z0:=Tryz.sizeOf0
 v0:=Tryz.zeroValue0
 t3:=Tryz.underlying3
 a3:=Tryz.isAgg3
 z3:=Tryz.sizeOf3
 v3:=Tryz.zeroValue3
 t4:=Tryz.underlying4
 a4:=Tryz.isAgg4
 z4:=Tryz.sizeOf4
 v4:=Tryz.zeroValue4
 t22:=Tryz.underlying22
 a22:=Tryz.isAgg22
 z22:=Tryz.sizeOf22
 v22:=Tryz.zeroValue22
 i3:=by kernel_rfl }
end Go.Proofs
namespace Go.Proofs.YtndlggbljkhfbaaGreat
open Go.Tidy
variable {L : List Blk} {k : V → List Blk → Prop}
theorem below_good {g : Gh} {w w' : World} (hg : Go.Tidy.Good g w L) (hb : Go.RowKit.Below w.heap.size w w') :
  ∃ g' : Gh,Go.Tidy.Good g' w' L ∧ Prog L.length g w L g' w' L ∧ ∀ q,w.heap.size ≤ q → q < w'.heap.size → g'.I q:=by
 let g' : Gh:={ g with I:=fun q=>g.I q ∨ (w.heap.size ≤ q ∧ q < w'.heap.size) }
 have hold : ∀ (a : Addr) (v : Value),g.I a.block → w.cell? a = some v → w'.cell? a = some v:=fun a v hi hc=>by
  rw [World.cell?_of_block (hb.block _ (hg.lt _ hi))]; exact hc
 have mono : ∀ (x : V) (v : Value),RV g w L x v → RV g' w' L x v:=fun x v hx=>RV.mono (g':=g') (k:=L.length) (fun r h=>Or.inl h) hold (fun b _=>Keep.same rfl rfl rfl) hx.bel hx
 have hob : ∀ (r : Nat) (o : Obj),w.heap[r]? = some o → w'.heap[r]? = some o:=fun r o ho=>by
  rw [hb.block r (Array.getElem?_eq_some_iff.1 ho).1]; exact ho
 refine ⟨g',⟨hg.inj,fun r ho hi=>?_,fun r hi=>?_,fun b x hx=>RB.mono' mono rfl rfl (fun r o _ ho=>hob r o ho) (fun l _=>⟨rfl,fun h=>h⟩) (hg.blk b x hx),hg.gl.mono (I':=g'.I) (fun r h=>Or.inl h) hold⟩,
  ⟨⟨hb.tape,hb.os,hb.output⟩,hb.size,fun r o ho _=>hob r o ho,fun r ho _=>ho,fun r hr=>?_,fun r h=>Or.inl h,fun x v _ hx=>mono x v hx,fun b r _ h1 h2=>⟨h1,h2⟩,fun h=>h⟩,fun q h1 h2=>Or.inr ⟨h1,h2⟩⟩
 ·rcases hi with h | ⟨h,_⟩
  ·exact hg.dis r ho h
  ·have:=hg.owned_lt (r:=r) ho; omega
 ·rcases hi with h | ⟨_,h⟩
  ·exact Nat.lt_of_lt_of_le (hg.lt r h) hb.size
  ·exact h
 ·rcases hr with h | ⟨h,_⟩
  ·exact .inl h
  ·exact .inr (.inl h)
def sortI (l : List Int) : List Int:=l.mergeSort fun x y=>decide (x ≤ y)
theorem sorts_ok (m : Nat) : AnyZI.SortsIn Tryz.prog Tryz.sortedA_ren Fence.wide m :=
 ⟨fun blk off cap ss W hH hblk hsz=>callsIn_wide.2 (AnyM.slices_Sort_int Tryz.sortA blk off cap ss W hH hblk hsz),fun p cap W=>callsIn_wide.2 (AnyM.slices_Sort_int_none Tryz.sortA p cap W)⟩
theorem keys_c (b : Nat) (h : k (.fn 102 [.ptr L.length 0]) (L ++ [.cells [.map b]])) : CallP C 46 [.map b] L k:=by
 refine callP_of C_ok Tryz.func46 rfl rfl (n:=_) rfl (w18 rfl) (rs:=_) rfl ?_
 repeat' ((conv=>whnf); first|refine w0 ?_|refine w1 ?_|refine w2 (fun h=>?_) (fun h=>?_)|refine w3 ?_|refine w4 (fun h=>?_) (fun h=>?_)|refine w5 _ rfl ?_|refine w6 rfl ?_|refine w7 mixed rfl ?_)
 conv=>whnf
 exact FinP.same h
abbrev anyR : Value → Option (DataW Unit × List MemPlace):=fun _=>some (.nil,[])
theorem set_reads {ents : Array MapEntry} {us : List Int} (hlen : ents.size = us.length) (hk : ∀ (i : Nat) (e : MapEntry) (hi : i < us.length),ents[i]? = some e → e.key = .int .i64 us[i]) (hr : ∀ u ∈ us,(Lit.int .i64 u).wf = true) :
  (∀ x ∈ ents.toList,∃ y,Go.WideElems.rd Tryz.prog 3 anyR x = some y) ∧ (intKeys (.map ((ents.toList.map (Go.WideElems.rg Tryz.prog 3 anyR)).foldr DataW.insert []))).Perm us:=by
 have hki : Tryz.prog.underlying 3 = some (.int .i64):=by kernel_rfl
 have at' : ∀ (i : Nat) (e : MapEntry),ents[i]? = some e → ∃ hi : i < us.length,Go.WideElems.rd Tryz.prog 3 anyR e = some (.int .i64 us[i],.nil):=fun i e he=>by
  have hi : i < us.length:=by have:=(Array.getElem?_eq_some_iff.1 he).1; omega
  refine ⟨hi,?_⟩
  unfold Go.WideElems.rd
  rw [hk i e hi he,Go.Maps.keyOf_int_mk hki (hr _ (List.getElem_mem hi))]
  rfl
 constructor
 ·intro x hx
  obtain ⟨i,hi⟩:=List.mem_iff_getElem?.1 hx
  obtain ⟨_,h⟩:=at' i x (by simpa using hi)
  exact ⟨_,h⟩
 ·have e : (ents.toList.map (Go.WideElems.rg Tryz.prog 3 anyR)).map (fun p=>Go.intOf p.1) = us:=by
   refine List.ext_getElem (by simp [hlen]) fun i h1 h2=>?_
   simp only [List.getElem_map]
   have hi : i < ents.size:=by omega
   obtain ⟨_,h⟩:=at' i ents[i] (Array.getElem?_eq_getElem hi)
   have : ents.toList[i]'(by simpa using hi) = ents[i]:=by simp
   rw [this,Go.WideElems.rg,h]; rfl
  rw [← e]
  exact (Go.WideShapes.sorted_perm _).map _
theorem sortedKeys_c {b bx : Nat} {us : List Int} (hL : L[b]? = some (.map (boolM (intK us)))) (hB : L[bx]? = some (.cells [.map b])) (hr : ∀ u ∈ us,(Lit.int .i64 u).wf = true) (hn : us.length ≤ 1073741824) (h : k (.d (ints (sortI us))) L) :
  CallP C 45 [.fn 102 [.ptr bx 0]] L k:=by
 unfold CallP
 refine ⟨⟨_,Tryz.func45,rfl,rfl⟩,fun g w vs hg hv=>?_⟩
 obtain ⟨hlen,hrel⟩:=hv
 obtain ⟨v,rfl⟩ : ∃ v,vs = #[v]:=by
  match vs,hlen with
  | ⟨[v]⟩,_=>exact ⟨v,rfl⟩
 have h0:=hrel 0 _ v rfl rfl
 cases h0 with
 | fn _ _ cs hcl hcr =>
 obtain ⟨q,rfl⟩ : ∃ q,cs = #[q]:=by
  match cs,hcl with
  | ⟨[q]⟩,_=>exact ⟨q,rfl⟩
 have h1:=hcr 0 _ q rfl rfl
 cases h1 with
 | ptrX _ _ a hd=>rw [hB] at hd; cases hd
 | ptr _ _ r1 cs1 hL1 hm1 =>
 rw [hB] at hL1; cases hL1
 obtain ⟨r1',cur,T,hm1',hh1,hsz,_,hrec⟩:=hg.blk bx _ hB
 rw [hm1] at hm1'; cases hm1'
 obtain ⟨c0,hc0⟩ : ∃ c0,cur[0]? = some c0:=⟨_,Array.getElem?_eq_getElem (by rw [hsz]; exact Nat.zero_lt_one)⟩
 have h2:=hrec 0 _ c0 rfl hc0
 cases h2 with
 | mapX _ a hd=>rw [hL] at hd; cases hd
 | map _ r2 es hL2 hm2 =>
 rw [hL] at hL2; cases hL2
 obtain ⟨r2',ents,clock,hm2',hh2,hes,hst,hent⟩:=hg.blk b _ hL
 rw [hm2] at hm2'; cases hm2'
 have hcell : w.cell? ⟨r1,0,none⟩ = some (.map (some r2)):=by rw [cell_row hh1]; exact hc0
 have hsize : ents.size = us.length:=by rw [hes]; simp [boolM,intK]
 have hkey : ∀ (i : Nat) (e : MapEntry) (hi : i < us.length),ents[i]? = some e → e.key = .int .i64 us[i]:=fun i e hi he=>by
  have hx : (boolM (intK us))[i]? = some (I us[i],B true):=by
   unfold boolM intK; rw [List.getElem?_map,List.getElem?_map,List.getElem?_eq_getElem hi]; rfl
  have hv:=(hent i _ e hx he).1
  generalize e.key = y at hv ⊢
  cases hv with | d _ _ hd=>cases hd; rfl
 obtain ⟨hrd,hperm⟩:=set_reads hsize hkey hr
 have hbig : us.length ≤ maxLen:=by simp [maxLen]; omega
 have hown : w.ownsMap Tryz.prog 3 anyR r2 ents.size (.map ((ents.toList.map (Go.WideElems.rg Tryz.prog 3 anyR)).foldr DataW.insert [])) :=
  ⟨ents,clock,hh2,⟨by rw [hsize]; exact hbig,hst,hrd⟩,Nat.le_refl _,rfl⟩
 have hms : Go.Maps.size (DataW.map ((ents.toList.map (Go.WideElems.rg Tryz.prog 3 anyR)).foldr DataW.insert [])) = us.length:=by
  show ((ents.toList.map (Go.WideElems.rg Tryz.prog 3 anyR)).foldr DataW.insert []).length = _
  rw [Go.length_sorted]; simpa using hsize
 have hr1 : r1 < w.heap.size:=(Array.getElem?_eq_some_iff.1 hh1).1
 have hseq : Go.SeqGives Fence.wide 2 Tryz.prog 102 #[.pointer (some ⟨r1,0,none⟩)] encZ _ _ w :=
  AnyZI.keys_gives (ρ:=Tryz.keysA_ren) { Tryz.keysA with } Fence.wide _ trivial rfl (by omega) r1 r2 _ _ w hr1 hcell hown
 have cS:=AnyZI.sorted_in Tryz.sortedA Fence.wide 5 trivial trivial trivial trivial rfl (by omega) (sorts_ok _) (enters_of Tryz.func101 (by kernel_rfl) rfl) 102 #[.pointer (some ⟨r1,0,none⟩)] trivial (enters_of Tryz.func102 (by kernel_rfl) rfl) _ _ (by rw [hms]; exact hbig) (by rw [hms]; omega) _ hseq
 change CallsIn _ _ Tryz.prog 45 _ _ _ at cS
 refine ((callsIn_wide (n:=5)).1 cS).mono ?_
 rintro e w' ⟨v,ss,rfl,hss,hrow,hnil,hb⟩
 obtain ⟨-,hv⟩:=hrow
 have hS : sortI us = ss.mergeSort (fun x y=>decide (x ≤ y)):=(mergeSort_of_perm_i (hss.trans hperm)).symm
 have hSl : (sortI us).length = ss.length:=by rw [hS,List.length_mergeSort]
 obtain ⟨g',hg',hp,hI⟩:=below_good hg hb
 refine .inl ⟨v,.d (ints (sortI us)),L,g',rfl,h,.d _ _ ?_,hg',hp⟩
 rcases hv with ⟨rfl,hz⟩ | ⟨gb,cap,cur',rfl,hbase,hgb,hn1,hn2,hn3,hn4⟩
 ·have : sortI us = []:=List.eq_nil_of_length_eq_zero (by omega)
  rw [this]
  exact .slNil _ _
 ·have hgl : gb < w'.heap.size:=(Array.getElem?_eq_some_iff.1 hgb).1
  have hel : ss.length = ((sortI us).map fun n=>[DI n]).length:=by rw [List.length_map,hSl]
  have hcv : ∀ (i : Nat) (hi : i < (sortI us).length),cur'[i]? = some (.int .i64 (sortI us)[i]):=fun i hi=>by
   have h1 : (cur'.toList.take (ss.length * 1))[i]? = some (.int .i64 (sortI us)[i]):=by
    rw [hn4,← hS,List.getElem?_map,List.getElem?_eq_getElem hi]; rfl
   rw [List.getElem?_take,if_pos (by omega)] at h1
   simpa using h1
  have hgd : ∀ (i : Nat) (hi : i < (sortI us).length),(sortI us).getD i 0 = (sortI us)[i]:=fun i hi=>by simp [List.getD,List.getElem?_eq_getElem hi]
  rw [hel]
  unfold ints
  refine .sl _ ⟨gb,0,none⟩ cap 1 (fun i _=>.int .i64 ((sortI us).getD i 0)) (lenC _) (fun i j hi hj=>?_) (hI gb hbase hgl) (by omega) (fun i j x hx=>?_)
  ·rw [List.length_map] at hi
   obtain rfl : j = 0:=by omega
   rw [Addr.add_lit,cell_row hgb]
   rw [show 0 + (i * 1 + 0) = i by omega,hcv i hi,hgd i hi]
  ·rw [List.getElem?_map] at hx
   cases hq : (sortI us)[i]? with
   | none=>rw [hq] at hx; cases hx
   | some y =>
    rw [hq] at hx
    have hi:=lt_of_get hq
    rw [List.getElem?_eq_getElem hi] at hq
    cases hq
    cases j with
    | zero=>simp at hx; subst hx; rw [hgd i hi]; exact .int _ _
    | succ j=>simp at hx
end Go.Proofs.YtndlggbljkhfbaaGreat
namespace Go.Proofs.YtndlggbljkhfbaaGreat
open Go.Tidy
variable {L : List Blk} {k : V → List Blk → Prop}
end Go.Proofs.YtndlggbljkhfbaaGreat
namespace Go.Proofs.YtndlggbljkhfbaaGreat
open Go.Tidy
variable {L : List Blk} {k : V → List Blk → Prop}
def iR (l : List Int) : List (List V):=l.map fun n=>[I n]
theorem iR_len (l : List Int) : (iR l).length = l.length:=by unfold iR; rw [List.length_map]
theorem iR_bel (n : Nat) : ∀ l : List Int,belR n (iR l) = true
 | []=>rfl
 | c :: l=>by simp only [iR,List.map_cons,belR,V.belL,V.bel,Bool.true_and]; exact iR_bel n l
theorem iR_rows {S : Nat → Prop} {L : List Blk} : ∀ l : List Int,CvLL S L (iR l) (l.map fun n=>[DI n])
 | []=>.nil
 | c :: l=>.cons (.cons (.d _) .nil) (iR_rows l)
theorem iR_cv {S : Nat → Prop} {L : List Blk} (l : List Int) : CvLL S L (((iR l).drop 0).take l.length) (l.map fun n=>[DI n]) :=
 CvLL.cong (by rw [List.drop_zero,List.take_of_length_le (by rw [iR_len]; exact Nat.le_refl _)]) (iR_rows l)
end Go.Proofs.YtndlggbljkhfbaaGreat
namespace Go.Proofs.YtndlggbljkhfbaaGreat
open Go.Tidy
variable {L : List Blk} {k : V → List Blk → Prop}
theorem put_get {d : List Int} {cur : Array Value} {j : Nat} (hj : j < d.length) (hc : d.length ≤ cur.size) : (Go.Sort.putCells (Value.int .i64) 0 d.toArray cur)[j]? = some (.int .i64 d[j]):=by
 unfold Go.Sort.putCells
 rw [Array.getElem?_mapIdx,Array.getElem?_eq_getElem (by omega)]
 simp only [Option.map_some,Nat.zero_le,Nat.zero_add,List.size_toArray,true_and,Nat.sub_zero,if_pos hj]
 rw [getElem!_pos d.toArray j (by simpa using hj)]
 simp
theorem put_size (d : List Int) (cur : Array Value) : (Go.Sort.putCells (Value.int .i64) 0 d.toArray cur).size = cur.size:=by unfold Go.Sort.putCells; simp
theorem put_one {d : List Int} {cur : Array Value} (h : ∀ (i : Nat) (v : Value),cur[i]? = some v → v.oneCell' = true) : ∀ (i : Nat) (v : Value),(Go.Sort.putCells (Value.int .i64) 0 d.toArray cur)[i]? = some v → v.oneCell' = true:=by
 intro i v hv
 unfold Go.Sort.putCells at hv
 rw [Array.getElem?_mapIdx] at hv
 cases hc : cur[i]? with
 | none=>rw [hc] at hv; cases hv
 | some u =>
  rw [hc] at hv
  simp only [Option.map_some,Option.some.injEq] at hv
  split at hv
  ·rw [← hv]; rfl
  ·rw [← hv]; exact h i u hc
theorem iR_get {l : List Int} {i j : Nat} {x : V} (h : ((iR l)[i]?).bind (fun e=>e[j]?) = some x) : j = 0 ∧ ∃ hi : i < l.length,x = I l[i]:=by
 unfold iR at h
 rw [List.getElem?_map] at h
 cases hq : l[i]? with
 | none=>rw [hq] at h; cases h
 | some y =>
  have hi:=lt_of_get hq
  rw [List.getElem?_eq_getElem hi] at hq
  cases hq
  rw [List.getElem?_eq_getElem hi] at h
  cases j with
  | zero=>simp at h; exact ⟨rfl,hi,h.symm⟩
  | succ j=>simp at h
theorem iR_ones (l : List Int) : ∀ e ∈ iR l,e.length = 1:=fun e he=>by
 obtain ⟨n,_,rfl⟩:=List.mem_map.1 he; rfl
theorem delete_c {b gen i : Nat} {l : List Int} (hL : L[b]? = some (.row gen 1 (iR l))) (hi : i < l.length) (hl : l.length ≤ 1073741824) (h : k (.own b gen 0 (l.length - 1)) (L.set b (.row gen 1 (iR (l.take i ++ l.drop (i + 1) ++ [0]))))) :
  CallP C 57 [.own b gen 0 l.length,I i,I (i + 1 : Nat)] L k:=by
 unfold CallP
 refine ⟨⟨_,Tryz.func57,rfl,rfl⟩,fun g w vs hg hv=>?_⟩
 obtain ⟨hlen,hrel⟩:=hv
 obtain ⟨v,x,y,rfl⟩ : ∃ v x y,vs = #[v,x,y]:=by
  match vs,hlen with
  | ⟨[v,x,y]⟩,_=>exact ⟨v,x,y,rfl⟩
 have h0:=hrel 0 _ v rfl rfl
 have h1:=hrel 1 _ x rfl rfl
 have h2:=hrel 2 _ y rfl rfl
 cases h1 with | d _ _ hd =>
 cases hd
 cases h2 with | d _ _ hd =>
 cases hd
 have hbl:=lt_of_get hL
 generalize hn : l.length = n at h0
 cases h0 with
 | ownX _ _ _ _ a n c hL'=>rw [hL] at hL'; cases hL'
 | ownO _ _ gen2 _ _ _ _ a n c hL' hg'=>rw [hL] at hL'; cases hL'; omega
 | ownN _ _ sz2 els2 hL' hm'=>omega
 | own _ _ _ _ sz r o c els hL' hm ho hc hlc hle =>
 rw [hL] at hL'; cases hL'
 subst hn
 obtain ⟨_,hels,⟨hm',hnil⟩ | ⟨r',cur,T,hm',hh,hcap,hbig,hone,hrec⟩⟩:=hg.blk b _ hL
 ·rw [hm'] at hm; cases hm
 rw [hm] at hm'; cases hm'
 have ho0 : o = 0:=by rcases ho with h | h <;> omega
 subst ho0
 rw [iR_len,Nat.mul_one] at hbig
 have hcur : ∀ (j : Nat) (hj : j < l.length),cur[j]? = some (.int .i64 l[j]):=fun j hj=>by
  have hv : cur[j]? = some cur[j]:=Array.getElem?_eq_getElem (by omega)
  have hx : ((iR l)[j]?).bind (fun e=>e[0]?) = some (I l[j]):=by unfold iR; rw [List.getElem?_map,List.getElem?_eq_getElem hj]; rfl
  have hr:=hrec j 0 (I l[j]) cur[j] hx (by rw [show j * 1 + 0 = j by omega]; exact hv)
  rw [hv]
  generalize cur[j] = u at hr ⊢
  cases hr with | d _ _ hd=>cases hd; rfl
 have hH : Go.Sort.Holds (Value.int .i64) w r 0 l.toArray:=fun j hj=>by
  have hj' : j < l.length:=by simpa using hj
  refine ⟨?_,?_⟩
  ·rw [cell_row hh,Nat.zero_add,hcur j hj',getElem!_pos l.toArray j hj]; simp
  ·simp [World.frozen?,hh]
 have hD:=Any.slices_Delete_int Tryz.delA r 0 c i (i + 1) l w hH hlc.1 hlc.2 (by omega) (by omega)
 refine hD.mono ?_
 rintro e w' ⟨rfl,q,rfl⟩
 obtain ⟨ds,hds⟩ : ∃ ds,ds = l.take i ++ l.drop (i + 1) ++ List.replicate (i + 1 - i) 0:=⟨_,rfl⟩
 have hds' : l.take i ++ l.drop (i + 1) ++ [0] = ds:=by rw [hds,show i + 1 - i = 1 by omega]; rfl
 have hdl : ds.length = l.length:=by
  rw [← hds',List.length_append,List.length_append,List.length_take,List.length_drop]; simp; omega
 rw [← hds]
 rw [hds'] at h
 have hheap : ∀ p,(Go.Sort.putRow (Value.int .i64) (Go.Sort.ahead w q) r 0 ds.toArray).heap[p]? = if r = p then some (.cells (Go.Sort.putCells (Value.int .i64) 0 ds.toArray cur) T (0,0)) else w.heap[p]?:=fun p=>by
  show (w.heap.modify r _)[p]? = _
  rw [Array.getElem?_modify]
  split
  ·rename_i e; subst e; rw [hh]; rfl
  ·rfl
 have hsize : (Go.Sort.putRow (Value.int .i64) (Go.Sort.ahead w q) r 0 ds.toArray).heap.size = w.heap.size:=by
  show (w.heap.modify r _).size = _
  simp
 generalize hw' : Go.Sort.putRow (Value.int .i64) (Go.Sort.ahead w q) r 0 ds.toArray = w' at hheap hsize
 have henv : w'.tape = w.tape ∧ w'.os = w.os ∧ w'.output = w.output:=by rw [← hw']; exact ⟨rfl,rfl,rfl⟩
 have S : Step g w L b (.row gen 1 (iR ds)) g w':=by
  refine ⟨hg,⟨_,hL,by simp⟩,by rw [hL]; simp,henv,by omega,rfl,fun _ _=>rfl,fun _ _=>rfl,fun p o ho hne=>?_,fun r hr=>.inl hr,?_⟩
  ·rw [hheap,if_neg (fun e=>hne (by rw [← e]; exact hm))]; exact ho
  ·exact ⟨fun cs' e=>(by rw [hL] at e; cases e),fun gen1 sz1 els1 e=>(by rw [hL] at e; cases e; exact .inr ⟨_,_,_,List.getElem?_set_self hbl,.inr ⟨rfl,rfl,rfl,rfl,by rw [iR_len,iR_len,hdl]⟩⟩),fun es e=>(by rw [hL] at e; cases e),fun l e=>(by rw [hL] at e; cases e),fun e=>(by rw [hL] at e; cases e)⟩
 refine .inl ⟨_,.own b gen 0 (l.length - 1),_,g,rfl,h,?_,S.good' ⟨Nat.zero_lt_one,iR_ones ds,.inr ⟨r,_,T,hm,by rw [hheap,if_pos rfl],?_,?_,put_one hone,fun i' j x v hx hv=>?_⟩⟩,S.prog⟩
 ·rw [show i + 1 - i = 1 by omega]
  exact .own _ _ _ _ 1 r 0 c (iR ds) (List.getElem?_set_self hbl) hm (.inr rfl) hc ⟨by omega,hlc.2⟩ (by rw [iR_len,hdl]; omega)
 ·rw [put_size]; exact hcap
 ·rw [put_size,iR_len,hdl]; omega
 ·obtain ⟨rfl,hi',rfl⟩:=iR_get hx
  rw [show i' * 1 + 0 = i' by omega,put_get hi' (by omega)] at hv
  cases hv
  exact .d _ _ (.int _ _)
end Go.Proofs.YtndlggbljkhfbaaGreat
namespace Go.Proofs.YtndlggbljkhfbaaGreat
open Go.Tidy
variable {L : List Blk} {k : V → List Blk → Prop}
theorem shR_iR (n : Nat) : ∀ l : List Int,shR n (iR l) = iR l
 | []=>rfl
 | c :: l=>by simp only [iR,List.map_cons,shR,V.shL,V.sh]; exact congrArg _ (shR_iR n l)
theorem iclone_0 (l : List Int) (hl : l.length ≤ 4294967296) : CallP C 58 [.d (ints l)] [] fun X L'=>L' = [.row 1 1 (iR l)] ∧ X = .own 0 1 0 l.length:=by
 refine callP_of C_ok Tryz.func58 rfl rfl (n:=_) rfl (w18 rfl) (rs:=_) rfl ?_
 conv=>whnf
 refine NilP.intro (fun h0=>?_) ?_
 ·have hn : l = []:=List.eq_nil_of_length_eq_zero (by simpa using h0)
  subst hn
  repeat' ((conv=>whnf); first|refine w0 ?_|refine w1 ?_|refine w2 (fun h=>?_) (fun h=>?_)|refine w3 ?_|refine w4 (fun h=>?_) (fun h=>?_)|refine w5 _ rfl ?_|refine w6 rfl ?_|refine w7 mixed rfl ?_)
  conv=>whnf
  exact FinP.nilOwn (sz:=1) (gen:=1) (by decide) ⟨rfl,rfl⟩
 ·repeat' (conv => whnf
           first|refine w0 ?_|refine w1 ?_|refine w2 (fun h=>?_) (fun h=>?_)|refine w3 ?_|refine w4 (fun h=>?_) (fun h=>?_)|refine w5 _ rfl ?_|refine w6 rfl ?_|refine w7 mixed rfl ?_|refine w6 (lenC _) ?_|refine w6 (by first | omega | (simp; omega) | (refine w23 (m:=4294967296) ?_ (apLim_ge _); first | omega | (simp; omega))) ?_)
  conv=>whnf
  refine w15 (n:=1) (L':=[.row 1 1 (iR l)]) (congrArg (fun e=>[Blk.row 1 1 e]) ?_) (w18 rfl) rfl ?_ ⟨rfl,congrArg (V.own 0 1 0) ?_⟩
  ·simp [iR]
  ·show (belR 1 (iR l) && true) = true
   rw [iR_bel]; rfl
  ·simp
theorem iclone_c (l : List Int) (hl : l.length ≤ 4294967296) (h : k (.own L.length 1 0 l.length) (L ++ [.row 1 1 (iR l)])) : CallP C 58 [.d (ints l)] L k:=by
 refine (iclone_0 l hl).frame rfl fun X L' h'=>?_
 obtain ⟨rfl,rfl⟩:=h'
 simpa [V.sh,shB,Blk.sh,shR_iR] using h
def delAt (x : List Int) (i : Nat) : List Int:=x.take i ++ x.drop (i + 1)
theorem delAt_len {x : List Int} {i : Nat} (h : i < x.length) : (delAt x i).length = x.length - 1:=by
 unfold delAt; rw [List.length_append,List.length_take,List.length_drop]; omega
def leastGo (p : Pl) (bud : Int) : Nat → List Int → List Int × Int
 | 0,x=>(x,0)
 | i + 1,x=>if (planF (keepX p (delAt x i)) bud).e = 0 then leastGo p bud i x else if (planF (keepX p (delAt x i)) bud).e = 320 then leastGo p bud i (delAt x i) else ([],(planF (keepX p (delAt x i)) bud).e)
def allN (n : Nat) : List Int:=(List.range n).map fun (i : Nat)=>(i : Int)
def leastF (p : Pl) (bud : Int) : List Int × Int:=if (planF p bud).e = 0 then ([],300) else if (planF p bud).e = 320 then leastGo p bud p.demands.length (allN p.demands.length) else ([],(planF p bud).e)
theorem allN_len (n : Nat) : (allN n).length = n:=by unfold allN; simp
theorem allN_next (n : Nat) : allN (n + 1) = allN n ++ [(n : Int)]:=by unfold allN; rw [List.range_succ,List.map_append]; rfl
theorem small_keep {p : Pl} {w : List Int} (hs : Small [] p) (hw : w.length ≤ 4294967296) : Small [] (keepX p w):=by
 unfold keepX
 split
 ·refine ⟨hs.hl,hs.hr,hs.hc,fun d hd=>?_,by unfold keepP; simpa using hw⟩
  obtain ⟨i,_,rfl⟩:=List.mem_map.1 hd
  unfold getD
  cases hq : p.demands[i.toNat]? with
  | none=>simp [d0M]
  | some d=>exact hs.hd d (List.mem_of_getElem? hq)
 ·exact ⟨hs.hl,hs.hr,by simp,by simp,by simp⟩
theorem iR_snoc (l : List Int) (n : Int) : (iR l).take l.length ++ [[I n]] = iR (l ++ [n]):=by
 unfold iR; rw [List.take_of_length_le (by simp),List.map_append]; rfl
theorem bc_same {n : Nat} {L0 L1 S : List Blk} (hS : S.length = n) (hb : belB n S = true) (hL : L1.take n = S) {b : Nat} {x y : Blk} (hx : L1[b]? = some x) (hy : S[b]? = some y) : BC n L0 x y:=by
 have hlt:=lt_of_get hy
 rw [← hL,List.getElem?_take,if_pos (by omega),hx] at hy
 cases hy
 refine .inl ⟨rfl,belB_get hb (i:=b) ?_⟩
 rw [← hL,List.getElem?_take,if_pos (by omega),hx]
theorem least_c (p : Pl) (bud : Int) (hs0 : Small [] p) (hD : p.demands.length ≤ 1073741823) (h : k (.tup [.d (ints (leastF p bud).1),I (leastF p bud).2]) L) : CallP C 19 [plV p,I bud] L k:=by
 obtain ⟨R,hR⟩ : ∃ R,leastF p bud = R:=⟨_,rfl⟩
 rw [hR] at h
 refine CallP.pure ?_ rfl (fun _=>rfl) h
 clear h
 refine callP_cut (fun c=>match c with | .region 15 _ _=>true | _=>false) C_ok Tryz.func19 rfl rfl (n:=_) rfl (w18 rfl) (rs:=_) rfl ?_
 by_cases e0 : (planF p bud).e = 0
 ·have hR' : R = ([],300):=by rw [← hR]; unfold leastF; rw [if_pos e0]
  subst hR'
  repeat' ((conv=>whnf); first|refine plan_c p bud hs0 ?_|refine w8 (w19 e0) ?_|refine w0 ?_|refine w1 ?_|refine w2 (fun h=>?_) (fun h=>?_)|refine w3 ?_|refine w4 (fun h=>?_) (fun h=>?_)|refine w5 _ rfl ?_|refine w6 rfl ?_|refine w7 mixed rfl ?_)
  conv=>whnf
  exact FinP.data (L':=[]) (.pair (.d .nil) (.d (.d _))) rfl rfl ⟨rfl,rfl⟩
 by_cases e1 : (planF p bud).e = 320
 ·have hR' : leastGo p bud p.demands.length (allN p.demands.length) = R:=by rw [← hR]; unfold leastF; rw [if_neg e0,if_pos e1]
  repeat' ((conv=>whnf); first|refine plan_c p bud hs0 ?_|refine w9 (w20 e0) ?_|refine w8 (w19 e1) ?_|refine w0 ?_|refine w1 ?_|refine w2 (fun h=>?_) (fun h=>?_)|refine w3 ?_|refine w4 (fun h=>?_) (fun h=>?_)|refine w5 _ rfl ?_|refine w6 rfl ?_|refine w7 mixed rfl ?_)
  conv=>whnf
  refine LoopP.inv (fun i=>i ≤ p.demands.length) (fun i=>⟨[(1,I bud),(2,.ptr 0 0),(4,.own 1 i 0 (allN i).length),(29,I p.demands.length),(30,I i)],Tryz.f19.ntmps,[.cells (p.cells.map .d),.row i 1 (iR (allN i))],[],none⟩) (fun i=>p.demands.length - i) 0 (w22 _) ?_ ?_
  ·exact (Weak.nilOwn 4 1 rfl (by decide)).trans (Weak.by ⟨rfl,rfl,rfl,congrArg (fun n : Nat=>I n) (List.length_map ..),rfl,trivial⟩)
  intro i hi
  by_cases hi' : i < p.demands.length
  ·have hlt : (i : Int) < (p.demands.length : Int):=by omega
   have hw : IntKind.i64.wrap ((i : Int) + 1) = ((i + 1 : Nat) : Int):=by rw [wrap_in (by omega)]; omega
   have hal:=allN_len i
   have hnx:=allN_next i
   generalize allN i = x at hal hnx
   repeat' ((conv=>whnf); first|simp only [Nat.beq_refl,Bool.and_self]|refine Br.yes (decide_eq_true hlt) ?_|refine Need.intro (Nat.le_trans (m:=4294967296) (show x.length + 1 ≤ 4294967296 by omega) (apLim_ge _)) ?_|refine Br.tt ?_|refine Br.ff ?_|refine Br.dec (fun h=>?_) (fun h=>?_)|refine Br.not ?_|refine Br.intro (fun h=>?_) (fun h=>?_)|refine GetE.intro _ rfl ?_|refine Need.intro rfl ?_|refine DrawP.go mixed rfl ?_)
   conv=>whnf
   refine ⟨i + 1,hi',by omega,Weak.to 2 ?_ (w22 _) (w18 rfl) ⟨rfl,rfl,?_,rfl,congrArg I hw,trivial⟩ (hB:=?_)⟩
   ·exact congrArg (fun z=>[Blk.cells (p.cells.map .d),.row (i + 1) 1 z]) ((iR_snoc x _).trans (by rw [hnx]))
   ·exact congrArg (fun n : Nat=>V.own 1 (i + 1) 0 n) (by rw [hnx,List.length_append]; rfl)
   ·show (V.belL 2 (p.cells.map .d) && (belR 2 (iR _) && true)) = true
    rw [V.belL_d,iR_bel]; rfl
  ·have hlt : ¬ (i : Int) < (p.demands.length : Int):=by omega
   have hie : i = p.demands.length:=by omega
   subst hie
   have hal:=allN_len p.demands.length
   have hw0 : IntKind.i64.wrap (((allN p.demands.length).length : Int) - 1) = (p.demands.length : Int) - 1:=by rw [hal,wrap_in (by omega)]
   repeat' ((conv=>whnf); first|simp only [Nat.beq_refl,Bool.and_self]|refine Br.no (decide_eq_false hlt) ?_|refine Br.tt ?_|refine Br.ff ?_|refine Br.dec (fun h=>?_) (fun h=>?_)|refine Br.not ?_|refine Br.intro (fun h=>?_) (fun h=>?_)|refine GetE.intro _ rfl ?_|refine Need.intro rfl ?_|refine DrawP.go mixed rfl ?_)
   conv=>whnf
   refine LoopP.inv (fun q : Nat × List Int=>leastGo p bud q.1 q.2 = R ∧ q.1 ≤ q.2.length ∧ q.2.length ≤ p.demands.length) (fun q=>⟨[(1,I bud),(2,.ptr 0 0),(4,.d (ints q.2)),(7,I ((q.1 : Int) - 1))],Tryz.f19.ntmps,[.cells (p.cells.map .d)],[],none⟩) (fun q=>q.1) (p.demands.length,allN p.demands.length) ⟨hR',by rw [hal]; exact Nat.le_refl _,by rw [hal]; exact Nat.le_refl _⟩ ?_ ?_
   ·refine Weak.thaw 1 (Nat.zero_le _) (Nat.le_of_ble_eq_true rfl) rfl ⟨.inl ⟨rfl,rfl⟩,.inl ⟨rfl,rfl⟩,.inr (.d (.rowL (ds:=(allN p.demands.length).map fun n=>[DI n]) (Nat.le_refl 1) rfl (iR_cv _) (by rw [List.length_map]) (lenC _))),.inl ⟨congrArg I hw0,rfl⟩,trivial⟩ (fun b x y hx hy=>bc_same rfl ?_ rfl hx hy)
    show (V.belL 1 (p.cells.map .d) && true) = true
    rw [V.belL_d]; rfl
   rintro ⟨i,x⟩ ⟨hx1,hx2,hx3⟩
   simp only at hx1 hx2 hx3
   cases i with
   | zero =>
    have hlt : ¬ (0 : Int) ≤ ((0 : Nat) : Int) - 1:=by omega
    repeat' ((conv=>whnf); first|refine w9 (w20 hlt) ?_|refine w0 ?_|refine w1 ?_|refine w2 (fun h=>?_) (fun h=>?_)|refine w3 ?_|refine w4 (fun h=>?_) (fun h=>?_)|refine w5 _ rfl ?_|refine w6 rfl ?_|refine w7 mixed rfl ?_)
    conv=>whnf
    refine w16 (L':=[]) (.pair (.d (.d _)) (.d (.d _))) rfl rfl ⟨rfl,?_⟩
    rw [← hx1]; rfl
   | succ i =>
    have hlt : (0 : Int) ≤ ((i + 1 : Nat) : Int) - 1:=by omega
    have hi1 : ((i + 1 : Nat) : Int) - 1 = (i : Int):=by omega
    have hw : IntKind.i64.wrap ((i : Int) + 1) = ((i + 1 : Nat) : Int):=by rw [wrap_in (by omega)]; omega
    have hw2 : IntKind.i64.wrap ((i : Int) - 1) = (i : Int) - 1:=wrap_in (by omega)
    have hdl:=delAt_len (x:=x) (i:=i) (by omega)
    have hsk : Small [] (keepX p (delAt x i)):=small_keep hs0 (by omega)
    rw [hi1]
    have hlt' : (0 : Int) ≤ (i : Int):=by omega
    repeat' ((conv=>whnf); first|refine w8 (w19 hlt') ?_|refine w0 ?_|refine w1 ?_|refine w2 (fun h=>?_) (fun h=>?_)|refine w3 ?_|refine w4 (fun h=>?_) (fun h=>?_)|refine w5 _ rfl ?_|refine w6 rfl ?_|refine w7 mixed rfl ?_)
    conv=>whnf
    refine CutP.intro (ι:=Unit) (fun _=>⟨[(1,I bud),(2,.ptr 0 0),(4,.d (ints x)),(7,I i),(8,.d (ints (delAt x i)))],Tryz.f19.ntmps,[.cells (p.cells.map .d)],[],none⟩) ?_ (fun _=>?_)
    ·repeat' (conv => whnf
              first|refine iclone_c x (by omega) ?_|refine w0 ?_|refine w1 ?_|refine w2 (fun h=>?_) (fun h=>?_)|refine w3 ?_|refine w4 (fun h=>?_) (fun h=>?_)|refine w5 _ rfl ?_|refine w6 rfl ?_|refine w7 mixed rfl ?_)
     conv=>whnf
     refine CallP.cnv (args':=[.own 1 1 0 x.length,I i,I (i + 1 : Nat)]) (L':=[.cells (p.cells.map .d),.row 1 1 (iR x)]) (by rw [← hw]; rfl) rfl ?_
     refine delete_c rfl (by omega) (by omega) ?_
     repeat' ((conv=>whnf); first|refine w0 ?_|refine w1 ?_|refine w2 (fun h=>?_) (fun h=>?_)|refine w3 ?_|refine w4 (fun h=>?_) (fun h=>?_)|refine w5 _ rfl ?_|refine w6 rfl ?_|refine w7 mixed rfl ?_)
     conv=>whnf
     refine ⟨(),Weak.thaw 1 (w22 _) (w18 rfl) rfl ⟨.inl ⟨rfl,rfl⟩,.inl ⟨rfl,rfl⟩,.inl ⟨rfl,rfl⟩,.inl ⟨rfl,rfl⟩,.inr (.d (.rowL (ds:=(delAt x i).map fun n=>[DI n]) (w21 1) rfl (CvLL.cong ?_ (iR_rows _)) (by rw [List.length_map,hdl]) (lenC _))),trivial⟩ (fun b x y hx hy=>bc_same rfl ?_ rfl hx hy)⟩
     ·show ((iR (delAt x i ++ [0])).drop 0).take (x.length - 1) = _
      unfold iR
      rw [List.drop_zero,List.map_append,List.take_append_of_le_length (by rw [List.length_map]; omega),List.take_of_length_le (by rw [List.length_map]; omega)]
     ·show (V.belL 1 (p.cells.map .d) && true) = true
      rw [V.belL_d]; rfl
    by_cases f0 : (planF (keepX p (delAt x i)) bud).e = 0
    ·repeat' (conv => whnf
              first|refine keep_c p (delAt x i) hs0.hc hs0.hd (by omega) (by omega) ?_|refine plan_c (keepX p (delAt x i)) bud hsk ?_|refine w8 (w19 f0) ?_|refine w0 ?_|refine w1 ?_|refine w2 (fun h=>?_) (fun h=>?_)|refine w3 ?_|refine w4 (fun h=>?_) (fun h=>?_)|refine w5 _ rfl ?_|refine w6 rfl ?_|refine w7 mixed rfl ?_)
     conv=>whnf
     refine ⟨(i,x),⟨by rw [← hx1]; simp only [leastGo]; rw [if_pos f0],by simp only; omega,by simp only; omega⟩,by simp only; omega,Weak.to 1 rfl (w22 _) (w18 rfl) ⟨rfl,rfl,rfl,congrArg I hw2,trivial⟩ (hB:=?_)⟩
     show (V.belL 1 (p.cells.map .d) && true) = true
     rw [V.belL_d]; rfl
    by_cases f1 : (planF (keepX p (delAt x i)) bud).e = 320
    ·repeat' (conv => whnf
              first|refine keep_c p (delAt x i) hs0.hc hs0.hd (by omega) (by omega) ?_|refine plan_c (keepX p (delAt x i)) bud hsk ?_|refine w9 (w20 f0) ?_|refine w8 (w19 f1) ?_|refine w0 ?_|refine w1 ?_|refine w2 (fun h=>?_) (fun h=>?_)|refine w3 ?_|refine w4 (fun h=>?_) (fun h=>?_)|refine w5 _ rfl ?_|refine w6 rfl ?_|refine w7 mixed rfl ?_)
     conv=>whnf
     refine ⟨(i,delAt x i),⟨by rw [← hx1]; simp only [leastGo]; rw [if_neg f0,if_pos f1],by simp only; omega,by simp only; omega⟩,by simp only; omega,Weak.to 1 rfl (w22 _) (w18 rfl) ⟨rfl,rfl,rfl,congrArg I hw2,trivial⟩ (hB:=?_)⟩
     show (V.belL 1 (p.cells.map .d) && true) = true
     rw [V.belL_d]; rfl
    ·repeat' (conv => whnf
              first|refine keep_c p (delAt x i) hs0.hc hs0.hd (by omega) (by omega) ?_|refine plan_c (keepX p (delAt x i)) bud hsk ?_|refine w9 (w20 f0) ?_|refine w9 (w20 f1) ?_|refine w0 ?_|refine w1 ?_|refine w2 (fun h=>?_) (fun h=>?_)|refine w3 ?_|refine w4 (fun h=>?_) (fun h=>?_)|refine w5 _ rfl ?_|refine w6 rfl ?_|refine w7 mixed rfl ?_)
     conv=>whnf
     refine w16 (L':=[]) (.pair (.d .nil) (.d (.d _))) rfl rfl ⟨rfl,?_⟩
     rw [← hx1]; simp only [leastGo]; rw [if_neg f0,if_neg f1]; rfl
 ·have hR' : R = ([],(planF p bud).e):=by rw [← hR]; unfold leastF; rw [if_neg e0,if_neg e1]
  subst hR'
  repeat' ((conv=>whnf); first|refine plan_c p bud hs0 ?_|refine w9 (w20 e0) ?_|refine w9 (w20 e1) ?_|refine w0 ?_|refine w1 ?_|refine w2 (fun h=>?_) (fun h=>?_)|refine w3 ?_|refine w4 (fun h=>?_) (fun h=>?_)|refine w5 _ rfl ?_|refine w6 rfl ?_|refine w7 mixed rfl ?_)
  conv=>whnf
  exact FinP.data (L':=[]) (.pair (.d .nil) (.d (.d _))) rfl rfl ⟨rfl,rfl⟩
end Go.Proofs.YtndlggbljkhfbaaGreat
namespace Go.Proofs.YtndlggbljkhfbaaGreat
open Go.Tidy
variable {L : List Blk} {k : V → List Blk → Prop}
theorem dmA_pos {x : Lst} {p : Pl} (h0 : checkP p = 0) (hP : PartP x p) (h : 0 ≤ dmA x p) : ∃ (a : Nat) (ha : a < p.demands.length),dmA x p = (a : Int) ∧ doomsF (pR x p) p.demands[a] = true:=by
 unfold dmA at h ⊢
 rw [if_pos ⟨h0,hP⟩] at h ⊢
 cases hd : doomL (pR x p) p with
 | nil=>rw [hd] at h; simp at h
 | cons y r =>
  have hm : y ∈ doomL (pR x p) p:=by rw [hd]; simp
  obtain ⟨a,ha,e,hx⟩:=doomL_mem.1 hm
  exact ⟨a,ha,e,hx⟩
theorem chE_part {l : Lst} {p : Pl} (h0 : checkP p = 0) (hP : PartP l p) : ∀ m ∈ chE l p,PartP (extL l p m) p:=fun m hm=>by
 unfold chE at hm; rw [if_pos (dmE_of h0 hP)] at hm; exact ch_mem h0 hP hm
mutual
theorem brs_us (p : Pl) (bud : Nat) (h0 : checkP p = 0) : ∀ (n : Nat) (l : Lst) (sp : Nat) (us : List Int),PartP l p → us.length ≤ sp → us.Nodup → ∀ sp' us' t',brs p bud n l sp us = .go sp' us' t' → us'.length ≤ sp' ∧ us'.Nodup ∧ ∀ u ∈ us',u ∈ us ∨ (0 ≤ u ∧ u < (p.demands.length : Int))
 | 0,l,sp,us,hP,hs,hn,sp',us',t',h=>by cases h; exact ⟨hs,hn,fun u hu=>.inl hu⟩
 | n + 1,l,sp,us,hP,hs,hn,sp',us',t',h=>brLoop_us p bud h0 n l (chE l p) sp us [] (chE_part h0 hP) hs hn sp' us' t' h
theorem brLoop_us (p : Pl) (bud : Nat) (h0 : checkP p = 0) (n : Nat) (l : Lst) : ∀ (ms : List Mt) (sp : Nat) (us : List Int) (t : List Brc),(∀ m ∈ ms,PartP (extL l p m) p) → us.length ≤ sp → us.Nodup → ∀ sp' us' t',brLoop (brs p bud n) l p bud ms sp us t = .go sp' us' t' → us'.length ≤ sp' ∧ us'.Nodup ∧ ∀ u ∈ us',u ∈ us ∨ (0 ≤ u ∧ u < (p.demands.length : Int))
 | [],sp,us,t,hm,hs,hn,sp',us',t',h=>by cases h; exact ⟨hs,hn,fun u hu=>.inl hu⟩
 | m :: ms,sp,us,t,hm,hs,hn,sp',us',t',h=>by
  have hPx:=hm m (by simp)
  have hm' : ∀ m ∈ ms,PartP (extL l p m) p:=fun m h=>hm m (by simp [h])
  simp only [brLoop] at h
  split at h
  ·cases h
  ·split at h
   ·rename_i hd
    obtain ⟨a,ha,e,_⟩:=dmA_pos h0 hPx hd
    split at h
    ·obtain ⟨h1,h2,h3⟩:=brLoop_us p bud h0 n l ms (sp + 1) us _ hm' (by omega) hn _ _ _ h
     exact ⟨h1,h2,h3⟩
    ·rename_i hni
     obtain ⟨h1,h2,h3⟩:=brLoop_us p bud h0 n l ms (sp + 1) (us ++ [dmA (extL l p m) p]) _ hm' (by rw [List.length_append]; simp only [List.length_singleton]; omega)
      (List.nodup_append.2 ⟨hn,by simp,fun u hu v hv=>by rw [List.mem_singleton.1 hv]; rintro rfl; exact hni hu⟩) _ _ _ h
     refine ⟨h1,h2,fun u hu=>?_⟩
     rcases h3 u hu with h4 | h4
     ·rcases List.mem_append.1 h4 with h5 | h5
      ·exact .inl h5
      ·rw [List.mem_singleton.1 h5]; exact .inr (by omega)
     ·exact .inr h4
   ·split at h
    ·cases h
    ·split at h
     ·rename_i sp2 us2 t2 h2
      obtain ⟨k1,k2,k3⟩:=brs_us p bud h0 n _ (sp + 1) us hPx (by omega) hn _ _ _ h2
      obtain ⟨h1,h2,h3⟩:=brLoop_us p bud h0 n l ms sp2 us2 _ hm' k1 k2 _ _ _ h
      refine ⟨h1,h2,fun u hu=>?_⟩
      rcases h3 u hu with h4 | h4
      ·exact k3 u h4
      ·exact .inr h4
     ·cases h
end
def proveO (p : Pl) (bud : Int) : Bs:=brs p bud.toNat (fuelN p) [] 0 []
def proveU (p : Pl) (bud : Int) : List Int:=if argE p bud = 0 then (match proveO p bud with | .go _ us _=>sortI us | .stop _=>[]) else []
def proveT (p : Pl) (bud : Int) : List Brc:=if argE p bud = 0 then (match proveO p bud with | .go _ _ t=>t | .stop _=>[]) else []
def proveE (p : Pl) (bud : Int) : Int:=if argE p bud = 0 then (match proveO p bud with | .go _ _ _=>0 | .stop e=>e) else argE p bud
def refV (us : List Int) (t : List Brc) : V:=.agg [.d (ints us),.d (.sl (brcs t))]
theorem wf_of {u : Int} (h1 : -9223372036854775808 ≤ u) (h2 : u ≤ 9223372036854775807) : (Lit.int .i64 u).wf = true:=by
 simp only [Lit.wf,Bool.and_eq_true,decide_eq_true_eq]; exact ⟨h1,h2⟩
theorem prove_c (p : Pl) (bud : Int) (hs0 : Small [] p) (h : k (.tup [refV (proveU p bud) (proveT p bud),I (proveE p bud)]) L) : CallP C 14 [plV p,I bud] L k:=by
 have hD:=hs0.hD
 have kA : ∀ L,killAll [] L = L:=fun _=>rfl
 refine CallP.pure ?_ rfl (fun _=>rfl) h
 clear h
 by_cases hA : argE p bud = 0
 ·obtain ⟨h0,hm1,hm2⟩:=argE_zero hA
  obtain ⟨n,rfl⟩ : ∃ n : Nat,bud = (n : Int):=⟨bud.toNat,by omega⟩
  have hn1 : ¬ (n : Int) < 0:=by omega
  have hn2 : ¬ (1073741824 : Int) < (n : Int):=by omega
  refine callP_defer C_ok (fun _=>false) 4 (fun X L1=>∃ e,proveO p n = .stop e ∧ X = .d (errD e) ∧ L1 = pre4 p n) Tryz.func14 rfl rfl (n:=_) rfl (w18 rfl) (rs:=_) rfl ?_
  repeat' ((conv=>whnf); first|refine check_c p hs0.hc hs0.hd (by omega) ?_|refine w3 ?_|refine w8 (w19 h0) ?_|refine w9 (w20 hn1) ?_|refine w9 (w20 hn2) ?_|refine w0 ?_|refine w1 ?_|refine w2 (fun h=>?_) (fun h=>?_)|refine w3 ?_|refine w4 (fun h=>?_) (fun h=>?_)|refine w5 _ rfl ?_|refine w6 rfl ?_|refine w7 mixed rfl ?_)
  conv=>whnf
  refine DefR.intro (w21 _) (w22 _) rfl rfl ?_ ?_
  ·rintro X L1 ⟨e,hst,rfl,rfl⟩
   refine DefP.cnv (caps':=[.ptr 2 0,.ptr 3 0]) rfl ?_
   refine prove1_p _ _ _ _ e 0 rfl ?_
   repeat' ((conv=>whnf); first|refine w0 ?_|refine w1 ?_|refine w2 (fun h=>?_) (fun h=>?_)|refine w3 ?_|refine w4 (fun h=>?_) (fun h=>?_)|refine w5 _ rfl ?_|refine w6 rfl ?_|refine w7 mixed rfl ?_|simp only [kA])
   conv=>whnf
   refine w16 (L':=[]) (.pair (.aggL (.cons .nil (.cons .nil .nil))) (.d (.d _))) rfl rfl ⟨rfl,?_⟩
   have e1 : proveU p n = []:=by unfold proveU; rw [if_pos hA,hst]
   have e2 : proveT p n = []:=by unfold proveT; rw [if_pos hA,hst]
   have e3 : proveE p n = e:=by unfold proveE; rw [if_pos hA,hst]
   rw [e1,e2,e3]; rfl
  ·repeat' (conv => whnf
            first|refine w0 ?_|refine w1 ?_|refine w2 (fun h=>?_) (fun h=>?_)|refine w3 ?_|refine w4 (fun h=>?_) (fun h=>?_)|refine w5 _ rfl ?_|refine w6 rfl ?_|refine w7 mixed rfl ?_|refine w6 (w18 rfl) ?_)
   conv=>whnf
   refine CallP.cnv (args':=.agg [.nil] :: capR) (L':=preR p n [] 0) rfl rfl ?_
   refine CallP.freezeP (args:=.agg [.nil] :: capR) (dargs:=lisV [] :: capR) [] rfl rfl (.cv (.aggL (.cons .nil .nil)) (.keep (.keep (.keep (.keep (.keep .nil)))))) ?_
   refine (branches_c p n h0 hs0 (by omega) _ (fuelN p) [] 0 [] (part_nil p) (by unfold fuelN; simp) (w22 _) (fun e he=>⟨e,he,rfl,rfl⟩)).mono ?_
   rintro X L' ⟨sp',us',t,hgo,rfl,rfl⟩
   obtain ⟨hk1,hk2,hk3⟩:=brs_keep p n (fuelN p) [] 0 [] (w22 _) _ _ _ hgo
   obtain ⟨hu1,hu2,hu3⟩:=brs_us p n h0 (fuelN p) [] 0 [] (part_nil p) (w21 _) List.nodup_nil _ _ _ hgo
   have hgo' : proveO p n = .go sp' us' t:=hgo
   have hr : ∀ u ∈ us',(Lit.int .i64 u).wf = true:=fun u hu=>by
    rcases hu3 u hu with h | h
    ·cases h
    ·exact wf_of (by omega) (by omega)
   have hul : us'.length ≤ 1073741824:=by omega
   repeat' ((conv=>whnf); first|refine w0 ?_|refine w1 ?_|refine w2 (fun h=>?_) (fun h=>?_)|refine w3 ?_|refine w4 (fun h=>?_) (fun h=>?_)|refine w5 _ rfl ?_|refine w6 rfl ?_|refine w7 mixed rfl ?_|refine w6 (w18 rfl) ?_|refine w14 (keys_c 4 ?_)|refine w14 (sortedKeys_c (b:=4) (bx:=8) (us:=us') rfl rfl hr hul ?_))
   conv=>whnf
   refine DefP.cnv (caps':=[.ptr 2 0,.ptr 3 0]) rfl ?_
   refine prove1_n _ ?_ ?_
   ·show (V.belL _ (p.cells.map .d) && (true && (true && (true && (belM _ (boolM (intK us')) && true))))) = true
    rw [V.belL_d,intM_bel]; rfl
   repeat' ((conv=>whnf); first|refine w0 ?_|refine w1 ?_|refine w2 (fun h=>?_) (fun h=>?_)|refine w3 ?_|refine w4 (fun h=>?_) (fun h=>?_)|refine w5 _ rfl ?_|refine w6 rfl ?_|refine w7 mixed rfl ?_|simp only [kA])
   conv=>whnf
   refine w16 (L':=[]) (.pair (.aggL (.cons (.d _) (.cons (.d _) .nil))) (.d (.d _))) rfl rfl ⟨rfl,?_⟩
   have e1 : proveU p n = sortI us':=by unfold proveU; rw [if_pos hA,hgo']
   have e2 : proveT p n = t:=by unfold proveT; rw [if_pos hA,hgo']
   have e3 : proveE p n = 0:=by unfold proveE; rw [if_pos hA,hgo']
   rw [e1,e2,e3]; rfl
 ·have e1 : proveU p bud = []:=by unfold proveU; rw [if_neg hA]
  have e2 : proveT p bud = []:=by unfold proveT; rw [if_neg hA]
  have e3 : proveE p bud = argE p bud:=by unfold proveE; rw [if_neg hA]
  rw [e1,e2,e3]
  have fin : ∀ e : Int,e = argE p bud → (fun (X : V) (L : List Blk)=>L = [] ∧ X = .tup [refV [] [],I (argE p bud)]) (.tup [refV [] [],I e]) []:=fun e he=>⟨rfl,by rw [he]⟩
  refine callP_defer C_ok (fun _=>false) 4 (fun X L1=>False) Tryz.func14 rfl rfl (n:=_) rfl (w18 rfl) (rs:=_) rfl ?_
  by_cases h0 : checkP p = 0
  ·have hb : bud < 0 ∨ 1073741824 < bud:=by
    unfold argE at hA; rw [if_pos h0] at hA
    by_cases h : bud < 0 ∨ 1073741824 < bud
    ·exact h
    ·rw [if_neg h] at hA; exact absurd rfl hA
   have ha : (1 : Int) = argE p bud:=by unfold argE; rw [if_pos h0,if_pos hb]
   repeat' ((conv=>whnf); first|refine check_c p hs0.hc hs0.hd (by omega) ?_|refine w3 ?_|refine w8 (w19 h0) ?_|refine w0 ?_|refine w1 ?_|refine w2 (fun h=>?_) (fun h=>?_)|refine w3 ?_|refine w4 (fun h=>?_) (fun h=>?_)|refine w5 _ rfl ?_|refine w6 rfl ?_|refine w7 mixed rfl ?_)
   all_goals conv=>whnf
   all_goals first
    | exact FinP.data (L':=[]) (.pair (.aggL (.cons .nil (.cons .nil .nil))) (.d (.d _))) rfl rfl (fin 1 ha)
    | (exfalso; omega)
  ·have ha : checkP p = argE p bud:=by unfold argE; rw [if_neg h0]
   repeat' ((conv=>whnf); first|refine check_c p hs0.hc hs0.hd (by omega) ?_|refine w3 ?_|refine w9 (w20 h0) ?_|refine w0 ?_|refine w1 ?_|refine w2 (fun h=>?_) (fun h=>?_)|refine w3 ?_|refine w4 (fun h=>?_) (fun h=>?_)|refine w5 _ rfl ?_|refine w6 rfl ?_|refine w7 mixed rfl ?_)
   conv=>whnf
   exact FinP.data (L':=[]) (.pair (.aggL (.cons .nil (.cons .nil .nil))) (.d (.d _))) rfl rfl (fin _ ha)
end Go.Proofs.YtndlggbljkhfbaaGreat
namespace Go.Proofs.YtndlggbljkhfbaaGreat
open Go.Tidy
variable {L : List Blk} {k : V → List Blk → Prop}
structure RbS where
 i : Nat
 sp : Nat
 us : List Int
 t : List Brc
 code : Int
end Go.Proofs.YtndlggbljkhfbaaGreat
namespace Go.Proofs.YtndlggbljkhfbaaGreat
open Go.Tidy
variable {L : List Blk} {k : V → List Blk → Prop}
mutual
def Brc.size : Brc → Nat
 | .mk _ _ _ t=>1 + brSize t
def brSize : List Brc → Nat
 | []=>0
 | x :: t=>x.size + brSize t
end
def Brc.m : Brc → Mt | .mk m _ _ _=>m
def Brc.r : Brc → Int | .mk _ r _ _=>r
def Brc.b : Brc → Int | .mk _ _ b _=>b
def Brc.t : Brc → List Brc | .mk _ _ _ t=>t
theorem Brc.cells_eq (x : Brc) : x.cells = [DI x.m.home,DI x.m.away,DI x.r,DI x.b,.sl (brcs x.t)]:=by cases x; rfl
theorem brcs_at {t : List Brc} {i : Nat} (hi : i < t.length) : (brcs t)[i]? = some [DI t[i].m.home,DI t[i].m.away,DI t[i].r,DI t[i].b,.sl (brcs t[i].t)]:=by
 rw [brcs_map,List.getElem?_map,List.getElem?_eq_getElem hi,Option.map_some,Brc.cells_eq]
end Go.Proofs.YtndlggbljkhfbaaGreat
namespace Go.Proofs.YtndlggbljkhfbaaGreat
open Go.Tidy
variable {L : List Blk} {k : V → List Blk → Prop}
theorem pair_len {α : Type} {l : List α} {w : List Int} (h : w.Pairwise (· < ·)) (hr : ∀ u ∈ w,0 ≤ u ∧ u < (l.length : Int)) : w.length ≤ l.length:=by
 have hn : w.Nodup:=h.imp fun {a b} h=>by omega
 have hs : (w.map Int.toNat).Nodup:=by
  refine List.pairwise_map.2 (hn.imp_of_mem fun {a b} ha hb h e=>h ?_)
  have:=hr a ha; have:=hr b hb; omega
 have:=List.Nodup.length_le_of_subset (l₂:=List.range l.length) hs fun x hx=>by
  obtain ⟨u,hu,rfl⟩:=List.mem_map.1 hx
  have:=hr u hu
  exact List.mem_range.2 (by omega)
 simpa using this
theorem ind_range {n : Nat} {w : List Int} (h : IndP n w) : ∀ u ∈ w,0 ≤ u ∧ u < (n : Int):=fun u hu=>by
 obtain ⟨i,hi,rfl⟩:=List.getElem_of_mem hu
 exact (h i hi).1
theorem ind_pair {n : Nat} {w : List Int} (h : IndP n w) : w.Pairwise (· < ·):=by
 rw [List.pairwise_iff_getElem]
 intro i j hi hj hij
 have key : ∀ (d i : Nat) (hi : i < w.length) (hj : i + d + 1 < w.length),w[i] < w[i + d + 1]:=by
  intro d
  induction d with
  | zero=>intro i hi hj; exact (h (i + 1) hj).2 (by omega)
  | succ d ih =>
   intro i hi hj
   have h1:=ih i hi (by omega)
   have h2:=(h (i + d + 1 + 1) hj).2 (by omega)
   simp only [Nat.add_sub_cancel] at h2
   have : i + (d + 1) + 1 = i + d + 1 + 1:=by omega
   simp only [this]; omega
 have:=key (j - i - 1) i hi (by omega)
 have e : i + (j - i - 1) + 1 = j:=by omega
 simp only [e] at this; exact this
theorem getD_mem {p : Pl} {u : Int} (h : 0 ≤ u ∧ u < (p.demands.length : Int)) : getD p u ∈ p.demands:=by
 unfold getD
 rw [List.getElem?_eq_getElem (show u.toNat < p.demands.length by omega)]
 exact List.getElem_mem _
theorem demands_len {p : Pl} (h0 : checkP p = 0) : p.demands.length ≤ 128:=by
 have hf:=checkP_field h0
 unfold checkP at h0
 rw [if_pos hf] at h0
 split at h0
 ·assumption
 ·exact absurd h0 (by decide)
theorem keepP_check {p : Pl} {w : List Int} (h0 : checkP p = 0) (hw : IndP p.demands.length w) : checkP (keepP p w) = 0:=by
 have:=demands_len h0
 have hl:=pair_len (l:=p.demands) (ind_pair hw) (ind_range hw)
 refine check_of h0 (by rw [List.length_map]; omega) fun d hd=>?_
 obtain ⟨u,hu,rfl⟩:=List.mem_map.1 hd
 exact checkP_valid h0 _ (getD_mem (ind_range hw u hu))
theorem keep_ok {p : Pl} {w : List Int} (h0 : checkP p = 0) (hw : IndP p.demands.length w) : keepE p w = 0 ∧ keepX p w = keepP p w:=by
 have he : keepE p w = 0:=by unfold keepE; rw [if_pos h0,if_pos hw]
 exact ⟨he,by unfold keepX; rw [if_pos he]⟩
theorem ind_one {n : Nat} {u : Int} (h : 0 ≤ u ∧ u < (n : Int)) : IndP n [u]:=fun i hi=>by
 have : i = 0:=by simp at hi; omega
 subst this
 exact ⟨h,fun h=>absurd h (Nat.lt_irrefl 0)⟩
def dmB (x : Lst) (p : Pl) (u : Int) : Bool:=decide (0 ≤ dmA x (keepX p [u]))
def okBr (f : Lst → List Brc → Bool) (l : Lst) (p : Pl) (us : List Int) (m : Mt) (b : Brc) : Bool :=
 decide (b.m = m) && decide (b.r = (atN l p : Int)) && (if b.b = -1 then (!fullC (extL l p m) p && f (extL l p m) b.t) else (decide (b.b ∈ us) && b.t.isEmpty && dmB (extL l p m) p b.b))
def chk (p : Pl) (us : List Int) : Nat → Lst → List Brc → Bool
 | 0,_,_=>false
 | n + 1,l,t=>decide ((chE l p).length = t.length) && ((chE l p).zip t).all fun q=>okBr (chk p us n) l p us q.1 q.2
theorem chk_no {p : Pl} {us : List Int} {n : Nat} {l : Lst} {t : List Brc} {i : Nat} (h1 : i < (chE l p).length) (h2 : i < t.length) (h : okBr (chk p us n) l p us (chE l p)[i] t[i] = false) : chk p us (n + 1) l t = false:=by
 unfold chk
 rw [Bool.and_eq_false_iff]
 refine .inr (List.all_eq_false.2 ⟨((chE l p)[i],t[i]),?_,by rw [h]; decide⟩)
 have : ((chE l p).zip t)[i]? = some ((chE l p)[i],t[i]):=by
  rw [List.getElem?_zip_eq_some]
  exact ⟨List.getElem?_eq_getElem h1,List.getElem?_eq_getElem h2⟩
 exact List.mem_of_getElem? this
theorem chk_len {p : Pl} {us : List Int} {n : Nat} {l : Lst} {t : List Brc} (h : ¬ (chE l p).length = t.length) : chk p us (n + 1) l t = false:=by
 unfold chk; rw [decide_eq_false h]; rfl
theorem chk_yes {p : Pl} {us : List Int} {n : Nat} {l : Lst} {t : List Brc} (h : (chE l p).length = t.length) (hi : ∀ (i : Nat) (h1 : i < (chE l p).length) (h2 : i < t.length),okBr (chk p us n) l p us (chE l p)[i] t[i] = true) : chk p us (n + 1) l t = true:=by
 unfold chk
 rw [decide_eq_true h,Bool.true_and]
 refine List.all_eq_true.2 fun q hq=>?_
 obtain ⟨i,hiq⟩:=List.mem_iff_getElem?.1 hq
 rw [List.getElem?_zip_eq_some] at hiq
 obtain ⟨e1,e2⟩:=hiq
 have h1:=lt_of_get e1
 have h2:=lt_of_get e2
 rw [List.getElem?_eq_getElem h1] at e1
 rw [List.getElem?_eq_getElem h2] at e2
 rw [← Option.some.inj e1,← Option.some.inj e2]
 exact hi i h1 h2
end Go.Proofs.YtndlggbljkhfbaaGreat
