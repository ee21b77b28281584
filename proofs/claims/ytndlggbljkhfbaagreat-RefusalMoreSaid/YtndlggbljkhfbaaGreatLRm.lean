import Derived.Test.YtndlggbljkhfbaaGreatJNG
set_option maxRecDepth 100000
set_option maxHeartbeats 0
set_option linter.unusedSimpArgs false
set_option linter.unusedVariables false
namespace Go.Proofs.YtndlggbljkhfbaaGreat.refusalMore
open Go.Tidy Go.ChangeShapes Go.WideShapes Go.ChangeAt Go.RowKit
theorem law (p : Pl) (n : Int) (ds : List Dm) (a : Int) (hp : PlB p) (hn : 0 ≤ n ∧ n ≤ 65535) (hds : ds.length ≤ 140737488355328 ∧ ∀ d ∈ ds,d.clubs.length ≤ 140737488355328) (ha : 0 ≤ a ∧ a ≤ 255) : CallP C 8 [plV p,.d (.int .u16 n),.d (.sl (ds.map Dm.cells)),.d (.int .u8 a)] [] fun X L=>L = [] ∧ X = .d (.bool true):=by
 refine callP_cut (fun c=>match c with | .region 9 _ _=>true | .region 13 _ _=>true | .region 15 _ _=>true | _=>false) C_ok Tryz.func8 rfl rfl (n:=_) rfl (w18 rfl) (rs:=_) rfl ?_
 by_cases hb : FewQ p
 ·have hs : Small [] p:=few_small33 hb
  have hb3:=hb.2.2
  by_cases hl : 3 < ds.length
  ·have hl' : (3 : Int) < ((ds.map Dm.cells).length : Int):=by rw [List.length_map]; omega
   repeat' ((conv=>whnf); first|refine rsane_c ?_|refine fewQ_c p (w23 hp.hD (by decide)) ?_|refine w3 ?_|refine w8 (w19 hb) ?_|refine w8 (w19 hl') ?_|refine w0 ?_|refine w1 ?_|refine w2 (fun h=>?_) (fun h=>?_)|refine w3 ?_|refine w4 (fun h=>?_) (fun h=>?_)|refine w5 _ rfl ?_|refine w6 rfl ?_|refine w7 mixed rfl ?_)
   conv=>whnf
   exact FinP.drop (n:=0) rfl (w21 0) rfl rfl ⟨rfl,rfl⟩
  ·have hl' : ¬ (3 : Int) < ((ds.map Dm.cells).length : Int):=by rw [List.length_map]; omega
   have hm : 0 ≤ n.tmod 3000 ∧ n.tmod 3000 ≤ 2999:=by
    rw [Int.tmod_eq_emod_of_nonneg hn.1]; omega
   obtain ⟨m,hmm⟩ : ∃ m,n.tmod 3000 = m:=⟨_,rfl⟩
   have hw : IntKind.i64.wrap (n.tmod 3000) = m:=by rw [wrap_in (by omega)]; exact hmm
   rw [hmm] at hm
   by_cases e0 : proveE p m = 0
   ·have hA : argE p m = 0:=by
     unfold proveE at e0
     split at e0
     ·assumption
     ·assumption
    obtain ⟨hu,ht⟩:=prove_some hs hb.2.1 hA e0
    have hlu:=proveU_le p m
    have hlt:=proveT_le p m
    have hsz:=brSize_len (proveT p m)
    have f1:=fun {ds}=>prove_more (ds:=ds) hA e0
    have f2:=fun {t}=>prove_less (t:=t) hA e0
    have f3:=fun {j}=>prove_fewer (j:=j) hA e0
    obtain ⟨us,hus⟩ : ∃ us,proveU p m = us:=⟨_,rfl⟩
    obtain ⟨t,htt⟩ : ∃ t,proveT p m = t:=⟨_,rfl⟩
    simp only [hus,htt] at hu ht hlu hlt hsz f1 f2 f3
    have hpr : ∀ {L : List Blk} {k : V → List Blk → Prop},k (.tup [refV us t,I 0]) L → CallP C 14 [plV p,I m] L k:=fun h=>prove_e hs ⟨hus,htt,e0⟩ h
    have hu0 : ¬ ((us.map fun n=>[DI n]).length : Int) = 0:=by have:=List.length_pos_iff.2 hu; rw [List.length_map]; omega
    have ht0 : ¬ ((brcs t).length : Int) = 0:=by have:=List.length_pos_iff.2 ht; rw [brcs_len]; omega
    repeat' ((conv=>whnf); first|refine rsane_c ?_|refine fewQ_c p (w23 hp.hD (by decide)) ?_|refine w3 ?_|refine w8 (w19 hb) ?_|refine w9 (w20 hl') ?_|refine w6 (show (3000 : Int) ≠ 0 by decide) ?_|simp only [hw]|refine hpr ?_|refine w9 (w20 hu0) ?_|refine w9 (w20 ht0) ?_|refine w0 ?_|refine w1 ?_|refine w2 (fun h=>?_) (fun h=>?_)|refine w3 ?_|refine w4 (fun h=>?_) (fun h=>?_)|refine w5 _ rfl ?_|refine w6 rfl ?_|refine w7 mixed rfl ?_)
    conv=>whnf
    refine CutP.intro (ι:=Unit) (fun _=>⟨[(4,.ptr 0 0),(3,.d (.int .u8 a)),(9,.ptr 1 0),(11,.ptr 2 0)],Tryz.f8.ntmps,[.cells (p.cells.map .d),.cells [.d (ints us),.d (.sl (brcs t))],.cells ((Pl.mk p.clubs p.double (p.demands ++ ds)).cells.map .d)],[],none⟩) ?_ (fun _=>?_)
    ·repeat' (conv => whnf
              first|refine w6 (by intro e he; obtain ⟨d,_,rfl⟩:=List.mem_map.1 he; rfl) ?_|simp only [Nat.beq_refl,Bool.and_self]|refine w6 (w23 (m:=4294967296) (by simp; omega) (apLim_ge _)) ?_|refine w0 ?_|refine w1 ?_|refine w2 (fun h=>?_) (fun h=>?_)|refine w3 ?_|refine w4 (fun h=>?_) (fun h=>?_)|refine w5 _ rfl ?_|refine w6 rfl ?_|refine w7 mixed rfl ?_)
     conv=>whnf
     refine ⟨(),Weak.thaw 3 (w22 _) (w18 rfl) rfl ⟨.inl ⟨rfl,rfl⟩,.inl ⟨rfl,rfl⟩,.inl ⟨rfl,rfl⟩,.inl ⟨rfl,rfl⟩,trivial⟩ fun b x y hx hy=>?_⟩
     match b,hx,hy with
     | 0,hx,hy=>cases hx; cases hy; exact .inl ⟨rfl,V.belL_d 3 p.cells⟩
     | 1,hx,hy=>cases hx; cases hy; exact .inl ⟨rfl,rfl⟩
     | 2,hx,hy =>
      cases hx; cases hy
      refine .inr (.inr ⟨_,_,rfl,rfl,rfl,fun j u v hu hv=>?_⟩)
      match j,hu,hv with
      | 0,hu,hv=>cases hu; cases hv; exact .inl ⟨rfl,rfl⟩
      | 1,hu,hv=>cases hu; cases hv; exact .inl ⟨rfl,rfl⟩
      | 2,hu,hv =>
       cases hu; cases hv
       refine .inr (.d (.rowL (ds:=(p.demands ++ ds).map Dm.cells) (w21 3) rfl (CvLL.cong ?_ (dd_cv _)) ?_ (dms6 _)))
       ·rw [List.map_append]; exact dd2_rows _ _
       ·simp
      | j + 3,hu,hv=>cases hv
     | b + 3,hx,hy=>simp at hy
    ·have hsq : Small [] (Pl.mk p.clubs p.double (p.demands ++ ds)):=⟨hs.hl,hs.hr,hs.hc,fun d hd=>(List.mem_append.1 hd).elim (fun h=>hs.hd d h) (fun h=>Nat.le_trans (hds.2 d h) (by decide)),by simp; omega⟩
     have hqD : (Pl.mk p.clubs p.double (p.demands ++ ds)).demands.length ≤ 4611686018427387904:=by simp; omega
     have hq1 : ∀ {L : List Blk} {k : V → List Blk → Prop},k (I (checkP (Pl.mk p.clubs p.double (p.demands ++ ds)))) L → CallP C 12 [plV (Pl.mk p.clubs p.double (p.demands ++ ds))] L k:=fun h=>check_c _ hsq.hc hsq.hd hqD h
     have hlt2 : 0 < (brcs t).length:=by have:=List.length_pos_iff.2 ht; rw [brcs_len]; omega
     have hlu2 : 0 < (us.map fun n=>[DI n]).length:=by have:=List.length_pos_iff.2 hu; rw [List.length_map]; omega
     have ha2 : IntKind.i64.wrap a = a:=wrap_in (by omega)
     obtain ⟨kk,hk,hkl⟩ : ∃ kk : Nat,(IntKind.i64.wrap a).tmod ((brcs t).length : Int) = (kk : Int) ∧ kk < (brcs t).length:=⟨a.toNat % (brcs t).length,by rw [ha2,Int.tmod_eq_emod_of_nonneg ha.1,Int.natCast_emod,Int.toNat_of_nonneg ha.1],Nat.mod_lt _ hlt2⟩
     obtain ⟨jj,hj,hjl⟩ : ∃ jj : Nat,(IntKind.i64.wrap a).tmod ((us.map fun n=>[DI n]).length : Int) = (jj : Int) ∧ jj < (us.map fun n=>[DI n]).length:=⟨a.toNat % (us.map fun n=>[DI n]).length,by rw [ha2,Int.tmod_eq_emod_of_nonneg ha.1,Int.natCast_emod,Int.toNat_of_nonneg ha.1],Nat.mod_lt _ hlu2⟩
     have hw1 : IntKind.i64.wrap ((kk : Int) + 1) = ((kk + 1 : Nat) : Int):=by rw [brcs_len] at hkl; rw [wrap_in (by omega)]; omega
     have hw2 : IntKind.i64.wrap ((jj : Int) + 1) = ((jj + 1 : Nat) : Int):=by rw [List.length_map] at hjl; rw [wrap_in (by omega)]; omega
     obtain ⟨t2,ht2⟩ : ∃ t2,t2 = t.take kk ++ t.drop (kk + 1):=⟨_,rfl⟩
     have ht2b : brcs t2 = (brcs t).take kk ++ (brcs t).drop (kk + 1):=by rw [ht2,brcs_del]
     have hbl:=brcs_len t
     have hlen : 0 + ((((brcs t).drop 0).take (kk - 0)).map fun y=>y.map V.d).length + ((((brcs t).drop (kk + 1)).take ((brcs t).length - (kk + 1))).map fun y=>y.map V.d).length = (brcs t2).length:=by rw [ht2b]; exact dd_len _ _ _ rfl hkl
     have hrow:=dd_row (brcs t) kk _ rfl
     rw [← ht2b] at hrow
     have hbe : belB 4 [.cells (p.cells.map .d),.cells [.d (ints us),.d (.sl (brcs t))],.cells [.d (ints us),.own 3 2 0 (brcs t2).length],.row 2 5 ((brcs t2).map fun y=>y.map V.d)] = true:=by
      show (V.belL 4 (p.cells.map .d) && (true && (true && (belR 4 _ && true)))) = true
      rw [V.belL_d,belR_dd]; rfl
     have hbc : ∀ (b : Nat) (x y : Blk),([.cells (p.cells.map .d),.cells [.d (ints us),.d (.sl (brcs t))],.cells [.d (ints us),.own 3 2 0 (brcs t2).length],.row 2 5 ((brcs t2).map fun y=>y.map V.d)] : List Blk)[b]? = some x → ([.cells (p.cells.map .d),.cells [.d (ints us),.d (.sl (brcs t))],.cells [.d (ints us),.d (.sl (brcs t2))]] : List Blk)[b]? = some y → BC 3 [.cells (p.cells.map .d),.cells [.d (ints us),.d (.sl (brcs t))],.cells [.d (ints us),.own 3 2 0 (brcs t2).length],.row 2 5 ((brcs t2).map fun y=>y.map V.d)] x y:=fun b x y hx hy=>by
      match b,hx,hy with
      | 0,hx,hy=>cases hx; cases hy; exact .inl ⟨rfl,V.belL_d 3 p.cells⟩
      | 1,hx,hy=>cases hx; cases hy; exact .inl ⟨rfl,rfl⟩
      | 2,hx,hy =>
       cases hx; cases hy
       refine .inr (.inr ⟨_,_,rfl,rfl,rfl,fun j u v hu hv=>?_⟩)
       match j,hu,hv with
       | 0,hu,hv=>cases hu; cases hv; exact .inl ⟨rfl,rfl⟩
       | 1,hu,hv =>
        cases hu; cases hv
        exact .inr (.d (.rowL (ds:=brcs t2) (Nat.le_refl 3) rfl (CvLL.cong (by rw [List.drop_zero,List.take_of_length_le (by rw [List.length_map]; exact Nat.le_refl _)]) (dd_cv _)) rfl (brcs_row t2)))
       | j + 2,hu,hv=>cases hv
      | b + 3,hx,hy=>cases hy
     have hil : (us.map fun n=>[DI n]).length = us.length:=List.length_map ..
     have hlen2 : 0 + ((((us.map fun n=>[DI n]).drop 0).take (jj - 0)).map fun y=>y.map V.d).length + ((((us.map fun n=>[DI n]).drop (jj + 1)).take ((us.map fun n=>[DI n]).length - (jj + 1))).map fun y=>y.map V.d).length = (delAt us jj).length:=by
      rw [dd_len _ _ _ rfl hjl,← ints_del,List.length_map]
     have hrow2:=dd_row (us.map fun n=>[DI n]) jj _ rfl
     rw [← ints_del] at hrow2
     have hbe2 : belB 5 [.cells (p.cells.map .d),.cells [.d (ints us),.d (.sl (brcs t))],.cells [.d (ints us),.d (.sl (brcs t2))],.cells [.own 4 2 0 (delAt us jj).length,.d (.sl (brcs t))],.row 2 1 (((delAt us jj).map fun n=>[DI n]).map fun y=>y.map V.d)] = true:=by
      show (V.belL 5 (p.cells.map .d) && (true && (true && (true && (belR 5 _ && true))))) = true
      rw [V.belL_d,belR_dd]; rfl
     have hbc2 : ∀ (b : Nat) (x y : Blk),([.cells (p.cells.map .d),.cells [.d (ints us),.d (.sl (brcs t))],.cells [.d (ints us),.d (.sl (brcs t2))],.cells [.own 4 2 0 (delAt us jj).length,.d (.sl (brcs t))],.row 2 1 (((delAt us jj).map fun n=>[DI n]).map fun y=>y.map V.d)] : List Blk)[b]? = some x → ([.cells (p.cells.map .d),.cells [.d (ints us),.d (.sl (brcs t))],.cells [.d (ints us),.d (.sl (brcs t2))],.cells [.d (ints (delAt us jj)),.d (.sl (brcs t))]] : List Blk)[b]? = some y → BC 4 [.cells (p.cells.map .d),.cells [.d (ints us),.d (.sl (brcs t))],.cells [.d (ints us),.d (.sl (brcs t2))],.cells [.own 4 2 0 (delAt us jj).length,.d (.sl (brcs t))],.row 2 1 (((delAt us jj).map fun n=>[DI n]).map fun y=>y.map V.d)] x y:=fun b x y hx hy=>by
      match b,hx,hy with
      | 0,hx,hy=>cases hx; cases hy; exact .inl ⟨rfl,V.belL_d 4 p.cells⟩
      | 1,hx,hy=>cases hx; cases hy; exact .inl ⟨rfl,rfl⟩
      | 2,hx,hy=>cases hx; cases hy; exact .inl ⟨rfl,rfl⟩
      | 3,hx,hy =>
       cases hx; cases hy
       refine .inr (.inr ⟨_,_,rfl,rfl,rfl,fun j u v hu hv=>?_⟩)
       match j,hu,hv with
       | 0,hu,hv =>
        cases hu; cases hv
        exact .inr (.d (.rowL (ds:=(delAt us jj).map fun n=>[DI n]) (Nat.le_refl 4) rfl (CvLL.cong (by rw [List.drop_zero,List.take_of_length_le (by rw [List.length_map,List.length_map]; exact Nat.le_refl _)]) (dd_cv _)) (List.length_map ..).symm (lenC _)))
       | 1,hu,hv=>cases hu; cases hv; exact .inl ⟨rfl,rfl⟩
       | j + 2,hu,hv=>cases hv
      | b + 4,hx,hy=>cases hy
     have hf2 : chkE p us t2 = 330:=f2 (by rw [brcs_len] at hkl; rw [ht2,List.length_append,List.length_take,List.length_drop]; omega)
     have hf3 : chkE p (delAt us jj) t = 330:=f3 (by rw [List.length_map] at hjl; exact hjl)
     have hud : (delAt us jj).length ≤ 1073741824:=w23 ((delAt_sub us jj).length_le) hlu
     by_cases hq0 : checkP (Pl.mk p.clubs p.double (p.demands ++ ds)) = 0
     ·repeat' (conv => whnf
               first|refine hq1 ?_|refine chk_e hsq hlu (f1 hq0) ?_|refine w8 (w19 hq0) ?_|refine w6 ht0 ?_|simp only [hk]|refine w0 ?_|refine w1 ?_|refine w2 (fun h=>?_) (fun h=>?_)|refine w3 ?_|refine w4 (fun h=>?_) (fun h=>?_)|refine w5 _ rfl ?_|refine w6 rfl ?_|refine w7 mixed rfl ?_)
      conv=>whnf
      refine CutP.intro (ι:=Unit) (fun _=>⟨[(4,.ptr 0 0),(3,.d (.int .u8 a)),(9,.ptr 1 0),(13,.ptr 2 0)],Tryz.f8.ntmps,[.cells (p.cells.map .d),.cells [.d (ints us),.d (.sl (brcs t))],.cells [.d (ints us),.d (.sl (brcs t2))]],[],none⟩) ?_ (fun _=>?_)
      ·refine DrawP.por mixed [] [[(0,0),(1,4),(3,0),(4,3),(5,0),(6,1),(8,0),(9,4),(10,0),(11,0),(12,1),(2,0),(7,0),(13,0),(14,0),(15,0),(16,0)],[(0,0),(1,4),(3,0),(4,3),(5,0),(6,1),(8,0),(9,4),(10,0),(11,0),(12,1),(2,0),(7,0),(15,0),(13,0),(14,0),(16,0)],[(0,0),(1,4),(3,0),(4,3),(5,0),(6,1),(8,0),(9,4),(10,0),(11,0),(12,1),(2,0),(15,0),(7,0),(13,0),(14,0),(16,0)],[(0,0),(1,4),(3,0),(4,3),(5,0),(6,1),(8,0),(9,4),(10,0),(11,0),(12,1),(15,0),(2,0),(7,0),(13,0),(14,0),(16,0)]] (by kernel_rfl) ?_
       conv=>whnf
       refine And.intro ?_ ?_
       rotate_left 1
       conv=>whnf
       refine And.intro ?_ ?_
       rotate_left 1
       conv=>whnf
       refine And.intro ?_ ?_
       all_goals
        repeat' ((conv=>whnf); first|refine w0 ?_|refine w1 ?_|refine w2 (fun h=>?_) (fun h=>?_)|refine w3 ?_|refine w4 (fun h=>?_) (fun h=>?_)|refine w5 _ rfl ?_|refine w6 rfl ?_|refine w7 mixed rfl ?_|refine w6 (brcs_row t) ?_|refine w6 (fun e he=>brcs_row t e (List.mem_of_mem_drop (List.mem_of_mem_take he))) ?_|simp only [Nat.beq_refl,Bool.and_self]|refine w6 (w23 (m:=4294967296) (by simp; omega) (apLim_ge _)) ?_|refine SliceP.intro 0 kk rfl rfl (w22 _) (by omega) ?_|refine SliceP.intro (kk + 1) (brcs t).length hw1 rfl (by omega) (w21 _) ?_)
       all_goals conv=>whnf
       all_goals
        refine ⟨(),Weak.trans (σ':=⟨[(4,.ptr 0 0),(3,.d (.int .u8 a)),(9,.ptr 1 0),(13,.ptr 2 0)],Tryz.f8.ntmps,[.cells (p.cells.map .d),.cells [.d (ints us),.d (.sl (brcs t))],.cells [.d (ints us),.own 3 2 0 (brcs t2).length],.row 2 5 ((brcs t2).map fun y=>y.map V.d)],[],none⟩) ?_ (Weak.thaw 3 (w22 _) (w18 rfl) rfl ⟨.inl ⟨rfl,rfl⟩,.inl ⟨rfl,rfl⟩,.inl ⟨rfl,rfl⟩,.inl ⟨rfl,rfl⟩,trivial⟩ fun b x y hx hy=>?_)⟩
       all_goals first
        | exact Weak.re [0,1,4,3] ⟨rfl,rfl,rfl,rfl,trivial⟩ (Eq.trans rfl (congr (congrArg (fun (n : Nat) z=>[some (Blk.cells (p.cells.map .d)),some (.cells [.d (ints us),.d (.sl (brcs t))]),some (.cells [.d (ints us),.own 3 2 0 n]),some (.row 2 5 z)]) hlen) (hrow.trans (rnR_dd _ _).symm))) (by decide) rfl hbe
        | exact Weak.re [0,1,3,4] ⟨rfl,rfl,rfl,rfl,trivial⟩ (Eq.trans rfl (congr (congrArg (fun (n : Nat) z=>[some (Blk.cells (p.cells.map .d)),some (.cells [.d (ints us),.d (.sl (brcs t))]),some (.cells [.d (ints us),.own 4 2 0 n]),some (.row 2 5 z)]) hlen) (hrow.trans (rnR_dd _ _).symm))) (by decide) rfl hbe
        | exact hbc b x y hx hy
      ·repeat' (conv => whnf
                first|refine w0 ?_|refine w1 ?_|refine w2 (fun h=>?_) (fun h=>?_)|refine w3 ?_|refine w4 (fun h=>?_) (fun h=>?_)|refine w5 _ rfl ?_|refine w6 rfl ?_|refine w7 mixed rfl ?_|refine w6 hu0 ?_|simp only [hj])
       conv=>whnf
       refine CutP.intro (ι:=Unit) (fun _=>⟨[(4,.ptr 0 0),(13,.ptr 2 0),(15,.ptr 3 0)],Tryz.f8.ntmps,[.cells (p.cells.map .d),.cells [.d (ints us),.d (.sl (brcs t))],.cells [.d (ints us),.d (.sl (brcs t2))],.cells [.d (ints (delAt us jj)),.d (.sl (brcs t))]],[],none⟩) ?_ (fun _=>?_)
       ·refine DrawP.por mixed [] [[(1,0),(2,3),(3,0),(4,1),(6,0),(7,4),(8,0),(9,0),(10,1),(12,0),(13,4),(0,0),(5,0),(11,0),(14,0),(15,0),(16,0)],[(1,0),(2,3),(3,0),(4,1),(6,0),(7,4),(8,0),(9,0),(10,1),(12,0),(13,4),(0,0),(5,0),(15,0),(11,0),(14,0),(16,0)],[(1,0),(2,3),(3,0),(4,1),(6,0),(7,4),(8,0),(9,0),(10,1),(12,0),(13,4),(0,0),(15,0),(5,0),(11,0),(14,0),(16,0)],[(1,0),(2,3),(3,0),(4,1),(6,0),(7,4),(8,0),(9,0),(10,1),(12,0),(13,4),(15,0),(0,0),(5,0),(11,0),(14,0),(16,0)]] (by kernel_rfl) ?_
        conv=>whnf
        refine And.intro ?_ ?_
        rotate_left 1
        conv=>whnf
        refine And.intro ?_ ?_
        rotate_left 1
        conv=>whnf
        refine And.intro ?_ ?_
        all_goals
         repeat' ((conv=>whnf); first|refine w0 ?_|refine w1 ?_|refine w2 (fun h=>?_) (fun h=>?_)|refine w3 ?_|refine w4 (fun h=>?_) (fun h=>?_)|refine w5 _ rfl ?_|refine w6 rfl ?_|refine w7 mixed rfl ?_|refine w6 (lenC us) ?_|refine w6 (fun e he=>lenC us e (List.mem_of_mem_drop (List.mem_of_mem_take he))) ?_|simp only [Nat.beq_refl,Bool.and_self]|refine w6 (w23 (m:=4294967296) (by simp; omega) (apLim_ge _)) ?_|refine SliceP.intro 0 jj rfl rfl (w22 _) (by omega) ?_|refine SliceP.intro (jj + 1) (us.map fun n=>[DI n]).length hw2 rfl (by omega) (w21 _) ?_)
        all_goals conv=>whnf
        all_goals
         refine ⟨(),Weak.trans (σ':=⟨[(4,.ptr 0 0),(13,.ptr 2 0),(15,.ptr 3 0)],Tryz.f8.ntmps,[.cells (p.cells.map .d),.cells [.d (ints us),.d (.sl (brcs t))],.cells [.d (ints us),.d (.sl (brcs t2))],.cells [.own 4 2 0 (delAt us jj).length,.d (.sl (brcs t))],.row 2 1 (((delAt us jj).map fun n=>[DI n]).map fun y=>y.map V.d)],[],none⟩) ?_ (Weak.thaw 4 (w22 _) (w18 rfl) rfl ⟨.inl ⟨rfl,rfl⟩,.inl ⟨rfl,rfl⟩,.inl ⟨rfl,rfl⟩,trivial⟩ fun b x y hx hy=>?_)⟩
        all_goals first
         | exact Weak.re [0,1,2,4,3] ⟨rfl,rfl,rfl,trivial⟩ (Eq.trans rfl (congr (congrArg (fun (n : Nat) z=>[some (Blk.cells (p.cells.map .d)),some (.cells [.d (ints us),.d (.sl (brcs t))]),some (.cells [.d (ints us),.d (.sl (brcs t2))]),some (.cells [.own 3 2 0 n,.d (.sl (brcs t))]),some (.row 2 1 z)]) hlen2) (hrow2.trans (rnR_dd _ _).symm))) (by decide) rfl hbe2
         | exact Weak.re [0,1,2,3,4] ⟨rfl,rfl,rfl,trivial⟩ (Eq.trans rfl (congr (congrArg (fun (n : Nat) z=>[some (Blk.cells (p.cells.map .d)),some (.cells [.d (ints us),.d (.sl (brcs t))]),some (.cells [.d (ints us),.d (.sl (brcs t2))]),some (.cells [.own 4 2 0 n,.d (.sl (brcs t))]),some (.row 2 1 z)]) hlen2) (hrow2.trans (rnR_dd _ _).symm))) (by decide) rfl hbe2
         | exact hbc2 b x y hx hy
       ·repeat' (conv => whnf
                 first|refine chk_e hs hlu hf2 ?_|refine chk_e hs hud hf3 ?_|refine w0 ?_|refine w1 ?_|refine w2 (fun h=>?_) (fun h=>?_)|refine w3 ?_|refine w4 (fun h=>?_) (fun h=>?_)|refine w5 _ rfl ?_|refine w6 rfl ?_|refine w7 mixed rfl ?_)
        conv=>whnf
        exact FinP.drop (n:=0) rfl (w21 0) rfl rfl ⟨rfl,rfl⟩
     ·repeat' (conv => whnf
               first|refine hq1 ?_|refine w9 (w20 hq0) ?_|refine w6 ht0 ?_|simp only [hk]|refine w0 ?_|refine w1 ?_|refine w2 (fun h=>?_) (fun h=>?_)|refine w3 ?_|refine w4 (fun h=>?_) (fun h=>?_)|refine w5 _ rfl ?_|refine w6 rfl ?_|refine w7 mixed rfl ?_)
      conv=>whnf
      refine CutP.intro (ι:=Unit) (fun _=>⟨[(4,.ptr 0 0),(3,.d (.int .u8 a)),(9,.ptr 1 0),(13,.ptr 2 0)],Tryz.f8.ntmps,[.cells (p.cells.map .d),.cells [.d (ints us),.d (.sl (brcs t))],.cells [.d (ints us),.d (.sl (brcs t2))]],[],none⟩) ?_ (fun _=>?_)
      ·refine DrawP.por mixed [] [[(0,0),(1,4),(3,0),(4,3),(5,0),(6,1),(8,0),(9,4),(10,0),(11,0),(12,1),(2,0),(7,0),(13,0),(14,0),(15,0),(16,0)],[(0,0),(1,4),(3,0),(4,3),(5,0),(6,1),(8,0),(9,4),(10,0),(11,0),(12,1),(2,0),(7,0),(15,0),(13,0),(14,0),(16,0)],[(0,0),(1,4),(3,0),(4,3),(5,0),(6,1),(8,0),(9,4),(10,0),(11,0),(12,1),(2,0),(15,0),(7,0),(13,0),(14,0),(16,0)],[(0,0),(1,4),(3,0),(4,3),(5,0),(6,1),(8,0),(9,4),(10,0),(11,0),(12,1),(15,0),(2,0),(7,0),(13,0),(14,0),(16,0)]] (by kernel_rfl) ?_
       conv=>whnf
       refine And.intro ?_ ?_
       rotate_left 1
       conv=>whnf
       refine And.intro ?_ ?_
       rotate_left 1
       conv=>whnf
       refine And.intro ?_ ?_
       all_goals
        repeat' ((conv=>whnf); first|refine w0 ?_|refine w1 ?_|refine w2 (fun h=>?_) (fun h=>?_)|refine w3 ?_|refine w4 (fun h=>?_) (fun h=>?_)|refine w5 _ rfl ?_|refine w6 rfl ?_|refine w7 mixed rfl ?_|refine w6 (brcs_row t) ?_|refine w6 (fun e he=>brcs_row t e (List.mem_of_mem_drop (List.mem_of_mem_take he))) ?_|simp only [Nat.beq_refl,Bool.and_self]|refine w6 (w23 (m:=4294967296) (by simp; omega) (apLim_ge _)) ?_|refine SliceP.intro 0 kk rfl rfl (w22 _) (by omega) ?_|refine SliceP.intro (kk + 1) (brcs t).length hw1 rfl (by omega) (w21 _) ?_)
       all_goals conv=>whnf
       all_goals
        refine ⟨(),Weak.trans (σ':=⟨[(4,.ptr 0 0),(3,.d (.int .u8 a)),(9,.ptr 1 0),(13,.ptr 2 0)],Tryz.f8.ntmps,[.cells (p.cells.map .d),.cells [.d (ints us),.d (.sl (brcs t))],.cells [.d (ints us),.own 3 2 0 (brcs t2).length],.row 2 5 ((brcs t2).map fun y=>y.map V.d)],[],none⟩) ?_ (Weak.thaw 3 (w22 _) (w18 rfl) rfl ⟨.inl ⟨rfl,rfl⟩,.inl ⟨rfl,rfl⟩,.inl ⟨rfl,rfl⟩,.inl ⟨rfl,rfl⟩,trivial⟩ fun b x y hx hy=>?_)⟩
       all_goals first
        | exact Weak.re [0,1,4,3] ⟨rfl,rfl,rfl,rfl,trivial⟩ (Eq.trans rfl (congr (congrArg (fun (n : Nat) z=>[some (Blk.cells (p.cells.map .d)),some (.cells [.d (ints us),.d (.sl (brcs t))]),some (.cells [.d (ints us),.own 3 2 0 n]),some (.row 2 5 z)]) hlen) (hrow.trans (rnR_dd _ _).symm))) (by decide) rfl hbe
        | exact Weak.re [0,1,3,4] ⟨rfl,rfl,rfl,rfl,trivial⟩ (Eq.trans rfl (congr (congrArg (fun (n : Nat) z=>[some (Blk.cells (p.cells.map .d)),some (.cells [.d (ints us),.d (.sl (brcs t))]),some (.cells [.d (ints us),.own 4 2 0 n]),some (.row 2 5 z)]) hlen) (hrow.trans (rnR_dd _ _).symm))) (by decide) rfl hbe
        | exact hbc b x y hx hy
      ·repeat' (conv => whnf
                first|refine w0 ?_|refine w1 ?_|refine w2 (fun h=>?_) (fun h=>?_)|refine w3 ?_|refine w4 (fun h=>?_) (fun h=>?_)|refine w5 _ rfl ?_|refine w6 rfl ?_|refine w7 mixed rfl ?_|refine w6 hu0 ?_|simp only [hj])
       conv=>whnf
       refine CutP.intro (ι:=Unit) (fun _=>⟨[(4,.ptr 0 0),(13,.ptr 2 0),(15,.ptr 3 0)],Tryz.f8.ntmps,[.cells (p.cells.map .d),.cells [.d (ints us),.d (.sl (brcs t))],.cells [.d (ints us),.d (.sl (brcs t2))],.cells [.d (ints (delAt us jj)),.d (.sl (brcs t))]],[],none⟩) ?_ (fun _=>?_)
       ·refine DrawP.por mixed [] [[(1,0),(2,3),(3,0),(4,1),(6,0),(7,4),(8,0),(9,0),(10,1),(12,0),(13,4),(0,0),(5,0),(11,0),(14,0),(15,0),(16,0)],[(1,0),(2,3),(3,0),(4,1),(6,0),(7,4),(8,0),(9,0),(10,1),(12,0),(13,4),(0,0),(5,0),(15,0),(11,0),(14,0),(16,0)],[(1,0),(2,3),(3,0),(4,1),(6,0),(7,4),(8,0),(9,0),(10,1),(12,0),(13,4),(0,0),(15,0),(5,0),(11,0),(14,0),(16,0)],[(1,0),(2,3),(3,0),(4,1),(6,0),(7,4),(8,0),(9,0),(10,1),(12,0),(13,4),(15,0),(0,0),(5,0),(11,0),(14,0),(16,0)]] (by kernel_rfl) ?_
        conv=>whnf
        refine And.intro ?_ ?_
        rotate_left 1
        conv=>whnf
        refine And.intro ?_ ?_
        rotate_left 1
        conv=>whnf
        refine And.intro ?_ ?_
        all_goals
         repeat' ((conv=>whnf); first|refine w0 ?_|refine w1 ?_|refine w2 (fun h=>?_) (fun h=>?_)|refine w3 ?_|refine w4 (fun h=>?_) (fun h=>?_)|refine w5 _ rfl ?_|refine w6 rfl ?_|refine w7 mixed rfl ?_|refine w6 (lenC us) ?_|refine w6 (fun e he=>lenC us e (List.mem_of_mem_drop (List.mem_of_mem_take he))) ?_|simp only [Nat.beq_refl,Bool.and_self]|refine w6 (w23 (m:=4294967296) (by simp; omega) (apLim_ge _)) ?_|refine SliceP.intro 0 jj rfl rfl (w22 _) (by omega) ?_|refine SliceP.intro (jj + 1) (us.map fun n=>[DI n]).length hw2 rfl (by omega) (w21 _) ?_)
        all_goals conv=>whnf
        all_goals
         refine ⟨(),Weak.trans (σ':=⟨[(4,.ptr 0 0),(13,.ptr 2 0),(15,.ptr 3 0)],Tryz.f8.ntmps,[.cells (p.cells.map .d),.cells [.d (ints us),.d (.sl (brcs t))],.cells [.d (ints us),.d (.sl (brcs t2))],.cells [.own 4 2 0 (delAt us jj).length,.d (.sl (brcs t))],.row 2 1 (((delAt us jj).map fun n=>[DI n]).map fun y=>y.map V.d)],[],none⟩) ?_ (Weak.thaw 4 (w22 _) (w18 rfl) rfl ⟨.inl ⟨rfl,rfl⟩,.inl ⟨rfl,rfl⟩,.inl ⟨rfl,rfl⟩,trivial⟩ fun b x y hx hy=>?_)⟩
        all_goals first
         | exact Weak.re [0,1,2,4,3] ⟨rfl,rfl,rfl,trivial⟩ (Eq.trans rfl (congr (congrArg (fun (n : Nat) z=>[some (Blk.cells (p.cells.map .d)),some (.cells [.d (ints us),.d (.sl (brcs t))]),some (.cells [.d (ints us),.d (.sl (brcs t2))]),some (.cells [.own 3 2 0 n,.d (.sl (brcs t))]),some (.row 2 1 z)]) hlen2) (hrow2.trans (rnR_dd _ _).symm))) (by decide) rfl hbe2
         | exact Weak.re [0,1,2,3,4] ⟨rfl,rfl,rfl,trivial⟩ (Eq.trans rfl (congr (congrArg (fun (n : Nat) z=>[some (Blk.cells (p.cells.map .d)),some (.cells [.d (ints us),.d (.sl (brcs t))]),some (.cells [.d (ints us),.d (.sl (brcs t2))]),some (.cells [.own 4 2 0 n,.d (.sl (brcs t))]),some (.row 2 1 z)]) hlen2) (hrow2.trans (rnR_dd _ _).symm))) (by decide) rfl hbe2
         | exact hbc2 b x y hx hy
       ·repeat' (conv => whnf
                 first|refine chk_e hs hlu hf2 ?_|refine chk_e hs hud hf3 ?_|refine w0 ?_|refine w1 ?_|refine w2 (fun h=>?_) (fun h=>?_)|refine w3 ?_|refine w4 (fun h=>?_) (fun h=>?_)|refine w5 _ rfl ?_|refine w6 rfl ?_|refine w7 mixed rfl ?_)
        conv=>whnf
        exact FinP.drop (n:=0) rfl (w21 0) rfl rfl ⟨rfl,rfl⟩
   ·repeat' (conv => whnf
             first|refine rsane_c ?_|refine fewQ_c p (w23 hp.hD (by decide)) ?_|refine w3 ?_|refine w8 (w19 hb) ?_|refine w9 (w20 hl') ?_|refine w6 (show (3000 : Int) ≠ 0 by decide) ?_|simp only [hw]|refine prove_e hs ⟨rfl,rfl,rfl⟩ ?_|refine w9 (w20 e0) ?_|refine w0 ?_|refine w1 ?_|refine w2 (fun h=>?_) (fun h=>?_)|refine w3 ?_|refine w4 (fun h=>?_) (fun h=>?_)|refine w5 _ rfl ?_|refine w6 rfl ?_|refine w7 mixed rfl ?_)
    conv=>whnf
    exact FinP.drop (n:=0) rfl (Nat.le_refl 0) rfl rfl ⟨rfl,congrArg B (by simpa using e0)⟩
 ·repeat' (conv => whnf
           first|refine rsane_c ?_|refine fewQ_c p (w23 hp.hD (by decide)) ?_|refine w3 ?_|refine w9 (w20 hb) ?_|refine w0 ?_|refine w1 ?_|refine w2 (fun h=>?_) (fun h=>?_)|refine w3 ?_|refine w4 (fun h=>?_) (fun h=>?_)|refine w5 _ rfl ?_|refine w6 rfl ?_|refine w7 mixed rfl ?_)
  conv=>whnf
  exact FinP.drop (n:=0) rfl (w21 0) rfl rfl ⟨rfl,rfl⟩
theorem call_closed : ∀ xss,TyA C.P Tryz.f8.params.toList xss → (∀ xs ∈ xss,∀ y ∈ xs,Dsm reachBytes y) → CallP C 8 (argVs C.P Tryz.f8.params.toList xss) [] fun X L=>L = [] ∧ X = .d (.bool true):=by
 intro xss h hsm
 match xss,h,hsm with
 | [x1,x2,x3,x4],⟨h1,h2,h3,h4,_⟩,hsm =>
  obtain ⟨x1,rfl,b1⟩:=plT h1 (hsm _ (by simp))
  obtain ⟨x2,rfl,b2⟩:=u16T h2 (hsm _ (by simp))
  obtain ⟨x3,rfl,b3⟩:=dmsT h3 (hsm _ (by simp))
  obtain ⟨x4,rfl,b4⟩:=u8T h4 (hsm _ (by simp))
  exact law x1 x2 x3 x4 b1 b2 b3 b4
set_option maxRecDepth 100000 in
theorem lifted (os : Os) (started : os.Started) (H : Type) (enc : TypeId × Value → H) :
  ReturnsInHanded {} Tryz.checked os 8 .any (Rows.refusalMoreSpec.pre6 enc Tryz.prog Tryz.f8 Rows.refusalMoreRow.domain false) (Rows.refusalMoreSpec.post enc Tryz.prog Tryz.f8 false true false false):=by
 refine returnsInHanded_of_change_sized (C:=Tryz.checked) own started (by kernel_rfl) Tryz.func8
  (ChangeSpec.witness6 (enc:=enc) (C:=Tryz.checked) false ⟨#[],#[.agg #[.slice none 0 0,.bool false,.slice none 0 0],.int .u16 0,.slice none 0 0,.int .u8 0],[]⟩ 8 (by kernel_rfl) (by kernel_rfl) (by kernel_rfl) (by kernel_rfl)) ?_
 intro W base args ds gs before hval hW _ hz _
 refine law_ofB (C:=C) (l:=plainTys) kids full plainOk bytesOk plainLt (fun t ht=>?_) rfl rfl Tryz.underlying4 (fun ds hd=>?_) call_closed hval hW hz
 ·have : Tryz.f8.params.toList.all (fun t=>plainTys.contains t) = true:=by kernel_rfl
  simpa using List.all_eq_true.1 this t ht
 ·match ds,hd with
  | [d1,d2,d3,d4],_=>rfl
theorem proved : Rows.RefusalMoreSaid :=
 OpenClaim.holds_of_wide 8 Tryz.f8 rfl rfl rfl rfl rfl rfl rfl ⟨rfl,rfl,rfl,rfl,rfl⟩ rfl rfl rfl rfl rfl (by kernel_rfl) Tryz.func8 (by kernel_rfl)
  (of_decide_eq_true (by kernel_rfl)) (by unfold Func.isWrapper; first | (rw [if_pos (by decide +kernel)]; kernel_rfl) | (rw [if_neg (by decide +kernel)]; exact ⟨rfl,rfl⟩))
  (fun os started H enc _=>lifted os started H enc)
end Go.Proofs.YtndlggbljkhfbaaGreat.refusalMore
