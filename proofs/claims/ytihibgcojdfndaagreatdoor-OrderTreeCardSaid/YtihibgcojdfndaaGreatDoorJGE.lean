import Derived.Test.YtihibgcojdfndaaGreatDoorJGD
import Derived.Test.YtihibgcojdfndaaGreatDoorCards
import Derived.Test.YtihibgcojdfndaaGreatDoorTie
import Derived.WalkKit
import Derived.ProofKit
import Derived.OpenShut
import Derived.Deep.DeepHandedRow
import Derived.Lib.LaidTab
import Derived.Shelf.SortM.Plain
import Derived.Shelf.SortM.SortNone
import Derived.Shelf.Slices.CompactI
set_option maxRecDepth 100000
set_option maxHeartbeats 0
set_option linter.unusedSimpArgs false
set_option linter.unusedVariables false
namespace Go.Proofs.YtihibgcojdfndaaGreatDoor
open Go.Tidy
variable {L : List Blk} {k : V → List Blk → Prop}
theorem wLoop_drop {w : List Fm → Nat → Int × Int → W} {l : List Fm} {d : Nat} {i : Nat} (h : i < l.length) (a : Int × Int) : wLoop w (l.drop i) d a = if (wStep w l[i] d a).1 = true then wLoop w (l.drop (i + 1)) d (wStep w l[i] d a).2 else wStep w l[i] d a:=by
 rw [List.drop_eq_getElem_cons h,wLoop]
theorem lenO (d : D) : ∀ e ∈ [[d]],e.length = 1:=fun e he=>by rw [List.mem_singleton.1 he]; rfl
theorem within_c : ∀ n l d a,Enough n l d → LFs l → Bd n a → WCall n l d a
 | 0,l,d,a,he,_,_=>absurd he.pos (by omega)
 | n + 1,l,d,a,he,hl,hb=>by
  have ih:=within_c n
  unfold WCall
  have hle:=he.le
  have hlen:=hl.len
  by_cases hc : l ≠ [] ∧ 16 < d
  ·have e : wF (n + 1) l d a = (false,a):=by unfold wF; rw [if_pos hc]
   rw [e]
   have hp : (0 : Int) < ((l.map fun f=>[f.d]).length : Int):=by rw [List.length_map]; have:=List.length_pos_iff.2 hc.1; omega
   have hd : (16 : Int) < (d : Int):=by omega
   refine zw24 C_ok Tryz.func130 rfl rfl rfl (zw18 rfl) rfl ?_
   repeat' ((conv=>whnf); first|refine zw8 (zw19 hp) ?_|refine zw8 (zw19 hd) ?_)
   conv=>whnf
   exact FinP.same ⟨rfl,rfl⟩
  ·have e : wF (n + 1) l d a = wLoop (wF n) l d a:=by rw [wF,if_neg hc]
   rw [e]
   refine zw24 C_ok Tryz.func130 rfl rfl rfl (zw18 rfl) rfl ?_
   have hq:=wF_q n
   by_cases hl0 : l = []
   ·subst hl0
    repeat' ((conv=>whnf); refine zw1 ?_)
    conv=>whnf
    refine zw26 (fun _ : Unit=>True) (fun _=>⟨[(20,I 0),(21,I 0)],Tryz.f130.ntmps,[.cells [I a.1,I a.2]],[],none⟩) (fun _=>0) () trivial ?_ ?_
    ·exact zw27 ⟨rfl,rfl,trivial⟩
    rintro - -
    repeat' ((conv=>whnf); refine zw9 (zw20 (show ¬ (0 : Int) < 0 by omega)) ?_)
    conv=>whnf
    exact FinP.same ⟨rfl,rfl⟩
   ·have hd : ¬ (16 : Int) < (d : Int):=by
     have : ¬ 16 < d:=fun h=>hc ⟨hl0,h⟩
     omega
    have hd' : d ≤ 16:=by omega
    have hp : (0 : Int) < ((l.map fun f=>[f.d]).length : Int):=by rw [List.length_map]; have:=List.length_pos_iff.2 hl0; omega
    repeat' ((conv=>whnf); first|refine zw8 (zw19 hp) ?_|refine zw9 (zw20 hd) ?_)
    conv=>whnf
    refine zw26 (α:=Nat × Int × Int) (fun s=>s.1 ≤ l.length ∧ Bd (n + 1) s.2 ∧ wLoop (wF n) (l.drop s.1) d s.2 = wLoop (wF n) l d a) (fun s=>⟨[(0,.ptr 0 0),(2,I d),(19,.d (fms l)),(20,I l.length),(21,I s.1)],Tryz.f130.ntmps,[.cells [I s.2.1,I s.2.2]],[],none⟩) (fun s=>l.length - s.1) (0,a) ⟨zw22 _,hb,rfl⟩ ?_ ?_
    ·exact zw27 ⟨rfl,rfl,rfl,congrArg I (by simp),rfl,trivial⟩
    rintro ⟨i,b⟩ ⟨hi,hbb,heq⟩
    simp only at hi hbb heq ⊢
    by_cases hi' : i < l.length
    ·have hlt : (i : Int) < (l.length : Int):=by omega
     have hw:=zwW i (by omega)
     have hwd:=zwW d (by omega)
     have hin : l[i] ∈ l:=List.getElem_mem hi'
     have hE:=he.parts hd' hin
     have hL:=(hl.all _ hin).parts
     have hF:=hl.all _ hin
     have hw1 : IntKind.i64.wrap (b.1 + 1) = b.1 + 1:=wrap_in (by have:=hbb.1; have:=hbb.2.2.1; omega)
     have hw2 : IntKind.i64.wrap (b.2 + 1) = b.2 + 1:=wrap_in (by have:=hbb.2.1; have:=hbb.2.2.2; omega)
     rw [wLoop_drop hi'] at heq
     obtain ⟨f,hf⟩ : ∃ f,f = l[i]'hi':=⟨_,rfl⟩
     rw [← hf] at hE hL hF heq hin
     cases f with
     | c x =>
      have r1 : (l.map fun f=>[f.d])[i]? = some [.iface 237 true [DI x.kind,DI x.var,DI x.n,cos x.parts]]:=by rw [List.getElem?_map,List.getElem?_eq_getElem hi',← hf]; show some [(Fm.c x).d] = _; rw [Fm.c_d]
      have hx : LCo x:=hF
      have hpar : ∀ {L : List Blk} {k : V → List Blk → Prop},k (.d (fms (Fm.c x).parts)) L → CallP C 196 [.agg [I x.kind,I x.var,I x.n,.d (cos x.parts)]] L k:=fun h=>by
       have:=cparts_c x hx.len h
       rw [Co.cells_eq] at this; exact this
      have hst : wStep (wF n) (.c x) d b = wTail (wF n) (.c x) d (b.1,b.2 + 1):=rfl
      by_cases ho : over (b.1,b.2 + 1) = true
      ·have ht : wTail (wF n) (.c x) d (b.1,b.2 + 1) = (false,(b.1,b.2 + 1)):=by unfold wTail; rw [if_pos ho]
       rw [hst,ht,if_neg (show ¬ (false = true) by decide)] at heq
       rw [← heq]
       by_cases o1 : (64 : Int) < b.1
       ·repeat' (conv => whnf
                 first|refine zw8 (zw19 hlt) ?_|refine zw8 (zw19 o1) ?_|refine zw0 ?_|refine zw6 rfl ?_|refine zw10 i _ rfl r1 ?_)
        conv=>whnf
        exact zw15 (n:=1) rfl (zw21 1) rfl rfl ⟨Eq.trans (b:=[Blk.cells [I b.1,I (IntKind.i64.wrap (b.2 + 1))]]) rfl (by rw [hw2]),rfl⟩
       ·have o2 : (256 : Int) < b.2 + 1:=by
         simp only [over,Bool.or_eq_true,decide_eq_true_eq] at ho; omega
        have o2' : (256 : Int) < IntKind.i64.wrap (b.2 + 1):=by rw [hw2]; exact o2
        repeat' ((conv=>whnf); first|refine zw8 (zw19 hlt) ?_|refine zw9 (zw20 o1) ?_|refine zw8 (zw19 o2') ?_|refine zw0 ?_|refine zw6 rfl ?_|refine zw10 i _ rfl r1 ?_)
        conv=>whnf
        exact zw15 (n:=1) rfl (zw21 1) rfl rfl ⟨Eq.trans (b:=[Blk.cells [I b.1,I (IntKind.i64.wrap (b.2 + 1))]]) rfl (by rw [hw2]),rfl⟩
      ·have hno:=over_no (a:=(b.1,b.2 + 1)) hbb.1 (by have:=hbb.2.1; simp only; omega) ho
       have ht : wTail (wF n) (.c x) d (b.1,b.2 + 1) = wF n (Fm.c x).parts (d + 1) (b.1,b.2 + 1):=by unfold wTail; rw [if_neg ho]
       rw [hst,ht] at heq
       have o1 : ¬ (64 : Int) < b.1:=by have:=hno.2.1; simp only at this; omega
       have o2 : ¬ (256 : Int) < b.2 + 1:=by have:=hno.2.2.2; simp only at this; omega
       have o2' : ¬ (256 : Int) < IntKind.i64.wrap (b.2 + 1):=by rw [hw2]; exact o2
       have ihc:=ih (Fm.c x).parts (d + 1) (b.1,b.2 + 1) hE hL ⟨hno.1,hno.2.2.1,by have:=hno.2.1; simp only at this ⊢; omega,by have:=hno.2.2.2; simp only at this ⊢; omega⟩
       have hqq:=hq (Fm.c x).parts (d + 1) (b.1,b.2 + 1) hno.1 hno.2.2.1
       unfold WCall at ihc
       generalize hr : wF n (Fm.c x).parts (d + 1) (b.1,b.2 + 1) = r at *
       have ihc' : CallP C 130 [.ptr 0 0,.d (fms (Fm.c x).parts),I (IntKind.i64.wrap ((d : Int) + 1))] [.cells [I b.1,I (IntKind.i64.wrap (b.2 + 1))]] fun X L'=>L' = [.cells [I r.2.1,I r.2.2]] ∧ X = B r.1:=by
        rw [hw2,hwd]; exact ihc
       by_cases hr1 : r.1 = true
       ·rw [if_pos hr1] at heq
        have hbs : Bs r.2:=by
         rcases hqq hr1 with ⟨_,e⟩ | e
         ·rw [e]; exact hno
         ·exact e
        repeat' ((conv=>whnf); first|refine zw8 (zw19 hlt) ?_|refine zw9 (zw20 o1) ?_|refine zw9 (zw20 o2') ?_|refine zw8 hr1 ?_|refine zw0 ?_|refine zw3 ?_|refine zw6 rfl ?_|refine zw10 i _ rfl r1 ?_|refine MethP.intro _ meth_c ?_|refine hpar ?_|refine CallP.at1 (b:=0) ihc' rfl rfl rfl rfl ?_ rfl rfl rfl)
        conv=>whnf
        exact ⟨(i + 1,r.2),⟨hi',⟨hbs.1,hbs.2.2.1,by have:=hbs.2.1; simp only; omega,by have:=hbs.2.2.2; simp only; omega⟩,heq⟩,by simp only; omega,Weak.to 1 rfl (zw21 1) (zw18 rfl) ⟨rfl,rfl,rfl,rfl,congrArg I hw,trivial⟩⟩
       ·rw [if_neg hr1] at heq
        have hr2 : r.1 = false:=by simpa using hr1
        rw [← heq]
        repeat' ((conv=>whnf); first|refine zw8 (zw19 hlt) ?_|refine zw9 (zw20 o1) ?_|refine zw9 (zw20 o2') ?_|refine zw9 hr2 ?_|refine zw0 ?_|refine zw3 ?_|refine zw6 rfl ?_|refine zw10 i _ rfl r1 ?_|refine MethP.intro _ meth_c ?_|refine hpar ?_|refine CallP.at1 (b:=0) ihc' rfl rfl rfl rfl ?_ rfl rfl rfl)
        conv=>whnf
        exact zw15 (n:=1) rfl (zw21 1) rfl rfl ⟨rfl,Eq.trans (b:=B false) rfl (by rw [hr2])⟩
     | s x =>
      have r1 : (l.map fun f=>[f.d])[i]? = some [.iface 209 true [DI x.kind,DI x.by_,DI x.cond.kind,DI x.cond.var,DI x.cond.n,cos x.cond.parts,sps x.thn,sps x.els]]:=by rw [List.getElem?_map,List.getElem?_eq_getElem hi',← hf]; show some [(Fm.s x).d] = _; rw [Fm.s_d]
      have hx : LSp x:=hF
      have hpar : ∀ {L : List Blk} {k : V → List Blk → Prop},k (.d (fms (Fm.s x).parts)) L → CallP C 197 [.agg [I x.kind,I x.by_,I x.cond.kind,I x.cond.var,I x.cond.n,.d (cos x.cond.parts),.d (sps x.thn),.d (sps x.els)]] L k:=fun h=>by
       have:=sparts_c x hx.len1 hx.len2 h
       rw [Sp.cells_eq] at this; exact this
      have hzr : ∀ {L : List Blk} {k : V → List Blk → Prop},k (B (isZ x.cond)) L → CallP C 169 [.agg [I x.cond.kind,I x.cond.var,I x.cond.n,.d (cos x.cond.parts)]] L k:=fun h=>by
       have:=isZero_c x.cond h
       rw [Co.cells_eq] at this; exact this
      have hEc:=he.cond hd' hin
      have hLc : LFs [.c x.cond]:=⟨(show 1 ≤ 8796093022208 by decide),fun g hg=>by rw [List.mem_singleton.1 hg]; exact hx.cond⟩
      have q0 : 0 ≤ b.1 + 1:=by have:=hbb.1; omega
      have q1 : 0 ≤ b.2:=hbb.2.1
      have ih0:=ih [.c x.cond] 0 (b.1 + 1,b.2) hEc hLc ⟨q0,q1,by have:=hbb.2.2.1; simp only; omega,by have:=hbb.2.2.2; simp only; omega⟩
      have hq0:=hq [.c x.cond] 0 (b.1 + 1,b.2) q0 q1
      have hds : fms [.c x.cond] = .sl [[.iface 237 true [DI x.cond.kind,DI x.cond.var,DI x.cond.n,cos x.cond.parts]]]:=by show D.sl [[(Fm.c x.cond).d]] = _; rw [Fm.c_d]
      unfold WCall at ih0
      generalize hr0 : wF n [.c x.cond] 0 (b.1 + 1,b.2) = r0 at *
      have ih0' : CallP C 130 [.ptr 0 0,.d (.sl [[.iface 237 true [DI x.cond.kind,DI x.cond.var,DI x.cond.n,cos x.cond.parts]]]),I 0] [.cells [I (IntKind.i64.wrap (b.1 + 1)),I b.2]] fun X L'=>L' = [.cells [I r0.2.1,I r0.2.2]] ∧ X = B r0.1:=by
       rw [hw1,← hds]; exact ih0
      by_cases hz : isZ x.cond = true
      ·have hst : wStep (wF n) (.s x) d b = wTail (wF n) (.s x) d (b.1 + 1,b.2):=by unfold wStep; simp only [if_pos hz]
       rw [hst] at heq
       by_cases ho : over (b.1 + 1,b.2) = true
       ·have ht : wTail (wF n) (.s x) d (b.1 + 1,b.2) = (false,(b.1 + 1,b.2)):=by unfold wTail; rw [if_pos ho]
        rw [ht,if_neg (show ¬ (false = true) by decide)] at heq
        rw [← heq]
        by_cases o1 : (64 : Int) < b.1 + 1
        ·have o1' : (64 : Int) < IntKind.i64.wrap (b.1 + 1):=by rw [hw1]; exact o1
         repeat' ((conv=>whnf); first|refine zw8 (zw19 hlt) ?_|refine zw8 hz ?_|refine zw8 (zw19 o1') ?_|refine zw0 ?_|refine zw1 ?_|refine zw3 ?_|refine zw6 rfl ?_|refine zw10 i _ rfl r1 ?_|refine hzr ?_)
         conv=>whnf
         exact zw15 (n:=1) rfl (zw21 1) rfl rfl ⟨Eq.trans (b:=[Blk.cells [I (IntKind.i64.wrap (b.1 + 1)),I (b.2)]]) rfl (by rw [hw1]),rfl⟩
        ·have o1' : ¬ (64 : Int) < IntKind.i64.wrap (b.1 + 1):=by rw [hw1]; exact o1
         have o2 : (256 : Int) < b.2:=by
          simp only [over,Bool.or_eq_true,decide_eq_true_eq] at ho; omega
         repeat' ((conv=>whnf); first|refine zw8 (zw19 hlt) ?_|refine zw8 hz ?_|refine zw9 (zw20 o1') ?_|refine zw8 (zw19 o2) ?_|refine zw0 ?_|refine zw1 ?_|refine zw3 ?_|refine zw6 rfl ?_|refine zw10 i _ rfl r1 ?_|refine hzr ?_)
         conv=>whnf
         exact zw15 (n:=1) rfl (zw21 1) rfl rfl ⟨Eq.trans (b:=[Blk.cells [I (IntKind.i64.wrap (b.1 + 1)),I (b.2)]]) rfl (by rw [hw1]),rfl⟩
       ·have hno:=over_no (a:=(b.1 + 1,b.2)) q0 q1 ho
        have ht : wTail (wF n) (.s x) d (b.1 + 1,b.2) = wF n (Fm.s x).parts (d + 1) (b.1 + 1,b.2):=by unfold wTail; rw [if_neg ho]
        rw [ht] at heq
        have o1 : ¬ (64 : Int) < b.1 + 1:=by have:=hno.2.1; simp only at this; omega
        have o2 : ¬ (256 : Int) < b.2:=by have:=hno.2.2.2; simp only at this; omega
        have o1' : ¬ (64 : Int) < IntKind.i64.wrap (b.1 + 1):=by rw [hw1]; exact o1
        have ihc:=ih (Fm.s x).parts (d + 1) (b.1 + 1,b.2) hE hL ⟨hno.1,hno.2.2.1,by have:=hno.2.1; simp only at this ⊢; omega,by have:=hno.2.2.2; simp only at this ⊢; omega⟩
        have hqq:=hq (Fm.s x).parts (d + 1) (b.1 + 1,b.2) hno.1 hno.2.2.1
        unfold WCall at ihc
        generalize hr : wF n (Fm.s x).parts (d + 1) (b.1 + 1,b.2) = r at *
        have ihc' : CallP C 130 [.ptr 0 0,.d (fms (Fm.s x).parts),I (IntKind.i64.wrap ((d : Int) + 1))] [.cells [I (IntKind.i64.wrap (b.1 + 1)),I (b.2)]] fun X L'=>L' = [.cells [I r.2.1,I r.2.2]] ∧ X = B r.1:=by
         rw [hw1,hwd]; exact ihc
        by_cases hr1 : r.1 = true
        ·rw [if_pos hr1] at heq
         have hbs : Bs r.2:=by
          rcases hqq hr1 with ⟨_,e⟩ | e
          ·rw [e]; exact hno
          ·exact e
         repeat' ((conv=>whnf); first|refine zw8 (zw19 hlt) ?_|refine zw8 hz ?_|refine zw9 (zw20 o1') ?_|refine zw9 (zw20 o2) ?_|refine zw8 hr1 ?_|refine zw0 ?_|refine zw1 ?_|refine zw3 ?_|refine zw6 rfl ?_|refine zw10 i _ rfl r1 ?_|refine hzr ?_|refine MethP.intro _ meth_s ?_|refine hpar ?_|refine CallP.at1 (b:=0) ihc' rfl rfl rfl rfl ?_ rfl rfl rfl)
         conv=>whnf
         exact ⟨(i + 1,r.2),⟨hi',⟨hbs.1,hbs.2.2.1,by have:=hbs.2.1; simp only; omega,by have:=hbs.2.2.2; simp only; omega⟩,heq⟩,by simp only; omega,Weak.to 1 rfl (zw21 1) (zw18 rfl) ⟨rfl,rfl,rfl,rfl,congrArg I hw,trivial⟩⟩
        ·rw [if_neg hr1] at heq
         have hr2 : r.1 = false:=by simpa using hr1
         rw [← heq]
         repeat' ((conv=>whnf); first|refine zw8 (zw19 hlt) ?_|refine zw8 hz ?_|refine zw9 (zw20 o1') ?_|refine zw9 (zw20 o2) ?_|refine zw9 hr2 ?_|refine zw0 ?_|refine zw1 ?_|refine zw3 ?_|refine zw6 rfl ?_|refine zw10 i _ rfl r1 ?_|refine hzr ?_|refine MethP.intro _ meth_s ?_|refine hpar ?_|refine CallP.at1 (b:=0) ihc' rfl rfl rfl rfl ?_ rfl rfl rfl)
         conv=>whnf
         exact zw15 (n:=1) rfl (zw21 1) rfl rfl ⟨rfl,Eq.trans (b:=B false) rfl (by rw [hr2])⟩
      ·have hz' : isZ x.cond = false:=by simpa using hz
       by_cases hr01 : r0.1 = true
       ·have hst : wStep (wF n) (.s x) d b = wTail (wF n) (.s x) d (r0.2.1,r0.2.2):=by unfold wStep; simp only [if_neg hz,hr0,if_pos hr01]
        rw [hst] at heq
        have hb0 : Bs r0.2:=by
         rcases hq0 hr01 with ⟨e,_⟩ | e
         ·cases e
         ·exact e
        by_cases ho : over (r0.2.1,r0.2.2) = true
        ·have ht : wTail (wF n) (.s x) d (r0.2.1,r0.2.2) = (false,(r0.2.1,r0.2.2)):=by unfold wTail; rw [if_pos ho]
         rw [ht,if_neg (show ¬ (false = true) by decide)] at heq
         rw [← heq]
         by_cases o1 : (64 : Int) < r0.2.1
         ·have o1' : (64 : Int) < r0.2.1:=by exact o1
          repeat' ((conv=>whnf); first|refine zw8 (zw19 hlt) ?_|refine zw9 hz' ?_|refine zw8 hr01 ?_|refine zw8 (zw19 o1') ?_|refine zw0 ?_|refine zw1 ?_|refine zw3 ?_|refine zw6 rfl ?_|refine zw10 i _ rfl r1 ?_|refine hzr ?_|refine CallP.freeze [3] rfl rfl (.keep (.cv (.d (.rowL (ds:=[[.iface 237 true [DI x.cond.kind,DI x.cond.var,DI x.cond.n,cos x.cond.parts]]]) (List.mem_singleton.2 rfl) rfl (.cons (.cons (.d _) .nil) .nil) rfl (lenO _))) (.keep .nil))) (CallP.at1 (b:=0) ih0' rfl rfl rfl rfl ?_ rfl rfl rfl))
          conv=>whnf
          exact zw15 (n:=1) rfl (zw21 1) rfl rfl ⟨Eq.trans (b:=[Blk.cells [I (r0.2.1),I (r0.2.2)]]) rfl (by rfl),rfl⟩
         ·have o1' : ¬ (64 : Int) < r0.2.1:=by exact o1
          have o2 : (256 : Int) < r0.2.2:=by
           simp only [over,Bool.or_eq_true,decide_eq_true_eq] at ho; omega
          repeat' ((conv=>whnf); first|refine zw8 (zw19 hlt) ?_|refine zw9 hz' ?_|refine zw8 hr01 ?_|refine zw9 (zw20 o1') ?_|refine zw8 (zw19 o2) ?_|refine zw0 ?_|refine zw1 ?_|refine zw3 ?_|refine zw6 rfl ?_|refine zw10 i _ rfl r1 ?_|refine hzr ?_|refine CallP.freeze [3] rfl rfl (.keep (.cv (.d (.rowL (ds:=[[.iface 237 true [DI x.cond.kind,DI x.cond.var,DI x.cond.n,cos x.cond.parts]]]) (List.mem_singleton.2 rfl) rfl (.cons (.cons (.d _) .nil) .nil) rfl (lenO _))) (.keep .nil))) (CallP.at1 (b:=0) ih0' rfl rfl rfl rfl ?_ rfl rfl rfl))
          conv=>whnf
          exact zw15 (n:=1) rfl (zw21 1) rfl rfl ⟨Eq.trans (b:=[Blk.cells [I (r0.2.1),I (r0.2.2)]]) rfl (by rfl),rfl⟩
        ·have hno:=over_no (a:=(r0.2.1,r0.2.2)) hb0.1 hb0.2.2.1 ho
         have ht : wTail (wF n) (.s x) d (r0.2.1,r0.2.2) = wF n (Fm.s x).parts (d + 1) (r0.2.1,r0.2.2):=by unfold wTail; rw [if_neg ho]
         rw [ht] at heq
         have o1 : ¬ (64 : Int) < r0.2.1:=by have:=hno.2.1; simp only at this; omega
         have o2 : ¬ (256 : Int) < r0.2.2:=by have:=hno.2.2.2; simp only at this; omega
         have o1' : ¬ (64 : Int) < r0.2.1:=by exact o1
         have ihc:=ih (Fm.s x).parts (d + 1) (r0.2.1,r0.2.2) hE hL ⟨hno.1,hno.2.2.1,by have:=hno.2.1; simp only at this ⊢; omega,by have:=hno.2.2.2; simp only at this ⊢; omega⟩
         have hqq:=hq (Fm.s x).parts (d + 1) (r0.2.1,r0.2.2) hno.1 hno.2.2.1
         unfold WCall at ihc
         generalize hr : wF n (Fm.s x).parts (d + 1) (r0.2.1,r0.2.2) = r at *
         have ihc' : CallP C 130 [.ptr 0 0,.d (fms (Fm.s x).parts),I (IntKind.i64.wrap ((d : Int) + 1))] [.cells [I (r0.2.1),I (r0.2.2)]] fun X L'=>L' = [.cells [I r.2.1,I r.2.2]] ∧ X = B r.1:=by
          rw [hwd]; exact ihc
         by_cases hr1 : r.1 = true
         ·rw [if_pos hr1] at heq
          have hbs : Bs r.2:=by
           rcases hqq hr1 with ⟨_,e⟩ | e
           ·rw [e]; exact hno
           ·exact e
          repeat' ((conv=>whnf); first|refine zw8 (zw19 hlt) ?_|refine zw9 hz' ?_|refine zw8 hr01 ?_|refine zw9 (zw20 o1') ?_|refine zw9 (zw20 o2) ?_|refine zw8 hr1 ?_|refine zw0 ?_|refine zw1 ?_|refine zw3 ?_|refine zw6 rfl ?_|refine zw10 i _ rfl r1 ?_|refine hzr ?_|refine CallP.freeze [3] rfl rfl (.keep (.cv (.d (.rowL (ds:=[[.iface 237 true [DI x.cond.kind,DI x.cond.var,DI x.cond.n,cos x.cond.parts]]]) (List.mem_singleton.2 rfl) rfl (.cons (.cons (.d _) .nil) .nil) rfl (lenO _))) (.keep .nil))) (CallP.at1 (b:=0) ih0' rfl rfl rfl rfl ?_ rfl rfl rfl)|refine MethP.intro _ meth_s ?_|refine hpar ?_|refine CallP.at1 (b:=0) ihc' rfl rfl rfl rfl ?_ rfl rfl rfl)
          conv=>whnf
          exact ⟨(i + 1,r.2),⟨hi',⟨hbs.1,hbs.2.2.1,by have:=hbs.2.1; simp only; omega,by have:=hbs.2.2.2; simp only; omega⟩,heq⟩,by simp only; omega,Weak.to 1 rfl (zw21 1) (zw18 rfl) ⟨rfl,rfl,rfl,rfl,congrArg I hw,trivial⟩⟩
         ·rw [if_neg hr1] at heq
          have hr2 : r.1 = false:=by simpa using hr1
          rw [← heq]
          repeat' ((conv=>whnf); first|refine zw8 (zw19 hlt) ?_|refine zw9 hz' ?_|refine zw8 hr01 ?_|refine zw9 (zw20 o1') ?_|refine zw9 (zw20 o2) ?_|refine zw9 hr2 ?_|refine zw0 ?_|refine zw1 ?_|refine zw3 ?_|refine zw6 rfl ?_|refine zw10 i _ rfl r1 ?_|refine hzr ?_|refine CallP.freeze [3] rfl rfl (.keep (.cv (.d (.rowL (ds:=[[.iface 237 true [DI x.cond.kind,DI x.cond.var,DI x.cond.n,cos x.cond.parts]]]) (List.mem_singleton.2 rfl) rfl (.cons (.cons (.d _) .nil) .nil) rfl (lenO _))) (.keep .nil))) (CallP.at1 (b:=0) ih0' rfl rfl rfl rfl ?_ rfl rfl rfl)|refine MethP.intro _ meth_s ?_|refine hpar ?_|refine CallP.at1 (b:=0) ihc' rfl rfl rfl rfl ?_ rfl rfl rfl)
          conv=>whnf
          exact zw15 (n:=1) rfl (zw21 1) rfl rfl ⟨rfl,Eq.trans (b:=B false) rfl (by rw [hr2])⟩
       ·have hr02 : r0.1 = false:=by simpa using hr01
        have hst : wStep (wF n) (.s x) d b = r0:=by unfold wStep; simp only [if_neg hz,hr0,if_neg hr01]
        rw [hst,if_neg hr01] at heq
        rw [← heq]
        repeat' ((conv=>whnf); first|refine zw8 (zw19 hlt) ?_|refine zw9 hz' ?_|refine zw9 hr02 ?_|refine zw0 ?_|refine zw1 ?_|refine zw3 ?_|refine zw6 rfl ?_|refine zw10 i _ rfl r1 ?_|refine hzr ?_|refine CallP.freeze [3] rfl rfl (.keep (.cv (.d (.rowL (ds:=[[.iface 237 true [DI x.cond.kind,DI x.cond.var,DI x.cond.n,cos x.cond.parts]]]) (List.mem_singleton.2 rfl) rfl (.cons (.cons (.d _) .nil) .nil) rfl (lenO _))) (.keep .nil))) (CallP.at1 (b:=0) ih0' rfl rfl rfl rfl ?_ rfl rfl rfl))
        conv=>whnf
        exact zw15 (n:=1) rfl (zw21 1) rfl rfl ⟨rfl,Eq.trans (b:=B false) rfl (by rw [hr02])⟩
    ·have hlt : ¬ (i : Int) < (l.length : Int):=by omega
     have hde : l.drop i = []:=List.drop_of_length_le (by omega)
     rw [hde] at heq
     repeat' ((conv=>whnf); refine zw9 (zw20 hlt) ?_)
     conv=>whnf
     rw [← heq]
     exact FinP.same ⟨rfl,rfl⟩
mutual
def vCo : Co → Bool
 | .mk k v n ps=>if k = 1 then decide (1 ≤ v) && decide (v ≤ 4) && decide (0 ≤ n) && decide (n ≤ 64) && decide ((ps.length : Int) = 0)
  else if k = 4 then decide (v = 0) && decide (n = 0) && decide ((ps.length : Int) = 1) && vCos ps
  else if k = 2 ∨ k = 3 then decide (v = 0) && decide (n = 0) && decide (0 < (ps.length : Int)) && decide ((ps.length : Int) ≤ 16) && vCos ps
  else false
def vCos : List Co → Bool
 | []=>true
 | c :: cs=>vCo c && vCos cs
end
theorem vCos_all : ∀ l : List Co,vCos l = l.all vCo
 | []=>rfl
 | c :: cs=>by rw [vCos,vCos_all cs]; rfl
mutual
def vSp : Sp → Bool
 | .mk k b c t e=>if k = 1 then decide (1 ≤ b) && decide (b ≤ 12) && isZ c && decide ((t.length : Int) + e.length = 0)
  else if k = 2 then decide (b = 0) && vCo c && decide (0 < (t.length : Int)) && vSps t && vSps e
  else false
def vSps : List Sp → Bool
 | []=>true
 | c :: cs=>vSp c && vSps cs
end
theorem vSps_all : ∀ l : List Sp,vSps l = l.all vSp
 | []=>rfl
 | c :: cs=>by rw [vSps,vSps_all cs]; rfl
def vFm : Fm → Bool
 | .c x=>vCo x
 | .s x=>vSp x
theorem parts_size {f g : Fm} (h : g ∈ f.parts) : SizeOf.sizeOf g < SizeOf.sizeOf f:=by
 cases f with
 | c x =>
  obtain ⟨y,hy,rfl⟩:=List.mem_map.1 h
  have h1:=List.sizeOf_lt_of_mem hy
  cases x with | mk k v n ps =>
  have h1 : SizeOf.sizeOf y < SizeOf.sizeOf ps:=h1
  simp only [Fm.c.sizeOf_spec,Co.mk.sizeOf_spec]; omega
 | s x =>
  obtain ⟨y,hy,rfl⟩:=List.mem_map.1 h
  cases x with | mk k b c t e =>
  rcases List.mem_append.1 hy with hy | hy
  ·have h1 : SizeOf.sizeOf y < SizeOf.sizeOf t:=List.sizeOf_lt_of_mem hy
   simp only [Fm.s.sizeOf_spec,Sp.mk.sizeOf_spec]; omega
  ·have h1 : SizeOf.sizeOf y < SizeOf.sizeOf e:=List.sizeOf_lt_of_mem hy
   simp only [Fm.s.sizeOf_spec,Sp.mk.sizeOf_spec]; omega
theorem cond_size (x : Sp) : SizeOf.sizeOf (Fm.c x.cond) < SizeOf.sizeOf (Fm.s x):=by
 cases x with | mk k b c t e =>
 have : Sp.cond (.mk k b c t e) = c:=rfl
 rw [this]
 simp only [Fm.s.sizeOf_spec,Fm.c.sizeOf_spec,Sp.mk.sizeOf_spec]; omega
theorem findex_c (l : List Fm) (hl : l.length ≤ 4611686018427387904) (p : Fm → Bool) (hp : ∀ f ∈ l,∀ (L : List Blk) (k : V → List Blk → Prop),k (B (p f)) L → CallP C 132 [.d f.d] L k) (h : k (I (findI p l)) L) :
  CallP C 170 [.d (fms l),.fn 132 []] L k:=by
 refine zw25 ?_ rfl (fun _=>rfl) h
 clear h
 refine zw24 C_ok Tryz.func170 rfl rfl rfl (zw18 rfl) rfl ?_
 conv=>whnf
 refine zw26 (fun i=>i ≤ l.length ∧ ∀ (j : Nat) (hj : j < l.length),j < i → p l[j] = false) (fun i=>⟨[(0,.d (fms l)),(1,.fn 132 []),(7,I l.length),(8,I i)],Tryz.f170.ntmps,[],[],none⟩) (fun i=>l.length - i) 0 ⟨zw22 _,fun j _ h=>absurd h (Nat.not_lt_zero j)⟩ ?_ ?_
 ·exact zw27 ⟨rfl,rfl,congrArg I (by simp),rfl,trivial⟩
 rintro i ⟨hi,hno⟩
 by_cases hi' : i < l.length
 ·have hlt : (i : Int) < (l.length : Int):=by omega
  have hw:=zwW i (by omega)
  have r1 : (l.map fun f=>[f.d])[i]? = some [l[i].d]:=by rw [List.getElem?_map,List.getElem?_eq_getElem hi']; rfl
  have hpi:=hp _ (List.getElem_mem hi')
  by_cases hq : p l[i] = true
  ·repeat' (conv => whnf
            first|refine zw8 (zw19 hlt) ?_|refine zw8 hq ?_|refine zw6 rfl ?_|refine zw10 i _ rfl r1 ?_|refine hpi _ _ ?_)
   conv=>whnf
   exact FinP.zz rfl ⟨rfl,congrArg I (findI_hit hi' hq hno).symm⟩
  ·have hq' : p l[i] = false:=by simpa using hq
   repeat' ((conv=>whnf); first|refine zw8 (zw19 hlt) ?_|refine zw9 hq' ?_|refine zw6 rfl ?_|refine zw10 i _ rfl r1 ?_|refine hpi _ _ ?_)
   conv=>whnf
   exact ⟨i + 1,⟨hi',fun j hj hji=>by
    by_cases e : j = i
    ·subst e; exact hq'
    ·exact hno j hj (by omega)⟩,by omega,Weak.by ⟨rfl,rfl,rfl,congrArg I hw,trivial⟩⟩
 ·have hlt : ¬ (i : Int) < (l.length : Int):=by omega
  repeat' ((conv=>whnf); refine zw9 (zw20 hlt) ?_)
  conv=>whnf
  exact FinP.zz rfl ⟨rfl,congrArg I (findI_miss fun j hj=>hno j hj (by omega)).symm⟩
theorem fcontains_c (l : List Fm) (hl : l.length ≤ 4611686018427387904) (p : Fm → Bool) (hp : ∀ f ∈ l,∀ (L : List Blk) (k : V → List Blk → Prop),k (B (p f)) L → CallP C 132 [.d f.d] L k) (h : k (B (l.any p)) L) :
  CallP C 131 [.d (fms l),.fn 132 []] L k:=by
 refine zw25 ?_ rfl (fun _=>rfl) h
 clear h
 refine zw24 C_ok Tryz.func131 rfl rfl rfl (zw18 rfl) rfl ?_
 conv=>whnf
 refine findex_c l hl p hp ?_
 skip
 conv=>whnf
 exact FinP.zz rfl ⟨rfl,congrArg B (findI_any p l)⟩
def VCall (f : Fm) : Prop:=∀ (L : List Blk) (k : V → List Blk → Prop),k (B (vFm f)) L → CallP C 171 [.d f.d] L k
theorem invalid_c (f : Fm) (hv : VCall f) (h : k (B (!vFm f)) L) : CallP C 132 [.d f.d] L k:=by
 refine zw25 ?_ rfl (fun _=>rfl) h
 clear h
 refine zw24 C_ok Tryz.func132 rfl rfl rfl (zw18 rfl) rfl ?_
 conv=>whnf
 refine hv _ _ ?_
 skip
 conv=>whnf
 exact FinP.zz rfl ⟨rfl,rfl⟩
theorem any_not {α : Type} (p : α → Bool) : ∀ l : List α,(!l.any fun x=>!p x) = l.all p
 | []=>rfl
 | x :: l=>by
  have:=any_not p l
  simp only [List.any_cons,List.all_cons,← this]
  cases p x <;> simp
theorem vparts_c (f : Fm) : f.parts.all vFm = match f with | .c x=>vCos x.parts | .s x=>vSps x.thn && vSps x.els:=by
 cases f with
 | c x=>show (x.parts.map Fm.c).all vFm = vCos x.parts; rw [List.all_map,vCos_all]; rfl
 | s x=>show ((x.thn ++ x.els).map Fm.s).all vFm = (vSps x.thn && vSps x.els); rw [List.all_map,List.all_append,vSps_all,vSps_all]; rfl
theorem valid_s : ∀ (n : Nat) (f : Fm),SizeOf.sizeOf f ≤ n → LFm f → VCall f
 | 0,f,h,_=>absurd h (by cases f <;> simp)
 | n + 1,f,hsz,hF=>by
  have ih:=valid_s n
  intro L k h
  have hpa : ∀ g ∈ f.parts,∀ (L : List Blk) (k : V → List Blk → Prop),k (B (!vFm g)) L → CallP C 132 [.d g.d] L k:=fun g hg L k h' =>
   invalid_c g (ih g (by have:=parts_size hg; omega) (hF.parts.all g hg)) h'
  have hlen:=hF.parts.len
  have hany : ∀ {L : List Blk} {k : V → List Blk → Prop},k (B (f.parts.any fun g=>!vFm g)) L → CallP C 131 [.d (fms f.parts),.fn 132 []] L k:=fun h'=>fcontains_c f.parts (by omega) _ hpa h'
  have hall:=any_not vFm f.parts
  rw [vparts_c] at hall
  cases f with
  | c x =>
   have hx : LCo x:=hF
   rw [Fm.c_d]
   have hpar : ∀ {L : List Blk} {k : V → List Blk → Prop},k (.d (fms (Fm.c x).parts)) L → CallP C 196 [.agg [I x.kind,I x.var,I x.n,.d (cos x.parts)]] L k:=fun h=>by
    have:=cparts_c x hx.len h
    rw [Co.cells_eq] at this; exact this
   have h : k (B (vCo x)) L:=h
   cases x with | mk kd v nn ps =>
   simp only [Co.kind,Co.var,Co.n,Co.parts] at *
   rw [vCo] at h
   generalize hany' : (List.any (Fm.c (Co.mk kd v nn ps)).parts fun g=>!vFm g) = q at *
   refine zw25 ?_ rfl (fun _=>rfl) h
   clear h
   refine zw24 C_ok Tryz.func171 rfl rfl rfl (zw18 rfl) rfl ?_
   repeat' ((conv=>whnf); first|refine zw0 ?_|refine zw2 (fun h=>?_) (fun h=>?_)|refine hpar ?_|refine hany ?_)
   all_goals conv=>whnf
   all_goals refine FinP.zz rfl ⟨rfl,congrArg B ?_⟩
   all_goals clear hpa hany hpar hx hF ih hany' hsz hlen
   all_goals (try simp only [List.length_map] at *)
   all_goals rw [← hall]
   all_goals first
    | (exfalso; omega)
    | (simp_all; done)
    | (rw [Bool.eq_iff_iff]; simp_all; done)
    | (rw [Bool.eq_iff_iff]; simp_all; omega)
  | s x =>
   have hx : LSp x:=hF
   rw [Fm.s_d]
   have hpar : ∀ {L : List Blk} {k : V → List Blk → Prop},k (.d (fms (Fm.s x).parts)) L → CallP C 197 [.agg [I x.kind,I x.by_,I x.cond.kind,I x.cond.var,I x.cond.n,.d (cos x.cond.parts),.d (sps x.thn),.d (sps x.els)]] L k:=fun h=>by
    have:=sparts_c x hx.len1 hx.len2 h
    rw [Sp.cells_eq] at this; exact this
   have hzr : ∀ {L : List Blk} {k : V → List Blk → Prop},k (B (isZ x.cond)) L → CallP C 169 [.agg [I x.cond.kind,I x.cond.var,I x.cond.n,.d (cos x.cond.parts)]] L k:=fun h=>by
    have:=isZero_c x.cond h
    rw [Co.cells_eq] at this; exact this
   have hvc : ∀ {L : List Blk} {k : V → List Blk → Prop},k (B (vCo x.cond)) L → CallP C 171 [.d (.iface 237 true [DI x.cond.kind,DI x.cond.var,DI x.cond.n,cos x.cond.parts])] L k:=fun {L k} h=>by
    have:=ih (.c x.cond) (by have:=cond_size x; omega) hx.cond L k h
    rw [Fm.c_d] at this; exact this
   have hpl : (((Fm.s x).parts.map fun f=>[f.d]).length : Int) = (x.thn.length : Int) + x.els.length:=by
    show ((((x.thn ++ x.els).map Fm.s).map fun f=>[f.d]).length : Int) = _
    simp
   have h : k (B (vSp x)) L:=h
   have hv : vSp x = (if x.kind = 1 then decide (1 ≤ x.by_) && decide (x.by_ ≤ 12) && isZ x.cond && decide ((x.thn.length : Int) + x.els.length = 0)
    else if x.kind = 2 then decide (x.by_ = 0) && vCo x.cond && decide (0 < (x.thn.length : Int)) && vSps x.thn && vSps x.els else false):=by cases x; rw [vSp]; rfl
   rw [hv] at h
   generalize hany' : (List.any (Fm.s x).parts fun g=>!vFm g) = q at *
   refine zw25 ?_ rfl (fun _=>rfl) h
   clear h
   refine zw24 C_ok Tryz.func171 rfl rfl rfl (zw18 rfl) rfl ?_
   repeat' ((conv=>whnf); first|refine zw0 ?_|refine zw1 ?_|refine zw2 (fun h=>?_) (fun h=>?_)|refine zw4 (fun h=>?_) (fun h=>?_)|refine hpar ?_|refine hzr ?_|refine hvc ?_|refine hany ?_)
   all_goals conv=>whnf
   all_goals refine FinP.zz rfl ⟨rfl,congrArg B ?_⟩
   all_goals clear hpa hany hpar hzr hvc hx hF ih hany' hsz hlen hv
   all_goals (try simp only [hpl] at *)
   all_goals (try simp only [List.length_map] at *)
   all_goals first
    | (exfalso; omega)
    | (simp_all; done)
    | (rw [Bool.eq_iff_iff]; simp_all; done)
    | (rw [Bool.eq_iff_iff]; simp_all; omega)
theorem valid_c (f : Fm) (hF : LFm f) : VCall f:=valid_s _ f (zw21 _) hF
theorem finvalid_c (l : List Fm) (hF : LFs l) (h : k (B (l.any fun f=>!vFm f)) L) : CallP C 131 [.d (fms l),.fn 132 []] L k :=
 fcontains_c l (by have:=hF.len; omega) _ (fun f hf L k h=>invalid_c f (valid_c f (hF.all f hf)) h) h
def checkF (l : List Fm) : Int:=if (wF 40 l 0 (0,0)).1 = true then (if l.length = 0 then 140 else if (l.any fun f=>!vFm f) = true then 140 else 0) else 2
theorem check_c (l : List Fm) (hF : LFs l) (h : k (I (checkF l)) L) : CallP C 91 [.d (fms l)] L k:=by
 have hE : Enough 40 l 0:=⟨by decide,by decide,by decide,fun f _=>by cases f <;> simp [need]⟩
 have hw:=within_c 40 l 0 (0,0) hE hF ⟨Int.le_refl _,Int.le_refl _,by decide,by decide⟩
 unfold WCall at hw
 unfold checkF at h
 generalize wF 40 l 0 (0,0) = r at *
 have hll : ((l.map fun f=>[f.d]).length : Int) = (l.length : Int):=by simp
 refine zw25 ?_ rfl (fun _=>rfl) h
 clear h
 refine zw24 C_ok Tryz.func91 rfl rfl rfl (zw18 rfl) rfl ?_
 by_cases h1 : r.1 = true
 ·by_cases h2 : l.length = 0
  ·have h2' : ((l.map fun f=>[f.d]).length : Int) = 0:=by omega
   repeat' ((conv=>whnf); first|refine zw8 h1 ?_|refine zw8 (zw19 h2') ?_|refine zw3 ?_|refine CallP.at1 (b:=0) hw rfl rfl rfl rfl ?_ rfl rfl rfl)
   conv=>whnf
   exact FinP.zz rfl ⟨rfl,Eq.trans (b:=I 140) rfl (by rw [if_pos h1,if_pos h2])⟩
  ·have h2' : ¬ ((l.map fun f=>[f.d]).length : Int) = 0:=by omega
   by_cases h3 : (l.any fun f=>!vFm f) = true
   ·repeat' (conv => whnf
             first|refine zw8 h1 ?_|refine zw9 (zw20 h2') ?_|refine zw8 h3 ?_|refine zw3 ?_|refine CallP.at1 (b:=0) hw rfl rfl rfl rfl ?_ rfl rfl rfl|refine finvalid_c l hF ?_)
    conv=>whnf
    exact FinP.zz rfl ⟨rfl,Eq.trans (b:=I 140) rfl (by rw [if_pos h1,if_neg h2,if_pos h3])⟩
   ·have h3' : (l.any fun f=>!vFm f) = false:=by simpa using h3
    repeat' ((conv=>whnf); first|refine zw8 h1 ?_|refine zw9 (zw20 h2') ?_|refine zw9 h3' ?_|refine zw3 ?_|refine CallP.at1 (b:=0) hw rfl rfl rfl rfl ?_ rfl rfl rfl|refine finvalid_c l hF ?_)
    conv=>whnf
    exact FinP.zz rfl ⟨rfl,Eq.trans (b:=I 0) rfl (by rw [if_pos h1,if_neg h2,if_neg h3])⟩
 ·have h1' : r.1 = false:=by simpa using h1
  repeat' ((conv=>whnf); first|refine zw9 h1' ?_|refine zw3 ?_|refine CallP.at1 (b:=0) hw rfl rfl rfl rfl ?_ rfl rfl rfl)
  conv=>whnf
  exact FinP.zz rfl ⟨rfl,Eq.trans (b:=I 2) rfl (by rw [if_neg h1])⟩
structure LSs (l : List Sp) : Prop where
 len : l.length ≤ 4398046511104
 all : ∀ s ∈ l,LSp s
theorem LSs.fms {l : List Sp} (h : LSs l) : LFs (l.map .s):=⟨by rw [List.length_map]; have:=h.len; omega,fun f hf=>by
 obtain ⟨y,hy,rfl⟩:=List.mem_map.1 hf
 exact h.all y hy⟩
def orderF (l : List Sp) : Int:=checkF (l.map .s)
theorem order_c (l : List Sp) (hl : LSs l) (h : k (I (orderF l)) L) : CallP C 58 [.d (sps l)] L k:=by
 refine zw25 ?_ rfl (fun _=>rfl) h
 clear h
 refine zw24 C_ok Tryz.func58 rfl rfl rfl (zw18 rfl) rfl ?_
 repeat' ((conv=>whnf); first|refine steps_c l hl.len ?_|refine check_c (l.map .s) hl.fms ?_)
 conv=>whnf
 exact FinP.zz rfl ⟨rfl,rfl⟩
def okB (c : Int) : Bool:=!((decide (c < 97) || decide (122 < c)) && (decide (c < 48) || decide (57 < c)) && !decide (c = 95))
def nameF (s : ByteArray) : Bool:=decide (1 ≤ s.size ∧ s.size ≤ 24 ∧ 97 ≤ byteAt s 0 ∧ byteAt s 0 ≤ 122 ∧ ∀ j,j < s.size → okB (byteAt s j) = true)
theorem nameF_no {s : ByteArray} (h : ¬ (1 ≤ s.size ∧ s.size ≤ 24 ∧ 97 ≤ byteAt s 0 ∧ byteAt s 0 ≤ 122 ∧ ∀ j,j < s.size → okB (byteAt s j) = true)) : false = nameF s:=(zw20 h).symm
theorem isName_c (s : ByteArray) (hs : s.size ≤ 4611686018427387904) (h : k (B (nameF s)) L) : CallP C 108 [.d (.str s)] L k:=by
 refine zw25 ?_ rfl (fun _=>rfl) h
 clear h
 refine zw24 C_ok Tryz.func108 rfl rfl rfl (zw18 rfl) rfl ?_
 by_cases h1 : (s.size : Int) < 1
 ·repeat' (conv => whnf
           first|refine zw8 (zw19 h1) ?_)
  conv=>whnf
  exact FinP.zz rfl ⟨rfl,congrArg B (nameF_no fun h=>by omega)⟩
 by_cases h2 : (24 : Int) < (s.size : Int)
 ·repeat' (conv => whnf
           first|refine zw9 (zw20 h1) ?_|refine zw8 (zw19 h2) ?_)
  conv=>whnf
  exact FinP.zz rfl ⟨rfl,congrArg B (nameF_no fun h=>by omega)⟩
 have h0 : 0 < s.size:=by omega
 by_cases h3 : byteAt s 0 < 97
 ·repeat' (conv => whnf
           first|refine zw9 (zw20 h1) ?_|refine zw9 (zw20 h2) ?_|refine zw8 (zw19 h3) ?_|refine zw30 0 rfl h0 ?_)
  conv=>whnf
  exact FinP.zz rfl ⟨rfl,congrArg B (nameF_no fun h=>by omega)⟩
 by_cases h4 : 122 < byteAt s 0
 ·repeat' (conv => whnf
           first|refine zw9 (zw20 h1) ?_|refine zw9 (zw20 h2) ?_|refine zw9 (zw20 h3) ?_|refine zw8 (zw19 h4) ?_|refine zw30 0 rfl h0 ?_)
  conv=>whnf
  exact FinP.zz rfl ⟨rfl,congrArg B (nameF_no fun h=>by omega)⟩
 repeat' ((conv=>whnf); first|refine zw9 (zw20 h1) ?_|refine zw9 (zw20 h2) ?_|refine zw9 (zw20 h3) ?_|refine zw9 (zw20 h4) ?_|refine zw30 0 rfl h0 ?_)
 conv=>whnf
 refine zw26 (fun i=>i ≤ s.size ∧ ∀ j,j < i → okB (byteAt s j) = true) (fun i=>⟨[(0,.d (.str s)),(24,I s.size),(25,I i)],Tryz.f108.ntmps,[],[],none⟩) (fun i=>s.size - i) 0 ⟨zw22 _,fun j h=>absurd h (Nat.not_lt_zero j)⟩ ?_ ?_
 ·exact zw27 ⟨rfl,rfl,rfl,trivial⟩
 rintro i ⟨hi,hok⟩
 by_cases hi' : i < s.size
 ·have hlt : (i : Int) < (s.size : Int):=by omega
  have hw:=zwW i (by omega)
  obtain ⟨c,hc⟩ : ∃ c,c = byteAt s i:=⟨_,rfl⟩
  have hno : okB c = false → false = nameF s:=fun h=>nameF_no fun hh=>by
   have:=hh.2.2.2.2 i hi'
   rw [← hc,h] at this; cases this
  have hyes : okB c = true → i + 1 ≤ s.size ∧ ∀ j,j < i + 1 → okB (byteAt s j) = true:=fun h=>⟨hi',fun j hj=>by
   by_cases e : j = i
   ·subst e; rw [← hc]; exact h
   ·exact hok j (by omega)⟩
  have hid : ∀ {k : Nat → Prop},k i → IdxN s.size (i : Int) k:=fun h=>zw30 i rfl hi' h
  repeat' ((conv=>whnf); first|refine zw8 (zw19 hlt) ?_|refine zw2 (fun h=>?_) (fun h=>?_)|refine zw3 ?_|refine hid ?_)
  all_goals conv=>whnf
  all_goals rw [← hc] at *
  all_goals first
   | exact ⟨i + 1,hyes (by simp_all [okB]),by omega,Weak.by ⟨rfl,rfl,congrArg I hw,trivial⟩⟩
   | exact FinP.zz rfl ⟨rfl,congrArg B (hno (by simp_all [okB]))⟩
 ·have hlt : ¬ (i : Int) < (s.size : Int):=by omega
  repeat' ((conv=>whnf); refine zw9 (zw20 hlt) ?_)
  conv=>whnf
  exact FinP.zz rfl ⟨rfl,congrArg B (zw19 ⟨by omega,by omega,by omega,by omega,fun j hj=>hok j (by omega)⟩).symm⟩
structure En where
 (tied round fin clubs : Int)
 deriving DecidableEq,Inhabited
def En.cells (x : En) : List D:=[DI x.tied,DI x.round,DI x.fin,DI x.clubs]
abbrev enV (x : En) : V:=.agg (x.cells.map .d)
def valF (v : Int) (x : En) : Int:=if v = 1 then x.tied else if v = 2 then x.round else if v = 3 then x.fin else x.clubs
theorem value_c (v : Int) (x : En) (h : k (I (valF v x)) L) : CallP C 94 [I v,enV x] L k:=by
 refine zw25 ?_ rfl (fun _=>rfl) h
 clear h
 refine zw24 C_ok Tryz.func94 rfl rfl rfl (zw18 rfl) rfl ?_
 repeat' ((conv=>whnf); refine zw2 (fun h=>?_) (fun h=>?_))
 all_goals conv=>whnf
 all_goals refine FinP.zz rfl ⟨rfl,congrArg I ?_⟩
 all_goals simp_all [valF]
theorem has_c (a b n : Int) (h : k (B (decide (a ≤ n) && decide (n ≤ b))) L) : CallP C 93 [.agg [I a,I b],I n] L k:=by
 refine zw25 ?_ rfl (fun _=>rfl) h
 clear h
 refine zw24 C_ok Tryz.func93 rfl rfl rfl (zw18 rfl) rfl ?_
 repeat' ((conv=>whnf); refine zw2 (fun h=>?_) (fun h=>?_))
 all_goals conv=>whnf
 all_goals refine FinP.zz rfl ⟨rfl,congrArg B ?_⟩
 all_goals first | (simp_all; done) | (simp_all; omega)
def envE (x : En) : Int:=if 2 ≤ x.tied ∧ x.tied ≤ 24 ∧ 0 ≤ x.round ∧ x.round ≤ 46 ∧ 0 ≤ x.fin ∧ x.fin ≤ 1 ∧ 2 ≤ x.clubs ∧ x.clubs ≤ 24 then 0 else 1
theorem env_c (x : En) (h : k (I (envE x)) L) : CallP C 59 [enV x] L k:=by
 refine zw25 ?_ rfl (fun _=>rfl) h
 clear h
 refine zw24 C_ok Tryz.func59 rfl rfl rfl (zw18 rfl) rfl ?_
 conv=>whnf
 refine LoopP.unroll ?_
 repeat' ((conv=>whnf); first|refine zw0 ?_|refine zw1 ?_|refine zw3 ?_|refine zw4 (fun h=>?_) (fun h=>?_)|refine zw7 mixed rfl ?_|refine LoopP.unroll ?_|refine zw30 1 rfl (by decide) ?_|refine zw30 2 rfl (by decide) ?_|refine zw30 3 rfl (by decide) ?_|refine zw30 4 rfl (by decide) ?_|refine zw12 _ (value_c 1 x ⟨rfl,rfl⟩) ?_|refine zw12 _ (value_c 2 x ⟨rfl,rfl⟩) ?_|refine zw12 _ (value_c 3 x ⟨rfl,rfl⟩) ?_|refine zw12 _ (value_c 4 x ⟨rfl,rfl⟩) ?_|refine zw12 _ (has_c _ _ _ ⟨rfl,rfl⟩) ?_)
 all_goals conv=>whnf
 all_goals refine FinP.zz rfl ⟨rfl,congrArg I ?_⟩
 all_goals simp only [valF,Bool.and_eq_true,Bool.and_eq_false_iff,decide_eq_true_eq,decide_eq_false_iff_not,if_true,show (2 : Int) ≠ 1 by decide,show (3 : Int) ≠ 1 by decide,show (4 : Int) ≠ 1 by decide,show (3 : Int) ≠ 2 by decide,show (4 : Int) ≠ 2 by decide,show (4 : Int) ≠ 3 by decide,if_false] at *
 all_goals unfold envE
 all_goals first | (rw [if_pos (by omega)]; done) | (rw [if_neg (by omega)]; done)
def En.at (n : Int) : En:=⟨2 + n / 2162,n / 46 % 47,n / 23 % 2,2 + n % 23⟩
structure Zn where
 (name : ByteArray) (from_ to_ : Int)
def Zn.cells (z : Zn) : List D:=[.str z.name,DI z.from_,DI z.to_]
structure Ru where
 (name : ByteArray) (win draw loss : Int) (order : List Sp) (zones : List Zn)
def zns (l : List Zn) : D:=.sl (l.map Zn.cells)
def Ru.cells (r : Ru) : List D:=[.str r.name,DI r.win,DI r.draw,DI r.loss,sps r.order,zns r.zones]
def badN (n : Int) : Prop:=n = 0 ∨ 24 < n ∨ n < -24
def badZ (z : Zn) : Prop:=badN z.from_ ∨ badN z.to_ ∨ nameF z.name = false
def headBad (r : Ru) : Prop:=nameF r.name = false ∨ 99 < r.win ∨ r.win < r.draw ∨ r.draw < r.loss ∨ r.loss < -99
open Classical in
noncomputable def rulesF (r : Ru) : Int:=if headBad r then 140 else if orderF r.order ≠ 0 then orderF r.order else if 16 < r.zones.length then 2 else if ∃ z ∈ r.zones,badZ z then 140 else 0
structure LRu (r : Ru) : Prop where
 name : r.name.size ≤ 4611686018427387904
 order : LSs r.order
 zones : r.zones.length ≤ 4611686018427387904
 zname : ∀ z ∈ r.zones,z.name.size ≤ 4611686018427387904
mutual
def hoF (x : En) : Co → Bool
 | .mk k v n ps=>if k = 1 then decide (n ≤ valF v x) else if k = 4 then !hoHead x ps else if k = 3 then hoAny x ps else hoAll x ps
def hoHead (x : En) : List Co → Bool
 | []=>false
 | c :: _=>hoF x c
def hoAny (x : En) : List Co → Bool
 | []=>false
 | c :: cs=>hoF x c || hoAny x cs
def hoAll (x : En) : List Co → Bool
 | []=>true
 | c :: cs=>hoF x c && hoAll x cs
end
theorem hoAny_any (x : En) : ∀ l,hoAny x l = l.any (hoF x)
 | []=>rfl
 | c :: cs=>by rw [hoAny,hoAny_any x cs]; rfl
theorem hoAll_all (x : En) : ∀ l,hoAll x l = l.all (hoF x)
 | []=>rfl
 | c :: cs=>by rw [hoAll,hoAll_all x cs]; rfl
theorem hoHead_at (x : En) : ∀ {l : List Co} (h : 0 < l.length),hoHead x l = hoF x l[0]
 | [],h=>absurd h (by simp)
 | c :: cs,_=>by rw [hoHead]; rfl
inductive HCo : Co → Prop
 | mk {c : Co} (h4 : c.kind = 4 → 0 < c.parts.length) (hl : c.parts.length ≤ 4611686018427387904) (hs : ∀ p ∈ c.parts,HCo p) : HCo c
def HCall (x : En) (c : Co) : Prop:=∀ (L : List Blk) (k : V → List Blk → Prop),k (B (hoF x c)) L → CallP C 61 [.agg (c.cells.map .d),enV x] L k
theorem part_sizeC {c p : Co} (h : p ∈ c.parts) : SizeOf.sizeOf p < SizeOf.sizeOf c:=by
 cases c with | mk k v n ps =>
 have h1 : SizeOf.sizeOf p < SizeOf.sizeOf ps:=List.sizeOf_lt_of_mem h
 simp only [Co.mk.sizeOf_spec]; omega
theorem holds1_c (c : Co) (x : En) (hc : HCall x c) (h : k (B (hoF x c)) L) : CallP C 95 [.agg (c.cells.map .d),.d (.rptr x.cells)] L k:=by
 have hh:=hc
 unfold HCall at hh
 rw [Co.cells_eq] at hh ⊢
 refine zw25 ?_ rfl (fun _=>rfl) h
 clear h
 refine zw24 C_ok Tryz.func95 rfl rfl rfl (zw18 rfl) rfl ?_
 repeat' ((conv=>whnf); refine hh _ _ ?_)
 conv=>whnf
 exact FinP.zz rfl ⟨rfl,rfl⟩
theorem holds2_c (c : Co) (x : En) (hc : HCall x c) (h : k (B (!hoF x c)) L) : CallP C 97 [.agg (c.cells.map .d),.d (.rptr [.fn 95 [.rptr x.cells]])] L k:=by
 have hh : ∀ (L : List Blk) (k : V → List Blk → Prop),k (B (hoF x c)) L → CallP C 95 [.agg (c.cells.map .d),.d (.rptr x.cells)] L k:=fun L k h=>holds1_c c x hc h
 rw [Co.cells_eq] at hh ⊢
 refine zw25 ?_ rfl (fun _=>rfl) h
 clear h
 refine zw24 C_ok Tryz.func97 rfl rfl rfl (zw18 rfl) rfl ?_
 repeat' ((conv=>whnf); refine hh _ _ ?_)
 conv=>whnf
 exact FinP.zz rfl ⟨rfl,rfl⟩
theorem cindex_c (l : List Co) (hl : l.length ≤ 4611686018427387904) (f : FuncId) (caps : List D) (p : Co → Bool) (hp : ∀ c ∈ l,∀ (L : List Blk) (k : V → List Blk → Prop),k (B (p c)) L → CallP C f ([.agg (c.cells.map .d)] ++ caps.map .d) L k) (h : k (I (findI p l)) L) :
  CallP C 133 [.d (cos l),.d (.fn f caps)] L k:=by
 refine zw25 ?_ rfl (fun _=>rfl) h
 clear h
 refine zw24 C_ok Tryz.func133 rfl rfl rfl (zw18 rfl) rfl ?_
 conv=>whnf
 refine zw26 (fun i=>i ≤ l.length ∧ ∀ (j : Nat) (hj : j < l.length),j < i → p l[j] = false) (fun i=>⟨[(0,.d (cos l)),(1,.d (.fn f caps)),(7,I l.length),(8,I i)],Tryz.f133.ntmps,[],[],none⟩) (fun i=>l.length - i) 0 ⟨zw22 _,fun j _ h=>absurd h (Nat.not_lt_zero j)⟩ ?_ ?_
 ·exact zw27 ⟨rfl,rfl,congrArg I (by simp),rfl,trivial⟩
 rintro i ⟨hi,hno⟩
 by_cases hi' : i < l.length
 ·have hlt : (i : Int) < (l.length : Int):=by omega
  have hw:=zwW i (by omega)
  have r1 : (l.map Co.cells)[i]? = some [DI l[i].kind,DI l[i].var,DI l[i].n,cos l[i].parts]:=by rw [List.getElem?_map,List.getElem?_eq_getElem hi',← Co.cells_eq]; rfl
  have hpi:=hp _ (List.getElem_mem hi')
  rw [Co.cells_eq] at hpi
  by_cases hq : p l[i] = true
  ·repeat' (conv => whnf
            first|refine zw8 (zw19 hlt) ?_|refine zw8 hq ?_|refine zw6 rfl ?_|refine zw10 i _ rfl r1 ?_|refine hpi _ _ ?_)
   conv=>whnf
   exact FinP.zz rfl ⟨rfl,congrArg I (findI_hit hi' hq hno).symm⟩
  ·have hq' : p l[i] = false:=by simpa using hq
   repeat' ((conv=>whnf); first|refine zw8 (zw19 hlt) ?_|refine zw9 hq' ?_|refine zw6 rfl ?_|refine zw10 i _ rfl r1 ?_|refine hpi _ _ ?_)
   conv=>whnf
   exact ⟨i + 1,⟨hi',fun j hj hji=>by
    by_cases e : j = i
    ·subst e; exact hq'
    ·exact hno j hj (by omega)⟩,by omega,Weak.by ⟨rfl,rfl,rfl,congrArg I hw,trivial⟩⟩
 ·have hlt : ¬ (i : Int) < (l.length : Int):=by omega
  repeat' ((conv=>whnf); refine zw9 (zw20 hlt) ?_)
  conv=>whnf
  exact FinP.zz rfl ⟨rfl,congrArg I (findI_miss fun j hj=>hno j hj (by omega)).symm⟩
theorem ccontains_c (l : List Co) (hl : l.length ≤ 4611686018427387904) (f : FuncId) (caps : List D) (p : Co → Bool) (hp : ∀ c ∈ l,∀ (L : List Blk) (k : V → List Blk → Prop),k (B (p c)) L → CallP C f ([.agg (c.cells.map .d)] ++ caps.map .d) L k) (h : k (B (l.any p)) L) :
  CallP C 96 [.d (cos l),.d (.fn f caps)] L k:=by
 refine zw25 ?_ rfl (fun _=>rfl) h
 clear h
 refine zw24 C_ok Tryz.func96 rfl rfl rfl (zw18 rfl) rfl ?_
 conv=>whnf
 refine cindex_c l hl f caps p hp ?_
 skip
 conv=>whnf
 exact FinP.zz rfl ⟨rfl,congrArg B (findI_any p l)⟩
theorem holds_s (x : En) : ∀ (n : Nat) (c : Co),SizeOf.sizeOf c ≤ n → HCo c → HCall x c
 | 0,c,h,_=>absurd h (by cases c; simp)
 | n + 1,c,hsz,hc=>by
  obtain ⟨h4,hlen,hsub⟩:=hc
  have ih:=holds_s x n
  have hp1 : ∀ p ∈ c.parts,∀ (L : List Blk) (k : V → List Blk → Prop),k (B (hoF x p)) L → CallP C 95 ([.agg (p.cells.map .d)] ++ [D.rptr x.cells].map .d) L k:=fun p hp L k h =>
   holds1_c p x (ih p (by have:=part_sizeC hp; omega) (hsub p hp)) h
  have hp2 : ∀ p ∈ c.parts,∀ (L : List Blk) (k : V → List Blk → Prop),k (B (!hoF x p)) L → CallP C 97 ([.agg (p.cells.map .d)] ++ [D.rptr [.fn 95 [.rptr x.cells]]].map .d) L k:=fun p hp L k h =>
   holds2_c p x (ih p (by have:=part_sizeC hp; omega) (hsub p hp)) h
  have ha1:=ccontains_c (L:=[]) (k:=fun X L=>L = [] ∧ X = B (c.parts.any (hoF x))) c.parts hlen _ _ _ hp1 ⟨rfl,rfl⟩
  have ha2:=ccontains_c (L:=[]) (k:=fun X L=>L = [] ∧ X = B (c.parts.any fun p=>!hoF x p)) c.parts hlen _ _ _ hp2 ⟨rfl,rfl⟩
  have hall : (!c.parts.any fun p=>!hoF x p) = hoAll x c.parts:=by rw [any_not,hoAll_all]
  intro L k h
  have hv : hoF x c = (if c.kind = 1 then decide (c.n ≤ valF c.var x) else if c.kind = 4 then !hoHead x c.parts else if c.kind = 3 then hoAny x c.parts else hoAll x c.parts):=by cases c; rw [hoF]; rfl
  rw [hv,hoAny_any,← hall] at h
  generalize c.parts.any (hoF x) = q1 at *
  generalize (c.parts.any fun p=>!hoF x p) = q2 at *
  rw [Co.cells_eq]
  refine zw25 ?_ rfl (fun _=>rfl) h
  clear h
  refine zw24 C_ok Tryz.func61 rfl rfl rfl (zw18 rfl) rfl ?_
  by_cases k1 : c.kind = 1
  ·repeat' (conv => whnf
            first|refine zw8 (zw19 k1) ?_|refine zw7 mixed rfl ?_|refine zw12 _ (value_c c.var x ⟨rfl,rfl⟩) ?_)
   conv=>whnf
   exact FinP.zz rfl ⟨rfl,Eq.trans (b:=B (decide (c.n ≤ valF c.var x))) rfl (by rw [if_pos k1])⟩
  by_cases k4 : c.kind = 4
  ·have hpos:=h4 k4
   obtain ⟨p,hp⟩ : ∃ p,p = c.parts[0]:=⟨_,rfl⟩
   have hpm : p ∈ c.parts:=hp ▸ List.getElem_mem hpos
   have hhd : hoHead x c.parts = hoF x p:=by rw [hp]; exact hoHead_at x hpos
   have r1 : (c.parts.map Co.cells)[0]? = some [DI p.kind,DI p.var,DI p.n,cos p.parts]:=by rw [List.getElem?_map,List.getElem?_eq_getElem hpos,← Co.cells_eq,hp]; rfl
   have hcl : ∀ {L : List Blk} {k : V → List Blk → Prop},L[1]? = some (.cells (x.cells.map .d)) → k (B (hoF x p)) L → CallP C 95 [.agg [I p.kind,I p.var,I p.n,.d (cos p.parts)],.ptr 1 0] L k:=fun hL h=>by
    have:=hp1 p hpm [] (fun X L=>L = [] ∧ X = B (hoF x p)) ⟨rfl,rfl⟩
    rw [Co.cells_eq] at this
    exact zw29 this (.keep (.cv (.d (.ptrL trivial hL (.data x.cells))) .nil)) rfl rfl h
   repeat' ((conv=>whnf); first|refine zw9 (zw20 k1) ?_|refine zw8 (zw19 k4) ?_|refine zw6 rfl ?_|refine zw7 mixed rfl ?_|refine zw10 0 _ rfl r1 ?_|refine zw12 _ (hcl rfl ⟨rfl,rfl⟩) ?_)
   conv=>whnf
   exact FinP.zz rfl ⟨rfl,Eq.trans (b:=B (!hoF x p)) rfl (by rw [if_neg k1,if_pos k4,hhd])⟩
  by_cases k3 : c.kind = 3
  ·repeat' (conv => whnf
            first|refine zw9 (zw20 k1) ?_|refine zw9 (zw20 k4) ?_|refine zw8 (zw19 k3) ?_|refine zw29 ha1 (.keep (.cv (.d (.fnL (.cons (.ptrL trivial rfl (.data x.cells)) .nil))) .nil)) rfl rfl ?_)
   conv=>whnf
   exact FinP.zz rfl ⟨rfl,Eq.trans (b:=B q1) rfl (by rw [if_neg k1,if_neg k4,if_pos k3])⟩
  ·repeat' (conv => whnf
            first|refine zw9 (zw20 k1) ?_|refine zw9 (zw20 k4) ?_|refine zw9 (zw20 k3) ?_|refine zw29 ha2 (.keep (.cv (.d (.fnL (.cons (.ptrL trivial rfl (.cons (.fnL (.cons (.ptrL trivial rfl (.data x.cells)) .nil)) .nil)) .nil))) .nil)) rfl rfl ?_)
   conv=>whnf
   exact FinP.zz rfl ⟨rfl,Eq.trans (b:=B (!q2)) rfl (by rw [if_neg k1,if_neg k4,if_neg k3])⟩
theorem holds_c (x : En) (c : Co) (hc : HCo c) : HCall x c:=holds_s x _ c (zw21 _) hc
end Go.Proofs.YtihibgcojdfndaaGreatDoor
namespace Go.Proofs.YtihibgcojdfndaaGreatDoor
open Go.Tidy
variable {L : List Blk} {k : V → List Blk → Prop}
open Classical in
theorem rules_c (r : Ru) (hr : LRu r) (h : k (I (rulesF r)) L) : CallP C 76 [.agg (r.cells.map .d)] L k:=by
 obtain ⟨hnm,hor,hzl,hzn⟩:=hr
 rcases r with ⟨nm,win,draw,loss,ord,zs⟩
 simp only at hnm hor hzl hzn
 have hb : headBad ⟨nm,win,draw,loss,ord,zs⟩ → rulesF ⟨nm,win,draw,loss,ord,zs⟩ = 140:=fun h=>by unfold rulesF; rw [if_pos h]
 refine zw25 ?_ rfl (fun _=>rfl) h
 clear h
 refine zw24 C_ok Tryz.func76 rfl rfl rfl (zw18 rfl) rfl ?_
 by_cases h1 : nameF nm = true
 rotate_left
 ·have h1' : nameF nm = false:=by simpa using h1
  repeat' ((conv=>whnf); first|refine zw9 h1' ?_|refine zw3 ?_|refine isName_c _ hnm ?_)
  conv=>whnf
  exact FinP.zz rfl ⟨rfl,congrArg I (hb (.inl h1')).symm⟩
 by_cases h2 : 99 < win
 ·repeat' (conv => whnf
           first|refine zw8 h1 ?_|refine zw8 (zw19 h2) ?_|refine zw3 ?_|refine isName_c _ hnm ?_)
  conv=>whnf
  exact FinP.zz rfl ⟨rfl,congrArg I (hb (.inr (.inl h2))).symm⟩
 by_cases h3 : win < draw
 ·repeat' (conv => whnf
           first|refine zw8 h1 ?_|refine zw9 (zw20 h2) ?_|refine zw8 (zw19 h3) ?_|refine zw3 ?_|refine isName_c _ hnm ?_)
  conv=>whnf
  exact FinP.zz rfl ⟨rfl,congrArg I (hb (.inr (.inr (.inl h3)))).symm⟩
 by_cases h4 : draw < loss
 ·repeat' (conv => whnf
           first|refine zw8 h1 ?_|refine zw9 (zw20 h2) ?_|refine zw9 (zw20 h3) ?_|refine zw8 (zw19 h4) ?_|refine zw3 ?_|refine isName_c _ hnm ?_)
  conv=>whnf
  exact FinP.zz rfl ⟨rfl,congrArg I (hb (.inr (.inr (.inr (.inl h4))))).symm⟩
 by_cases h5 : loss < -99
 ·repeat' (conv => whnf
           first|refine zw8 h1 ?_|refine zw9 (zw20 h2) ?_|refine zw9 (zw20 h3) ?_|refine zw9 (zw20 h4) ?_|refine zw8 (zw19 h5) ?_|refine zw3 ?_|refine isName_c _ hnm ?_)
  conv=>whnf
  exact FinP.zz rfl ⟨rfl,congrArg I (hb (.inr (.inr (.inr (.inr h5))))).symm⟩
 have hnb : ¬ headBad ⟨nm,win,draw,loss,ord,zs⟩:=by
  rintro (h | h | h | h | h)
  ·exact absurd (h.symm.trans h1) (by decide)
  ·exact h2 h
  ·exact h3 h
  ·exact h4 h
  ·exact h5 h
 have e0 : rulesF ⟨nm,win,draw,loss,ord,zs⟩ = if orderF ord ≠ 0 then orderF ord else if 16 < zs.length then 2 else if ∃ z ∈ zs,badZ z then 140 else 0:=by unfold rulesF; rw [if_neg hnb]
 by_cases h6 : orderF ord = 0
 rotate_left
 ·have e1 : rulesF ⟨nm,win,draw,loss,ord,zs⟩ = orderF ord:=by rw [e0,if_pos h6]
  repeat' ((conv=>whnf); first|refine zw8 h1 ?_|refine zw9 (zw20 h2) ?_|refine zw9 (zw20 h3) ?_|refine zw9 (zw20 h4) ?_|refine zw9 (zw20 h5) ?_|refine zw9 (zw20 h6) ?_|refine zw3 ?_|refine isName_c _ hnm ?_|refine order_c ord hor ?_)
  conv=>whnf
  exact FinP.zz rfl ⟨rfl,congrArg I e1.symm⟩
 have e2 : rulesF ⟨nm,win,draw,loss,ord,zs⟩ = if 16 < zs.length then 2 else if ∃ z ∈ zs,badZ z then 140 else 0:=by rw [e0,if_neg (fun h=>h h6)]
 by_cases h7 : (16 : Int) < ((zs.map Zn.cells).length : Int)
 ·have h7' : 16 < zs.length:=by rw [List.length_map] at h7; omega
  repeat' ((conv=>whnf); first|refine zw8 h1 ?_|refine zw9 (zw20 h2) ?_|refine zw9 (zw20 h3) ?_|refine zw9 (zw20 h4) ?_|refine zw9 (zw20 h5) ?_|refine zw8 (zw19 h6) ?_|refine zw8 (zw19 h7) ?_|refine zw3 ?_|refine isName_c _ hnm ?_|refine order_c ord hor ?_)
  conv=>whnf
  exact FinP.zz rfl ⟨rfl,congrArg I (by rw [e2,if_pos h7'])⟩
 have h7' : ¬ 16 < zs.length:=by rw [List.length_map] at h7; omega
 rw [if_neg h7'] at e2
 repeat' ((conv=>whnf); first|refine zw8 h1 ?_|refine zw9 (zw20 h2) ?_|refine zw9 (zw20 h3) ?_|refine zw9 (zw20 h4) ?_|refine zw9 (zw20 h5) ?_|refine zw8 (zw19 h6) ?_|refine zw9 (zw20 h7) ?_|refine zw3 ?_|refine isName_c _ hnm ?_|refine order_c ord hor ?_)
 conv=>whnf
 refine zw26 (fun i=>i ≤ zs.length ∧ ∀ (j : Nat) (hj : j < zs.length),j < i → ¬ badZ zs[j]) (fun i=>⟨[(47,.d (zns zs)),(48,I zs.length),(49,I i)],Tryz.f76.ntmps,[],[],none⟩) (fun i=>zs.length - i) 0 ⟨zw22 _,fun j _ h=>absurd h (Nat.not_lt_zero j)⟩ ?_ ?_
 ·exact zw28 0 rfl (zw22 _) (zw22 _) ⟨rfl,congrArg I (by simp),rfl,trivial⟩
 rintro i ⟨hi,hok⟩
 by_cases hi' : i < zs.length
 ·have hlt : (i : Int) < (zs.length : Int):=by omega
  have hw:=zwW i (by omega)
  have hzm : zs[i] ∈ zs:=List.getElem_mem hi'
  have hnz:=hzn _ hzm
  have hfl : badZ zs[i] → rulesF ⟨nm,win,draw,loss,ord,zs⟩ = 140:=fun h=>by rw [e2,if_pos ⟨_,hzm,h⟩]
  have hnx : ¬ badZ zs[i] → i + 1 ≤ zs.length ∧ ∀ (j : Nat) (hj : j < zs.length),j < i + 1 → ¬ badZ zs[j]:=fun h=>⟨hi',fun j hj hji=>by
   by_cases e : j = i
   ·subst e; exact h
   ·exact hok j hj (by omega)⟩
  obtain ⟨z,hz⟩ : ∃ z,z = zs[i]'hi':=⟨_,rfl⟩
  have r1 : (zs.map Zn.cells)[i]? = some [.str z.name,DI z.from_,DI z.to_]:=by rw [List.getElem?_map,List.getElem?_eq_getElem hi',← hz]; rfl
  rw [← hz] at hnz hfl hnx
  have hgood : nameF z.name = true → ¬ (z.from_ = 0 ∨ 24 < z.from_ ∨ z.from_ < -24) → ¬ (z.to_ = 0 ∨ 24 < z.to_ ∨ z.to_ < -24) → ¬ badZ z:=by
   rintro ha hb hc (h | h | h)
   ·exact hb h
   ·exact hc h
   ·exact absurd (ha.symm.trans h) (by decide)
  by_cases hn : nameF z.name = true
  ·repeat' (conv => whnf
            first|refine zw8 (zw19 hlt) ?_|refine zw8 hn ?_|refine zw0 ?_|refine zw1 ?_|refine zw2 (fun h=>?_) (fun h=>?_)|refine zw3 ?_|refine zw5 _ rfl ?_|refine zw6 rfl ?_|refine zw10 i _ rfl r1 ?_|refine LoopP.unroll ?_|refine zw30 0 rfl (by decide) ?_|refine zw30 1 rfl (by decide) ?_|refine isName_c _ hnz ?_)
   all_goals conv=>whnf
   all_goals first
    | exact FinP.zz rfl ⟨rfl,congrArg I (hfl (.inl (by unfold badN; omega))).symm⟩
    | exact FinP.zz rfl ⟨rfl,congrArg I (hfl (.inr (.inl (by unfold badN; omega)))).symm⟩
    | exact ⟨i + 1,hnx (hgood hn (by omega) (by omega)),by omega,Weak.to 0 rfl (zw22 _) (zw22 _) ⟨rfl,rfl,congrArg I hw,trivial⟩⟩
  ·have hn' : nameF z.name = false:=by simpa using hn
   repeat' ((conv=>whnf); first|refine zw8 (zw19 hlt) ?_|refine zw9 hn' ?_|refine zw0 ?_|refine zw1 ?_|refine zw2 (fun h=>?_) (fun h=>?_)|refine zw3 ?_|refine zw5 _ rfl ?_|refine zw6 rfl ?_|refine zw10 i _ rfl r1 ?_|refine LoopP.unroll ?_|refine zw30 0 rfl (by decide) ?_|refine zw30 1 rfl (by decide) ?_|refine isName_c _ hnz ?_)
   all_goals conv=>whnf
   all_goals exact FinP.zz rfl ⟨rfl,congrArg I (hfl (.inr (.inr hn'))).symm⟩
 ·have hlt : ¬ (i : Int) < (zs.length : Int):=by omega
  have e3 : rulesF ⟨nm,win,draw,loss,ord,zs⟩ = 0:=by
   rw [e2,if_neg]
   rintro ⟨z,hz,hbz⟩
   obtain ⟨j,hj,rfl⟩:=List.getElem_of_mem hz
   exact hok j hj (by omega) hbz
  repeat' ((conv=>whnf); refine zw9 (zw20 hlt) ?_)
  conv=>whnf
  exact FinP.zz rfl ⟨rfl,congrArg I e3.symm⟩
end Go.Proofs.YtihibgcojdfndaaGreatDoor
namespace Go.Proofs.YtihibgcojdfndaaGreatDoor
open Go.Tidy
variable {L : List Blk} {k : V → List Blk → Prop}
theorem Cw.aggL {S : Nat → Prop} {L : List Blk} {cs : List V} {ds : List D} (h : CvL S L cs ds) : Cw S L (.agg cs) (.agg (ds.map .d)):=.agg cs ds h.get.1 h.get.2
def bySp (n : Int) : Sp:=.mk 1 n (.mk 0 0 0 []) [] []
end Go.Proofs.YtihibgcojdfndaaGreatDoor
namespace Go.Tidy
section
variable {C : Ctx} [Quiet C] {L : List Blk}
theorem CallP.pre {f : FuncId} {args : List V} {S E : List Blk} {q k : V → List Blk → Prop} (h : CallP C f args S q) (hS : belB S.length S = true) (hd : dfB S = true) (ha : V.belL S.length args = true)
  (hk : ∀ X L1,q X L1 → L1.length = S.length ∧ belB S.length L1 = true ∧ X.bel S.length = true ∧ k X (L1 ++ E)) : CallP C f args (S ++ E) k:=by
 have hρ : ∀ c,c < S.length → rnI (List.range S.length) (S ++ E).length c = c:=fun c hc=>rnI_range hc
 have:=CallP.embed (k:=k) (List.range S.length) h (Part.pre (E:=E) hS hd) ha fun X L1 hX=>by
  obtain ⟨h1,h2,h3,h4⟩:=hk X L1 hX
  rw [V.rn_id hρ _ h3,rnB_id hρ _ h2,putB_range h1]
  exact h4
 rw [V.rnL_id hρ _ ha] at this
 exact this
theorem CallP.nilCell {f : FuncId} {args : List V} {k : V → List Blk → Prop} (b j sz : Nat) (cs : List V) (hb : L[b]? = some (.cells cs)) (hj : cs[j]? = some .nil) (hsz : 0 < sz)
  (h : CallP C f args ((L ++ [Blk.row 0 sz []]).set b (.cells (cs.set j (.own L.length 0 0 0)))) k) : CallP C f args L k:=by
 rw [CallP_q] at h ⊢
 refine ⟨h.1,fun g w vs hg hv=>?_⟩
 have hp:=add_prog hg (Ext.refl w) (.row 0 sz []) none (fun q h=>by cases h) 0
 have hg1:=add_good (k':=.row 0 sz []) hg (Ext.refl w) none (fun q h=>by cases h) 0 ⟨hsz,by simp,.inl ⟨by simp [Gh.add],rfl⟩⟩
 have hbl:=lt_of_get hb
 have hb1 : (L ++ [Blk.row 0 sz []])[b]? = some (.cells cs):=by rw [List.getElem?_append_left hbl]; exact hb
 have S : Step (g.add L.length none 0) w (L ++ [Blk.row 0 sz []]) b (.cells (cs.set j (.own L.length 0 0 0))) (g.add L.length none 0) w:=by
  refine ⟨hg1,⟨_,hb1,by simp⟩,by rw [hb1]; simp,⟨rfl,rfl,rfl⟩,Nat.le_refl _,rfl,fun _ _=>rfl,fun _ _=>rfl,fun p o' hp hne=>hp,fun r hr=>.inl hr,?_⟩
  exact ⟨fun cs0 e=>.inr ⟨_,List.getElem?_set_self (by simp; omega),rfl⟩,fun gen sz els e=>(by rw [hb1] at e; cases e),fun es e=>(by rw [hb1] at e; cases e),fun l0 e=>(by rw [hb1] at e; cases e),fun e=>(by rw [hb1] at e; cases e)⟩
 have hrow : ((L ++ [Blk.row 0 sz []]).set b (.cells (cs.set j (.own L.length 0 0 0))))[L.length]? = some (.row 0 sz []):=by
  rw [List.getElem?_set_ne (by omega),List.getElem?_append_right (Nat.le_refl _),Nat.sub_self]; rfl
 obtain ⟨q,cur,T,h1,h2,h3,h4,h5⟩:=hg1.blk b _ hb1
 have hg2:=S.good' ⟨q,cur,T,h1,h2,by simpa using h3,h4,fun i x v hx hv=>by
  rw [List.getElem?_set] at hx
  by_cases e : j = i
  ·subst e
   rw [if_pos rfl] at hx
   split at hx
   ·cases hx
    have hv':=h5 j .nil v hj hv
    cases hv' with
    | nil=>exact .ownN _ _ sz [] hrow (by simp [Gh.add])
   ·cases hx
  ·rw [if_neg e] at hx
   exact S.mono (h5 i x v hx hv)⟩
 have hlen : L.length ≤ (L ++ [Blk.row 0 sz []]).length:=by simp
 have hlen2 : (L ++ [Blk.row 0 sz []]).length ≤ ((L ++ [Blk.row 0 sz []]).set b (.cells (cs.set j (.own L.length 0 0 0)))).length:=by simp
 refine (h.2 _ w vs hg2 ⟨hv.1,fun i x v hx hvi=>S.mono (add_mono hg (Ext.refl w) _ none 0 (hv.2 i x v hx hvi))⟩).mono ?_
 rintro e w' ⟨v,X,L',g',he,hX,hr,hgood,hpr⟩
 exact ⟨v,X,L',g',he,hX,hr,hgood,hp.trans ((S.prog.le hlen (zw21 _)).trans (hpr.le (zw23 hlen hlen2) (zw21 _)))⟩
end
end Go.Tidy
namespace Go.Proofs.YtihibgcojdfndaaGreatDoor
open Go.Tidy
variable {L : List Blk} {k : V → List Blk → Prop}
def rdI (l : List Int) : List (List V):=l.map fun n=>[I n]
def ins (l : List Int) : D:=.sl (l.map fun n=>[DI n])
theorem rdI_bel (n : Nat) : ∀ x : List Int,belR n (rdI x) = true
 | []=>rfl
 | _ :: x=>by simp only [rdI,List.map_cons,belR,V.belL,V.bel,Bool.true_and]; exact rdI_bel n x
theorem rdI_rows {S : Nat → Prop} {L : List Blk} : ∀ x : List Int,CvLL S L (rdI x) (x.map fun v=>[DI v])
 | []=>.nil
 | _ :: x=>.cons (.cons (.d _) .nil) (rdI_rows x)
theorem rdI_rows' {S : Nat → Prop} {L : List Blk} (x : List Int) : CvLL S L (((rdI x).drop 0).take x.length) (x.map fun v=>[DI v]):=by
 rw [List.drop_zero,List.take_of_length_le (by simp [rdI])]; exact rdI_rows x
theorem rdI_e (x : List Int) : ∀ e ∈ x.map (fun v=>[DI v]),e.length = 1:=by
 intro e he; obtain ⟨v,_,rfl⟩:=List.mem_map.1 he; rfl
theorem iidx_c (l : List Int) (hl : l.length ≤ 4611686018427387904) (m : Int) (h : k (I (findI (fun v=>decide (m = v)) l)) L) :
  CallP C 86 [.d (ins l),I m] L k:=by
 refine zw25 ?_ rfl (fun _=>rfl) h
 clear h
 refine zw24 C_ok Tryz.func86 rfl rfl rfl (zw18 rfl) rfl ?_
 conv=>whnf
 refine zw26 (fun i=>i ≤ l.length ∧ ∀ (j : Nat) (hj : j < l.length),j < i → decide (m = l[j]) = false) (fun i=>⟨[(0,.d (ins l)),(1,I m),(7,I l.length),(8,I i)],Tryz.f86.ntmps,[],[],none⟩) (fun i=>l.length - i) 0 ⟨zw22 _,fun j _ h=>absurd h (Nat.not_lt_zero j)⟩ ?_ ?_
 ·exact zw27 ⟨rfl,rfl,congrArg I (by simp),rfl,trivial⟩
 rintro i ⟨hi,hno⟩
 by_cases hi' : i < l.length
 ·have hlt : (i : Int) < (l.length : Int):=by omega
  have hw:=zwW i (by omega)
  have r1 : (l.map fun n=>[DI n])[i]? = some [DI l[i]]:=by rw [List.getElem?_map,List.getElem?_eq_getElem hi']; rfl
  by_cases hq : decide (m = l[i]) = true
  ·repeat' (conv => whnf
            first|refine zw8 (zw19 hlt) ?_|refine zw8 hq ?_|refine zw6 rfl ?_|refine zw10 i _ rfl r1 ?_)
   conv=>whnf
   exact FinP.zz rfl ⟨rfl,congrArg I (findI_hit (p:=fun v=>decide (m = v)) hi' hq hno).symm⟩
  ·have hq' : decide (m = l[i]) = false:=by simpa using hq
   repeat' ((conv=>whnf); first|refine zw8 (zw19 hlt) ?_|refine zw9 hq' ?_|refine zw6 rfl ?_|refine zw10 i _ rfl r1 ?_)
   conv=>whnf
   exact ⟨i + 1,⟨hi',fun j hj hji=>by
    by_cases e : j = i
    ·subst e; exact hq'
    ·exact hno j hj (by omega)⟩,by omega,Weak.by ⟨rfl,rfl,rfl,congrArg I hw,trivial⟩⟩
 ·have hlt : ¬ (i : Int) < (l.length : Int):=by omega
  repeat' ((conv=>whnf); refine zw9 (zw20 hlt) ?_)
  conv=>whnf
  exact FinP.zz rfl ⟨rfl,congrArg I (findI_miss (p:=fun v=>decide (m = v)) fun j hj=>hno j hj (by omega)).symm⟩
theorem icontains_c (l : List Int) (hl : l.length ≤ 4611686018427387904) (m : Int) (h : k (B (l.any fun v=>decide (m = v))) L) :
  CallP C 45 [.d (ins l),I m] L k:=by
 refine zw25 ?_ rfl (fun _=>rfl) h
 clear h
 refine zw24 C_ok Tryz.func45 rfl rfl rfl (zw18 rfl) rfl ?_
 repeat' ((conv=>whnf); refine iidx_c l hl m ?_)
 conv=>whnf
 exact FinP.zz rfl ⟨rfl,congrArg B (findI_any _ l)⟩
mutual
def dS (x : En) (by_ : List Int) : Sp → List Int
 | .mk k b c t e=>if k = 2 then (if hoF x c = true then dSs x by_ t else dSs x by_ e) else if (by_.any fun v=>decide (b = v)) = true then by_ else by_ ++ [b]
def dSs (x : En) (by_ : List Int) : List Sp → List Int
 | []=>by_
 | s :: ss=>dSs x (dS x by_ s) ss
end
theorem dSs_foldl (x : En) : ∀ (l : List Sp) (b : List Int),dSs x b l = l.foldl (dS x) b
 | [],b=>by rw [dSs]; rfl
 | s :: ss,b=>by rw [dSs,dSs_foldl x ss]; rfl
theorem dSs_take (x : En) (b : List Int) (l : List Sp) {i : Nat} (h : i < l.length) : dSs x b (l.take (i + 1)) = dS x (dSs x b (l.take i)) l[i]:=by
 rw [dSs_foldl,dSs_foldl,take_next h,List.foldl_append]; rfl
inductive DSp : Sp → Prop
 | mk {s : Sp} (hc : s.kind = 2 → HCo s.cond) (hb : s.kind ≠ 2 → 1 ≤ s.by_ ∧ s.by_ ≤ 12) (l1 : s.thn.length ≤ 4398046511104) (l2 : s.els.length ≤ 4398046511104) (ht : ∀ p ∈ s.thn,DSp p) (he : ∀ p ∈ s.els,DSp p) : DSp s
structure ByOk (l : List Int) : Prop where
 nd : l.Nodup
 rg : ∀ b ∈ l,1 ≤ b ∧ b ≤ 12
theorem ByOk.len {l : List Int} (h : ByOk l) : l.length ≤ 12:=by
 have:=List.Nodup.length_le_of_subset (l₂:=[1,2,3,4,5,6,7,8,9,10,11,12]) h.nd (fun b hb=>by
  have:=h.rg b hb
  simp only [List.mem_cons,List.not_mem_nil,or_false]; omega)
 simpa using this
theorem ByOk.snoc {l : List Int} (h : ByOk l) {b : Int} (hb : 1 ≤ b ∧ b ≤ 12) (hn : ¬ (l.any fun v=>decide (b = v)) = true) : ByOk (l ++ [b]):=by
 have hm : b ∉ l:=fun hm=>hn (List.any_eq_true.2 ⟨b,hm,decide_eq_true rfl⟩)
 refine ⟨List.nodup_append.2 ⟨h.nd,by simp,fun a ha c hc=>?_⟩,fun c hc=>?_⟩
 ·rw [List.mem_singleton] at hc; subst hc; exact fun e=>hm (e ▸ ha)
 ·rcases List.mem_append.1 hc with hc | hc
  ·exact h.rg c hc
  ·rw [List.mem_singleton] at hc; subst hc; exact hb
end Go.Proofs.YtihibgcojdfndaaGreatDoor
namespace Go.Proofs.YtihibgcojdfndaaGreatDoor
open Go.Tidy
variable {L : List Blk} {k : V → List Blk → Prop}
theorem bifP {c : Bool} {X : Prop} (h : c = true) (hx : X) : cond c X False:=by subst h; exact hx
def dL (x : En) (b : List Int) : List Blk:=[.cells (x.cells.map .d),.cells [.own 3 b.length 0 b.length],.cells [.fn 60 [.ptr 0 0,.ptr 2 0,.ptr 1 0]],.row b.length 1 (rdI b)]
theorem dL_bel (x : En) (b : List Int) : belB 4 (dL x b) = true:=by
 have:=rdI_bel 4 b
 unfold dL
 simp only [belB,Blk.bel,this,Bool.and_true]
 rfl
def DCall (x : En) (l : List Sp) : Prop:=∀ b,ByOk b → ByOk (dSs x b l) ∧ CallP C 60 [.d (sps l),.ptr 0 0,.ptr 2 0,.ptr 1 0] (dL x b) fun X L'=>X = .tup [] ∧ L' = dL x (dSs x b l)
theorem DCall.sub {x : En} {l : List Sp} (h : DCall x l) {b : List Int} (hb : ByOk b) {E : List Blk} {k : V → List Blk → Prop} (hk : k (.tup []) (dL x (dSs x b l) ++ E)) :
  CallP C 60 [.d (sps l),.ptr 0 0,.ptr 2 0,.ptr 1 0] (dL x b ++ E) k :=
 CallP.pre (h b hb).2 (dL_bel x b) rfl rfl fun X L1 hX=>by
  obtain ⟨rfl,rfl⟩:=hX
  exact ⟨rfl,dL_bel x _,rfl,hk⟩
theorem direct1_s (x : En) : ∀ (n : Nat) (l : List Sp),SizeOf.sizeOf l ≤ n → l.length ≤ 4398046511104 → (∀ s ∈ l,DSp s) → DCall x l
 | 0,l,h,_,_=>absurd h (by cases l <;> simp)
 | n + 1,l,hsz,hlen,hl=>by
  have ih:=direct1_s x n
  intro b0 hb0
  have hby : ∀ i,i ≤ l.length → ByOk (dSs x b0 (l.take i)):=by
   intro i
   induction i with
   | zero=>intro _; simpa [dSs] using hb0
   | succ i hi =>
    intro hlt
    have hb:=hi (by omega)
    rw [dSs_take x b0 l (by omega)]
    have hm : l[i] ∈ l:=List.getElem_mem (by omega)
    have hs:=hl _ hm
    have hz : SizeOf.sizeOf l[i] < SizeOf.sizeOf l:=List.sizeOf_lt_of_mem hm
    generalize l[i] = s at hs hz
    generalize dSs x b0 (l.take i) = b at hb
    obtain ⟨hc,hbn,l1,l2,ht,he⟩:=hs
    cases s with | mk kd bb c t e =>
    simp only [Sp.mk.sizeOf_spec] at hz
    simp only [Sp.kind,Sp.by_,Sp.cond,Sp.thn,Sp.els] at hc hbn l1 l2 ht he
    rw [dS]
    split
    ·split
     ·exact (ih t (by omega) l1 ht b hb).1
     ·exact (ih e (by omega) l2 he b hb).1
    ·rename_i h2
     split
     ·exact hb
     ·rename_i h3; exact hb.snoc (hbn h2) h3
  refine ⟨by simpa using hby l.length (zw21 _),?_⟩
  refine zw24 C_ok Tryz.func60 rfl rfl rfl (zw18 rfl) rfl ?_
  conv=>whnf
  refine zw26 (fun i=>i ≤ l.length) (fun i=>⟨[(1,.ptr 0 0),(2,.ptr 2 0),(3,.ptr 1 0),(7,.d (sps l)),(8,I l.length),(9,I i)],Tryz.f60.ntmps,dL x (dSs x b0 (l.take i)),[],none⟩) (fun i=>l.length - i) 0 (zw22 _) ?_ ?_
  ·exact zw27 ⟨rfl,rfl,rfl,rfl,congrArg I (by simp),rfl,trivial⟩
  intro i hi
  by_cases hi' : i < l.length
  ·have hlt : (i : Int) < (l.length : Int):=by omega
   have hw:=zwW i (by omega)
   have hb:=hby i hi
   have hbx:=dSs_take x b0 l hi'
   have hm : l[i] ∈ l:=List.getElem_mem hi'
   have hs:=hl _ hm
   have hz : SizeOf.sizeOf l[i] < SizeOf.sizeOf l:=List.sizeOf_lt_of_mem hm
   obtain ⟨s,hs0⟩ : ∃ s,s = l[i]:=⟨_,rfl⟩
   rw [← hs0] at hs hz hbx
   have r1 : (l.map Sp.cells)[i]? = some [DI s.kind,DI s.by_,DI s.cond.kind,DI s.cond.var,DI s.cond.n,cos s.cond.parts,sps s.thn,sps s.els]:=by rw [List.getElem?_map,List.getElem?_eq_getElem hi',← hs0,← Sp.cells_eq]; rfl
   obtain ⟨hc,hbn,l1,l2,ht,he⟩:=hs
   have hdS : ∀ b,dS x b s = if s.kind = 2 then (if hoF x s.cond = true then dSs x b s.thn else dSs x b s.els) else if (b.any fun v=>decide (s.by_ = v)) = true then b else b ++ [s.by_]:=fun b=>by cases s; rw [dS]; rfl
   have z1 : SizeOf.sizeOf s.thn < SizeOf.sizeOf s:=by cases s; simp only [Sp.mk.sizeOf_spec,Sp.thn]; omega
   have z2 : SizeOf.sizeOf s.els < SizeOf.sizeOf s:=by cases s; simp only [Sp.mk.sizeOf_spec,Sp.els]; omega
   have i1:=ih s.thn (by omega) l1 ht
   have i2:=ih s.els (by omega) l2 he
   rw [hdS] at hbx
   generalize dSs x b0 (l.take i) = b at hb hbx ⊢
   have hbl:=hb.len
   by_cases c1 : s.kind = 2
   ·have hh:=holds_c x s.cond (hc c1)
    unfold HCall at hh
    rw [Co.cells_eq] at hh
    rw [if_pos c1] at hbx
    by_cases c2 : hoF x s.cond = true
    ·rw [if_pos c2] at hbx
     repeat' ((conv=>whnf); first|refine zw8 (zw19 hlt) ?_|refine zw8 (zw19 c1) ?_|refine zw8 c2 ?_|refine zw6 rfl ?_|refine zw10 i _ rfl r1 ?_|refine hh _ _ ?_|refine i1.sub hb ?_)
     conv=>whnf
     exact ⟨i + 1,hi',by omega,Weak.to 4 (Eq.trans (b:=dL x (dSs x b s.thn)) rfl (congrArg (dL x) hbx.symm)) (zw21 4) (zw18 rfl) ⟨rfl,rfl,rfl,rfl,rfl,congrArg I hw,trivial⟩ (hB:=dL_bel x _)⟩
    ·have c2' : hoF x s.cond = false:=by simpa using c2
     rw [if_neg c2] at hbx
     repeat' ((conv=>whnf); first|refine zw8 (zw19 hlt) ?_|refine zw8 (zw19 c1) ?_|refine zw9 c2' ?_|refine zw6 rfl ?_|refine zw10 i _ rfl r1 ?_|refine hh _ _ ?_|refine i2.sub hb ?_)
     conv=>whnf
     exact ⟨i + 1,hi',by omega,Weak.to 4 (Eq.trans (b:=dL x (dSs x b s.els)) rfl (congrArg (dL x) hbx.symm)) (zw21 4) (zw18 rfl) ⟨rfl,rfl,rfl,rfl,rfl,congrArg I hw,trivial⟩ (hB:=dL_bel x _)⟩
   ·rw [if_neg c1] at hbx
    by_cases c3 : (b.any fun v=>decide (s.by_ = v)) = true
    ·rw [if_pos c3] at hbx
     repeat' ((conv=>whnf); first|refine zw8 (zw19 hlt) ?_|refine zw9 (zw20 c1) ?_|refine zw8 c3 ?_|refine zw3 ?_|refine zw6 rfl ?_|refine zw10 i _ rfl r1 ?_|refine zw29 (icontains_c b (by omega) s.by_ ⟨rfl,rfl⟩) (.cv (.d (.rowL trivial rfl (rdI_rows' b) (by simp) (rdI_e b))) (.keep .nil)) rfl rfl ?_)
     conv=>whnf
     exact ⟨i + 1,hi',by omega,Weak.to 4 (Eq.trans (b:=dL x b) rfl (congrArg (dL x) hbx.symm)) (zw21 4) (zw18 rfl) ⟨rfl,rfl,rfl,rfl,rfl,congrArg I hw,trivial⟩ (hB:=dL_bel x _)⟩
    ·have c3' : (b.any fun v=>decide (s.by_ = v)) = false:=eq_false_of_ne_true c3
     rw [if_neg c3] at hbx
     repeat' ((conv=>whnf); first|refine zw8 (zw19 hlt) ?_|refine zw9 (zw20 c1) ?_|refine zw9 c3' ?_|refine zw3 ?_|refine zw6 rfl ?_|refine zw10 i _ rfl r1 ?_|refine zw29 (icontains_c b (by omega) s.by_ ⟨rfl,rfl⟩) (.cv (.d (.rowL trivial rfl (rdI_rows' b) (by simp) (rdI_e b))) (.keep .nil)) rfl rfl ?_)
     conv=>whnf
     refine bifP (show (Nat.beq b.length b.length && true) = true by rw [Nat.beq_refl]; rfl) ?_
     repeat' ((conv=>whnf); refine zw6 (show b.length + 1 ≤ 4294967296 by omega) ?_)
     conv=>whnf
     have e : [Blk.cells (x.cells.map .d),.cells [.own 3 (b.length + 1) 0 (b.length + 1)],.cells [.fn 60 [.ptr 0 0,.ptr 2 0,.ptr 1 0]],.row (b.length + 1) 1 ((rdI b).take b.length ++ [[I s.by_]])] = dL x (dSs x b0 (l.take (i + 1))):=by
      rw [hbx]; unfold dL
      rw [List.length_append,List.length_singleton,List.take_of_length_le (by simp [rdI])]
      unfold rdI; rw [List.map_append]; rfl
     exact ⟨i + 1,hi',by omega,Weak.to 4 (Eq.trans (b:=[Blk.cells (x.cells.map .d),.cells [.own 3 (b.length + 1) 0 (b.length + 1)],.cells [.fn 60 [.ptr 0 0,.ptr 2 0,.ptr 1 0]],.row (b.length + 1) 1 ((rdI b).take b.length ++ [[I s.by_]])]) rfl e) (zw21 4) (zw18 rfl) ⟨rfl,rfl,rfl,rfl,rfl,congrArg I hw,trivial⟩ (hB:=dL_bel x _)⟩
  ·have hlt : ¬ (i : Int) < (l.length : Int):=by omega
   repeat' ((conv=>whnf); refine zw9 (zw20 hlt) ?_)
   conv=>whnf
   exact FinP.same ⟨rfl,Eq.trans (b:=dL x (dSs x b0 (l.take i))) rfl (by rw [List.take_of_length_le (by omega)])⟩
def directB (l : List Sp) (x : En) : List Int:=if orderF l = 0 ∧ envE x = 0 then dSs x [] l else []
def directE (l : List Sp) (x : En) : Int:=if orderF l ≠ 0 then orderF l else envE x
theorem Direct_c (l : List Sp) (x : En) (hl : LSs l) (hd : orderF l = 0 → ∀ s ∈ l,DSp s) (h : k (.tup [.d (ins (directB l x)),I (directE l x)]) L) : CallP C 23 [.d (sps l),enV x] L k:=by
 have e1 : orderF l = 0 → envE x = 0 → V.tup [.d (ins (directB l x)),I (directE l x)] = V.tup [.d (ins (dSs x [] l)),I 0]:=fun h h'=>by
  unfold directB directE; rw [if_pos ⟨h,h'⟩,if_neg (fun hn=>hn h),h']
 have e2 : orderF l = 0 → envE x ≠ 0 → V.tup [.d (ins (directB l x)),I (directE l x)] = V.tup [.d (.sl []),I (envE x)]:=fun h h'=>by
  unfold directB directE; rw [if_neg (fun hn=>h' hn.2),if_neg (fun hn=>hn h)]; rfl
 have e3 : orderF l ≠ 0 → V.tup [.d (ins (directB l x)),I (directE l x)] = V.tup [.d (.sl []),I (orderF l)]:=fun h=>by
  unfold directB directE; rw [if_neg (fun hn=>h hn.1),if_pos h]; rfl
 have ho : ∀ {L : List Blk} {k : V → List Blk → Prop},k (I (orderF l)) L → CallP C 58 [.d (sps l)] L k:=fun h=>order_c l hl h
 generalize directB l x = db at *
 generalize directE l x = de at *
 by_cases c1 : orderF l = 0
 rotate_left
 ·refine zw25 ?_ rfl (fun _=>rfl) h
  clear h
  refine zw24 C_ok Tryz.func23 rfl rfl rfl (zw18 rfl) rfl ?_
  repeat' ((conv=>whnf); first|refine zw9 (zw20 c1) ?_|refine zw3 ?_|refine ho ?_)
  conv=>whnf
  exact zw16 (L':=[]) (.pair (.d .nil) (.d (.d _))) rfl rfl ⟨rfl,(e3 c1).symm⟩
 by_cases c2 : envE x = 0
 rotate_left
 ·refine zw25 ?_ rfl (fun _=>rfl) h
  clear h
  refine zw24 C_ok Tryz.func23 rfl rfl rfl (zw18 rfl) rfl ?_
  repeat' ((conv=>whnf); first|refine zw8 (zw19 c1) ?_|refine zw9 (zw20 c2) ?_|refine zw3 ?_|refine ho ?_|refine env_c x ?_)
  conv=>whnf
  exact zw16 (L':=[]) (.pair (.d .nil) (.d (.d _))) rfl rfl ⟨rfl,(e2 c1 c2).symm⟩
 have hdc:=direct1_s x _ l (zw21 _) hl.len (hd c1)
 have hok : ByOk []:=⟨List.nodup_nil,fun b hb=>by cases hb⟩
 refine zw25 ?_ rfl (fun _=>rfl) h
 clear h
 refine zw24 C_ok Tryz.func23 rfl rfl rfl (zw18 rfl) rfl ?_
 repeat' ((conv=>whnf); first|refine zw8 (zw19 c1) ?_|refine zw8 (zw19 c2) ?_|refine zw3 ?_|refine ho ?_|refine env_c x ?_|refine CallP.nilCell 1 0 1 [.nil] rfl rfl (by decide) (hdc.sub (b:=[]) (E:=[]) hok ?_))
 conv=>whnf
 exact zw16 (L':=[]) (.pair (.d (.rowL (zw22 _) rfl (rdI_rows' _) (by simp) (rdI_e _))) (.d (.d _))) rfl rfl ⟨rfl,(e1 c1 c2).symm⟩
theorem vCos_mem : ∀ {l : List Co},vCos l = true → ∀ c ∈ l,vCo c = true
 | [],_,c,hc=>by cases hc
 | d :: l,h,c,hc=>by
  rw [vCos,Bool.and_eq_true] at h
  rcases List.mem_cons.1 hc with rfl | hc
  ·exact h.1
  ·exact vCos_mem h.2 c hc
theorem vSps_mem : ∀ {l : List Sp},vSps l = true → ∀ c ∈ l,vSp c = true
 | [],_,c,hc=>by cases hc
 | d :: l,h,c,hc=>by
  rw [vSps,Bool.and_eq_true] at h
  rcases List.mem_cons.1 hc with rfl | hc
  ·exact h.1
  ·exact vSps_mem h.2 c hc
theorem hco_of : ∀ (n : Nat) (c : Co),SizeOf.sizeOf c ≤ n → vCo c = true → LCo c → HCo c
 | 0,c,h,_,_=>absurd h (by cases c; simp)
 | n + 1,c,hsz,hv,hl=>by
  have hlen:=hl.len
  have hsub:=hl.sub
  have ps : ∀ p ∈ c.parts,SizeOf.sizeOf p < SizeOf.sizeOf c:=fun p hp=>part_sizeC hp
  cases c with | mk kd v m ps0 =>
  simp only [Co.parts] at hlen hsub ps
  have key : (kd = 4 → 0 < ps0.length) ∧ ∀ p ∈ ps0,vCo p = true:=by
   rw [vCo] at hv
   split at hv
   ·simp only [Bool.and_eq_true,decide_eq_true_eq] at hv
    have h0 : ps0.length = 0:=by omega
    exact ⟨fun h=>by omega,fun p hp=>by rw [List.length_eq_zero_iff.1 h0] at hp; cases hp⟩
   ·split at hv
    ·simp only [Bool.and_eq_true,decide_eq_true_eq] at hv
     exact ⟨fun _=>by omega,vCos_mem hv.2⟩
    ·split at hv
     ·simp only [Bool.and_eq_true,decide_eq_true_eq] at hv
      exact ⟨fun _=>by omega,vCos_mem hv.2⟩
     ·cases hv
  exact .mk key.1 (by simp only [Co.parts]; omega) fun p hp=>hco_of n p (by have:=ps p hp; omega) (key.2 p hp) (hsub p hp)
theorem dsp_of : ∀ (n : Nat) (s : Sp),SizeOf.sizeOf s ≤ n → vSp s = true → LSp s → DSp s
 | 0,s,h,_,_=>absurd h (by cases s; simp)
 | n + 1,s,hsz,hv,hl=>by
  obtain ⟨h1,h2,hc,ht,he⟩:=hl
  cases s with | mk kd b c t e =>
  simp only [Sp.mk.sizeOf_spec] at hsz
  simp only [Sp.thn,Sp.els,Sp.cond] at h1 h2 hc ht he
  rw [vSp] at hv
  have hz : ∀ {l : List Sp} {p : Sp},p ∈ l → SizeOf.sizeOf p < SizeOf.sizeOf l:=fun h=>List.sizeOf_lt_of_mem h
  split at hv
  ·rename_i k1
   simp only [Bool.and_eq_true,decide_eq_true_eq] at hv
   have t0 : t.length = 0:=by omega
   have e0 : e.length = 0:=by omega
   refine .mk (fun h=>by simp only [Sp.kind] at h; omega) (fun _=>hv.1.1) h1 h2 (fun p hp=>?_) (fun p hp=>?_)
   ·simp only [Sp.thn] at hp; rw [List.length_eq_zero_iff.1 t0] at hp; cases hp
   ·simp only [Sp.els] at hp; rw [List.length_eq_zero_iff.1 e0] at hp; cases hp
  ·split at hv
   ·rename_i k2
    simp only [Bool.and_eq_true,decide_eq_true_eq] at hv
    refine .mk (fun _=>hco_of _ _ (zw21 _) hv.1.1.1.2 hc) (fun h=>absurd k2 h) h1 h2 (fun p hp=>?_) (fun p hp=>?_)
    ·simp only [Sp.thn] at hp; exact dsp_of n p (by have:=hz hp; omega) (vSps_mem hv.1.2 p hp) (ht p hp)
    ·simp only [Sp.els] at hp; exact dsp_of n p (by have:=hz hp; omega) (vSps_mem hv.2 p hp) (he p hp)
   ·cases hv
theorem check_ok {l : List Fm} (h : checkF l = 0) : (wF 40 l 0 (0,0)).1 = true ∧ l.length ≠ 0 ∧ ∀ f ∈ l,vFm f = true:=by
 unfold checkF at h
 split at h
 ·rename_i h1
  split at h
  ·cases h
  ·rename_i h2
   split at h
   ·cases h
   ·rename_i h3
    refine ⟨h1,h2,fun f hf=>?_⟩
    cases hv : vFm f with
    | true=>rfl
    | false=>exact absurd (List.any_eq_true.2 ⟨f,hf,by rw [hv]; rfl⟩) h3
 ·cases h
theorem order_dsp {l : List Sp} (hl : LSs l) (h : orderF l = 0) : ∀ s ∈ l,DSp s:=fun s hs =>
 dsp_of _ s (zw21 _) ((check_ok h).2.2 (.s s) (List.mem_map.2 ⟨s,hs,rfl⟩)) (hl.all s hs)
end Go.Proofs.YtihibgcojdfndaaGreatDoor
namespace Go.Tidy
section
variable {C : Ctx} [Quiet C] {L : List Blk}
end
end Go.Tidy
namespace Go.Proofs.YtihibgcojdfndaaGreatDoor
open Go.Tidy
variable {L : List Blk} {k : V → List Blk → Prop}
end Go.Proofs.YtihibgcojdfndaaGreatDoor
namespace Go.Proofs.YtihibgcojdfndaaGreatDoor
open Go.Tidy
variable {L : List Blk} {k : V → List Blk → Prop}
theorem lco0 (kd v n : Int) : LCo (.mk kd v n []):=.mk (zw22 _) fun p hp=>by cases hp
theorem lsp0 (n : Int) : LSp (bySp n):=.mk (zw22 _) (zw22 _) (lco0 _ _ _) (fun p hp=>by cases hp) (fun p hp=>by cases hp)
end Go.Proofs.YtihibgcojdfndaaGreatDoor
namespace Go.Proofs.YtihibgcojdfndaaGreatDoor
open Go.Tidy Go.ChangeShapes Go.WideShapes Go.ChangeAt Go.RowKit
theorem own : ownKnob Tryz.prog.godebug = none:=by kernel_rfl
theorem kids : Kids Tryz.prog (· < Tryz.prog.types.size):=kids_rows (by kernel_rfl) (by kernel_rfl)
theorem full : ∀ t e,t < Tryz.prog.types.size → Tryz.prog.underlying t = some (.slice e) → 0 < Tryz.prog.cellsOf e:=slices_full_of Tryz.prog (by kernel_rfl)
theorem cells_int : C.P.cellsOf 3 = 1:=by kernel_rfl
theorem at_one {xs : List D} {i : Nat} {y : D} (h : (xs.drop i).take 1 = [y]) : xs[i]? = some y:=by
 have:=congrArg (fun l=>l[0]?) h
 simpa using this
theorem at_int {xs : List D} {i : Nat} (h : TyI C.P 3 ((xs.drop i).take (C.P.cellsOf 3))) : ∃ n : Int,xs[i]? = some (DI n):=by
 obtain ⟨n,hn,_⟩:=h.intI Tryz.underlying3
 rw [cells_int] at hn
 exact ⟨n,at_one hn⟩
theorem gSpans : Tryz.prog.globalNamed "assize/typing.spans" = some 0 := by kernel_rfl
theorem gType : (Tryz.prog.globals[0]?).map (·.type) = some 167:=by kernel_rfl
theorem cells_span : Tryz.prog.cellsOf 166 = 2:=by kernel_rfl
theorem cells_int' : Tryz.prog.cellsOf 3 = 1:=by kernel_rfl
theorem cells_spans : Tryz.prog.cellsOf 167 = 10:=by kernel_rfl
theorem span_cells {H : Type} {enc : TypeId × Value → H} {w : World} {base : Nat} {sp : Nat → Bool} {held : Bool} {fuel : Nat} {cs : List Value} {a b : Int} {p : List MemPlace}
  (h : DataW.trod enc Tryz.prog w base sp held fuel 166 cs = some (.agg [.lit (.int .i64 a),.lit (.int .i64 b)],p)) : cs = [.int .i64 a,.int .i64 b]:=by
 obtain ⟨y0,y1,n,e,hl,h0,h1⟩:=trod_struct2 Tryz.underlying166 h
 rw [cells_span] at hl
 obtain ⟨z0,c0,e0,_⟩:=DataW.trod_int Tryz.underlying3 h0
 obtain ⟨z1,c1,e1,_⟩:=DataW.trod_int Tryz.underlying3 h1
 subst e0 e1
 simp only [Prod.mk.injEq,DataW.agg.injEq,List.cons.injEq,DataW.lit.injEq,Lit.int.injEq,true_and,and_true] at e
 obtain ⟨⟨ea,eb⟩,_⟩:=e
 subst ea eb
 rw [cells_int'] at c0 c1
 match cs,hl with
 | [v0,v1],_ =>
  simp at c0 c1
  rw [c0,c1]
def spanL : List Int:=[0,0,2,24,0,46,0,1,2,24]
theorem spans_cells {W : World} (h : laidMetH Tryz.prog Rows.orderRanksRow.laid W) : ∀ i,i < 10 → W.cell? ⟨0,i,none⟩ = some (.int .i64 (spanL.getD i 0)):=by
 have h' : laidMet Tryz.prog [("assize/typing.spans", Rows.laid_assize_typing_spans)] W := h
 obtain ⟨ps,⟨g,t,cs,fuel,p,q,hg,ht,hvar,hd,_,_⟩,_⟩:=h'
 obtain rfl:=Option.some.inj (gSpans.symm.trans hg)
 obtain rfl:=Option.some.inj (gType.symm.trans ht)
 obtain ⟨xs,m,rfl,hx,hlen,hxl,hf⟩:=DataW.trod_array Tryz.underlying167 hd
 rw [cells_spans] at hlen
 rw [cells_span] at hf
 match xs,hxl with
 | [x0,x1,x2,x3,x4],_ =>
  have hx':=congrArg Prod.fst hx
  simp only [Rows.laid_assize_typing_spans,List.map_cons,List.map_nil,DataW.agg.injEq,List.cons.injEq,and_true] at hx'
  obtain ⟨e0,e1,e2,e3,e4⟩:=hx'
  have f0:=span_cells ((hf 0 (by decide)).trans (congrArg some (Prod.ext e0.symm rfl)))
  have f1:=span_cells ((hf 1 (by decide)).trans (congrArg some (Prod.ext e1.symm rfl)))
  have f2:=span_cells ((hf 2 (by decide)).trans (congrArg some (Prod.ext e2.symm rfl)))
  have f3:=span_cells ((hf 3 (by decide)).trans (congrArg some (Prod.ext e3.symm rfl)))
  have f4:=span_cells ((hf 4 (by decide)).trans (congrArg some (Prod.ext e4.symm rfl)))
  have ce : ∀ i,W.cell? ⟨0,i,none⟩ = cs[i]?:=World.var?_cell gSpans hvar
  have tl : ∀ i : Nat,cs[i]? = cs.toList[i]?:=fun i=>(Array.getElem?_toList).symm
  have two : ∀ {l : List Value} {d : Nat} {a b : Value},(l.drop d).take 2 = [a,b] → l[d]? = some a ∧ l[d + 1]? = some b:=fun {l d a b} h=>by
   have h0:=congrArg (fun l=>l[0]?) h
   have h1:=congrArg (fun l=>l[1]?) h
   simp at h0 h1
   exact ⟨h0,h1⟩
  intro i hi
  rw [ce,tl]
  match i,hi with
  | 0,_=>exact (two f0).1
  | 1,_=>exact (two f0).2
  | 2,_=>exact (two f1).1
  | 3,_=>exact (two f1).2
  | 4,_=>exact (two f2).1
  | 5,_=>exact (two f2).2
  | 6,_=>exact (two f3).1
  | 7,_=>exact (two f3).2
  | 8,_=>exact (two f4).1
  | 9,_=>exact (two f4).2
  | i + 10,h=>omega
theorem glob_ok {W : World} (h : laidMetH Tryz.prog Rows.orderRanksRow.laid W) : GlobOK (fun r=>r < W.heap.size) W:=by
 have hc:=spans_cells h
 intro p hp
 rw [show gtab = [(0,spanL.map fun n=>DI n)] from rfl] at hp
 rw [List.mem_singleton.1 hp]
 refine .rptr _ _ (fun j=>.int .i64 (spanL.getD j 0)) (fun j hj=>?_) ?_ (fun j x hx=>?_)
 ·have hj' : j < 10:=hj
  have:=hc j hj'
  rw [show (⟨0,0,none⟩ : Addr).add j = ⟨0,j,none⟩ by by_cases h : j = 0 <;> simp [Addr.add,h]]; exact this
 ·have:=hc 0 (by decide)
  show 0 < W.heap.size
  rcases Nat.eq_zero_or_pos W.heap.size with h0 | h0
  ·have hn : W.heap[0]? = none:=Array.getElem?_eq_none (by omega)
   unfold World.cell? at this
   rw [hn] at this; simp at this
  ·exact h0
 ·rw [List.getElem?_map] at hx
  cases e : spanL[j]? with
  | none=>rw [e] at hx; cases hx
  | some n =>
   rw [e] at hx; cases hx
   rw [List.getD_eq_getElem?_getD,e]; exact .int _ _
noncomputable def laidWorld (os : Os) : World :=
 { World.holding Tryz.prog os ⟨#[],#[],[]⟩ with heap:=(World.holding Tryz.prog os ⟨#[],#[],[]⟩).heap.modify 0 fun
   | .cells _ t frozen=>.cells #[.int .i64 0,.int .i64 0,.int .i64 2,.int .i64 24,.int .i64 0,.int .i64 46,.int .i64 0,.int .i64 1,.int .i64 2,.int .i64 24] t frozen
   | o=>o }
end Go.Proofs.YtihibgcojdfndaaGreatDoor
namespace Go.Proofs.YtihibgcojdfndaaGreatDoor
open Go.Tidy
variable {L : List Blk} {k : V → List Blk → Prop}
mutual
def cnF (d : Nat) : Co → Nat
 | .mk _ _ _ ps=>if 16 < d then 1000 else cnL (d + 1) ps 1
def cnL (d : Nat) : List Co → Nat → Nat
 | [],n=>n
 | c :: cs,n=>if n ≤ 256 then cnL d cs (n + cnF d c) else n
end
theorem cnL_big (d : Nat) : ∀ {l : List Co} {n : Nat},256 < n → cnL d l n = n
 | [],n,_=>by rw [cnL]
 | c :: cs,n,h=>by rw [cnL,if_neg (by omega)]
def rcondF (c : Co) : Int:=if (256 : Int) < (cnF 0 c : Int) then 2 else if vCo c = true then 0 else 140
instance decBadN (n : Int) : Decidable (badN n):=inferInstanceAs (Decidable (n = 0 ∨ 24 < n ∨ n < -24))
def czF (c : Co) : Nat:=if isZ c = true then 0 else cnF 0 c
mutual
def szS (d : Nat) : Sp → Nat × Nat
 | .mk _ _ c t e=>(1 + (if t ≠ [] ∧ 16 < d + 1 then (1000,1000) else szL (d + 1) t (0,0)).1 + (if e ≠ [] ∧ 16 < d + 1 then (1000,1000) else szL (d + 1) e (0,0)).1,
   (if t ≠ [] ∧ 16 < d + 1 then (1000,1000) else szL (d + 1) t (0,0)).2 + (if e ≠ [] ∧ 16 < d + 1 then (1000,1000) else szL (d + 1) e (0,0)).2 + czF c)
def szL (d : Nat) : List Sp → Nat × Nat → Nat × Nat
 | [],a=>a
 | s :: ss,a=>if a.1 ≤ 64 ∧ a.2 ≤ 256 then szL d ss (a.1 + (szS d s).1,a.2 + (szS d s).2) else a
end
def szT (d : Nat) (l : List Sp) : Nat × Nat:=if l ≠ [] ∧ 16 < d then (1000,1000) else szL d l (0,0)
theorem szS_eq (d : Nat) (s : Sp) : szS d s = (1 + (szT (d + 1) s.thn).1 + (szT (d + 1) s.els).1,(szT (d + 1) s.thn).2 + (szT (d + 1) s.els).2 + czF s.cond):=by
 cases s; rw [szS]; rfl
theorem szL_big (d : Nat) : ∀ {l : List Sp} {a : Nat × Nat},¬ (a.1 ≤ 64 ∧ a.2 ≤ 256) → szL d l a = a
 | [],a,_=>by rw [szL]
 | s :: ss,a,h=>by rw [szL,if_neg h]
mutual
def rSp : Sp → Bool
 | .mk k b c t e=>if k = 1 then decide (1 ≤ b) && decide (b ≤ 12) && isZ c && decide ((t.length : Int) = 0) && decide ((e.length : Int) = 0)
  else if k = 2 then decide (b = 0) && decide (rcondF c = 0) && !decide ((t.length : Int) = 0) && rSps t && rSps e
  else false
def rSps : List Sp → Bool
 | []=>true
 | c :: cs=>rSp c && rSps cs
end
def szBig (l : List Sp) : Prop:=64 < (szT 0 l).1 ∨ 256 < (szT 0 l).2
open Classical in
noncomputable def rorderF (l : List Sp) : Int:=if szBig l then 2 else if (l.length : Int) = 0 then 140 else if rSps l = true then 0 else 140
theorem byok0 : ByOk []:=⟨List.nodup_nil,fun b h=>by cases h⟩
mutual
def cN (d : Nat) : Co → Nat
 | .mk _ _ _ ps=>if 16 < d then 1000 else 1 + cNs (d + 1) ps
def cNs (d : Nat) : List Co → Nat
 | []=>0
 | c :: cs=>cN d c + cNs d cs
end
def cz (c : Co) : Nat:=if isZ c = true then 0 else cN 0 c
mutual
def sN (d : Nat) : Sp → Nat × Nat
 | .mk _ _ c t e=>if 16 < d then (1000,1000) else (1 + (sNs (d + 1) t).1 + (sNs (d + 1) e).1,(sNs (d + 1) t).2 + (sNs (d + 1) e).2 + cz c)
def sNs (d : Nat) : List Sp → Nat × Nat
 | []=>(0,0)
 | s :: ss=>((sN d s).1 + (sNs d ss).1,(sN d s).2 + (sNs d ss).2)
end
def fits (a : Nat × Nat) : Prop:=a.1 ≤ 64 ∧ a.2 ≤ 256
instance (a : Nat × Nat) : Decidable (fits a):=inferInstanceAs (Decidable (_ ∧ _))
theorem cn_s : ∀ (m : Nat) (c : Co),SizeOf.sizeOf c ≤ m → ∀ d,(cN d c ≤ 256 → cnF d c = cN d c) ∧ (256 < cN d c → 256 < cnF d c)
 | 0,c,h=>absurd h (by cases c; simp)
 | m + 1,.mk kd v n ps,hsz=>by
  intro d
  simp only [Co.mk.sizeOf_spec] at hsz
  rw [cN,cnF]
  by_cases hd : 16 < d
  ·rw [if_pos hd,if_pos hd]; exact ⟨fun h=>by omega,fun _=>by omega⟩
  rw [if_neg hd,if_neg hd]
  have key : ∀ l : List Co,(∀ c ∈ l,SizeOf.sizeOf c ≤ m) → ∀ n,(n + cNs (d + 1) l ≤ 256 → cnL (d + 1) l n = n + cNs (d + 1) l) ∧ (256 < n + cNs (d + 1) l → 256 < cnL (d + 1) l n):=by
   intro l
   induction l with
   | nil=>intro _ n; rw [cnL,cNs]; exact ⟨fun _=>rfl,fun h=>h⟩
   | cons c cs ih =>
    intro hl n
    have hc:=cn_s m c (hl c (by simp)) (d + 1)
    rw [cnL,cNs]
    by_cases h : n ≤ 256
    ·rw [if_pos h]
     have h2:=ih (fun c h=>hl c (by simp [h])) (n + cnF (d + 1) c)
     by_cases h3 : cN (d + 1) c ≤ 256
     ·rw [hc.1 h3] at h2 ⊢
      exact ⟨fun h=>by rw [h2.1 (by omega)]; omega,fun h=>h2.2 (by omega)⟩
     ·have h4:=hc.2 (by omega)
      rw [cnL_big _ (by omega)]
      exact ⟨fun h=>by omega,fun _=>by omega⟩
    ·rw [if_neg h]; exact ⟨fun h=>by omega,fun _=>by omega⟩
  have:=key ps (fun c h=>by have:=List.sizeOf_lt_of_mem h; omega) 1
  exact this
theorem cn_of (c : Co) (d : Nat) : (cN d c ≤ 256 → cnF d c = cN d c) ∧ (256 < cN d c → 256 < cnF d c):=cn_s _ c (zw21 _) d
theorem cz_of (c : Co) : (cz c ≤ 256 → czF c = cz c) ∧ (256 < cz c → 256 < czF c):=by
 unfold cz czF
 split
 ·exact ⟨fun _=>rfl,fun h=>by omega⟩
 ·exact cn_of c 0
theorem sz_s : ∀ (m : Nat) (s : Sp),SizeOf.sizeOf s ≤ m → ∀ d,d ≤ 16 → (fits (sN d s) → szS d s = sN d s) ∧ (¬ fits (sN d s) → ¬ fits (szS d s))
 | 0,s,h=>absurd h (by cases s; simp)
 | m + 1,.mk kd b c t e,hsz=>by
  intro d hd
  simp only [Sp.mk.sizeOf_spec] at hsz
  have key : ∀ d,d ≤ 16 → ∀ l : List Sp,(∀ c ∈ l,SizeOf.sizeOf c ≤ m) → ∀ a : Nat × Nat,(fits (a.1 + (sNs d l).1,a.2 + (sNs d l).2) → szL d l a = (a.1 + (sNs d l).1,a.2 + (sNs d l).2)) ∧ (¬ fits (a.1 + (sNs d l).1,a.2 + (sNs d l).2) → ¬ fits (szL d l a)):=by
   intro d hd l
   induction l with
   | nil=>intro _ a; rw [szL,sNs]; exact ⟨fun _=>rfl,fun h=>h⟩
   | cons s ss ih =>
    intro hl a
    have hc:=sz_s m s (hl s (by simp)) d hd
    rw [szL,sNs]
    by_cases h : a.1 ≤ 64 ∧ a.2 ≤ 256
    ·rw [if_pos h]
     have h2:=ih (fun c h=>hl c (by simp [h])) (a.1 + (szS d s).1,a.2 + (szS d s).2)
     by_cases h3 : fits (sN d s)
     ·rw [hc.1 h3] at h2 ⊢
      simp only [Nat.add_assoc] at h2 ⊢
      exact h2
     ·have h4:=hc.2 h3
      rw [szL_big _ (by unfold fits at h4; simp only; omega)]
      refine ⟨fun h=>absurd (show fits (sN d s) from ?_) h3,fun _ h=>h4 ?_⟩
      ·unfold fits at h ⊢; simp only at h; omega
      ·unfold fits at h ⊢; simp only at h; omega
    ·rw [if_neg h]
     refine ⟨fun h'=>absurd ?_ h,fun _ h'=>h h'⟩
     unfold fits at h'; simp only at h'; omega
  have keyT : ∀ l : List Sp,(∀ c ∈ l,SizeOf.sizeOf c ≤ m) → (fits (sNs (d + 1) l) → szT (d + 1) l = sNs (d + 1) l) ∧ (¬ fits (sNs (d + 1) l) → ¬ fits (szT (d + 1) l)):=by
   intro l hl
   unfold szT
   by_cases h : l ≠ [] ∧ 16 < d + 1
   ·rw [if_pos h]
    obtain ⟨h1,h2⟩:=h
    cases l with
    | nil=>exact absurd rfl h1
    | cons s ss =>
     have : sN (d + 1) s = (1000,1000):=by cases s; rw [sN,if_pos h2]
     rw [sNs,this]
     exact ⟨fun h=>by unfold fits at h; simp only at h; omega,fun _ h=>by unfold fits at h; simp only at h; omega⟩
   ·rw [if_neg h]
    by_cases hl0 : l = []
    ·subst hl0; rw [szL,sNs]; exact ⟨fun _=>rfl,fun h=>h⟩
    ·have:=key (d + 1) (by have : ¬ 16 < d + 1:=fun h2=>h ⟨hl0,h2⟩; omega) l hl (0,0)
     simpa using this
  rw [szS_eq,sN,if_neg (by omega)]
  simp only [Sp.thn,Sp.els,Sp.cond]
  have ht:=keyT t (fun c h=>by have:=List.sizeOf_lt_of_mem h; omega)
  have he:=keyT e (fun c h=>by have:=List.sizeOf_lt_of_mem h; omega)
  have hc:=cz_of c
  generalize sNs (d + 1) t = u at *
  generalize sNs (d + 1) e = v at *
  generalize szT (d + 1) t = u' at *
  generalize szT (d + 1) e = v' at *
  constructor
  ·intro h
   unfold fits at h; simp only at h
   rw [ht.1 (by unfold fits; omega),he.1 (by unfold fits; omega),hc.1 (by omega)]
  ·intro h h'
   unfold fits at h'; simp only at h'
   apply h
   by_cases f1 : fits u
   ·by_cases f2 : fits v
    ·by_cases f3 : cz c ≤ 256
     ·rw [ht.1 f1,he.1 f2,hc.1 f3] at h'; exact h'
     ·have:=hc.2 (by omega); omega
    ·have:=he.2 f2; unfold fits at this; omega
   ·have:=ht.2 f1; unfold fits at this; omega
theorem szT_of (l : List Sp) : (fits (sNs 0 l) → szT 0 l = sNs 0 l) ∧ (¬ fits (sNs 0 l) → ¬ fits (szT 0 l)):=by
 have h:=sz_s _ (.mk 0 0 (.mk 0 0 0 []) l []) (zw21 _) 0 (by decide)
 unfold szT
 rw [if_neg (by simp)]
 have key : ∀ l : List Sp,∀ a : Nat × Nat,(fits (a.1 + (sNs 0 l).1,a.2 + (sNs 0 l).2) → szL 0 l a = (a.1 + (sNs 0 l).1,a.2 + (sNs 0 l).2)) ∧ (¬ fits (a.1 + (sNs 0 l).1,a.2 + (sNs 0 l).2) → ¬ fits (szL 0 l a)):=by
  intro l
  induction l with
  | nil=>intro a; rw [szL,sNs]; exact ⟨fun _=>rfl,fun h=>h⟩
  | cons s ss ih =>
   intro a
   have hc:=sz_s _ s (zw21 _) 0 (by decide)
   rw [szL,sNs]
   by_cases h : a.1 ≤ 64 ∧ a.2 ≤ 256
   ·rw [if_pos h]
    have h2:=ih (a.1 + (szS 0 s).1,a.2 + (szS 0 s).2)
    by_cases h3 : fits (sN 0 s)
    ·rw [hc.1 h3] at h2 ⊢
     simp only [Nat.add_assoc] at h2 ⊢
     exact h2
    ·have h4:=hc.2 h3
     rw [szL_big _ (by unfold fits at h4; simp only; omega)]
     refine ⟨fun h=>absurd (show fits (sN 0 s) from ?_) h3,fun _ h=>h4 ?_⟩
     ·unfold fits at h ⊢; simp only at h; omega
     ·unfold fits at h ⊢; simp only at h; omega
   ·rw [if_neg h]
    refine ⟨fun h'=>absurd ?_ h,fun _ h'=>h h'⟩
    unfold fits at h'; simp only at h'; omega
 simpa using key l (0,0)
def fN (d : Nat) : Fm → Nat × Nat
 | .c x=>(0,cN d x)
 | .s x=>sN d x
def fNs (d : Nat) : List Fm → Nat × Nat
 | []=>(0,0)
 | f :: fs=>((fN d f).1 + (fNs d fs).1,(fN d f).2 + (fNs d fs).2)
theorem fNs_c (d : Nat) : ∀ l : List Co,fNs d (l.map .c) = (0,cNs d l)
 | []=>by rw [cNs]; rfl
 | c :: cs=>by rw [List.map_cons,fNs,fNs_c d cs,cNs]; simp [fN]
theorem fNs_s (d : Nat) : ∀ l : List Sp,fNs d (l.map .s) = sNs d l
 | []=>by rw [sNs]; rfl
 | c :: cs=>by rw [List.map_cons,fNs,fNs_s d cs,sNs]; rfl
theorem sNs_app (d : Nat) : ∀ l m : List Sp,sNs d (l ++ m) = ((sNs d l).1 + (sNs d m).1,(sNs d l).2 + (sNs d m).2)
 | [],m=>by rw [sNs]; simp
 | c :: cs,m=>by rw [List.cons_append,sNs,sNs_app d cs m,sNs]; simp only [Nat.add_assoc]
def ci (a : Nat × Nat) : Int × Int:=((a.1 : Int),(a.2 : Int))
theorem over_ci (a : Nat × Nat) : over (ci a) = !decide (fits a):=by
 by_cases h : fits a
 ·rw [decide_eq_true h]
  unfold fits at h; unfold over ci
  simp only [Bool.not_true,Bool.or_eq_false_iff,decide_eq_false_iff_not]; omega
 ·rw [decide_eq_false h]
  unfold fits at h; unfold over ci
  simp only [Bool.not_false,Bool.or_eq_true,decide_eq_true_eq]; omega
def pl2 (a b : Nat × Nat) : Nat × Nat:=(a.1 + b.1,a.2 + b.2)
def WOk (w : List Fm → Nat → Int × Int → W) (l : List Fm) (d : Nat) : Prop:=∀ a : Nat × Nat,(l = [] ∨ fits (pl2 a (fNs d l)) → w l d (ci a) = (true,ci (pl2 a (fNs d l)))) ∧ (¬ (l = [] ∨ fits (pl2 a (fNs d l))) → (w l d (ci a)).1 = false)
theorem wTail_of {w : List Fm → Nat → Int × Int → W} {f : Fm} {d : Nat} (h : WOk w f.parts (d + 1)) (a : Nat × Nat) : (fits (pl2 a (fNs (d + 1) f.parts)) → wTail w f d (ci a) = (true,ci (pl2 a (fNs (d + 1) f.parts)))) ∧ (¬ fits (pl2 a (fNs (d + 1) f.parts)) → (wTail w f d (ci a)).1 = false):=by
 unfold wTail
 rw [over_ci]
 by_cases hf : fits a
 ·rw [decide_eq_true hf,if_neg (by decide)]
  refine ⟨fun h2=>(h a).1 (.inr h2),fun h2=>(h a).2 ?_⟩
  rintro (h3 | h3)
  ·rw [h3,fNs] at h2; exact h2 hf
  ·exact h2 h3
 ·rw [decide_eq_false hf,if_pos (by decide)]
  refine ⟨fun h2=>absurd ?_ hf,fun _=>rfl⟩
  unfold fits pl2 at *; simp only at h2; omega
theorem wStep_of {w : List Fm → Nat → Int × Int → W} {f : Fm} {d : Nat} (hd : d ≤ 16) (h : WOk w f.parts (d + 1)) (hc : ∀ s,f = .s s → WOk w [.c s.cond] 0) (a : Nat × Nat) : (fits (pl2 a (fN d f)) → wStep w f d (ci a) = (true,ci (pl2 a (fN d f)))) ∧ (¬ fits (pl2 a (fN d f)) → (wStep w f d (ci a)).1 = false):=by
 cases f with
 | c x =>
  have ht:=wTail_of h (a.1,a.2 + 1)
  have e : pl2 (a.1,a.2 + 1) (fNs (d + 1) (Fm.c x).parts) = pl2 a (fN d (.c x)):=by
   show pl2 _ (fNs (d + 1) (x.parts.map .c)) = _
   rw [fNs_c]
   cases x with | mk kd v n ps =>
   have e5 : cN d (.mk kd v n ps) = 1 + cNs (d + 1) ps:=by rw [cN,if_neg (show ¬ 16 < d by omega)]
   show _ = pl2 a (0,cN d (.mk kd v n ps))
   rw [e5]
   exact Prod.ext rfl (by show a.2 + 1 + cNs (d + 1) ps = a.2 + (1 + cNs (d + 1) ps); omega)
  rw [e] at ht
  exact ht
 | s x =>
  have e : ∀ b : Nat × Nat,pl2 b (fNs (d + 1) (Fm.s x).parts) = (b.1 + ((sNs (d + 1) x.thn).1 + (sNs (d + 1) x.els).1),b.2 + ((sNs (d + 1) x.thn).2 + (sNs (d + 1) x.els).2)):=fun b=>by
   show pl2 _ (fNs (d + 1) ((x.thn ++ x.els).map .s)) = _
   rw [fNs_s,sNs_app]; rfl
  have e2 : fN d (.s x) = (1 + (sNs (d + 1) x.thn).1 + (sNs (d + 1) x.els).1,(sNs (d + 1) x.thn).2 + (sNs (d + 1) x.els).2 + cz x.cond):=by
   cases x; show sN d _ = _; rw [sN,if_neg (by omega)]; rfl
  rw [e2]
  have ht:=fun b=>wTail_of h b
  simp only [e] at ht
  generalize sNs (d + 1) x.thn = u at *
  generalize sNs (d + 1) x.els = v at *
  unfold wStep
  simp only
  by_cases hz : isZ x.cond = true
  ·rw [if_pos hz]
   have hcz : cz x.cond = 0:=by unfold cz; rw [if_pos hz]
   have:=ht (a.1 + 1,a.2)
   have e3 : ((a.1 + 1,a.2).1 + (u.1 + v.1),(a.1 + 1,a.2).2 + (u.2 + v.2)) = pl2 a (1 + u.1 + v.1,u.2 + v.2 + cz x.cond):=by
    rw [hcz]; simp only [pl2,Prod.mk.injEq]; omega
   rw [e3] at this
   exact this
  ·rw [if_neg hz]
   have hcz : cz x.cond = cN 0 x.cond:=by unfold cz; rw [if_neg hz]
   rw [hcz]
   have hw:=hc x rfl (a.1 + 1,a.2)
   have e4 : fNs 0 [.c x.cond] = (0,cN 0 x.cond):=by rw [fNs,fNs]; simp [fN]
   rw [e4] at hw
   have ea : ci (a.1 + 1,a.2) = ((ci a).1 + 1,(ci a).2):=rfl
   rw [← ea]
   have e3 : ∀ q,((pl2 (a.1 + 1,a.2) (0,q)).1 + (u.1 + v.1),(pl2 (a.1 + 1,a.2) (0,q)).2 + (u.2 + v.2)) = pl2 a (1 + u.1 + v.1,u.2 + v.2 + q):=fun q=>by
    simp only [pl2,Prod.mk.injEq]; omega
   by_cases hf : fits (pl2 (a.1 + 1,a.2) (0,cN 0 x.cond))
   ·have h1:=hw.1 (.inr hf)
    rw [h1,if_pos rfl]
    have:=ht (pl2 (a.1 + 1,a.2) (0,cN 0 x.cond))
    rw [e3] at this
    exact this
   ·have h1:=hw.2 (fun h=>h.elim (fun h=>by cases h) hf)
    rw [if_neg (by rw [h1]; decide)]
    refine ⟨fun h2=>absurd ?_ hf,fun _=>h1⟩
    unfold fits pl2 at *; simp only at *; omega
theorem wF_of : ∀ n l d,Enough n l d → WOk (wF n) l d
 | 0,l,d,he=>absurd he.pos (by omega)
 | n + 1,l,d,he=>by
  intro a
  have ih:=wF_of n
  have hdep:=he.dep
  rw [wF]
  by_cases h0 : l ≠ [] ∧ 16 < d
  ·rw [if_pos h0]
   refine ⟨fun h=>?_,fun _=>rfl⟩
   rcases h with h | h
   ·exact absurd h h0.1
   ·cases l with
    | nil=>exact absurd rfl h0.1
    | cons f fs =>
     have : 1000 ≤ (fN d f).2:=by
      cases f with
      | c x=>cases x; show 1000 ≤ cN d _; rw [cN,if_pos h0.2]; exact zw21 _
      | s x=>cases x; show 1000 ≤ (sN d _).2; rw [sN,if_pos h0.2]; exact zw21 _
     rw [fNs] at h
     unfold fits pl2 at h; simp only at h; omega
  rw [if_neg h0]
  by_cases hl0 : l = []
  ·subst hl0
   refine ⟨fun _=>?_,fun h=>absurd (.inl rfl) h⟩
   rw [wLoop,fNs]; rfl
  have hd : d ≤ 16:=by have : ¬ 16 < d:=fun h=>h0 ⟨hl0,h⟩; omega
  have key : ∀ m : List Fm,(∀ f ∈ m,f ∈ l) → ∀ a : Nat × Nat,fits a ∨ m ≠ [] → (fits (pl2 a (fNs d m)) → wLoop (wF n) m d (ci a) = (true,ci (pl2 a (fNs d m)))) ∧ (¬ fits (pl2 a (fNs d m)) → (wLoop (wF n) m d (ci a)).1 = false):=by
   intro m
   induction m with
   | nil =>
    intro _ a hfa
    rw [wLoop,fNs]
    exact ⟨fun _=>rfl,fun h=>absurd (hfa.resolve_right (fun h=>h rfl)) h⟩
   | cons f fs ihm =>
    intro hm a _
    have hf:=hm f (by simp)
    have hst:=wStep_of (a:=a) hd (ih f.parts (d + 1) (he.parts hd hf)) (fun s hs=>ih _ 0 (he.cond hd (hs ▸ hf)))
    rw [wLoop,fNs]
    have ep : pl2 (pl2 a (fN d f)) (fNs d fs) = pl2 a ((fN d f).1 + (fNs d fs).1,(fN d f).2 + (fNs d fs).2):=by
     simp only [pl2,Nat.add_assoc]
    by_cases h1 : fits (pl2 a (fN d f))
    ·have h2:=hst.1 h1
     rw [h2,if_pos rfl,← ep]
     exact ihm (fun f h=>hm f (by simp [h])) _ (.inl h1)
    ·have h2:=hst.2 h1
     rw [if_neg (by rw [h2]; decide)]
     refine ⟨fun h=>absurd ?_ h1,fun _=>h2⟩
     unfold fits pl2 at *; simp only at *; omega
  have:=key l (fun _ h=>h) a (.inr hl0)
  exact ⟨fun h=>this.1 (h.resolve_left hl0),fun h=>this.2 fun h'=>h (.inr h')⟩
theorem isZ_kind {c : Co} (h : isZ c = true) : vCo c = false:=by
 cases c with | mk kd v n ps =>
 unfold isZ at h
 simp only [Bool.and_eq_true,Co.kind] at h
 have h0:=of_decide_eq_true h.1.1.1
 subst h0
 rw [vCo]; rfl
theorem rcond_v {c : Co} (h : cz c ≤ 256) : decide (rcondF c = 0) = vCo c:=by
 unfold rcondF
 by_cases hz : isZ c = true
 ·rw [isZ_kind hz]
  apply decide_eq_false
  split
  ·decide
  ·simp
 ·have : cz c = cN 0 c:=by unfold cz; rw [if_neg hz]
  rw [this] at h
  rw [(cn_of c 0).1 h,if_neg (by omega)]
  cases vCo c <;> rfl
theorem v_s : ∀ (m : Nat) (s : Sp),SizeOf.sizeOf s ≤ m → ∀ d,fits (sN d s) → rSp s = vSp s
 | 0,s,h=>absurd h (by cases s; simp)
 | m + 1,.mk kd b c t e,hsz=>by
  intro d hf
  simp only [Sp.mk.sizeOf_spec] at hsz
  have key : ∀ l : List Sp,(∀ s ∈ l,SizeOf.sizeOf s ≤ m) → ∀ d,fits (sNs d l) → rSps l = vSps l:=by
   intro l
   induction l with
   | nil=>intro _ d _; rw [rSps,vSps]
   | cons s ss ih =>
    intro hl d hf
    rw [sNs] at hf
    rw [rSps,vSps,v_s m s (hl s (by simp)) d (by unfold fits at *; simp only at hf; omega),ih (fun s h=>hl s (by simp [h])) d (by unfold fits at *; simp only at hf; omega)]
  rw [sN] at hf
  split at hf
  ·unfold fits at hf; simp only at hf; omega
  unfold fits at hf; simp only at hf
  rw [rSp,vSp,key t (fun c h=>by have:=List.sizeOf_lt_of_mem h; omega) (d + 1) (by unfold fits; omega),key e (fun c h=>by have:=List.sizeOf_lt_of_mem h; omega) (d + 1) (by unfold fits; omega),rcond_v (by omega)]
  split
  ·by_cases h1 : (t.length : Int) = 0
   ·by_cases h2 : (e.length : Int) = 0
    ·rw [decide_eq_true h1,decide_eq_true h2,decide_eq_true (show (t.length : Int) + e.length = 0 by omega)]; simp
    ·rw [decide_eq_false h2,decide_eq_false (show ¬ (t.length : Int) + e.length = 0 by omega)]; simp
   ·rw [decide_eq_false h1,decide_eq_false (show ¬ (t.length : Int) + e.length = 0 by omega)]; simp
  ·split
   ·by_cases h1 : (t.length : Int) = 0
    ·rw [decide_eq_true h1,decide_eq_false (show ¬ 0 < (t.length : Int) by omega)]; rfl
    ·rw [decide_eq_false h1,decide_eq_true (show 0 < (t.length : Int) by omega)]; rfl
   ·rfl
theorem vs_of : ∀ l : List Sp,fits (sNs 0 l) → rSps l = vSps l
 | [],_=>by rw [rSps,vSps]
 | s :: ss,hf=>by
  rw [sNs] at hf
  rw [rSps,vSps,v_s _ s (Nat.le_refl _) 0 (by unfold fits at *; simp only at hf; omega),vs_of ss (by unfold fits at *; simp only at hf; omega)]
theorem any_vs : ∀ l : List Sp,((l.map Fm.s).any fun f=>!vFm f) = !vSps l
 | []=>by rw [vSps]; rfl
 | s :: ss=>by rw [List.map_cons,List.any_cons,any_vs ss,vSps]; simp [vFm,Bool.not_and]
theorem order_eq (l : List Sp) : orderF l = rorderF l:=by
 have hw:=wF_of 40 (l.map .s) 0 ⟨by decide,by decide,by decide,fun f hf=>by
  obtain ⟨s,_,rfl⟩:=List.mem_map.1 hf
  simp [need]⟩ (0,0)
 have e4 : pl2 (0,0) (fNs 0 (l.map .s)) = sNs 0 l:=by rw [fNs_s]; simp [pl2]
 rw [e4] at hw
 have ez : ci (0,0) = (0,0):=rfl
 rw [ez] at hw
 have hz:=szT_of l
 unfold orderF checkF rorderF szBig
 by_cases h : fits (sNs 0 l)
 ·rw [hw.1 (.inr h),if_pos rfl,hz.1 h,if_neg (show ¬ (64 < (sNs 0 l).1 ∨ 256 < (sNs 0 l).2) by unfold fits at h; omega),any_vs,vs_of l h,List.length_map]
  by_cases h0 : l.length = 0
  ·rw [if_pos h0,if_pos (by omega)]
  ·rw [if_neg h0,if_neg (show ¬ (l.length : Int) = 0 by omega)]
   cases vSps l <;> rfl
 ·have hl : l ≠ []:=by
   rintro rfl
   exact h (by rw [sNs]; unfold fits; simp)
  have hb:=hz.2 h
  rw [hw.2 (fun hh=>hh.elim (fun h=>hl (by simpa using h)) h),if_neg (by decide),if_pos (show 64 < (szT 0 l).1 ∨ 256 < (szT 0 l).2 by unfold fits at hb; omega)]
end Go.Proofs.YtihibgcojdfndaaGreatDoor
namespace Go.Proofs.YtihibgcojdfndaaGreatDoor
open Go.Tidy Go.ChangeShapes Go.WideShapes Go.ChangeAt Go.RowKit
theorem map_of2 {α β : Type} {f : α → β} {p : α → Prop} : ∀ {l : List β},(∀ y ∈ l,∃ x,y = f x ∧ p x) → ∃ l' : List α,l = l'.map f ∧ ∀ x ∈ l',p x
 | [],_=>⟨[],rfl,fun x h=>by cases h⟩
 | y :: l,h=>by
  obtain ⟨x,hx,hp⟩:=h y (by simp)
  obtain ⟨l',hl,hp'⟩:=map_of2 (l:=l) fun y hy=>h y (by simp [hy])
  exact ⟨x :: l',by rw [hx,hl]; rfl,fun z hz=>by
   rcases List.mem_cons.1 hz with rfl | hz
   ·exact hp
   ·exact hp' z hz⟩
theorem cells_cond : C.P.cellsOf 52 = 4:=by kernel_rfl
theorem cells_conds : C.P.cellsOf 50 = 1:=by kernel_rfl
theorem cells_step : C.P.cellsOf 54 = 8:=by kernel_rfl
theorem cells_steps : C.P.cellsOf 24 = 1:=by kernel_rfl
theorem cells_zone : C.P.cellsOf 185 = 3:=by kernel_rfl
theorem cells_zones : C.P.cellsOf 25 = 1:=by kernel_rfl
theorem cells_rules : C.P.cellsOf 27 = 6:=by kernel_rfl
theorem cells_str : C.P.cellsOf 9 = 1:=by kernel_rfl
theorem len_b {α : Type} {f : α → List D} {l : List α} (h : ∀ e ∈ l.map f,(l.map f).length * slW e.length ≤ reachBytes) (hf : ∀ x,3 ≤ (f x).length) : l.length ≤ 4398046511104:=by
 cases l with
 | nil=>exact zw22 _
 | cons x r =>
  have h1:=h (f x) (by simp)
  unfold slW at h1
  rw [if_pos (hf x),List.length_map] at h1
  have h2 : (x :: r).length * 32 ≤ 140737488351232:=h1
  omega
theorem co_len (c : Co) : 3 ≤ c.cells.length:=by rw [Co.cells_eq]; exact zw18 rfl
theorem sp_len3 (c : Sp) : 3 ≤ c.cells.length:=by rw [Sp.cells_eq]; exact zw18 rfl
theorem mem_at {xs : List D} {i : Nat} {y : D} (h : xs[i]? = some y) : y ∈ xs:=List.mem_of_getElem? h
theorem at_str {xs : List D} {i : Nat} (h : TyI C.P 9 ((xs.drop i).take (C.P.cellsOf 9))) : ∃ s : ByteArray,xs[i]? = some (.str s):=by
 obtain ⟨s,hs,_⟩:=h.strI Tryz.underlying9
 rw [cells_str] at hs
 exact ⟨s,at_one hs⟩
theorem size_at {xs : List D} {els : List (List D)} (h : (.sl els : D) ∈ xs) {y : List D} (hy : y ∈ els) : SizeOf.sizeOf y < SizeOf.sizeOf xs:=by
 have h1:=List.sizeOf_lt_of_mem h
 have h2:=List.sizeOf_lt_of_mem hy
 simp only [D.sl.sizeOf_spec] at h1
 omega
theorem condT_s : ∀ (n : Nat) (xs : List D),SizeOf.sizeOf xs ≤ n → TyI C.P 52 xs → (∀ y ∈ xs,Dsm reachBytes y) → ∃ c : Co,xs = c.cells ∧ LCo c
 | 0,xs,hz,_,_=>absurd hz (by cases xs <;> simp)
 | n + 1,xs,hz,h,hs=>by
  obtain ⟨h1,h2⟩:=h.structI Tryz.underlying52
  rw [cells_cond] at h1
  simp only [List.mem_cons,List.not_mem_nil,or_false,forall_eq_or_imp,forall_eq] at h2
  obtain ⟨a0,a1,a2,a3⟩:=h2
  obtain ⟨n0,b0⟩:=at_int a0
  obtain ⟨n1,b1⟩:=at_int a1
  obtain ⟨n2,b2⟩:=at_int a2
  obtain ⟨els,e3,_,h5⟩:=a3.slI Tryz.underlying50
  rw [cells_conds] at e3
  have b3:=at_one e3
  have hd:=hs _ (mem_at b3)
  obtain ⟨l,rfl,hl⟩:=map_of2 (f:=Co.cells) (p:=LCo) (l:=els) fun y hy =>
   condT_s n y (by have:=size_at (mem_at b3) hy; omega) (h5 y hy) (hd.slI.2 y hy)
  refine ⟨.mk n0 n1 n2 l,?_,.mk (len_b hd.slL co_len) hl⟩
  rw [Co.cells_eq]
  apply List.ext_getElem?
  intro i
  match i with
  | 0=>exact b0
  | 1=>exact b1
  | 2=>exact b2
  | 3=>exact b3
  | i + 4=>rw [List.getElem?_eq_none (by omega)]; rfl
theorem condT {xs : List D} (h : TyI C.P 52 xs) (hs : ∀ y ∈ xs,Dsm reachBytes y) : ∃ c : Co,xs = c.cells ∧ LCo c:=condT_s _ xs (zw21 _) h hs
theorem get_mid {xs ys : List D} {i n : Nat} (h : (xs.drop i).take n = ys) {j : Nat} (hj : j < n) : xs[i + j]? = ys[j]?:=by
 rw [← h,List.getElem?_take,if_pos hj,List.getElem?_drop]
theorem stepT_s : ∀ (n : Nat) (xs : List D),SizeOf.sizeOf xs ≤ n → TyI C.P 54 xs → (∀ y ∈ xs,Dsm reachBytes y) → ∃ c : Sp,xs = c.cells ∧ LSp c
 | 0,xs,hz,_,_=>absurd hz (by cases xs <;> simp)
 | n + 1,xs,hz,h,hs=>by
  obtain ⟨h1,h2⟩:=h.structI Tryz.underlying54
  rw [cells_step] at h1
  simp only [List.mem_cons,List.not_mem_nil,or_false,forall_eq_or_imp,forall_eq] at h2
  obtain ⟨a0,a1,a2,a3,a4⟩:=h2
  obtain ⟨n0,b0⟩:=at_int a0
  obtain ⟨n1,b1⟩:=at_int a1
  obtain ⟨c,hc,hlc⟩:=condT a2 fun y hy=>hs y (List.mem_of_mem_drop (List.mem_of_mem_take hy))
  rw [cells_cond,Co.cells_eq] at hc
  obtain ⟨els,e3,_,h5⟩:=a3.slI Tryz.underlying24
  obtain ⟨els2,e4,_,h6⟩:=a4.slI Tryz.underlying24
  rw [cells_steps] at e3 e4
  have b3:=at_one e3
  have b4:=at_one e4
  have hd:=hs _ (mem_at b3)
  have hd2:=hs _ (mem_at b4)
  obtain ⟨t,rfl,ht⟩:=map_of2 (f:=Sp.cells) (p:=LSp) (l:=els) fun y hy =>
   stepT_s n y (by have:=size_at (mem_at b3) hy; omega) (h5 y hy) (hd.slI.2 y hy)
  obtain ⟨e,rfl,he⟩:=map_of2 (f:=Sp.cells) (p:=LSp) (l:=els2) fun y hy =>
   stepT_s n y (by have:=size_at (mem_at b4) hy; omega) (h6 y hy) (hd2.slI.2 y hy)
  refine ⟨.mk n0 n1 c t e,?_,.mk (len_b hd.slL sp_len3) (len_b hd2.slL sp_len3) hlc ht he⟩
  rw [Sp.cells_eq]
  apply List.ext_getElem?
  intro i
  match i with
  | 0=>exact b0
  | 1=>exact b1
  | 2=>exact get_mid hc (j:=0) (by decide)
  | 3=>exact get_mid hc (j:=1) (by decide)
  | 4=>exact get_mid hc (j:=2) (by decide)
  | 5=>exact get_mid hc (j:=3) (by decide)
  | 6=>exact b3
  | 7=>exact b4
  | i + 8=>rw [List.getElem?_eq_none (by omega)]; rfl
theorem stepsT {xs : List D} (h : TyI C.P 24 xs) (hs : ∀ y ∈ xs,Dsm reachBytes y) : ∃ l : List Sp,xs = [sps l] ∧ LSs l:=by
 obtain ⟨els,rfl,h1,h2⟩:=h.slI Tryz.underlying24
 have hd:=hs (.sl els) (List.mem_singleton.2 rfl)
 obtain ⟨l,rfl,hl⟩:=map_of2 (f:=Sp.cells) (p:=LSp) (l:=els) fun y hy=>stepT_s _ y (zw21 _) (h2 y hy) (hd.slI.2 y hy)
 exact ⟨l,rfl,len_b hd.slL sp_len3,hl⟩
theorem zoneT {xs : List D} (h : TyI C.P 185 xs) (hs : ∀ y ∈ xs,Dsm reachBytes y) : ∃ z : Zn,xs = z.cells ∧ z.name.size ≤ 4611686018427387904:=by
 obtain ⟨h1,h2⟩:=h.structI Tryz.underlying185
 rw [cells_zone] at h1
 simp only [List.mem_cons,List.not_mem_nil,or_false,forall_eq_or_imp,forall_eq] at h2
 obtain ⟨a0,a1,a2⟩:=h2
 obtain ⟨s,b0⟩:=at_str a0
 obtain ⟨n1,b1⟩:=at_int a1
 obtain ⟨n2,b2⟩:=at_int a2
 refine ⟨⟨s,n1,n2⟩,?_,Nat.le_trans (hs _ (mem_at b0)).strI (by decide)⟩
 apply List.ext_getElem?
 intro i
 match i with
 | 0=>exact b0
 | 1=>exact b1
 | 2=>exact b2
 | i + 3=>rw [List.getElem?_eq_none (by omega)]; rfl
theorem zonesT {xs : List D} (h : TyI C.P 25 xs) (hs : ∀ y ∈ xs,Dsm reachBytes y) : ∃ l : List Zn,xs = [zns l] ∧ l.length ≤ 4398046511104 ∧ ∀ z ∈ l,z.name.size ≤ 4611686018427387904:=by
 obtain ⟨els,rfl,h1,h2⟩:=h.slI Tryz.underlying25
 have hd:=hs (.sl els) (List.mem_singleton.2 rfl)
 obtain ⟨l,rfl,hl⟩:=map_of2 (f:=Zn.cells) (p:=fun z=>z.name.size ≤ 4611686018427387904) (l:=els) fun y hy=>zoneT (h2 y hy) (hd.slI.2 y hy)
 exact ⟨l,rfl,len_b hd.slL (fun _=>zw21 3),hl⟩
theorem rulesT {xs : List D} (h : TyI C.P 27 xs) (hs : ∀ y ∈ xs,Dsm reachBytes y) : ∃ r : Ru,xs = r.cells ∧ LRu r:=by
 obtain ⟨h1,h2⟩:=h.structI Tryz.underlying27
 rw [cells_rules] at h1
 simp only [List.mem_cons,List.not_mem_nil,or_false,forall_eq_or_imp,forall_eq] at h2
 obtain ⟨a0,a1,a2,a3,a4,a5⟩:=h2
 obtain ⟨s,b0⟩:=at_str a0
 obtain ⟨n1,b1⟩:=at_int a1
 obtain ⟨n2,b2⟩:=at_int a2
 obtain ⟨n3,b3⟩:=at_int a3
 obtain ⟨o,ho,hlo⟩:=stepsT a4 fun y hy=>hs y (List.mem_of_mem_drop (List.mem_of_mem_take hy))
 obtain ⟨z,hz,hlz,hnz⟩:=zonesT a5 fun y hy=>hs y (List.mem_of_mem_drop (List.mem_of_mem_take hy))
 rw [cells_steps] at ho
 rw [cells_zones] at hz
 have b4:=at_one ho
 have b5:=at_one hz
 refine ⟨⟨s,n1,n2,n3,o,z⟩,?_,⟨zw23 (hs _ (mem_at b0)).strI (by decide),hlo,Nat.le_trans hlz (by decide),hnz⟩⟩
 apply List.ext_getElem?
 intro i
 match i with
 | 0=>exact b0
 | 1=>exact b1
 | 2=>exact b2
 | 3=>exact b3
 | 4=>exact b4
 | 5=>exact b5
 | i + 6=>rw [List.getElem?_eq_none (by omega)]; rfl
end Go.Proofs.YtihibgcojdfndaaGreatDoor
namespace Go.Proofs.YtihibgcojdfndaaGreatDoor
open Go.Tidy
theorem big_iff (l : List Sp) : szBig l ↔ ¬ fits (sNs 0 l):=by
 have h:=szT_of l
 unfold szBig
 by_cases hf : fits (sNs 0 l)
 ·rw [h.1 hf]
  exact ⟨fun h=>absurd hf (by unfold fits; omega),fun h=>absurd hf h⟩
 ·have:=h.2 hf
  exact ⟨fun _=>hf,fun _=>by unfold fits at this; omega⟩
theorem order_ok {l : List Sp} : orderF l = 0 ↔ l ≠ [] ∧ fits (sNs 0 l) ∧ vSps l = true:=by
 rw [order_eq]
 unfold rorderF
 by_cases hf : fits (sNs 0 l)
 ·rw [if_neg (fun h=>(big_iff l).1 h hf),vs_of l hf]
  by_cases h0 : (l.length : Int) = 0
  ·rw [if_pos h0]
   have : l = []:=List.eq_nil_of_length_eq_zero (by omega)
   simp [this]
  ·rw [if_neg h0]
   have : l ≠ []:=by rintro rfl; simp at h0
   cases h : vSps l <;> simp [this,hf]
 ·rw [if_pos ((big_iff l).2 hf)]
  simp [hf]
theorem dSs_ok {l : List Sp} (hl : LSs l) (h : orderF l = 0) (x : En) : ByOk (dSs x [] l):=((direct1_s x _ l (zw21 _) hl.len (order_dsp hl h)) [] byok0).1
end Go.Proofs.YtihibgcojdfndaaGreatDoor
namespace Go.Proofs.YtihibgcojdfndaaGreatDoor.Sts
open Go.Tidy
structure Game where
 (season comp home away : Int)
def Game.cells (g : Game) : List D:=[DI g.season,DI g.comp,DI g.home,DI g.away]
abbrev gameV (g : Game) : V:=.agg (g.cells.map .d)
def Game.ok (g : Game) : Prop:=(0 ≤ g.season ∧ g.season < 64) ∧ (0 ≤ g.comp ∧ g.comp < 16) ∧ (0 ≤ g.home ∧ g.home < 192) ∧ (0 ≤ g.away ∧ g.away < 192) ∧ g.home ≠ g.away
instance (g : Game) : Decidable g.ok:=by unfold Game.ok; infer_instance
variable {L : List Blk} {k : V → List Blk → Prop}
theorem below_c (n m : Int) (h : k (B (decide (0 ≤ n ∧ n < m))) L) : CallP C 192 [I n,I m] L k:=by
 refine zw25 ?_ rfl (fun _=>rfl) h
 clear h
 refine zw24 C_ok Tryz.func192 rfl rfl rfl (zw18 rfl) rfl ?_
 repeat' (first | (refine zw4 (fun h=>?_) (fun h=>?_)) | (refine FinP.same ⟨rfl,congrArg B ?_⟩))
 all_goals (simp_all; try omega)
theorem contest_c (n m : Int) (h : k (B (decide ((0 ≤ n ∧ n < 64) ∧ (0 ≤ m ∧ m < 16)))) L) : CallP C 165 [I n,I m] L k:=by
 refine zw25 ?_ rfl (fun _=>rfl) h
 clear h
 refine zw24 C_ok Tryz.func165 rfl rfl rfl (zw18 rfl) rfl ?_
 refine below_c _ _ ?_
 refine zw4 (fun h=>?_) (fun h=>?_)
 ·refine below_c _ _ ?_
  refine FinP.same ⟨rfl,congrArg B ?_⟩
  simp_all
 ·refine FinP.same ⟨rfl,congrArg B ?_⟩
  simp_all; omega
theorem club_c (n : Int) (h : k (B (decide (0 ≤ n ∧ n < 192))) L) : CallP C 166 [I n] L k:=by
 refine zw25 ?_ rfl (fun _=>rfl) h
 clear h
 refine zw24 C_ok Tryz.func166 rfl rfl rfl (zw18 rfl) rfl ?_
 refine below_c _ _ ?_
 exact FinP.same ⟨rfl,rfl⟩
theorem ite_dec {P : Prop} [Decidable P] {a b x : Int} (h1 : P → x = a) (h2 : ¬ P → x = b) : x = if P then a else b:=by
 by_cases h : P
 ·rw [if_pos h]; exact h1 h
 ·rw [if_neg h]; exact h2 h
theorem dec_of {P : Prop} [Decidable P] {x : Bool} (h1 : P → x = true) (h2 : ¬ P → x = false) : x = decide P:=by
 by_cases h : P
 ·rw [decide_eq_true h]; exact h1 h
 ·rw [decide_eq_false h]; exact h2 h
theorem game_c (g : Game) (h : k (I (if g.ok then 0 else 70)) L) : CallP C 126 [gameV g] L k:=by
 refine zw25 ?_ rfl (fun _=>rfl) h
 clear h
 refine zw24 C_ok Tryz.func126 rfl rfl rfl (zw18 rfl) rfl ?_
 refine contest_c _ _ ?_
 repeat' (first | (refine zw4 (fun h=>?_) (fun h=>?_))|refine club_c _ ?_|refine FinP.zz rfl ⟨rfl,congrArg I ?_⟩)
 all_goals (refine ite_dec (fun ho=>?_) (fun ho=>?_) <;> simp [Game.ok] at * <;> omega)
theorem outside_c (n m : Int) (h : k (B (decide (n < 0 ∨ m < n))) L) : CallP C 167 [I n,.d (.rptr [DI m])] L k:=by
 refine zw25 ?_ rfl (fun _=>rfl) h
 clear h
 refine zw24 C_ok Tryz.func167 rfl rfl rfl (zw18 rfl) rfl ?_
 repeat' (first | (refine zw4 (fun h=>?_) (fun h=>?_)) | (refine FinP.same ⟨rfl,congrArg B ?_⟩))
 all_goals (simp_all; try omega)
theorem indexFunc_c (l : List Int) (hl : l.length ≤ 4611686018427387904) (f : FuncId) (caps : List D) (p : Int → Bool) (hp : ∀ n (L : List Blk) (k : V → List Blk → Prop),k (B (p n)) L → CallP C f ([I n] ++ caps.map .d) L k)
  (h : k (I (findI p l)) L) : CallP C 88 [.d (ints l),.d (.fn f caps)] L k:=by
 refine zw25 ?_ rfl (fun _=>rfl) h
 clear h
 refine zw24 C_ok Tryz.func88 rfl rfl rfl (zw18 rfl) rfl ?_
 refine LoopP.intro (ι:=Far p l) (fun s=>⟨[(0,.d (ints l)),(1,.d (.fn f caps)),(7,I l.length),(8,I s.i)],19,[],[],none⟩) (fun s=>l.length - s.i) (Far.zero p l) ?_ ?_
 ·exact Weak.forget ⟨rfl,rfl,congrArg I (by simp),rfl,trivial⟩
 ·intro s
  refine zw4 (fun h=>?_) (fun h=>?_)
  ·have hi : s.i < l.length:=by simpa using h
   refine zw11 s.i rfl hi ?_
   refine zw6 rfl ?_
   refine hp _ _ _ ?_
   refine zw4 (fun h=>?_) (fun h=>?_)
   ·exact FinP.same ⟨rfl,congrArg I (findI_hit hi h s.no).symm⟩
   ·refine ⟨s.next hi h,by simp only [Far.next]; omega,Weak.forget ⟨rfl,rfl,rfl,congrArg I ?_,trivial⟩⟩
    rw [wrap_id] <;> (try simp only [Far.next]) <;> omega
  ·have hi : ¬ s.i < l.length:=by simpa using h
   exact FinP.same ⟨rfl,congrArg I (findI_miss fun j hj=>s.no j hj (by omega)).symm⟩
theorem containsFunc_c (l : List Int) (hl : l.length ≤ 4611686018427387904) (f : FuncId) (caps : List D) (p : Int → Bool) (hp : ∀ n (L : List Blk) (k : V → List Blk → Prop),k (B (p n)) L → CallP C f ([I n] ++ caps.map .d) L k)
  (h : k (B (l.any p)) L) : CallP C 52 [.d (ints l),.d (.fn f caps)] L k:=by
 refine zw25 ?_ rfl (fun _=>rfl) h
 clear h
 refine zw24 C_ok Tryz.func52 rfl rfl rfl (zw18 rfl) rfl ?_
 refine indexFunc_c l hl f caps p hp ?_
 exact FinP.same ⟨rfl,congrArg B (findI_any p l)⟩
structure Res where
 (game : Game) (hg ag hp ap hc ac day : Int) (forfeit both : Bool)
def Res.cells (r : Res) : List D:=r.game.cells ++ [DI r.hg,DI r.ag,DI r.hp,DI r.ap,DI r.hc,DI r.ac,DI r.day,.bool r.forfeit,.bool r.both]
abbrev resV (r : Res) : V:=.agg (r.cells.map .d)
theorem within_c (m : Int) (l : List Int) (hl : l.length ≤ 4611686018427387904) (h : k (B (!l.any fun n=>decide (n < 0 ∨ m < n))) L) : CallP C 127 [I m,.d (ints l)] L k:=by
 refine zw25 ?_ rfl (fun _=>rfl) h
 clear h
 refine zw24 C_ok Tryz.func127 rfl rfl rfl (zw18 rfl) rfl ?_
 refine zw29 (containsFunc_c l hl 167 [.rptr [DI m]] _ (fun n L k h=>outside_c n m h) ⟨rfl,rfl⟩) (.keep (.cv (.d (.fnL (.cons (.ptrL trivial rfl (.data [DI m])) .nil))) .nil)) rfl rfl ?_
 exact FinP.zz rfl ⟨rfl,rfl⟩
def resOk (r : Res) : Prop:=r.game.ok ∧ (0 ≤ r.hg ∧ r.hg ≤ 99) ∧ (0 ≤ r.ag ∧ r.ag ≤ 99) ∧ (0 ≤ r.hp ∧ r.hp ≤ 99) ∧ (0 ≤ r.ap ∧ r.ap ≤ 99) ∧ (0 ≤ r.hc ∧ r.hc ≤ 120) ∧ (0 ≤ r.ac ∧ r.ac ≤ 120) ∧ (0 ≤ r.day ∧ r.day ≤ 1048576) ∧
 ¬ (r.game.comp < 8 ∧ r.hp + r.ap > 0) ∧ ¬ (r.forfeit = true ∧ r.hp + r.ap + r.hc + r.ac > 0) ∧ ¬ (r.forfeit = true ∧ r.both = false ∧ ¬ (r.hg = 3 ∧ r.ag = 0 ∨ r.hg = 0 ∧ r.ag = 3)) ∧ ¬ (r.both = true ∧ (r.forfeit = false ∨ r.hg + r.ag > 0))
instance (r : Res) : Decidable (resOk r):=by unfold resOk; infer_instance
theorem resOk_iff (r : Res) (hr : r.game.ok ∧ (0 ≤ r.hg ∧ r.hg ≤ 99) ∧ (0 ≤ r.ag ∧ r.ag ≤ 99) ∧ (0 ≤ r.hp ∧ r.hp ≤ 99) ∧ (0 ≤ r.ap ∧ r.ap ≤ 99) ∧ (0 ≤ r.hc ∧ r.hc ≤ 120) ∧ (0 ≤ r.ac ∧ r.ac ≤ 120) ∧ (0 ≤ r.day ∧ r.day ≤ 1048576)) :
  ∃ R : Int,(if resOk r then 0 else 1) = R ∧ ((¬ (r.game.comp < 8 ∧ r.hp + r.ap > 0) ∧ ¬ (r.forfeit = true ∧ r.hp + r.ap + r.hc + r.ac > 0) ∧ ¬ (r.forfeit = true ∧ r.both = false ∧ ¬ (r.hg = 3 ∧ r.ag = 0 ∨ r.hg = 0 ∧ r.ag = 3)) ∧ ¬ (r.both = true ∧ (r.forfeit = false ∨ r.hg + r.ag > 0))) → R = 0) ∧
   (¬ (¬ (r.game.comp < 8 ∧ r.hp + r.ap > 0) ∧ ¬ (r.forfeit = true ∧ r.hp + r.ap + r.hc + r.ac > 0) ∧ ¬ (r.forfeit = true ∧ r.both = false ∧ ¬ (r.hg = 3 ∧ r.ag = 0 ∨ r.hg = 0 ∧ r.ag = 3)) ∧ ¬ (r.both = true ∧ (r.forfeit = false ∨ r.hg + r.ag > 0))) → R = 1):=by
 obtain ⟨g0,g1,g2,g3,g4,g5,g6,g7⟩:=hr
 refine ⟨_,rfl,fun h=>if_pos ?_,fun h=>if_neg fun hh=>h ?_⟩
 ·unfold resOk
  exact ⟨g0,g1,g2,g3,g4,g5,g6,g7,h⟩
 ·unfold resOk at hh
  exact hh.2.2.2.2.2.2.2.2
theorem rescheck_c (r : Res) (h : k (I (if resOk r then 0 else 1)) L) : CallP C 87 [resV r] L k:=by
 refine zw25 ?_ rfl (fun _=>rfl) h
 clear h
 refine zw24 C_ok Tryz.func87 rfl rfl rfl (zw18 rfl) rfl ?_
 refine game_c r.game ?_
 refine zw4 (fun h=>?_) (fun h=>?_)
 ·conv=>whnf
  refine FinP.zz rfl ⟨rfl,congrArg I ?_⟩
  (refine ite_dec (fun ho=>?_) (fun ho=>?_) <;> simp_all [resOk] <;> (try omega))
 refine zw29 (within_c 99 [r.hg,r.ag,r.hp,r.ap] (by simp) ⟨rfl,rfl⟩) (.keep (.cv (.d (.row [[DI r.hg],[DI r.ag],[DI r.hp],[DI r.ap]] trivial rfl rfl rfl (by simp))) .nil)) rfl rfl ?_
 refine zw4 (fun h=>?_) (fun h=>?_)
 ·conv=>whnf
  refine FinP.zz rfl ⟨rfl,congrArg I ?_⟩
  (refine ite_dec (fun ho=>?_) (fun ho=>?_) <;> simp_all [resOk] <;> (try omega))
 refine zw29 (within_c 120 [r.hc,r.ac] (by simp) ⟨rfl,rfl⟩) (.keep (.cv (.d (.row [[DI r.hc],[DI r.ac]] trivial rfl rfl rfl (by simp))) .nil)) rfl rfl ?_
 refine zw4 (fun h=>?_) (fun h=>?_)
 ·conv=>whnf
  refine FinP.zz rfl ⟨rfl,congrArg I ?_⟩
  (refine ite_dec (fun ho=>?_) (fun ho=>?_) <;> simp_all [resOk] <;> (try omega))
 refine zw29 (within_c 1048576 [r.day] (by simp) ⟨rfl,rfl⟩) (.keep (.cv (.d (.row [[DI r.day]] trivial rfl rfl rfl (by simp))) .nil)) rfl rfl ?_
 refine zw4 (fun h=>?_) (fun h=>?_)
 ·conv=>whnf
  refine FinP.zz rfl ⟨rfl,congrArg I ?_⟩
  (refine ite_dec (fun ho=>?_) (fun ho=>?_) <;> simp_all [resOk] <;> (try omega))
 rename_i h1 h2 h3
 have hr : r.game.ok ∧ (0 ≤ r.hg ∧ r.hg ≤ 99) ∧ (0 ≤ r.ag ∧ r.ag ≤ 99) ∧ (0 ≤ r.hp ∧ r.hp ≤ 99) ∧ (0 ≤ r.ap ∧ r.ap ≤ 99) ∧ (0 ≤ r.hc ∧ r.hc ≤ 120) ∧ (0 ≤ r.ac ∧ r.ac ≤ 120) ∧ (0 ≤ r.day ∧ r.day ≤ 1048576):=by
  simp at h h1 h2 h3
  exact ⟨h1,by omega,by omega,by omega,by omega,by omega,by omega,by omega⟩
 clear h h1 h2 h3
 obtain ⟨R,hR,hR0,hR1⟩:=resOk_iff r hr
 rw [hR]
 obtain ⟨g0,g1,g2,g3,g4,g5,g6,g7⟩:=hr
 clear hR g0
 rcases r with ⟨gm,hg,ag,hp,ap,hc,ac,day,forfeit,both⟩
 dsimp only at *
 have e1 : IntKind.i64.wrap (hp + ap) = hp + ap:=wrap_id (by omega) (by omega)
 have e2 : IntKind.i64.wrap (IntKind.i64.wrap (hp + ap) + hc) = hp + ap + hc:=by rw [e1]; exact wrap_id (by omega) (by omega)
 have e3 : IntKind.i64.wrap (IntKind.i64.wrap (IntKind.i64.wrap (hp + ap) + hc) + ac) = hp + ap + hc + ac:=by rw [e2]; exact wrap_id (by omega) (by omega)
 cases forfeit <;> cases both <;> simp at hR0 hR1
 all_goals
  repeat' ((conv=>whnf); first|refine zw0 ?_|refine zw1 ?_|refine zw2 (fun h=>?_) (fun h=>?_)|refine zw3 ?_|(refine zw30 0 rfl (zw18 rfl) ?_)|(refine zw30 1 rfl (zw18 rfl) ?_)|refine FinP.zz rfl ⟨rfl,congrArg I ?_⟩)
 all_goals (try dsimp only at *)
 all_goals omega
theorem ite_int {P : Prop} [Decidable P] : ∃ R : Int,(if P then 0 else 1) = R ∧ (P → R = 0) ∧ (¬ P → R = 1):=⟨_,rfl,fun h=>if_pos h,fun h=>if_neg h⟩
theorem wrap_in {n : Int} (h : -9223372036854775808 ≤ n ∧ n ≤ 9223372036854775807) : IntKind.i64.wrap n = n:=wrap_id h.1 h.2
end Go.Proofs.YtihibgcojdfndaaGreatDoor.Sts
namespace Go.Proofs.YtihibgcojdfndaaGreatDoor.Sts
open Go.Tidy
variable {L : List Blk} {k : V → List Blk → Prop}
structure Row where
 (club played won drawn lost goals against awayFor awayWon cards points : Int)
 deriving DecidableEq,Inhabited
def Row.cells (r : Row) : List D:=[DI r.club,DI r.played,DI r.won,DI r.drawn,DI r.lost,DI r.goals,DI r.against,DI r.awayFor,DI r.awayWon,DI r.cards,DI r.points]
abbrev rowV (r : Row) : V:=.agg (r.cells.map .d)
def rowOk (r : Row) : Prop:=(0 ≤ r.club ∧ r.club ≤ 191) ∧ (0 ≤ r.played ∧ r.played ≤ 1048576) ∧ (0 ≤ r.won ∧ r.won ≤ r.played) ∧ (0 ≤ r.drawn ∧ r.drawn ≤ r.played) ∧ (0 ≤ r.lost ∧ r.lost ≤ r.played) ∧ r.won + r.drawn + r.lost = r.played ∧
 (0 ≤ r.goals ∧ r.goals ≤ 99 * r.played) ∧ (0 ≤ r.against ∧ r.against ≤ 99 * r.played) ∧ (0 ≤ r.awayFor ∧ r.awayFor ≤ r.goals) ∧ (0 ≤ r.awayWon ∧ r.awayWon ≤ r.won) ∧ (0 ≤ r.cards ∧ r.cards ≤ 120 * r.played) ∧ (-99 * r.played ≤ r.points ∧ r.points ≤ 99 * r.played)
instance (r : Row) : Decidable (rowOk r):=by unfold rowOk; infer_instance
theorem cwithin_c (n a b : Int) (h : k (B (decide (a ≤ n ∧ n ≤ b))) L) : CallP C 209 [I n,I a,I b] L k:=by
 refine zw25 ?_ rfl (fun _=>rfl) h
 clear h
 refine zw24 C_ok Tryz.func209 rfl rfl rfl (zw18 rfl) rfl ?_
 repeat' (first | (refine zw4 (fun h=>?_) (fun h=>?_)) | (refine FinP.same ⟨rfl,congrArg B ?_⟩))
 all_goals (simp_all; try omega)
theorem rowcheck_c (r : Row) (h : k (I (if rowOk r then 0 else 1)) L) : CallP C 185 [rowV r] L k:=by
 refine zw25 ?_ rfl (fun _=>rfl) h
 clear h
 refine zw24 C_ok Tryz.func185 rfl rfl rfl (zw18 rfl) rfl ?_
 obtain ⟨R,hR,hR0,hR1⟩:=ite_int (P:=rowOk r)
 rw [hR]; clear hR
 rcases r with ⟨club,played,won,drawn,lost,goals,against,awayFor,awayWon,cards,points⟩
 simp only [rowOk] at hR0 hR1
 have e1 : 0 ≤ played ∧ played ≤ 1048576 ∧ 0 ≤ won ∧ won ≤ played ∧ 0 ≤ drawn ∧ drawn ≤ played → IntKind.i64.wrap (won + drawn) = won + drawn:=fun h=>wrap_in (by omega)
 have e2 : 0 ≤ played ∧ played ≤ 1048576 ∧ 0 ≤ won ∧ won ≤ played ∧ 0 ≤ drawn ∧ drawn ≤ played ∧ 0 ≤ lost ∧ lost ≤ played → IntKind.i64.wrap (IntKind.i64.wrap (won + drawn) + lost) = won + drawn + lost:=fun h=>by rw [e1 (by omega)]; exact wrap_in (by omega)
 have e3 : 0 ≤ played ∧ played ≤ 1048576 → IntKind.i64.wrap (99 * played) = 99 * played:=fun h=>wrap_in (by omega)
 have e4 : 0 ≤ played ∧ played ≤ 1048576 → IntKind.i64.wrap (120 * played) = 120 * played:=fun h=>wrap_in (by omega)
 have e5 : 0 ≤ played ∧ played ≤ 1048576 → IntKind.i64.wrap (-99 * played) = -99 * played:=fun h=>wrap_in (by omega)
 repeat' ((conv=>whnf); first|refine zw2 (fun h=>?_) (fun h=>?_)|refine zw3 ?_|refine cwithin_c _ _ _ ?_|refine FinP.zz rfl ⟨rfl,congrArg I ?_⟩)
 all_goals (try dsimp only at *)
 all_goals first | omega
theorem rowcheck_b (r : Row) (h1 : rowOk r → k (I 0) L) (h2 : ¬ rowOk r → k (I 1) L) : CallP C 185 [rowV r] L k:=by
 refine rowcheck_c r ?_
 by_cases h : rowOk r
 ·rw [if_pos h]; exact h1 h
 ·rw [if_neg h]; exact h2 h
def incr : List Int → Bool
 | []=>true
 | [c]=>decide (0 ≤ c ∧ c < 192)
 | c :: d :: r=>decide (0 ≤ c ∧ c < 192) && decide (c < d) && incr (d :: r)
def okAt (l : List Int) (j : Nat) : Prop:=∀ c,l[j]? = some c → (0 ≤ c ∧ c < 192) ∧ (∀ d,0 < j → l[j - 1]? = some d → d < c)
theorem incr_iff : ∀ l : List Int,incr l = true ↔ ∀ j,okAt l j
 | []=>by simp [incr,okAt]
 | [c]=>by
  simp only [incr,decide_eq_true_eq]
  refine ⟨fun h j x hx=>?_,fun h=>(h 0 c rfl).1⟩
  cases j with
  | zero=>simp at hx; subst hx; exact ⟨h,fun d hd=>absurd hd (by omega)⟩
  | succ j=>simp at hx
 | c :: d :: r=>by
  simp only [incr,Bool.and_eq_true,decide_eq_true_eq]
  rw [incr_iff (d :: r)]
  constructor
  ·rintro ⟨⟨h1,h2⟩,h3⟩ j x hx
   cases j with
   | zero=>simp at hx; subst hx; exact ⟨h1,fun d hd=>absurd hd (by omega)⟩
   | succ j =>
    have:=h3 j x (by simpa using hx)
    refine ⟨this.1,fun y _ hy=>?_⟩
    cases j with
    | zero=>simp at hx hy; subst hx hy; exact h2
    | succ j=>exact this.2 y (by omega) (by simpa using hy)
  ·intro h
   refine ⟨⟨(h 0 c rfl).1,?_⟩,fun j x hx=>⟨(h (j + 1) x (by simpa using hx)).1,fun y hj hy=>?_⟩⟩
   ·exact (h 1 d rfl).2 c (by omega) rfl
   ·refine (h (j + 1) x (by simpa using hx)).2 y (by omega) ?_
    cases j with
    | zero=>omega
    | succ j=>simpa using hy
def fieldOk (l : List Int) (least : Nat) : Bool:=incr l && decide (least ≤ l.length) && decide (l.length ≤ 24)
structure FarOk (l : List Int) where
 i : Nat
 le : i ≤ l.length
 ok : ∀ j,j < i → okAt l j
def FarOk.zero (l : List Int) : FarOk l:=⟨0,Nat.zero_le _,fun j h=>absurd h (Nat.not_lt_zero j)⟩
def FarOk.next {l : List Int} (s : FarOk l) (h : s.i < l.length) (hp : okAt l s.i) : FarOk l :=
 ⟨s.i + 1,h,fun j hj=>by
  by_cases e : j = s.i
  ·subst e; exact hp
  ·exact s.ok j (by omega)⟩
theorem FarOk.all {l : List Int} (s : FarOk l) (h : ¬ s.i < l.length) : incr l = true:=(incr_iff l).2 fun j=>by
 by_cases hj : j < s.i
 ·exact s.ok j hj
 ·intro c hc; have:=lt_of_get hc; omega
theorem okAt_no {l : List Int} {j : Nat} (h : ¬ okAt l j) : incr l = false:=by
 cases e : incr l with
 | false=>rfl
 | true=>exact absurd ((incr_iff l).1 e j) h
theorem fieldOk_no {l : List Int} {j least : Nat} (h : ¬ okAt l j) : false = fieldOk l least:=by simp [fieldOk,okAt_no h]
theorem okAt_at {l : List Int} {j : Nat} (hj : j < l.length) : okAt l j ↔ (0 ≤ l[j] ∧ l[j] < 192) ∧ ∀ h : 0 < j,l[j - 1]'(by omega) < l[j]:=by
 refine ⟨fun h=>⟨(h _ (List.getElem?_eq_getElem hj)).1,fun h0=>(h _ (List.getElem?_eq_getElem hj)).2 _ h0 (List.getElem?_eq_getElem (by omega))⟩,fun h c hc=>?_⟩
 rw [List.getElem?_eq_getElem hj] at hc
 cases hc
 refine ⟨h.1,fun d h0 hd=>?_⟩
 rw [List.getElem?_eq_getElem (by omega)] at hd
 cases hd
 exact h.2 h0
theorem isField_c (l : List Int) (hl : l.length ≤ 4611686018427387904) (h : k (B (fieldOk l 1)) L) : CallP C 98 [.d (ints l)] L k:=by
 refine zw25 ?_ rfl (fun _=>rfl) h
 clear h
 refine zw24 C_ok Tryz.func98 rfl rfl rfl (zw18 rfl) rfl ?_
 conv=>whnf
 refine LoopP.intro (ι:=FarOk l) (fun s=>⟨[(0,.d (ints l)),(2,B false),(5,.d (ints l)),(6,I l.length),(7,I s.i)],40,[],[],none⟩) (fun s=>l.length - s.i) (FarOk.zero l) ?_ ?_
 ·exact Weak.forget ⟨rfl,rfl,rfl,congrArg I (by simp),rfl,trivial⟩
 intro s
 conv=>whnf
 refine zw2 (fun h=>?_) (fun h=>?_)
 ·have hi : s.i < l.length:=by simpa using h
  conv=>whnf
  refine zw11 s.i rfl hi ?_
  repeat' ((conv=>whnf); first|refine zw2 (fun h=>?_) (fun h=>?_)|refine zw6 rfl ?_|refine zw11 (s.i - 1) (by rw [wrap_id] <;> omega) (by omega) ?_|refine FinP.zz rfl ⟨rfl,congrArg B ?_⟩)
  ·exact fieldOk_no (j:=s.i) fun ho=>by have:=((okAt_at hi).1 ho).1; omega
  ·exact fieldOk_no (j:=s.i) fun ho=>by have:=((okAt_at hi).1 ho).1; omega
  ·rename_i h0 h2
   exact fieldOk_no (j:=s.i) fun ho=>by have:=((okAt_at hi).1 ho).2 (by omega); omega
  ·rename_i h3 h2 h1 h0
   exact ⟨s.next hi ((okAt_at hi).2 ⟨by omega,fun _=>by omega⟩),by simp only [FarOk.next]; omega,Weak.by ⟨rfl,rfl,rfl,rfl,congrArg I (by rw [wrap_id] <;> (try simp only [FarOk.next]) <;> omega),trivial⟩⟩
  ·rename_i h2 h1 h0
   exact ⟨s.next hi ((okAt_at hi).2 ⟨by omega,fun _=>by omega⟩),by simp only [FarOk.next]; omega,Weak.by ⟨rfl,rfl,rfl,rfl,congrArg I (by rw [wrap_id] <;> (try simp only [FarOk.next]) <;> omega),trivial⟩⟩
 ·have hi : ¬ s.i < l.length:=by simpa using h
  have hin:=s.all hi
  repeat' ((conv=>whnf); first|refine zw2 (fun h=>?_) (fun h=>?_)|refine FinP.zz rfl ⟨rfl,congrArg B ?_⟩)
  all_goals (simp at *)
  all_goals (rw [Bool.eq_iff_iff]; simp [fieldOk,hin]; omega)
theorem wpoints_c (n : Int) (h : k (B (decide (-99 ≤ n ∧ n ≤ 99))) L) : CallP C 134 [I n] L k:=by
 refine zw25 ?_ rfl (fun _=>rfl) h
 clear h
 refine zw24 C_ok Tryz.func134 rfl rfl rfl (zw18 rfl) rfl ?_
 repeat' ((conv=>whnf); first|refine zw2 (fun h=>?_) (fun h=>?_)|refine FinP.zz rfl ⟨rfl,congrArg B ?_⟩)
 all_goals (simp_all; try omega)
structure Worth where
 (win draw loss : Int)
def Worth.cells (w : Worth) : List D:=[DI w.win,DI w.draw,DI w.loss]
abbrev worthV (w : Worth) : V:=.agg (w.cells.map .d)
def worthOk (w : Worth) : Prop:=(-99 ≤ w.win ∧ w.win ≤ 99) ∧ (-99 ≤ w.draw ∧ w.draw ≤ 99) ∧ (-99 ≤ w.loss ∧ w.loss ≤ 99)
instance (w : Worth) : Decidable (worthOk w):=by unfold worthOk; infer_instance
theorem worth_c (w : Worth) (h : k (B (decide (worthOk w))) L) : CallP C 99 [worthV w] L k:=by
 refine zw25 ?_ rfl (fun _=>rfl) h
 clear h
 refine zw24 C_ok Tryz.func99 rfl rfl rfl (zw18 rfl) rfl ?_
 repeat' ((conv=>whnf); first|refine zw2 (fun h=>?_) (fun h=>?_)|refine wpoints_c _ ?_|refine FinP.zz rfl ⟨rfl,congrArg B ?_⟩)
 all_goals (refine dec_of (fun ho=>?_) (fun ho=>?_) <;> simp [worthOk] at * <;> omega)
abbrev Res.D (r : Res) : List D:=r.cells
def ress (l : List Res) : D:=.sl (l.map Res.cells)
def ressOk (l : List Res) : Bool:=l.all fun r=>decide (resOk r)
structure FarB {α : Type} (p : α → Bool) (l : List α) where
 i : Nat
 le : i ≤ l.length
 ok : ∀ (j : Nat) (hj : j < l.length),j < i → p l[j] = true
def FarB.zero {α : Type} (p : α → Bool) (l : List α) : FarB p l:=⟨0,Nat.zero_le _,fun j _ h=>absurd h (Nat.not_lt_zero j)⟩
def FarB.next {α : Type} {p : α → Bool} {l : List α} (s : FarB p l) (h : s.i < l.length) (hp : p l[s.i] = true) : FarB p l :=
 ⟨s.i + 1,h,fun j hj hji=>by
  by_cases e : j = s.i
  ·subst e; exact hp
  ·exact s.ok j hj (by omega)⟩
theorem FarB.all {α : Type} {p : α → Bool} {l : List α} (s : FarB p l) (h : ¬ s.i < l.length) : l.all p = true:=by
 rw [List.all_eq_true]
 intro x hx
 obtain ⟨j,hj,rfl⟩:=List.getElem_of_mem hx
 exact s.ok j hj (by omega)
theorem all_no {α : Type} {p : α → Bool} {l : List α} {i : Nat} (h : i < l.length) (hp : p l[i] = false) : l.all p = false:=by
 rw [List.all_eq_false]
 exact ⟨l[i],List.getElem_mem h,by simp [hp]⟩
theorem rescheck_b (r : Res) (h1 : resOk r → k (I 0) L) (h2 : ¬ resOk r → k (I 1) L) : CallP C 87 [resV r] L k:=by
 refine rescheck_c r ?_
 by_cases h : resOk r
 ·rw [if_pos h]; exact h1 h
 ·rw [if_neg h]; exact h2 h
def checkF (l : List Res) (clubs : List Int) (w : Worth) : Int:=if fieldOk clubs 1 then if worthOk w then if ressOk l then 0 else 1 else 1 else 190
theorem check_c (l : List Res) (clubs : List Int) (w : Worth) (hl : l.length ≤ 4611686018427387904) (hc : clubs.length ≤ 4611686018427387904) (h : k (I (checkF l clubs w)) L) : CallP C 62 [.d (ress l),.d (ints clubs),worthV w] L k:=by
 refine zw25 ?_ rfl (fun _=>rfl) h
 clear h
 refine zw24 C_ok Tryz.func62 rfl rfl rfl (zw18 rfl) rfl ?_
 repeat' ((conv=>whnf); first|refine zw2 (fun h=>?_) (fun h=>?_)|refine zw3 ?_|refine zw4 (fun h=>?_) (fun h=>?_)|refine isField_c clubs hc ?_|refine worth_c w ?_|refine FinP.zz rfl ⟨rfl,congrArg I ?_⟩)
 ·rename_i hf
  have hw:=h
  conv=>whnf
  refine LoopP.intro (ι:=FarB (fun r=>decide (resOk r)) l) (fun s=>⟨[(5,.ptr 0 0),(6,I 0),(18,.d (ress l)),(19,I l.length),(20,I s.i)],30,[.cells (w.cells.map .d)],[],none⟩) (fun s=>l.length - s.i) (FarB.zero _ l) ?_ ?_
  ·exact Weak.forget ⟨rfl,rfl,rfl,congrArg I (by simp),rfl,trivial⟩
  intro s
  conv=>whnf
  refine zw2 (fun h=>?_) (fun h=>?_)
  ·have hi : s.i < l.length:=by simpa using h
   conv=>whnf
   refine zw11 s.i rfl hi ?_
   repeat' ((conv=>whnf); first|refine zw0 ?_|refine zw1 ?_|refine zw6 rfl ?_|refine rescheck_b l[s.i] (fun hr=>?_) (fun hr=>?_)|refine FinP.zz rfl ⟨rfl,congrArg I ?_⟩)
   ·exact ⟨s.next hi (zw19 hr),by simp only [FarB.next]; omega,Weak.to 1 rfl (zw22 _) (zw18 rfl) ⟨rfl,rfl,rfl,rfl,congrArg I (by rw [wrap_id] <;> (try simp only [FarB.next]) <;> omega),trivial⟩⟩
   ·have:=all_no (p:=fun r=>decide (resOk r)) hi (zw20 hr)
    simp [checkF,hf,hw,ressOk,this]
  ·have hi : ¬ s.i < l.length:=by simpa using h
   have hin:=s.all hi
   repeat' ((conv=>whnf); refine FinP.zz rfl ⟨rfl,congrArg I ?_⟩)
   simp [checkF,hf,hw,ressOk,hin]
 ·rename_i hf
  simp [checkF,hf,h]
 ·simp [checkF,h]
structure Side where
 (club own other cards : Int) (away both : Bool)
def Side.cells (s : Side) : List D:=[DI s.club,DI s.own,DI s.other,DI s.cards,.bool s.away,.bool s.both]
abbrev sideV (s : Side) : V:=.agg (s.cells.map .d)
def W (n : Int) : Int:=IntKind.i64.wrap n
def cBase (r : Row) (s : Side) : Row :=
 { r with played:=W (r.played + 1),goals:=W (r.goals + s.own),against:=W (r.against + s.other),cards:=W (r.cards + s.cards),awayFor:=bif s.away then W (r.awayFor + s.own) else r.awayFor }
def cLost (r : Row) (s : Side) (w : Worth) : Row:={ cBase r s with lost:=W (r.lost + 1),points:=W (r.points + w.loss) }
def cDrawn (r : Row) (s : Side) (w : Worth) : Row:={ cBase r s with drawn:=W (r.drawn + 1),points:=W (r.points + w.draw) }
def cWon (r : Row) (s : Side) (w : Worth) : Row:={ cBase r s with won:=W (r.won + 1),points:=W (r.points + w.win),awayWon:=bif s.away then W (r.awayWon + 1) else r.awayWon }
def countF (r : Row) (s : Side) (w : Worth) : Row:=if s.both = true ∨ s.own < s.other then cLost r s w else if s.own = s.other then cDrawn r s w else cWon r s w
theorem countF_lost {r : Row} {s : Side} {w : Worth} (h : s.both = true ∨ s.own < s.other) : countF r s w = cLost r s w:=if_pos h
theorem countF_drawn {r : Row} {s : Side} {w : Worth} (h : ¬ (s.both = true ∨ s.own < s.other)) (h' : s.own = s.other) : countF r s w = cDrawn r s w:=by rw [countF,if_neg h,if_pos h']
theorem countF_won {r : Row} {s : Side} {w : Worth} (h : ¬ (s.both = true ∨ s.own < s.other)) (h' : ¬ s.own = s.other) : countF r s w = cWon r s w:=by rw [countF,if_neg h,if_neg h']
theorem rowL {r r' : Row} (h : r' = r) : [Blk.cells (r.cells.map V.d)] = [Blk.cells (r'.cells.map V.d)]:=by rw [h]
theorem count_0 (r : Row) (s : Side) (w : Worth) : CallP C 64 [.ptr 0 0,sideV s,worthV w] [.cells (r.cells.map .d)] fun X L=>L = [.cells ((countF r s w).cells.map .d)] ∧ X = .tup []:=by
 rcases s with ⟨club,own,other,cards,away,both⟩
 cases away <;> cases both
 all_goals
  refine zw24 C_ok Tryz.func64 rfl rfl rfl (zw18 rfl) rfl ?_
 all_goals
  repeat' ((conv=>whnf); first|refine zw0 ?_|refine zw1 ?_|refine zw2 (fun h=>?_) (fun h=>?_)|refine zw7 mixed rfl ?_|refine zw15 (n:=1) rfl (zw21 1) rfl rfl ⟨?_,rfl⟩)
 all_goals first | exact rowL (countF_lost (.inl rfl)) | exact rowL (countF_lost (.inr h)) | (rename_i h0; exact rowL (countF_drawn (fun e=>e.elim (fun e=>by cases e) h0) h)) | (rename_i h0; exact rowL (countF_won (fun e=>e.elim (fun e=>by cases e) h0) h))
theorem count_c {b : Nat} (r : Row) (s : Side) (w : Worth) (hb : L[b]? = some (.cells (r.cells.map .d))) (h : k (.tup []) (L.set b (.cells ((countF r s w).cells.map .d)))) : CallP C 64 [.ptr b 0,sideV s,worthV w] L k :=
 (count_0 r s w).at1 hb rfl rfl rfl h rfl rfl rfl
theorem sides_c (l : List Res) (h : k (.d (.fn 100 [.rptr [ress l]])) L) : CallP C 63 [.d (ress l)] L k:=by
 refine zw25 ?_ rfl (fun _=>rfl) h
 clear h
 refine zw24 C_ok Tryz.func63 rfl rfl rfl (zw18 rfl) rfl ?_
 conv=>whnf
 exact zw16 (.d (.fnL (.cons (.ptrL (zw22 _) rfl (.data [ress l])) .nil))) rfl rfl ⟨rfl,rfl⟩
end Go.Proofs.YtihibgcojdfndaaGreatDoor.Sts
namespace Go.Proofs.YtihibgcojdfndaaGreatDoor.Sts
open Go.Tidy
variable {L : List Blk} {k : V → List Blk → Prop}
def homeS (r : Res) : Side:=⟨r.game.home,r.hg,r.ag,r.hc,false,r.both⟩
def awayS (r : Res) : Side:=⟨r.game.away,r.ag,r.hg,r.ac,true,r.both⟩
theorem getN {A : List Blk} {N : Nat} (h : A.length = N) (x : Blk) : (A ++ [x])[N]? = some x:=by subst h; exact List.getElem?_concat_length
theorem setN {A : List Blk} {N : Nat} (h : A.length = N) (x y : Blk) : (A ++ [x]).set N y = A ++ [y]:=by subst h; simp
def Rounds (N : Nat) (k : V → List Blk → Prop) (P : Prop) (M : List Blk) (X : List D) (v : V) (M' : List Blk) : Prop :=
 (v = .d (.bool true) ∧ M' = M ++ [.cells (X.map .d)] ∧ P) ∨ (v = .d (.bool false) ∧ ∃ Z,M' = Z ++ [.cells (X.map .d)] ∧ Z.length = N ∧ belB N Z = true ∧ k (.tup []) Z)
theorem sides1_c (l : List Res) (hl : l.length ≤ 4611686018427387904) (b N : Nat) (P PH : Nat → Prop) (S H : Nat → List Blk) (hS : ∀ i,(S i).length = N) (hH : ∀ i,(H i).length = N) (hbS : ∀ i,belB N (S i) = true) (hb : b < N)
  (hy1 : ∀ (i : Nat) (hi : i < l.length) (X : List D),P i → YieldP C b [sideV (homeS l[i])] (S i ++ [.cells (X.map .d)]) (Rounds N k (PH i) (H i) X))
  (hy2 : ∀ (i : Nat) (hi : i < l.length) (X : List D),PH i → YieldP C b [sideV (awayS l[i])] (H i ++ [.cells (X.map .d)]) (Rounds N k (P (i + 1)) (S (i + 1)) X)) (h0 : P l.length → k (.tup []) (S l.length)) (hP : P 0) :
  CallP C 100 [.yld b,.d (.rptr [ress l])] (S 0) k:=by
 have gS : ∀ i x,(S i ++ [x])[N]? = some x:=fun i x=>getN (hS i) x
 have gH : ∀ i x,(H i ++ [x])[N]? = some x:=fun i x=>getN (hH i) x
 have sS : ∀ i x y,(S i ++ [x]).set N y = S i ++ [y]:=fun i x y=>setN (hS i) x y
 refine zw24 C_ok Tryz.func100 rfl rfl rfl (zw18 rfl) rfl ?_
 conv=>whnf
 refine LoopP.intro (ι:={ i : Nat // i ≤ l.length ∧ P i }) (fun i=>⟨[(0,.yld b),(5,.d (ress l)),(6,I l.length),(7,I i.1)],44,S i.1,[],none⟩) (fun i=>l.length - i.1) ⟨0,Nat.zero_le _,hP⟩ ?_ ?_
 ·exact zw27 ⟨rfl,rfl,congrArg I (by simp),rfl,trivial⟩
 rintro ⟨i,hi,hPi⟩
 conv=>whnf
 refine zw2 (fun h=>?_) (fun h=>?_)
 ·have hi' : i < l.length:=by simpa using h
  conv=>whnf
  refine zw11 i rfl hi' ?_
  repeat' ((conv=>whnf); first|refine zw6 rfl ?_|simp only [gS,hS,sS])
  refine YieldP.mono (hy1 i hi' l[i].cells hPi) ?_
  rintro v M' (⟨rfl,rfl,hPH⟩ | ⟨rfl,Z,rfl,hz1,hz2,hz3⟩)
  ·repeat' (conv => whnf
            first|refine zw1 ?_|simp only [gH])
   refine YieldP.mono (hy2 i hi' l[i].cells hPH) ?_
   rintro v M' (⟨rfl,rfl,hPn⟩ | ⟨rfl,Z,rfl,hz1,hz2,hz3⟩)
   ·repeat' (conv => whnf
             first|refine zw1 ?_)
    conv=>whnf
    refine ⟨⟨i + 1,hi',hPn⟩,by simp only []; omega,Weak.to N ?_ (zw21 _) (by simp [hS]) ⟨rfl,rfl,rfl,congrArg I (by rw [wrap_id] <;> (try simp only []) <;> omega),trivial⟩ (hf:=?_) (hB:=hbS _)⟩
    ·exact List.take_left' (hS _)
    ·simp [belF,V.bel,hb]
   ·repeat' (conv => whnf
             first|refine zw0 ?_)
    conv=>whnf
    refine zw15 (n:=N) (List.take_left' hz1) (zw21 _) rfl hz2 hz3
  ·repeat' (conv => whnf
            first|refine zw0 ?_)
   conv=>whnf
   refine zw15 (n:=N) (List.take_left' hz1) (zw21 _) rfl hz2 hz3
 ·have hie : i = l.length:=by simp at h; omega
  subst hie
  skip
  conv=>whnf
  exact FinP.same (h0 hPi)
def rowC (c : Int) : Row:=⟨c,0,0,0,0,0,0,0,0,0,0⟩
def tallyS (w : Worth) (f : Int → Row) (s : Side) (c : Int) : Row:=if c = s.club then countF (f c) s w else f c
def tally (w : Worth) : List Res → (Int → Row) → Int → Row
 | [],f=>f
 | r :: l,f=>tally w l (tallyS w (tallyS w f (homeS r)) (awayS r))
def known (clubs : List Int) (r : Res) : Bool:=clubs.contains r.game.home && clubs.contains r.game.away
def rowsF (l : List Res) (clubs : List Int) (w : Worth) : List Row × Int :=
 if checkF l clubs w = 0 then if l.all (known clubs) then (clubs.map (tally w l rowC),0) else ([],190) else ([],checkF l clubs w)
def rowsD (R : List Row) : D:=.sl (R.map Row.cells)
def rowBs (R : List Row) : List Blk:=R.map fun r=>.cells (r.cells.map .d)
def esOf (clubs : List Int) : List (V × V):=clubs.zipIdx.map fun p=>(I p.1,.ptr (5 + p.2) 0)
def preM (w : Worth) (es : List (V × V)) : List Blk:=[.cells [.nil],.cells [I 0],.cells (w.cells.map .d),.map es,.cells [.map 3]]
theorem take_next {α : Type} {l : List α} {i : Nat} (h : i < l.length) : l.take (i + 1) = l.take i ++ [l[i]]:=by
 rw [List.take_add_one,List.getElem?_eq_getElem h]; rfl
theorem esOf_next (clubs : List Int) (c : Int) : esOf (clubs ++ [c]) = esOf clubs ++ [(I c,.ptr (5 + clubs.length) 0)]:=by
 simp [esOf,List.zipIdx_append]
theorem esOf_keys (clubs : List Int) : (esOf clubs).map (·.1) = clubs.map fun m=>.d (.int .i64 m):=by
 simp only [esOf,List.map_map]
 rw [← List.zipIdx_map_fst 0 clubs,List.map_map]
 simp
theorem incr_lt : ∀ {l : List Int},incr l = true → l.Pairwise (· < ·)
 | [],_=>.nil
 | [c],_=>by simp
 | c :: d :: r,h=>by
  simp only [incr,Bool.and_eq_true,decide_eq_true_eq] at h
  have ih:=incr_lt h.2
  refine List.pairwise_cons.2 ⟨fun x hx=>?_,ih⟩
  rcases List.mem_cons.1 hx with rfl | hx
  ·exact h.1.2
  ·exact Int.lt_trans h.1.2 ((List.pairwise_cons.1 ih).1 x hx)
theorem incr_nodup {l : List Int} (h : incr l = true) : l.Nodup:=(incr_lt h).imp (fun h e=>by omega)
theorem nodup_take {l : List Int} (h : l.Nodup) {i : Nat} (hi : i < l.length) : l[i] ∉ l.take i:=by
 intro hm
 obtain ⟨j,hj,e⟩:=List.mem_iff_getElem.1 hm
 rw [List.getElem_take] at e
 rw [List.length_take] at hj
 have:=(List.getElem_inj h).1 e
 omega
theorem mem_next (w : Worth) (cl : List Int) (c : Int) : ((preM w (esOf cl) ++ rowBs (cl.map rowC)) ++ [Blk.cells ((rowC c).cells.map .d)]).set 3 (.map (esOf cl ++ [(I c,V.ptr (preM w (esOf cl) ++ rowBs (cl.map rowC)).length 0)])) =
  preM w (esOf (cl ++ [c])) ++ rowBs ((cl ++ [c]).map rowC):=by
 rw [esOf_next]
 simp [preM,rowBs]
 omega
@[irreducible] def Mem (w : Worth) (clubs : List Int) (x : V) (dfr : Blk) (f : Int → Row) (e : Int) (blk : Blk) : List Blk :=
 [.cells [x],.cells [I e],.cells (w.cells.map .d),.map (esOf clubs),.cells [.map 3]] ++ (clubs.map fun c=>Blk.cells ((f c).cells.map .d)) ++ [dfr,blk]
section
variable {x : V} {dfr : Blk} (w : Worth) (clubs : List Int) (f : Int → Row) (e : Int) (blk : Blk) (own : List Blk)
theorem mem_len : (Mem w clubs x dfr f e blk).length = clubs.length + 7:=by unfold Mem; simp
theorem mem_2 : (Mem w clubs x dfr f e blk ++ own)[2]? = some (.cells (w.cells.map .d)):=by unfold Mem; rfl
theorem mem_3 : (Mem w clubs x dfr f e blk ++ own)[3]? = some (.map (esOf clubs)):=by unfold Mem; rfl
theorem mem_4 : (Mem w clubs x dfr f e blk ++ own)[4]? = some (.cells [.map 3]):=by unfold Mem; rfl
theorem mem_0 : (Mem w clubs x dfr f e blk ++ own)[0]? = some (.cells [x]):=by unfold Mem; rfl
theorem mem_1 : (Mem w clubs x dfr f e blk ++ own)[1]? = some (.cells [I e]):=by unfold Mem; rfl
theorem mem_D : (Mem w clubs x dfr f e blk ++ own)[clubs.length + 5]? = some dfr:=by
 unfold Mem
 rw [List.getElem?_append_left (by simp <;> omega),List.getElem?_append_right (by simp <;> omega)]
 simp
theorem mem_B : (Mem w clubs x dfr f e blk ++ own)[clubs.length + 6]? = some blk:=by
 unfold Mem
 rw [List.getElem?_append_left (by simp <;> omega),List.getElem?_append_right (by simp <;> omega)]
 simp
theorem mem_R {j : Nat} (hj : j < clubs.length) : (Mem w clubs x dfr f e blk ++ own)[5 + j]? = some (.cells ((f clubs[j]).cells.map .d)):=by
 unfold Mem
 rw [List.getElem?_append_left (by simp <;> omega),List.getElem?_append_left (by simp <;> omega),List.getElem?_append_right (by simp),List.getElem?_map]
 simp [List.getElem?_eq_getElem hj]
theorem mem_setB (b2 : Blk) : (Mem w clubs x dfr f e blk ++ own).set (clubs.length + 6) b2 = Mem w clubs x dfr f e b2 ++ own:=by
 unfold Mem
 rw [List.set_append_left _ _ (by simp <;> omega),List.set_append_right _ _ (by simp <;> omega)]
 congr 1
 congr 1
 simp
theorem mem_own0 (u : Blk) : (Mem w clubs x dfr f e blk ++ u :: own)[clubs.length + 7]? = some u:=by
 rw [List.getElem?_append_right (by rw [mem_len]; exact zw21 _),mem_len,Nat.sub_self]; rfl
theorem mem_own1 (u v : Blk) : (Mem w clubs x dfr f e blk ++ u :: v :: own)[clubs.length + 8]? = some v:=by
 rw [List.getElem?_append_right (by rw [mem_len]; omega),mem_len,show clubs.length + 8 - (clubs.length + 7) = 1 by omega]; rfl
theorem mem_sown1 (u v z : Blk) : (Mem w clubs x dfr f e blk ++ u :: v :: own).set (clubs.length + 8) z = Mem w clubs x dfr f e blk ++ u :: z :: own:=by
 rw [List.set_append_right _ _ (by rw [mem_len]; omega),mem_len,show clubs.length + 8 - (clubs.length + 7) = 1 by omega]; rfl
theorem mem_set1 (e2 : Int) : (Mem w clubs x dfr f e blk ++ own).set 1 (.cells [I e2]) = Mem w clubs x dfr f e2 blk ++ own:=by unfold Mem; rfl
theorem mem_set0 (y : V) : (Mem w clubs x dfr f e blk ++ own).set 0 (.cells [y]) = Mem w clubs y dfr f e blk ++ own:=by unfold Mem; rfl
theorem mem_setR {clubs : List Int} (hnd : clubs.Nodup) {j : Nat} (hj : j < clubs.length) (r : Row) : (Mem w clubs x dfr f e blk ++ own).set (5 + j) (.cells (r.cells.map .d)) = Mem w clubs x dfr (fun c=>if c = clubs[j] then r else f c) e blk ++ own:=by
 unfold Mem
 rw [List.set_append_left _ _ (by simp <;> omega),List.set_append_left _ _ (by simp <;> omega),List.set_append_right _ _ (by simp)]
 congr 3
 apply List.ext_getElem?
 intro i
 simp only [List.length_cons,List.length_nil,Nat.zero_add,Nat.reduceAdd,Nat.add_sub_cancel_left,List.getElem?_map]
 rw [List.getElem?_set]
 simp only [List.length_map,List.getElem?_map]
 by_cases h : j = i
 ·subst h
  simp [hj,List.getElem?_eq_getElem hj]
 ·rw [if_neg h]
  cases e : clubs[i]? with
  | none=>rfl
  | some c =>
   have hi:=lt_of_get e
   rw [List.getElem?_eq_getElem hi] at e
   cases e
   have : clubs[i] ≠ clubs[j]:=fun he=>h ((List.getElem_inj hnd).1 he).symm
   simp [this]
theorem mem_start {clubs : List Int} {i : Nat} (h : clubs.take i = clubs) : (preM w (esOf (clubs.take i)) ++ rowBs ((clubs.take i).map rowC)) ++ [.defr,blk] = Mem w clubs .nil .defr rowC 0 blk:=by
 unfold Mem
 rw [h]
 simp [preM,rowBs]
theorem mem_slen {clubs : List Int} {i : Nat} (h : clubs.take i = clubs) : (preM w (esOf (clubs.take i)) ++ rowBs ((clubs.take i).map rowC)).length = clubs.length + 5:=by
 rw [h]; simp [preM,rowBs]
theorem belB_append {n : Nat} : ∀ {A B : List Blk},belB n A = true → belB n B = true → belB n (A ++ B) = true
 | [],B,_,h=>h
 | a :: A,B,h,h'=>by
  simp only [belB,Bool.and_eq_true,List.cons_append] at h ⊢
  exact ⟨h.1,belB_append h.2 h'⟩
theorem belB_of {n : Nat} : ∀ {A : List Blk},(∀ x ∈ A,x.bel n = true) → belB n A = true
 | [],_=>rfl
 | a :: A,h=>by
  simp only [belB,Bool.and_eq_true]
  exact ⟨h a (by simp),belB_of fun x hx=>h x (by simp [hx])⟩
theorem belM_of {n : Nat} : ∀ {A : List (V × V)},(∀ x ∈ A,x.1.bel n = true ∧ x.2.bel n = true) → belM n A = true
 | [],_=>rfl
 | a :: A,h=>by
  simp only [belM,Bool.and_eq_true]
  exact ⟨h a (by simp),belM_of fun x hx=>h x (by simp [hx])⟩
theorem mem_bel {n : Nat} (hn : clubs.length + 7 ≤ n) (hb : blk.bel n = true) (hx : x.bel n = true:=by rfl) (hd : dfr.bel n = true:=by rfl) : belB n (Mem w clubs x dfr f e blk) = true:=by
 unfold Mem
 refine belB_append (belB_append ?_ ?_) ?_
 ·simp only [belB,Blk.bel,V.belL,hx,V.bel,V.belL_d,Bool.and_true,Bool.true_and,Bool.and_eq_true,decide_eq_true_eq]
  refine ⟨belM_of ?_,by omega⟩
  intro y hy
  obtain ⟨p,hp,rfl⟩:=List.mem_map.1 hy
  have:=List.snd_lt_of_mem_zipIdx hp
  simp [V.bel]; omega
 ·refine belB_of fun y hy=>?_
  obtain ⟨c,_,rfl⟩:=List.mem_map.1 hy
  exact V.belL_d _ _
 ·simp only [belB,hb,hd]; rfl
end
theorem esOf_get {clubs : List Int} {j : Nat} (hj : j < clubs.length) : (esOf clubs)[j]? = some (I clubs[j],.ptr (5 + j) 0):=by
 simp [esOf,List.getElem?_eq_getElem hj]
theorem MapF.clubs {clubs : List Int} (hnd : clubs.Nodup) {j : Nat} (hj : j < clubs.length) {q : Option (Nat × V) → Prop} (h : q (some (j,.ptr (5 + j) 0))) : MapF (.int .i64) (esOf clubs) (I clubs[j]) q :=
 MapF.ints clubs (esOf_keys clubs) (.inl ⟨j,.ptr (5 + j) 0,List.getElem?_eq_getElem hj,fun i hi e=>by
  have hl:=lt_of_get e
  rw [List.getElem?_eq_getElem hl] at e
  have:=(List.getElem_inj hnd).1 (Option.some.inj e)
  omega,esOf_get hj,h⟩)
def doneB : Blk → Blk
 | .loop r=>.loop { r with st:=.done,pend:=some .ret }
 | b=>b
theorem tally_snoc (w : Worth) : ∀ (l : List Res) (r : Res) (f : Int → Row),tally w (l ++ [r]) f = tallyS w (tallyS w (tally w l f) (homeS r)) (awayS r)
 | [],_,_=>rfl
 | x :: l,r,f=>tally_snoc w l r _
theorem mem_take {x : V} {dfr : Blk} (w : Worth) (clubs : List Int) (f : Int → Row) (e : Int) (blk u v : Blk) : (Mem w clubs x dfr f e blk ++ [u,v]).take (clubs.length + 8) = Mem w clubs x dfr f e blk ++ [u]:=by
 rw [List.take_append,mem_len,show clubs.length + 8 - (clubs.length + 7) = 1 by omega,List.take_of_length_le (by rw [mem_len]; omega)]; rfl
theorem mem_bel1 (w : Worth) (clubs : List Int) (f : Int → Row) (e : Int) (blk : Blk) (X : List D) (h : blk.bel (clubs.length + 8) = true) : belB (clubs.length + 8) (Mem w clubs .nil .defr f e blk ++ [.cells (X.map .d)]) = true :=
 belB_append (mem_bel w clubs f e blk (by omega) h) (by simp only [belB,Blk.bel,V.belL_d,Bool.and_self])
section
variable {x : V} {dfr : Blk} (w : Worth) (clubs : List Int) (f : Int → Row) (e : Int) (blk : Blk)
theorem mem_B' : (Mem w clubs x dfr f e blk)[clubs.length + 6]? = some blk:=by simpa using mem_B (x:=x) (dfr:=dfr) w clubs f e blk []
theorem mem_D' : (Mem w clubs x dfr f e blk)[clubs.length + 5]? = some dfr:=by simpa using mem_D (x:=x) (dfr:=dfr) w clubs f e blk []
theorem mem_0' : (Mem w clubs x dfr f e blk)[0]? = some (.cells [x]):=by simpa using mem_0 (x:=x) (dfr:=dfr) w clubs f e blk []
theorem mem_1' : (Mem w clubs x dfr f e blk)[1]? = some (.cells [I e]):=by simpa using mem_1 (x:=x) (dfr:=dfr) w clubs f e blk []
theorem mem_3' : (Mem w clubs x dfr f e blk)[3]? = some (.map (esOf clubs)):=by simpa using mem_3 (x:=x) (dfr:=dfr) w clubs f e blk []
theorem mem_4' : (Mem w clubs x dfr f e blk)[4]? = some (.cells [.map 3]):=by simpa using mem_4 (x:=x) (dfr:=dfr) w clubs f e blk []
theorem mem_setB' (b2 : Blk) : (Mem w clubs x dfr f e blk).set (clubs.length + 6) b2 = Mem w clubs x dfr f e b2:=by simpa using mem_setB (x:=x) (dfr:=dfr) w clubs f e blk [] b2
theorem mem_setD (own : List Blk) (d2 : Blk) : (Mem w clubs x dfr f e blk ++ own).set (clubs.length + 5) d2 = Mem w clubs x d2 f e blk ++ own:=by
 unfold Mem
 rw [List.set_append_left _ _ (by simp <;> omega),List.set_append_right _ _ (by simp <;> omega)]
 congr 1
 congr 1
 simp
theorem mem_setD' (d2 : Blk) : (Mem w clubs x dfr f e blk).set (clubs.length + 5) d2 = Mem w clubs x d2 f e blk:=by simpa using mem_setD (x:=x) (dfr:=dfr) w clubs f e blk [] d2
theorem mem_noLoop1 (g sz : Nat) (els : List (List V)) : noLoop (Mem w clubs x .defr f e .dead ++ [.row g sz els]) = true:=by
 unfold Mem noLoop
 simp
theorem mem_sown0 (own : List Blk) (u z : Blk) : (Mem w clubs x dfr f e blk ++ u :: own).set (clubs.length + 7) z = Mem w clubs x dfr f e blk ++ z :: own:=by
 rw [List.set_append_right _ _ (by rw [mem_len]; exact zw21 _),mem_len,Nat.sub_self]; rfl
theorem mem_noLoop : noLoop (Mem w clubs x .defr f e .dead) = true:=by
 unfold Mem noLoop
 simp
end
theorem rows_next {clubs : List Int} (F : Int → Row) {j : Nat} (hj : j < clubs.length) : List.take j (List.map (fun c=>List.map V.d (F c).cells) (List.take j clubs)) ++ [(F clubs[j]).cells.map V.d] = (clubs.take (j + 1)).map fun c=>(F c).cells.map V.d:=by
 rw [List.take_of_length_le (by simp; omega),take_next hj,List.map_append]; rfl
theorem belR_of {n : Nat} : ∀ {A : List (List V)},(∀ x ∈ A,V.belL n x = true) → belR n A = true
 | [],_=>rfl
 | a :: A,h=>by
  simp only [belR,Bool.and_eq_true]
  exact ⟨h a (by simp),belR_of fun x hx=>h x (by simp [hx])⟩
theorem mem_belR (w : Worth) (clubs cl : List Int) (F : Int → Row) (g i m : Nat) : belB (clubs.length + 8) (Mem w clubs (.own (clubs.length + 7) g 0 i) .defr F 0 .dead ++ [.row m 11 (cl.map fun c=>(F c).cells.map V.d)]) = true:=by
 refine belB_append (mem_bel w clubs F 0 .dead (by omega) rfl (by simp [V.bel]) rfl) ?_
 simp only [belB,Blk.bel,Bool.and_true]
 refine belR_of fun x hx=>?_
 obtain ⟨c,_,rfl⟩:=List.mem_map.1 hx
 exact V.belL_d _ _
theorem CallP.conv {f : FuncId} {args args' : List V} {L' : List Blk} (ha : args = args') (hL : L = L') (h : CallP C f args' L' k) : CallP C f args L k:=by subst ha hL; exact h
theorem check_b (l : List Res) (clubs : List Int) (w : Worth) (hl : l.length ≤ 4611686018427387904) (hc : clubs.length ≤ 4611686018427387904) (h1 : checkF l clubs w = 0 → k (I 0) L) (h2 : checkF l clubs w ≠ 0 → k (I (checkF l clubs w)) L) :
  CallP C 62 [.d (ress l),.d (ints clubs),worthV w] L k:=by
 refine check_c l clubs w hl hc ?_
 by_cases h : checkF l clubs w = 0
 ·rw [h]; exact h1 h
 ·exact h2 h
theorem rows_c (l : List Res) (clubs : List Int) (w : Worth) (hl : l.length ≤ 4611686018427387904) (hc : clubs.length ≤ 4611686018427387904) (h : k (.tup [.d (rowsD (rowsF l clubs w).1),I (rowsF l clubs w).2]) L) :
  CallP C 26 [.d (ress l),.d (ints clubs),I w.win,I w.draw,I w.loss] L k:=by
 refine zw25 ?_ rfl (fun _=>rfl) h
 clear h
 refine zw24 C_ok Tryz.func26 rfl rfl rfl (zw18 rfl) rfl ?_
 conv=>whnf
 refine check_b l clubs w hl hc (fun h0=>?_) (fun h0=>?_)
 ·have hf : fieldOk clubs 1 = true:=by
   cases e : fieldOk clubs 1 with
   | true=>rfl
   | false=>rw [checkF,e] at h0; simp at h0
  have hinc : incr clubs = true:=by
   simp only [fieldOk,Bool.and_eq_true] at hf; exact hf.1.1
  have hnd:=incr_nodup hinc
  have hlen : clubs.length ≤ 24:=by
   simp only [fieldOk,Bool.and_eq_true,decide_eq_true_eq] at hf; exact hf.2
  conv=>whnf
  refine zw1 ?_
  conv=>whnf
  refine LoopP.intro (ι:={ i : Nat // i ≤ clubs.length })
   (fun i=>⟨[(0,.d (ress l)),(1,.d (ints clubs)),(10,.ptr 0 0),(11,.ptr 1 0),(12,.ptr 2 0),(13,.ptr 4 0),(33,.d (ints clubs)),(34,I clubs.length),(35,I i.1)],77,
    preM w (esOf (clubs.take i.1)) ++ rowBs ((clubs.take i.1).map rowC),[],none⟩) (fun i=>clubs.length - i.1) ⟨0,Nat.zero_le _⟩ ?_ ?_
  ·exact zw27 ⟨rfl,rfl,rfl,rfl,rfl,rfl,rfl,congrArg I (by simp),rfl,trivial⟩
  rintro ⟨i,hi⟩
  conv=>whnf
  refine zw2 (fun h=>?_) (fun h=>?_)
  ·have hi' : i < clubs.length:=by simpa using h
   have hlt : (clubs.take i).length = i:=by rw [List.length_take]; omega
   conv=>whnf
   refine zw11 i rfl hi' ?_
   repeat' ((conv=>whnf); first|refine zw6 rfl ?_|refine MapF.no (clubs.take i) (esOf_keys _) (nodup_take hnd hi') ?_)
   refine ⟨⟨i + 1,hi'⟩,by simp only []; omega,Weak.by ⟨rfl,rfl,rfl,rfl,rfl,rfl,rfl,rfl,congrArg I (by rw [wrap_id] <;> (try simp only []) <;> omega),trivial⟩ ?_⟩
   exact (mem_next w (clubs.take i) clubs[i]).trans (congrArg (fun x=>preM w (esOf x) ++ rowBs (x.map rowC)) (take_next hi').symm)
  ·have hie : clubs.take i = clubs:=List.take_of_length_le (by simp at h; omega)
   repeat' ((conv=>whnf); refine sides_c l ?_)
   conv=>whnf
   refine CallP.conv (congrArg (fun n=>[V.yld (n + 1),.d (.rptr [ress l])]) (mem_slen w hie)) (mem_start w _ hie) ?_
   generalize hblk : Blk.loop _ = blk
   have step : ∀ (f : Int → Row) (s : Side) (X : List D),YieldP C (clubs.length + 6) [sideV s] (Mem w clubs .nil .defr f 0 blk ++ [.cells (X.map .d)]) (fun v M' =>
     (s.club ∈ clubs ∧ v = .d (.bool true) ∧ M' = Mem w clubs .nil .defr (tallyS w f s) 0 blk ++ [.cells (X.map .d)]) ∨ (s.club ∉ clubs ∧ v = .d (.bool false) ∧ M' = Mem w clubs .nil .defr f 190 (doneB blk) ++ [.cells (X.map .d)])):=by
    intro f s X
    subst hblk
    refine YieldP.round C_ok (fun _=>false) ?_
    repeat' ((conv=>whnf); simp only [List.append_assoc,List.cons_append,List.nil_append,List.length_append,List.length_cons,List.length_nil,Nat.zero_add,Nat.add_assoc,Nat.reduceAdd,setB_eq,mem_len,mem_B,mem_2,mem_3,mem_4,mem_own1,mem_sown1,mem_setB])
    by_cases hm : s.club ∈ clubs
    ·obtain ⟨j,hj,hcj⟩:=List.mem_iff_getElem.1 hm
     have hcj' : I s.club = I clubs[j]:=by rw [hcj]
     refine Eq.mpr (congrArg (fun x=>MapF (.int .i64) (esOf clubs) x _) hcj') (MapF.clubs hnd hj ?_)
     repeat' ((conv=>whnf); first|refine zw1 ?_|simp only [List.append_assoc,List.cons_append,List.nil_append,List.length_append,List.length_cons,List.length_nil,Nat.zero_add,Nat.add_assoc,Nat.reduceAdd,setB_eq,mem_len,mem_B,mem_2,mem_3,mem_4,mem_own1,mem_sown1,mem_setB])
     refine count_c (f clubs[j]) s w (mem_R w clubs f 0 _ _ hj) ?_
     repeat' ((conv=>whnf); simp only [List.append_assoc,List.cons_append,List.nil_append,List.length_append,List.length_cons,List.length_nil,Nat.zero_add,Nat.add_assoc,Nat.reduceAdd,setB_eq,mem_len,mem_B,mem_2,mem_3,mem_4,mem_own1,mem_sown1,mem_setB,mem_setR w _ _ _ _ hnd hj])
     conv=>whnf
     refine zw15 (n:=clubs.length + 8) (mem_take w clubs _ _ _ _ _) (zw21 _) rfl (mem_bel1 w clubs _ _ _ _ ?_) (.inl ⟨hm,rfl,?_⟩)
     ·simp [Blk.bel,belF,V.bel,preM,rowBs]; omega
     ·refine congrArg (fun f=>Mem w clubs .nil .defr f 0 _ ++ [_]) (funext fun c=>?_)
      unfold tallyS
      rw [hcj]
      by_cases e : c = s.club
      ·rw [if_pos e,if_pos e,e]
      ·rw [if_neg e,if_neg e]
    ·refine MapF.no clubs (esOf_keys clubs) hm ?_
     repeat' ((conv=>whnf); first|refine zw0 ?_|simp only [List.append_assoc,List.cons_append,List.nil_append,List.length_append,List.length_cons,List.length_nil,Nat.zero_add,Nat.add_assoc,Nat.reduceAdd,setB_eq,mem_len,mem_B,mem_2,mem_3,mem_4,mem_own1,mem_sown1,mem_setB,mem_0,mem_1,mem_set0,mem_set1,setCells,cellsOf])
     conv=>whnf
     refine zw15 (n:=clubs.length + 8) (mem_take w clubs _ _ _ _ _) (zw21 _) rfl (mem_bel1 w clubs _ _ _ _ ?_) (.inr ⟨hm,rfl,rfl⟩)
     simp [Blk.bel,belF,V.bel,preM,rowBs]; omega
   have hbl : blk.bel (clubs.length + 7) = true:=by
    rw [← hblk]
    simp [Blk.bel,belF,V.bel,preM,rowBs]; omega
   have hbd : (doneB blk).bel (clubs.length + 7) = true:=by
    rw [← hblk]
    simp [doneB,Blk.bel,belF,V.bel,preM,rowBs]; omega
   refine sides1_c l hl (clubs.length + 6) (clubs.length + 7) (fun i=>∀ (j : Nat) (hj : j < l.length),j < i → known clubs l[j] = true) (fun i=>(∀ (j : Nat) (hj : j < l.length),j < i → known clubs l[j] = true) ∧ ∃ hi : i < l.length,l[i].game.home ∈ clubs)
    (fun i=>Mem w clubs .nil .defr (tally w (l.take i) rowC) 0 blk) (fun i=>Mem w clubs .nil .defr (match l[i]? with | some r=>tallyS w (tally w (l.take i) rowC) (homeS r) | none=>rowC) 0 blk) (fun _=>mem_len _ _ _ _ _) (fun _=>mem_len _ _ _ _ _) (fun _=>mem_bel _ _ _ _ _ (zw21 _) hbl) (by omega) ?_ ?_ ?_ ?_
   ·intro i hi X hPi
    refine YieldP.mono (step _ (homeS l[i]) X) ?_
    rintro v M' (⟨hm,rfl,rfl⟩ | ⟨hm,rfl,rfl⟩)
    ·exact .inl ⟨rfl,by rw [List.getElem?_eq_getElem hi],hPi,hi,hm⟩
    ·refine .inr ⟨rfl,_,rfl,mem_len _ _ _ _ _,mem_bel _ _ _ _ _ (zw21 _) hbd,?_⟩
     subst hblk
     repeat' ((conv=>whnf); simp only [List.length_cons,List.length_nil,Nat.zero_add,Nat.add_assoc,Nat.reduceAdd,mem_slen w hie,mem_len,mem_B',mem_D',mem_0',mem_1',mem_3',mem_4',mem_setB',mem_setD',mem_noLoop,doneB,Bool.true_and,killAll,List.foldl_cons,List.foldl_nil])
     conv=>whnf
     have hno : rowsF l clubs w = ([],190):=by
      have : l.all (known clubs) = false:=all_no hi (by simp only [known,Bool.and_eq_false_iff,List.contains_eq_mem,decide_eq_false_iff_not]; exact .inl hm)
      rw [rowsF,if_pos h0,this]; rfl
     rw [hno]
     exact zw16 (.pair (.d .nil) (.d (.d _))) rfl rfl ⟨rfl,rfl⟩
   ·intro i hi X ⟨hPi,_,hm1⟩
    rw [List.getElem?_eq_getElem hi]
    refine YieldP.mono (step _ (awayS l[i]) X) ?_
    rintro v M' (⟨hm,rfl,rfl⟩ | ⟨hm,rfl,rfl⟩)
    ·refine .inl ⟨rfl,by rw [take_next hi,tally_snoc],fun j hj hji=>?_⟩
     by_cases e : j = i
     ·subst e
      simp only [known,Bool.and_eq_true,List.contains_iff_mem]
      exact ⟨hm1,hm⟩
     ·exact hPi j hj (by omega)
    ·refine .inr ⟨rfl,_,rfl,mem_len _ _ _ _ _,mem_bel _ _ _ _ _ (zw21 _) hbd,?_⟩
     subst hblk
     repeat' ((conv=>whnf); simp only [List.length_cons,List.length_nil,Nat.zero_add,Nat.add_assoc,Nat.reduceAdd,mem_slen w hie,mem_len,mem_B',mem_D',mem_0',mem_1',mem_3',mem_4',mem_setB',mem_setD',mem_noLoop,doneB,Bool.true_and,killAll,List.foldl_cons,List.foldl_nil])
     conv=>whnf
     have hno : rowsF l clubs w = ([],190):=by
      have : l.all (known clubs) = false:=all_no hi (by simp only [known,Bool.and_eq_false_iff,List.contains_eq_mem,decide_eq_false_iff_not]; exact .inr hm)
      rw [rowsF,if_pos h0,this]; rfl
     rw [hno]
     exact zw16 (.pair (.d .nil) (.d (.d _))) rfl rfl ⟨rfl,rfl⟩
   ·intro hP
    rw [List.take_length]
    subst hblk
    repeat' ((conv=>whnf); simp only [List.length_cons,List.length_nil,Nat.zero_add,Nat.add_assoc,Nat.reduceAdd,mem_slen w hie,mem_len,mem_B',mem_D',mem_0',mem_1',mem_3',mem_4',mem_setB',mem_setD',mem_noLoop,doneB,Bool.true_and,killAll,List.foldl_cons,List.foldl_nil])
    have hyes : rowsF l clubs w = (clubs.map (tally w l rowC),0):=by
     have : l.all (known clubs) = true:=List.all_eq_true.2 fun x hx=>by
      obtain ⟨j,hj,rfl⟩:=List.getElem_of_mem hx
      exact hP j hj hj
     rw [rowsF,if_pos h0,this]; rfl
    rw [hyes]
    generalize tally w l rowC = F
    conv=>whnf
    refine LoopP.intro (ι:={ j : Nat // j ≤ clubs.length })
     (fun j=>⟨[(1,.d (ints clubs)),(10,.ptr 0 0),(11,.ptr 1 0),(13,.ptr 4 0),(61,.d (ints clubs)),(62,I clubs.length),(63,I j.1)],77,
      Mem w clubs (.own (clubs.length + 7) j.1 0 j.1) .defr F 0 .dead ++ [.row j.1 11 ((clubs.take j.1).map fun c=>(F c).cells.map .d)],[clubs.length + 5],none⟩) (fun j=>clubs.length - j.1) ⟨0,Nat.zero_le _⟩ ?_ ?_
    ·exact Weak.nilCellTo 0 0 11 [.nil] (mem_0' _ _ _ _ _) rfl (by decide) (by simp only [mem_len,List.set,mem_set0,List.take_zero,List.map_nil]) ⟨rfl,rfl,rfl,rfl,rfl,congrArg I (by simp),rfl,trivial⟩
    rintro ⟨j,hj⟩
    conv=>whnf
    refine zw2 (fun hb=>?_) (fun hb=>?_)
    ·have hj' : j < clubs.length:=by simpa using hb
     conv=>whnf
     refine zw11 j rfl hj' ?_
     repeat' ((conv=>whnf); first|refine zw6 rfl ?_|simp only [List.append_assoc,List.cons_append,List.nil_append,List.length_append,List.length_cons,List.length_nil,Nat.zero_add,Nat.add_assoc,Nat.reduceAdd,mem_len,mem_0,mem_1,mem_3,mem_4,mem_own0,mem_own1,mem_sown0,mem_set0,mem_set1,setCells,cellsOf,mem_R w clubs _ _ _ _ hj',List.drop_zero,Nat.beq_refl,Bool.and_self]|refine MapF.clubs hnd hj' ?_|refine DrawP.all mixed rfl ?_|refine And.intro ?_ ?_|refine zw6 (zw23 (m:=4294967296) (by simp only [List.take,List.length_cons,List.length_nil]; omega) (zw18 rfl)) ?_)
     all_goals (try conv=>whnf)
     all_goals
      refine ⟨⟨j + 1,hj'⟩,by simp only []; omega,Weak.to (clubs.length + 8) ((mem_take w clubs _ _ _ _ _).trans (congrArg (fun e=>Mem w clubs (.own (clubs.length + 7) (j + 1) 0 (j + 1)) .defr F 0 .dead ++ [.row (j + 1) 11 e]) (rows_next F hj'))) (zw22 _) (by simp [mem_len])
       ⟨rfl,rfl,rfl,rfl,rfl,rfl,congrArg I (by rw [wrap_id] <;> (try simp only []) <;> omega),trivial⟩ (hf:=by simp [belF,V.bel]) (hB:=mem_belR w clubs _ F _ _ _) (hdf:=by simp)⟩
    ·have hie : clubs.take j = clubs:=List.take_of_length_le (by simp at hb; omega)
     have hje : j = clubs.length:=by simp at hb; omega
     repeat' ((conv=>whnf); simp only [List.append_assoc,List.cons_append,List.nil_append,mem_len,mem_0,mem_1,mem_set0,mem_set1,setCells,cellsOf,mem_noLoop1,mem_setD,killAll,List.foldl_cons,List.foldl_nil,Bool.true_and])
     conv=>whnf
     refine zw16 (.pair (.d (.row (sz:=11) (clubs.map fun c=>(F c).cells) (zw22 _) (mem_own0 w clubs F 0 .dead [] _) ?_ ?_ ?_)) (.d (.d _))) rfl rfl ⟨rfl,?_⟩
     ·rw [hie,List.drop_zero,List.take_of_length_le (by simp; omega),List.map_map]; rfl
     ·rw [List.length_map]; exact hje
     ·intro x hx
      obtain ⟨c,_,rfl⟩:=List.mem_map.1 hx
      rfl
     ·rw [rowsD,List.map_map]; rfl
   ·exact fun j hj h=>absurd h (Nat.not_lt_zero j)
 ·rw [show rowsF l clubs w = ([],checkF l clubs w) from if_neg h0]
  conv=>whnf
  refine zw8 (by simp [h0]) ?_
  conv=>whnf
  refine DrawP.all mixed (by kernel_rfl) ?_
  repeat' ((conv=>whnf); first|refine And.intro ?_ ?_|exact trivial)
  all_goals (conv=>whnf)
  all_goals exact zw16 (.pair (.d .nil) (.d (.d _))) rfl rfl ⟨rfl,rfl⟩
end Go.Proofs.YtihibgcojdfndaaGreatDoor.Sts
namespace Go.Proofs.YtihibgcojdfndaaGreatDoor.Sts
open Go.Tidy
variable {L : List Blk} {k : V → List Blk → Prop}
def rowAdd (a b : Row) : Row:=⟨a.club,a.played + b.played,a.won + b.won,a.drawn + b.drawn,a.lost + b.lost,a.goals + b.goals,a.against + b.against,a.awayFor + b.awayFor,a.awayWon + b.awayWon,a.cards + b.cards,a.points + b.points⟩
def row0 : Row:=⟨0,0,0,0,0,0,0,0,0,0,0⟩
def addF (a b : Row) : Row × Int:=if rowOk a ∧ rowOk b then if a.club = b.club then if rowOk (rowAdd a b) then (rowAdd a b,0) else (row0,1) else (row0,190) else (row0,1)
def rowAddW (a b : Row) : Row:=⟨a.club,IntKind.i64.wrap (a.played + b.played),IntKind.i64.wrap (a.won + b.won),IntKind.i64.wrap (a.drawn + b.drawn),IntKind.i64.wrap (a.lost + b.lost),IntKind.i64.wrap (a.goals + b.goals),IntKind.i64.wrap (a.against + b.against),
 IntKind.i64.wrap (a.awayFor + b.awayFor),IntKind.i64.wrap (a.awayWon + b.awayWon),IntKind.i64.wrap (a.cards + b.cards),IntKind.i64.wrap (a.points + b.points)⟩
theorem rowAddW_eq {a b : Row} (ha : rowOk a) (hb : rowOk b) : rowAddW a b = rowAdd a b:=by
 unfold rowOk at ha hb
 unfold rowAddW rowAdd
 congr 1 <;> exact wrap_in (by omega)
theorem addF_sum {a b : Row} (ha : rowOk a) (hb : rowOk b) (h : a.club = b.club) (hs : rowOk (rowAddW a b)) : addF a b = (rowAddW a b,0):=by
 rw [rowAddW_eq ha hb] at hs ⊢
 simp only [addF,ha,hb,h,hs,and_self,if_true]
theorem addF_big {a b : Row} (ha : rowOk a) (hb : rowOk b) (h : a.club = b.club) (hs : ¬ rowOk (rowAddW a b)) : addF a b = (row0,1):=by
 rw [rowAddW_eq ha hb] at hs
 simp only [addF,ha,hb,h,hs,and_self,if_true,if_false]
theorem addF_club {a b : Row} (ha : rowOk a) (hb : rowOk b) (h : ¬ a.club = b.club) : addF a b = (row0,190):=by
 simp only [addF,ha,hb,h,and_self,if_true,if_false]
theorem addF_a {a b : Row} (ha : ¬ rowOk a) : addF a b = (row0,1):=by
 simp only [addF,ha,false_and,if_false]
theorem addF_b {a b : Row} (hb : ¬ rowOk b) : addF a b = (row0,1):=by
 simp only [addF,hb,and_false,if_false]
theorem tupR {a b : Row} {p : Row × Int} (h : addF a b = p) : V.tup [rowV p.1,I p.2] = V.tup [rowV (addF a b).1,I (addF a b).2]:=by rw [h]
theorem add_c (a b : Row) (h : k (.tup [rowV (addF a b).1,I (addF a b).2]) L) : CallP C 160 [rowV a,rowV b] L k:=by
 refine zw25 ?_ rfl (fun _=>rfl) h
 clear h
 refine zw24 C_ok Tryz.func160 rfl rfl rfl (zw18 rfl) rfl ?_
 conv=>whnf
 refine LoopP.intro (ι:={ i : Nat // (i = 0 ∨ (i = 1 ∧ rowOk a)) ∨ (i = 2 ∧ rowOk a ∧ rowOk b) })
  (fun i=>⟨[(2,.ptr 0 0),(3,.ptr 1 0),(4,.ptr 2 0),(5,I 0),(13,.own 3 0 0 2),(14,I 2),(15,I i.1)],92,[.cells (a.cells.map .d),.cells (b.cells.map .d),.cells (row0.cells.map .d),.row 0 11 [a.cells.map .d,b.cells.map .d]],[],none⟩)
  (fun i=>2 - i.1) ⟨0,.inl (.inl rfl)⟩ ?_ ?_
 ·exact Weak.forget ⟨rfl,rfl,rfl,rfl,rfl,rfl,rfl,trivial⟩
 rintro ⟨i,(rfl | ⟨rfl,ha⟩) | ⟨rfl,ha,hb⟩⟩
 ·repeat' (conv => whnf
           first|refine zw0 ?_|refine zw1 ?_|refine zw5 _ rfl ?_|refine zw30 0 rfl (zw18 rfl) ?_|refine rowcheck_b a (fun ha=>?_) (fun ha=>?_)|refine FinP.zz rfl ⟨rfl,?_⟩)
  ·exact ⟨⟨1,.inl (.inr ⟨rfl,ha⟩)⟩,by simp,Weak.to 4 rfl (zw22 _) (zw18 rfl) ⟨rfl,rfl,rfl,rfl,rfl,rfl,rfl,trivial⟩⟩
  ·exact tupR (addF_a ha)
 ·repeat' (conv => whnf
           first|refine zw0 ?_|refine zw1 ?_|refine zw5 _ rfl ?_|refine zw30 1 rfl (zw18 rfl) ?_|refine rowcheck_b b (fun hb=>?_) (fun hb=>?_)|refine FinP.zz rfl ⟨rfl,?_⟩)
  ·exact ⟨⟨2,.inr ⟨rfl,ha,hb⟩⟩,by simp,Weak.to 4 rfl (zw22 _) (zw18 rfl) ⟨rfl,rfl,rfl,rfl,rfl,rfl,rfl,trivial⟩⟩
  ·exact tupR (addF_b hb)
 ·repeat' (conv => whnf
           first|refine zw0 ?_|refine zw1 ?_|refine zw2 (fun h=>?_) (fun h=>?_)|refine zw3 ?_|refine rowcheck_b (rowAddW a b) (fun hs=>?_) (fun hs=>?_)|refine FinP.zz rfl ⟨rfl,?_⟩)
  ·exact tupR (addF_sum ha hb h hs)
  ·exact tupR (addF_big ha hb h hs)
  ·exact tupR (addF_club ha hb h)
theorem vPoints_c (r : Row) (h : k (I r.points) L) : CallP C 202 [rowV r] L k:=by
 refine zw25 ?_ rfl (fun _=>rfl) h
 clear h
 refine zw24 C_ok Tryz.func202 rfl rfl rfl (zw18 rfl) rfl ?_
 skip
 conv=>whnf
 exact FinP.zz rfl ⟨rfl,rfl⟩
theorem vDiff_c (r : Row) (h : k (I (IntKind.i64.wrap (r.goals - r.against))) L) : CallP C 203 [rowV r] L k:=by
 refine zw25 ?_ rfl (fun _=>rfl) h
 clear h
 refine zw24 C_ok Tryz.func203 rfl rfl rfl (zw18 rfl) rfl ?_
 skip
 conv=>whnf
 exact FinP.zz rfl ⟨rfl,rfl⟩
theorem vGoals_c (r : Row) (h : k (I r.goals) L) : CallP C 204 [rowV r] L k:=by
 refine zw25 ?_ rfl (fun _=>rfl) h
 clear h
 refine zw24 C_ok Tryz.func204 rfl rfl rfl (zw18 rfl) rfl ?_
 skip
 conv=>whnf
 exact FinP.zz rfl ⟨rfl,rfl⟩
theorem vAway_c (r : Row) (h : k (I r.awayFor) L) : CallP C 205 [rowV r] L k:=by
 refine zw25 ?_ rfl (fun _=>rfl) h
 clear h
 refine zw24 C_ok Tryz.func205 rfl rfl rfl (zw18 rfl) rfl ?_
 skip
 conv=>whnf
 exact FinP.zz rfl ⟨rfl,rfl⟩
theorem vWon_c (r : Row) (h : k (I r.won) L) : CallP C 206 [rowV r] L k:=by
 refine zw25 ?_ rfl (fun _=>rfl) h
 clear h
 refine zw24 C_ok Tryz.func206 rfl rfl rfl (zw18 rfl) rfl ?_
 skip
 conv=>whnf
 exact FinP.zz rfl ⟨rfl,rfl⟩
theorem vAwayWon_c (r : Row) (h : k (I r.awayWon) L) : CallP C 207 [rowV r] L k:=by
 refine zw25 ?_ rfl (fun _=>rfl) h
 clear h
 refine zw24 C_ok Tryz.func207 rfl rfl rfl (zw18 rfl) rfl ?_
 skip
 conv=>whnf
 exact FinP.zz rfl ⟨rfl,rfl⟩
theorem vFair_c (r : Row) (h : k (I (IntKind.i64.wrap (0 - r.cards))) L) : CallP C 208 [rowV r] L k:=by
 refine zw25 ?_ rfl (fun _=>rfl) h
 clear h
 refine zw24 C_ok Tryz.func208 rfl rfl rfl (zw18 rfl) rfl ?_
 skip
 conv=>whnf
 exact FinP.zz rfl ⟨rfl,rfl⟩
def crit (f : Nat) : V:=.agg [.fn f []]
def critMap : List (V × V):=[(I 1,crit 202),(I 2,crit 203),(I 3,crit 204),(I 5,crit 205),(I 4,crit 206),(I 6,crit 207),(I 7,crit 208),
 (I 8,crit 202),(I 9,crit 203),(I 10,crit 204),(I 11,crit 205)]
theorem criteria_c : CallP C 184 [] [] fun X L=>L = [.map critMap] ∧ X = .map 0:=by
 refine zw24 C_ok Tryz.func184 rfl rfl rfl (zw18 rfl) rfl ?_
 repeat' ((conv=>whnf); refine MapF.miss (by simp [keyV,keyTK]) (by simp) ?_)
 exact FinP.part [4] [.map critMap] (Part.one rfl rfl rfl rfl) (fun b hb=>absurd hb (Nat.not_lt_zero b)) (X':=.map 0) rfl rfl ⟨rfl,rfl⟩
def valueF (r : Row) (by' : Int) : Int :=
 if by' = 1 ∨ by' = 8 then r.points else if by' = 2 ∨ by' = 9 then IntKind.i64.wrap (r.goals - r.against) else if by' = 3 ∨ by' = 10 then r.goals else if by' = 4 then r.won
 else if by' = 5 ∨ by' = 11 then r.awayFor else if by' = 6 then r.awayWon else if by' = 7 then IntKind.i64.wrap (0 - r.cards) else 0
def critKs : List Int:=[1,2,3,5,4,6,7,8,9,10,11]
theorem value_c (r : Row) (n : Int) (h : k (I (valueF r n)) L) : CallP C 158 [rowV r,I n] L k:=by
 refine zw25 ?_ rfl (fun _=>rfl) h
 clear h
 refine zw24 C_ok Tryz.func158 rfl rfl rfl (zw18 rfl) rfl ?_
 conv=>whnf
 refine criteria_c.frame rfl ?_
 rintro X L1 ⟨rfl,rfl⟩
 have hn : n = 1 ∨ n = 2 ∨ n = 3 ∨ n = 5 ∨ n = 4 ∨ n = 6 ∨ n = 7 ∨ n = 8 ∨ n = 9 ∨ n = 10 ∨ n = 11 ∨ (¬ (n = 1 ∨ n = 8) ∧ ¬ (n = 2 ∨ n = 9) ∧ ¬ (n = 3 ∨ n = 10) ∧ n ≠ 4 ∧ ¬ (n = 5 ∨ n = 11) ∧ n ≠ 6 ∧ n ≠ 7):=by omega
 rcases hn with rfl | rfl | rfl | rfl | rfl | rfl | rfl | rfl | rfl | rfl | rfl | ⟨h1,h2,h3,h4,h5,h6,h7⟩
 ·repeat' (conv => whnf
           first|refine zw0 ?_|refine MapF.at critKs 0 _ rfl rfl rfl ?_)
  refine vPoints_c r ?_
  skip
  conv=>whnf
  exact FinP.zz rfl ⟨rfl,rfl⟩
 ·repeat' (conv => whnf
           first|refine zw0 ?_|refine MapF.at critKs 1 _ rfl rfl rfl ?_)
  refine vDiff_c r ?_
  skip
  conv=>whnf
  exact FinP.zz rfl ⟨rfl,rfl⟩
 ·repeat' (conv => whnf
           first|refine zw0 ?_|refine MapF.at critKs 2 _ rfl rfl rfl ?_)
  refine vGoals_c r ?_
  skip
  conv=>whnf
  exact FinP.zz rfl ⟨rfl,rfl⟩
 ·repeat' (conv => whnf
           first|refine zw0 ?_|refine MapF.at critKs 3 _ rfl rfl rfl ?_)
  refine vAway_c r ?_
  skip
  conv=>whnf
  exact FinP.zz rfl ⟨rfl,rfl⟩
 ·repeat' (conv => whnf
           first|refine zw0 ?_|refine MapF.at critKs 4 _ rfl rfl rfl ?_)
  refine vWon_c r ?_
  skip
  conv=>whnf
  exact FinP.zz rfl ⟨rfl,rfl⟩
 ·repeat' (conv => whnf
           first|refine zw0 ?_|refine MapF.at critKs 5 _ rfl rfl rfl ?_)
  refine vAwayWon_c r ?_
  skip
  conv=>whnf
  exact FinP.zz rfl ⟨rfl,rfl⟩
 ·repeat' (conv => whnf
           first|refine zw0 ?_|refine MapF.at critKs 6 _ rfl rfl rfl ?_)
  refine vFair_c r ?_
  skip
  conv=>whnf
  exact FinP.zz rfl ⟨rfl,rfl⟩
 ·repeat' (conv => whnf
           first|refine zw0 ?_|refine MapF.at critKs 7 _ rfl rfl rfl ?_)
  refine vPoints_c r ?_
  skip
  conv=>whnf
  exact FinP.zz rfl ⟨rfl,rfl⟩
 ·repeat' (conv => whnf
           first|refine zw0 ?_|refine MapF.at critKs 8 _ rfl rfl rfl ?_)
  refine vDiff_c r ?_
  skip
  conv=>whnf
  exact FinP.zz rfl ⟨rfl,rfl⟩
 ·repeat' (conv => whnf
           first|refine zw0 ?_|refine MapF.at critKs 9 _ rfl rfl rfl ?_)
  refine vGoals_c r ?_
  skip
  conv=>whnf
  exact FinP.zz rfl ⟨rfl,rfl⟩
 ·repeat' (conv => whnf
           first|refine zw0 ?_|refine MapF.at critKs 10 _ rfl rfl rfl ?_)
  refine vAway_c r ?_
  skip
  conv=>whnf
  exact FinP.zz rfl ⟨rfl,rfl⟩
 ·repeat' (conv => whnf
           first|refine zw1 ?_|refine MapF.no critKs rfl (by simp only [critKs,List.mem_cons,List.not_mem_nil,or_false]; omega) ?_)
  conv=>whnf
  refine FinP.zz rfl ⟨rfl,congrArg I ?_⟩
  simp only [valueF,h1,h2,h3,h4,h5,h6,h7,if_false]
structure RowInv (w : Worth) (n : Int) (r : Row) : Prop where
 played : r.played = n
 parts : r.won + r.drawn + r.lost = n
 won : 0 ≤ r.won
 drawn : 0 ≤ r.drawn
 lost : 0 ≤ r.lost
 goals : 0 ≤ r.goals ∧ r.goals ≤ 99 * n
 against : 0 ≤ r.against ∧ r.against ≤ 99 * n
 awayFor : 0 ≤ r.awayFor ∧ r.awayFor ≤ r.goals
 awayWon : 0 ≤ r.awayWon ∧ r.awayWon ≤ r.won
 cards : 0 ≤ r.cards ∧ r.cards ≤ 120 * n
 points : r.points = w.win * r.won + w.draw * r.drawn + w.loss * r.lost
 bound : -99 * n ≤ r.points ∧ r.points ≤ 99 * n
def AllOk (l : List Res) (clubs : List Int) (w : Worth) : Prop:=fieldOk clubs 1 = true ∧ worthOk w ∧ (∀ r ∈ l,resOk r) ∧ ∀ r ∈ l,known clubs r = true
instance (l : List Res) (clubs : List Int) (w : Worth) : Decidable (AllOk l clubs w):=by unfold AllOk; infer_instance
theorem AllOk.append {l m : List Res} {clubs : List Int} {w : Worth} : AllOk (m ++ l) clubs w ↔ AllOk l clubs w ∧ AllOk m clubs w:=by
 simp only [AllOk,List.mem_append]
 constructor
 ·rintro ⟨h1,h2,h3,h4⟩
  exact ⟨⟨h1,h2,fun r h=>h3 r (.inr h),fun r h=>h4 r (.inr h)⟩,⟨h1,h2,fun r h=>h3 r (.inl h),fun r h=>h4 r (.inl h)⟩⟩
 ·rintro ⟨⟨h1,h2,h3,h4⟩,⟨_,_,h5,h6⟩⟩
  exact ⟨h1,h2,fun r h=>h.elim (h5 r) (h3 r),fun r h=>h.elim (h6 r) (h4 r)⟩
theorem sindex_c (l : List Int) (n : Int) (hl : l.length ≤ 4611686018427387904) (h : k (I (findI (fun m=>decide (n = m)) l)) L) : CallP C 86 [.d (ints l),I n] L k:=by
 refine zw25 ?_ rfl (fun _=>rfl) h
 clear h
 refine zw24 C_ok Tryz.func86 rfl rfl rfl (zw18 rfl) rfl ?_
 conv=>whnf
 refine LoopP.intro (ι:=Far (fun m=>decide (n = m)) l) (fun s=>⟨[(0,.d (ints l)),(1,I n),(7,I l.length),(8,I s.i)],19,[],[],none⟩) (fun s=>l.length - s.i) (Far.zero _ l) ?_ ?_
 ·exact zw27 ⟨rfl,rfl,congrArg I (by simp),rfl,trivial⟩
 intro s
 conv=>whnf
 refine zw2 (fun h=>?_) (fun h=>?_)
 ·have hi : s.i < l.length:=by simpa using h
  repeat' ((conv=>whnf); first|refine zw2 (fun h=>?_) (fun h=>?_)|refine zw6 rfl ?_|refine zw11 s.i rfl hi ?_|refine FinP.zz rfl ⟨rfl,congrArg I ?_⟩)
  ·exact (findI_hit hi (zw19 (by assumption)) s.no).symm
  ·exact ⟨s.next hi (zw20 (by assumption)),by simp only [Far.next]; omega,Weak.by ⟨rfl,rfl,rfl,congrArg I (by rw [wrap_id] <;> (try simp only [Far.next]) <;> omega),trivial⟩⟩
 ·have hi : ¬ s.i < l.length:=by simpa using h
  repeat' ((conv=>whnf); refine FinP.zz rfl ⟨rfl,congrArg I ?_⟩)
  exact (findI_miss fun j hj=>s.no j hj (by omega)).symm
theorem contains_c (l : List Int) (n : Int) (hl : l.length ≤ 4611686018427387904) (h : k (B (l.contains n)) L) : CallP C 45 [.d (ints l),I n] L k:=by
 refine zw25 ?_ rfl (fun _=>rfl) h
 clear h
 refine zw24 C_ok Tryz.func45 rfl rfl rfl (zw18 rfl) rfl ?_
 conv=>whnf
 refine sindex_c l n hl ?_
 skip
 conv=>whnf
 refine FinP.zz rfl ⟨rfl,congrArg B ?_⟩
 rw [findI_any,List.contains_eq_any_beq]
 exact congrArg (fun f=>List.any l f) (funext fun m=>by simp [Bool.beq_eq_decide_eq])
theorem rindexFunc_c (l : List Res) (hl : l.length ≤ 4611686018427387904) (f : FuncId) (caps : List D) (p : Res → Bool) (hp : ∀ n (L : List Blk) (k : V → List Blk → Prop),k (B (p n)) L → CallP C f ([resV n] ++ caps.map .d) L k)
  (h : k (I (findI p l)) L) : CallP C 183 [.d (ress l),.d (.fn f caps)] L k:=by
 refine zw25 ?_ rfl (fun _=>rfl) h
 clear h
 refine zw24 C_ok Tryz.func183 rfl rfl rfl (zw18 rfl) rfl ?_
 conv=>whnf
 refine LoopP.intro (ι:=Far p l) (fun s=>⟨[(0,.d (ress l)),(1,.d (.fn f caps)),(7,I l.length),(8,I s.i)],19,[],[],none⟩) (fun s=>l.length - s.i) (Far.zero p l) ?_ ?_
 ·exact zw27 ⟨rfl,rfl,congrArg I (by simp),rfl,trivial⟩
 intro s
 conv=>whnf
 refine zw4 (fun h=>?_) (fun h=>?_)
 ·have hi : s.i < l.length:=by simpa using h
  repeat' ((conv=>whnf); first|refine zw4 (fun h=>?_) (fun h=>?_)|refine zw6 rfl ?_|refine zw11 s.i rfl hi ?_|refine hp _ _ _ ?_)
  all_goals conv=>whnf
  ·exact FinP.zz rfl ⟨rfl,congrArg I (findI_hit hi h s.no).symm⟩
  ·exact ⟨s.next hi h,by simp only [Far.next]; omega,Weak.by ⟨rfl,rfl,rfl,congrArg I (by rw [wrap_id] <;> (try simp only [Far.next]) <;> omega),trivial⟩⟩
 ·have hi : ¬ s.i < l.length:=by simpa using h
  skip
  conv=>whnf
  exact FinP.zz rfl ⟨rfl,congrArg I (findI_miss fun j hj=>s.no j hj (by omega)).symm⟩
def resE (r : Res) : List V:=r.cells.map V.d
theorem resE_map (l : List Res) : (l.map Res.cells).map (fun e=>e.map V.d) = l.map resE:=by rw [List.map_map]; rfl
theorem cells13 (l : List Res) : ∀ e ∈ l.map Res.cells,e.length = 13:=by
 intro e he
 obtain ⟨r,_,rfl⟩:=List.mem_map.1 he
 rfl
theorem shL_d (n : Nat) : ∀ c : List D,V.shL n (c.map V.d) = c.map V.d
 | []=>rfl
 | x :: c=>by simp only [List.map_cons,V.shL,V.sh,shL_d n c]
theorem shR_res (n : Nat) : ∀ l : List Res,shR n (l.map resE) = l.map resE
 | []=>rfl
 | r :: l=>by simp only [List.map_cons,shR,shR_res n l,resE,shL_d]
theorem res_bel (n g : Nat) (l : List Res) : belB n [.row g 13 (l.map resE)] = true:=by
 simp only [belB,Blk.bel,Bool.and_true]
 refine belR_of fun x hx=>?_
 obtain ⟨c,_,rfl⟩:=List.mem_map.1 hx
 exact V.belL_d _ _
theorem clone_0 (l : List Res) (hl : l.length ≤ 4294967296) : CallP C 156 [.d (ress l)] [] fun X L'=>L' = [.row 1 13 (l.map resE)] ∧ X = .own 0 1 0 l.length:=by
 refine zw24 C_ok Tryz.func156 rfl rfl rfl (zw18 rfl) rfl ?_
 conv=>whnf
 refine NilP.intro (fun h0=>?_) ?_
 ·have hn : l = []:=List.eq_nil_of_length_eq_zero (by simpa using h0)
  subst hn
  repeat' ((conv=>whnf); refine zw0 ?_)
  conv=>whnf
  exact FinP.nilOwn (sz:=13) (gen:=1) (by decide) ⟨rfl,rfl⟩
 ·repeat' (conv => whnf
           first|refine zw1 ?_|refine zw6 (cells13 _) ?_|refine zw6 (by first | omega | (simp; omega) | (refine zw23 (m:=4294967296) ?_ (apLim_ge _); first | omega | (simp; omega))) ?_)
  conv=>whnf
  refine zw15 (n:=1) (L':=[.row 1 13 (l.map resE)]) (congrArg (fun e=>[Blk.row 1 13 e]) ?_) (zw18 rfl) rfl (res_bel _ _ _) ⟨rfl,congrArg (V.own 0 1 0) ?_⟩
  ·simp; intro a _; rfl
  ·simp
theorem clone_c (l : List Res) (hl : l.length ≤ 4294967296) (h : k (.own L.length 1 0 l.length) (L ++ [.row 1 13 (l.map resE)])) : CallP C 156 [.d (ress l)] L k:=by
 refine (clone_0 l hl).frame rfl fun X L' h'=>?_
 obtain ⟨rfl,rfl⟩:=h'
 simpa [V.sh,shB,Blk.sh,shR_res] using h
def zR : List V:=(⟨⟨0,0,0,0⟩,0,0,0,0,0,0,0,false,false⟩ : Res).cells.map V.d
def inG (group : List Int) (l : List Res) : List Res:=l.filter (known group)
theorem findI_all {group : List Int} {l : List Res} (h : findI (fun r=>!known group r) l = -1) : inG group l = l:=by
 refine List.filter_eq_self.2 fun r hr=>?_
 have h2:=findI_any (fun r=>!known group r) l
 rw [h] at h2
 have h3 : l.any (fun r=>!known group r) = false:=by rw [← h2]; rfl
 simpa using List.any_eq_false.1 h3 r hr
theorem findI_some {group : List Int} {l : List Res} (h : findI (fun r=>!known group r) l ≠ -1) : ∃ i : Nat,findI (fun r=>!known group r) l = i ∧ ∃ hi : i < l.length,known group l[i] = false ∧ inG group (l.take i) = l.take i:=by
 unfold findI at h ⊢
 cases e : l.findIdx? (fun r=>!known group r) with
 | none=>rw [e] at h; exact absurd rfl h
 | some i =>
  rw [List.findIdx?_eq_some_iff_getElem] at e
  obtain ⟨hi,h1,h2⟩:=e
  refine ⟨i,rfl,hi,by simpa using h1,List.filter_eq_self.2 fun r hr=>?_⟩
  obtain ⟨j,hj,rfl⟩:=List.getElem_of_mem hr
  simp only [List.length_take] at hj
  have:=h2 j (by omega)
  simpa using this
structure Del (group : List Int) (l : List Res) where
 i : Nat
 j : Nat
 cur : List Res
 len : cur.length = l.length
 ij : i < j
 jl : j ≤ l.length
 kept : cur.take i = inG group (l.take j)
 rest : cur.drop j = l.drop j
theorem Del.at {group : List Int} {l : List Res} (s : Del group l) (hj : s.j < l.length) : s.cur[s.j]'(by rw [s.len]; exact hj) = l[s.j]:=by
 have h:=congrArg (fun x=>x[0]?) s.rest
 simp only [List.getElem?_drop,Nat.add_zero] at h
 rw [List.getElem?_eq_getElem hj,List.getElem?_eq_getElem (by rw [s.len]; exact hj)] at h
 exact Option.some.inj h
theorem drop_next {α : Type} {a b : List α} {j : Nat} (h : a.drop j = b.drop j) : a.drop (j + 1) = b.drop (j + 1):=by
 rw [← List.drop_drop,← List.drop_drop,h]
def Del.skip {group : List Int} {l : List Res} (s : Del group l) (hj : s.j < l.length) (h : known group l[s.j] = false) : Del group l :=
 ⟨s.i,s.j + 1,s.cur,s.len,by have:=s.ij; omega,hj,by rw [take_next hj,inG,List.filter_append,← inG,← s.kept]; simp [h],drop_next s.rest⟩
def Del.keep {group : List Int} {l : List Res} (s : Del group l) (hj : s.j < l.length) (h : known group l[s.j] = true) : Del group l :=
 ⟨s.i + 1,s.j + 1,s.cur.set s.i l[s.j],by rw [List.length_set]; exact s.len,by have:=s.ij; omega,hj,by
  have hi : s.i < s.cur.length:=by rw [s.len]; have:=s.ij; omega
  rw [take_next (by rw [List.length_set]; exact hi),List.take_set_of_le (zw21 _),s.kept,List.getElem_set_self,take_next hj,inG,inG,List.filter_append]
  simp [h],by
  rw [List.drop_set_of_lt (by have:=s.ij; omega)]; exact drop_next s.rest⟩
theorem res2_bel (n g m : Nat) (d : D) (l : List Res) : belB n [.cells [.d d],.row g 13 (l.map resE ++ List.replicate m zR)] = true:=by
 simp only [belB,Blk.bel,V.belL,V.bel,Bool.and_true,Bool.true_and]
 refine belR_of fun x hx=>?_
 rcases List.mem_append.1 hx with hx | hx
 ·obtain ⟨c,_,rfl⟩:=List.mem_map.1 hx
  exact V.belL_d _ _
 ·rw [List.eq_of_mem_replicate hx]
  exact V.belL_d _ _
end Go.Proofs.YtihibgcojdfndaaGreatDoor.Sts
namespace Go.Proofs.YtihibgcojdfndaaGreatDoor
open Go.Tidy
open Sts (Res Row Worth Game rowsF addF rowC valueF inG known worthOk resOk fieldOk)
deriving instance DecidableEq for Sts.Game
structure Cp where
 res : List Res
 (clubs off : List Int)
 ru : Ru
 lots : List Int
def Ru.w (r : Ru) : Worth:=⟨r.win,r.draw,r.loss⟩
def pairI (a b : Int) : List Int:=if b < a then [b,a] else [a,b]
def addS (c : Int) (r : Row) (ss : List Row) : Row:=ss.foldl (fun r s=>if s.club = c then (addF r s).1 else r) r
def hasC (c : Int) (y : Res) : Bool:=decide (y.game.home = c) || decide (y.game.away = c)
def rowStep (w : Worth) (c : Int) (r : Row) (y : Res) : Row:=if hasC c y then addS c r (rowsF [y] (pairI y.game.home y.game.away) w).1 else r
def rowS (w : Worth) (l : List Res) (c : Int) : Row:=l.foldl (rowStep w c) (rowC c)
theorem rowS_next (w : Worth) (c : Int) {l : List Res} {i : Nat} (h : i < l.length) : rowS w (l.take (i + 1)) c = rowStep w c (rowS w (l.take i) c) l[i]:=by
 unfold rowS
 rw [take_next h,List.foldl_append]; rfl
def offF (clubs off : List Int) (c : Int) : Int:=if c ∈ clubs then off.getD (clubs.idxOf c) 0 else 0
def lotF (lots : List Int) (c : Int) : Int:=if c ∈ lots then (lots.idxOf c : Int) else (lots.length : Int)
def headB (b : Int) : Bool:=decide (8 ≤ b) && decide (b ≤ 11)
def playsN (l : List Res) (c : Int) : Int:=((l.filter (hasC c)).length : Nat)
def roundF (l : List Res) (clubs : List Int) : Int:=clubs.foldl (fun n c=>min n (playsN l c)) 46
def envO (l : List Res) (clubs : List Int) (n : Int) (fin : Bool) : En:=⟨n,roundF l clubs,if fin then 1 else 0,(clubs.length : Int)⟩
def offOk (off : List Int) : Bool:=off.all fun n=>decide (0 ≤ n) && decide (n ≤ 9999)
def resAt (l : List Res) (ok : Int → Bool) (j : Nat) : Prop:=∀ r,l[j]? = some r → resOk r ∧ (∀ s,l[0]? = some s → r.game.season = s.game.season ∧ r.game.comp = s.game.comp) ∧ ok r.game.home = true ∧ ok r.game.away = true ∧ ∀ i,i < j → ∀ s,l[i]? = some s → s.game ≠ r.game
open Classical in
noncomputable def ressV (l : List Res) (ok : Int → Bool) : Bool:=decide (∀ j,resAt l ok j)
open Classical in
theorem ressV_iff {l : List Res} {ok : Int → Bool} : ressV l ok = true ↔ ∀ j,resAt l ok j:=by unfold ressV; exact decide_eq_true_iff
def lotsOk (l : List Int) : Bool:=decide l.Nodup && l.all fun c=>decide (0 ≤ c) && decide (c < 192)
noncomputable def openE (p : Cp) (least : Nat) (ok : Int → Bool) : Int :=
 if fieldOk p.clubs least = false then 190
 else if (decide (p.off.length = p.clubs.length) && offOk p.off) = false then 1
 else if rulesF p.ru ≠ 0 then rulesF p.ru
 else if ressV p.res ok = false then 190
 else if lotsOk p.lots = false then 220
 else 0
end Go.Proofs.YtihibgcojdfndaaGreatDoor
namespace Go.Proofs.YtihibgcojdfndaaGreatDoor
open Go.Tidy
open Sts (Res Row Worth Game rowsF addF rowC valueF inG known worthOk resOk fieldOk gameV resV ress)
variable {L : List Blk} {k : V → List Blk → Prop}
theorem insl (l : List Int) : (l.map fun n=>[DI n]).length = l.length:=List.length_map _
theorem ins_at {l : List Int} {i : Nat} (h : i < l.length) : (l.map fun n=>[DI n])[i]? = some [DI l[i]]:=by rw [List.getElem?_map,List.getElem?_eq_getElem h]; rfl
theorem areClubs_c (l : List Int) (n : Nat) (hl : l.length ≤ 4611686018427387904) (h : k (B (fieldOk l n)) L) : CallP C 50 [.d (ins l),I n] L k:=by
 have hml : ((l.map fun n=>[DI n]).length : Int) = (l.length : Int):=by rw [insl]
 refine zw25 ?_ rfl (fun _=>rfl) h
 clear h
 refine zw24 C_ok Tryz.func50 rfl rfl rfl (zw18 rfl) rfl ?_
 by_cases c1 : ((l.map fun n=>[DI n]).length : Int) < (n : Int)
 ·have e : fieldOk l n = false:=by
   unfold fieldOk
   rw [decide_eq_false (show ¬ n ≤ l.length by omega)]; simp
  rw [e]
  repeat' ((conv=>whnf); refine zw8 (zw19 c1) ?_)
  conv=>whnf
  exact FinP.zz rfl ⟨rfl,rfl⟩
 by_cases c2 : (24 : Int) < ((l.map fun n=>[DI n]).length : Int)
 ·have e : fieldOk l n = false:=by
   unfold fieldOk
   rw [decide_eq_false (show ¬ l.length ≤ 24 by omega)]; simp
  rw [e]
  repeat' ((conv=>whnf); first|refine zw9 (zw20 c1) ?_|refine zw8 (zw19 c2) ?_)
  conv=>whnf
  exact FinP.zz rfl ⟨rfl,rfl⟩
 repeat' ((conv=>whnf); first|refine zw9 (zw20 c1) ?_|refine zw9 (zw20 c2) ?_)
 conv=>whnf
 refine zw26 (fun i : Nat=>i ≤ l.length ∧ ∀ j,j < i → Sts.okAt l j) (fun i=>⟨[(0,.d (ins l)),(16,.d (ins l)),(17,I l.length),(18,I i)],Tryz.f50.ntmps,[],[],none⟩) (fun i=>l.length - i) 0 ⟨zw22 _,fun j h=>absurd h (Nat.not_lt_zero j)⟩ ?_ ?_
 ·exact zw27 ⟨rfl,rfl,congrArg I hml,rfl,trivial⟩
 rintro i ⟨hi,h1⟩
 by_cases hi' : i < l.length
 ·have hlt : (i : Int) < (l.length : Int):=by omega
  have hw:=zwW i (by omega)
  have r1:=ins_at hi'
  have hok:=Sts.okAt_at hi'
  by_cases d1 : l[i] < 0
  ·rw [← Sts.fieldOk_no (l:=l) (j:=i) (least:=n) (fun h=>by have:=(hok.1 h).1; omega)]
   repeat' ((conv=>whnf); first|refine zw8 (zw19 hlt) ?_|refine zw8 (zw19 d1) ?_|refine zw10 i _ rfl r1 ?_|refine zw6 rfl ?_)
   conv=>whnf
   exact FinP.zz rfl ⟨rfl,rfl⟩
  by_cases d2 : 192 ≤ l[i]
  ·rw [← Sts.fieldOk_no (l:=l) (j:=i) (least:=n) (fun h=>by have:=(hok.1 h).1; omega)]
   repeat' ((conv=>whnf); first|refine zw8 (zw19 hlt) ?_|refine zw9 (zw20 d1) ?_|refine zw8 (zw19 d2) ?_|refine zw10 i _ rfl r1 ?_|refine zw6 rfl ?_)
   conv=>whnf
   exact FinP.zz rfl ⟨rfl,rfl⟩
  by_cases d3 : (0 : Int) < (i : Int)
  ·have hw2 : IntKind.i64.wrap ((i : Int) - 1) = ((i - 1 : Nat) : Int):=by rw [wrap_in (by omega)]; omega
   have r2:=ins_at (l:=l) (i:=i - 1) (by omega)
   by_cases d4 : l[i] ≤ l[i - 1]
   ·rw [← Sts.fieldOk_no (l:=l) (j:=i) (least:=n) (fun h=>by have:=(hok.1 h).2 (by omega); omega)]
    repeat' ((conv=>whnf); first|refine zw8 (zw19 hlt) ?_|refine zw9 (zw20 d1) ?_|refine zw9 (zw20 d2) ?_|refine zw8 (zw19 d3) ?_|refine zw8 (zw19 d4) ?_|refine zw10 i _ rfl r1 ?_|refine zw10 (i - 1) _ hw2 r2 ?_|refine zw6 rfl ?_)
    conv=>whnf
    exact FinP.zz rfl ⟨rfl,rfl⟩
   ·repeat' (conv => whnf
             first|refine zw8 (zw19 hlt) ?_|refine zw9 (zw20 d1) ?_|refine zw9 (zw20 d2) ?_|refine zw8 (zw19 d3) ?_|refine zw9 (zw20 d4) ?_|refine zw10 i _ rfl r1 ?_|refine zw10 (i - 1) _ hw2 r2 ?_|refine zw6 rfl ?_)
    conv=>whnf
    exact ⟨i + 1,⟨hi',fun j hj=>by
     by_cases e : j = i
     ·subst e; exact hok.2 ⟨by omega,fun _=>by omega⟩
     ·exact h1 j (by omega)⟩,by omega,Weak.by ⟨rfl,rfl,rfl,congrArg I hw,trivial⟩⟩
  ·repeat' (conv => whnf
            first|refine zw8 (zw19 hlt) ?_|refine zw9 (zw20 d1) ?_|refine zw9 (zw20 d2) ?_|refine zw9 (zw20 d3) ?_|refine zw10 i _ rfl r1 ?_|refine zw6 rfl ?_)
   conv=>whnf
   exact ⟨i + 1,⟨hi',fun j hj=>by
    by_cases e : j = i
    ·subst e; exact hok.2 ⟨by omega,fun h=>absurd h (by omega)⟩
    ·exact h1 j (by omega)⟩,by omega,Weak.by ⟨rfl,rfl,rfl,congrArg I hw,trivial⟩⟩
 ·have hlt : ¬ (i : Int) < (l.length : Int):=by omega
  have e : fieldOk l n = true:=by
   unfold fieldOk
   rw [(Sts.incr_iff l).2 fun j=>by
    by_cases hj : j < i
    ·exact h1 j hj
    ·intro c hc; have:=lt_of_get hc; omega,decide_eq_true (show n ≤ l.length by omega),decide_eq_true (show l.length ≤ 24 by omega)]; rfl
  rw [e]
  repeat' ((conv=>whnf); refine zw9 (zw20 hlt) ?_)
  conv=>whnf
  exact FinP.zz rfl ⟨rfl,rfl⟩
theorem among_c (l : List Int) (h : k (.d (.fn 77 [.rptr [ins l]])) L) : CallP C 36 [.d (ins l)] L k:=by
 refine zw25 ?_ rfl (fun _=>rfl) h
 clear h
 refine zw24 C_ok Tryz.func36 rfl rfl rfl (zw18 rfl) rfl ?_
 skip
 conv=>whnf
 exact zw16 (L':=[]) (.d (.fn _ _ _ rfl (CvL.get (.cons (.ptrL (zw22 _) rfl (.cons (.d _) .nil)) .nil)).2)) rfl rfl ⟨rfl,rfl⟩
theorem among1_c (l : List Int) (n : Int) (hl : l.length ≤ 4611686018427387904) (h : k (B (l.contains n)) L) : CallP C 77 [I n,.d (.rptr [ins l])] L k:=by
 have h1 : ∀ {L : List Blk} {k : V → List Blk → Prop},k (B (l.contains n)) L → CallP C 45 [.d (ins l),I n] L k:=fun h=>Sts.contains_c l n hl h
 refine zw25 ?_ rfl (fun _=>rfl) h
 clear h
 refine zw24 C_ok Tryz.func77 rfl rfl rfl (zw18 rfl) rfl ?_
 repeat' ((conv=>whnf); refine h1 ?_)
 conv=>whnf
 exact FinP.zz rfl ⟨rfl,rfl⟩
theorem anyClub_c (n : Int) (h : k (B true) L) : CallP C 41 [I n] L k:=by
 refine zw25 ?_ rfl (fun _=>rfl) h
 clear h
 refine zw24 C_ok Tryz.func41 rfl rfl rfl (zw18 rfl) rfl ?_
 skip
 conv=>whnf
 exact FinP.zz rfl ⟨rfl,rfl⟩
theorem off1_c (n : Int) (h : k (B (!(decide (0 ≤ n) && decide (n ≤ 9999)))) L) : CallP C 75 [I n] L k:=by
 refine zw25 ?_ rfl (fun _=>rfl) h
 clear h
 refine zw24 C_ok Tryz.func75 rfl rfl rfl (zw18 rfl) rfl ?_
 by_cases c1 : n < 0
 ·rw [decide_eq_false (show ¬ 0 ≤ n by omega)]
  repeat' ((conv=>whnf); refine zw8 (zw19 c1) ?_)
  conv=>whnf
  exact FinP.zz rfl ⟨rfl,rfl⟩
 by_cases c2 : 9999 < n
 ·rw [decide_eq_false (show ¬ n ≤ 9999 by omega),Bool.and_false]
  repeat' ((conv=>whnf); refine zw9 (zw20 c1) ?_)
  conv=>whnf
  exact FinP.zz rfl ⟨rfl,congrArg B (zw19 c2)⟩
 ·rw [decide_eq_true (show 0 ≤ n by omega),decide_eq_true (show n ≤ 9999 by omega)]
  repeat' ((conv=>whnf); refine zw9 (zw20 c1) ?_)
  conv=>whnf
  exact FinP.zz rfl ⟨rfl,congrArg B (zw20 c2)⟩
theorem offs_c (off : List Int) (hl : off.length ≤ 4611686018427387904) (h : k (B (!offOk off)) L) : CallP C 52 [.d (ins off),.fn 75 []] L k:=by
 refine CallP.freeze (dargs:=[.d (ins off),.d (.fn 75 [])]) [] rfl rfl (.keep (.cv (.d (Cv.fnL .nil)) .nil)) ?_
 refine Sts.containsFunc_c off hl 75 [] (fun n=>!(decide (0 ≤ n) && decide (n ≤ 9999))) (fun n L k h=>off1_c n h) ?_
 have e : (off.any fun n=>!(decide (0 ≤ n) && decide (n ≤ 9999))) = !offOk off:=by
  unfold offOk
  rw [List.not_all_eq_any_not]
 rw [e]; exact h
abbrev gK : TK:=.keys [.int .i64,.int .i64,.int .i64,.int .i64]
theorem gameV_inj {g h : Game} (e : gameV g = gameV h) : g = h:=by
 cases g; cases h
 simp only [gameV,Sts.Game.cells,List.map_cons,List.map_nil,V.agg.injEq,List.cons.injEq,V.d.injEq,D.int.injEq,true_and,and_true] at e
 obtain ⟨rfl,rfl,rfl,rfl⟩:=e
 rfl
def esG (gs : List Game) : List (V × V):=gs.map fun g=>(gameV g,B true)
theorem MapF.met {gs : List Game} {g : Game} {q : Option (Nat × V) → Prop} (h1 : g ∈ gs → ∀ i,q (some (i,B true))) (h2 : g ∉ gs → q none) : MapF gK (esG gs) (gameV g) q:=by
 have hk : ∀ kv ∈ esG gs,keyV gK kv.1 = true:=fun kv hkv=>by
  obtain ⟨x,_,rfl⟩:=List.mem_map.1 hkv; rfl
 by_cases hm : g ∈ gs
 ·have hi:=List.idxOf_lt_length_of_mem hm
  refine MapF.hit (gs.idxOf g) (B true) hk ?_ (fun j kv hj hkv e=>?_) (h1 hm _)
  ·unfold esG
   rw [List.getElem?_map,List.getElem?_eq_getElem hi,List.getElem_idxOf]; rfl
  ·unfold esG at hkv
   have hjl : j < gs.length:=by omega
   rw [List.getElem?_map,List.getElem?_eq_getElem hjl] at hkv
   cases hkv
   have e2:=gameV_inj e
   have:=List.not_of_lt_findIdx (p:=(· == g)) (xs:=gs) (i:=j) hj
   simp [e2] at this
 ·refine MapF.miss hk (fun kv hkv e=>?_) (h2 hm)
  obtain ⟨x,hx,rfl⟩:=List.mem_map.1 hkv
  exact hm (gameV_inj e ▸ hx)
theorem ress_at {l : List Res} {i : Nat} (h : i < l.length) : (l.map Res.cells)[i]? = some l[i].cells:=by rw [List.getElem?_map,List.getElem?_eq_getElem h]; rfl
theorem ressV_no {l : List Res} {ok : Int → Bool} {i : Nat} (h : ¬ resAt l ok i) : false = ressV l ok:=by
 cases e : ressV l ok with
 | false=>rfl
 | true=>exact absurd (ressV_iff.1 e i) h
theorem esG_bel (n : Nat) (gs : List Game) : belM n (esG gs) = true:=by
 unfold esG
 induction gs with
 | nil=>rfl
 | cons a r ih=>simp only [List.map_cons,belM,V.bel,V.belL,Bool.and_true,Bool.true_and]; exact ih
theorem resAt_at {l : List Res} {ok : Int → Bool} {i : Nat} (h : i < l.length) : resAt l ok i ↔ resOk l[i] ∧ (l[i].game.season = (l[0]'(by omega)).game.season ∧ l[i].game.comp = (l[0]'(by omega)).game.comp) ∧ ok l[i].game.home = true ∧ ok l[i].game.away = true ∧ l[i].game ∉ (l.take i).map (·.game):=by
 unfold resAt
 have h0 : 0 < l.length:=by omega
 constructor
 ·intro hr
  obtain ⟨a,b,c,d,e⟩:=hr _ (List.getElem?_eq_getElem h)
  refine ⟨a,b _ (List.getElem?_eq_getElem h0),c,d,fun hm=>?_⟩
  obtain ⟨s,hs,hse⟩:=List.mem_map.1 hm
  obtain ⟨j,hj,rfl⟩:=List.mem_iff_getElem.1 hs
  rw [List.length_take] at hj
  rw [List.getElem_take] at hse
  exact e j (by omega) _ (List.getElem?_eq_getElem (by omega)) hse
 ·rintro ⟨a,b,c,d,e⟩ r hr
  rw [List.getElem?_eq_getElem h] at hr
  cases hr
  refine ⟨a,fun s hs=>?_,c,d,fun j hj s hs hse=>e (List.mem_map.2 ⟨s,?_,hse⟩)⟩
  ·rw [List.getElem?_eq_getElem h0] at hs
   cases hs
   exact b
  ·rw [List.getElem?_eq_getElem (by omega)] at hs
   cases hs
   exact List.mem_iff_getElem.2 ⟨j,by rw [List.length_take]; omega,by rw [List.getElem_take]⟩
theorem areResults_c (l : List Res) (hl : l.length ≤ 1073741824) (f : FuncId) (caps : List D) (ok : Int → Bool) (hp : ∀ n (L : List Blk) (k : V → List Blk → Prop),k (B (ok n)) L → CallP C f ([I n] ++ caps.map .d) L k) (h : k (B (ressV l ok)) L) :
  CallP C 51 [.d (ress l),.d (.fn f caps)] L k:=by
 have hml : ((l.map Res.cells).length : Int) = (l.length : Int):=by rw [List.length_map]
 refine zw25 ?_ rfl (fun _=>rfl) h
 clear h
 refine zw24 C_ok Tryz.func51 rfl rfl rfl (zw18 rfl) rfl ?_
 skip
 conv=>whnf
 refine zw26 (fun i : Nat=>i ≤ l.length ∧ ∀ j,j < i → resAt l ok j) (fun i=>⟨[(0,.d (ress l)),(1,.d (.fn f caps)),(5,.map 0),(10,.d (ress l)),(11,I l.length),(12,I i)],Tryz.f51.ntmps,[.map (esG ((l.take i).map (·.game)))],[],none⟩) (fun i=>l.length - i) 0 ⟨zw22 _,fun j h=>absurd h (Nat.not_lt_zero j)⟩ ?_ ?_
 ·exact zw27 ⟨rfl,rfl,rfl,rfl,congrArg I hml,rfl,trivial⟩
 rintro i ⟨hi,h1⟩
 by_cases hi' : i < l.length
 ·have hlt : (i : Int) < (l.length : Int):=by omega
  have hw:=zwW i (by omega)
  have r1:=ress_at hi'
  have r0:=ress_at (l:=l) (i:=0) (by omega)
  have hat:=resAt_at (ok:=ok) hi'
  have htk : (l.take (i + 1)).map (·.game) = (l.take i).map (·.game) ++ [l[i].game]:=by rw [take_next hi',List.map_append]; rfl
  have hck : ∀ {L : List Blk} {k : V → List Blk → Prop},k (I (if resOk l[i] then 0 else 1)) L → CallP C 87 [resV l[i]] L k:=fun h=>Sts.rescheck_c _ h
  have h1':=fun (h : resAt l ok i) j (hj : j < i + 1)=>(by
   by_cases e : j = i
   ·subst e; exact h
   ·exact h1 j (by omega) : resAt l ok j)
  generalize l[0] = s at *
  generalize l[i] = r at *
  generalize (l.take i).map (·.game) = gs at *
  obtain ⟨⟨a1,a2,a3,a4⟩,a5,a6,a7,a8,a9,a10,a11,a12,a13⟩:=r
  obtain ⟨⟨b1,b2,b3,b4⟩,b5,b6,b7,b8,b9,b10,b11,b12,b13⟩:=s
  simp only at hat htk
  by_cases d1 : resOk ⟨⟨a1,a2,a3,a4⟩,a5,a6,a7,a8,a9,a10,a11,a12,a13⟩
  rotate_left
  ·rw [if_neg d1] at hck
   rw [← ressV_no (l:=l) (ok:=ok) (i:=i) fun h=>d1 (hat.1 h).1]
   repeat' ((conv=>whnf); first|refine zw8 (zw19 hlt) ?_|refine zw3 ?_|refine zw9 (zw20 (show ¬ (1 : Int) = 0 by decide)) ?_|refine zw10 i _ rfl r1 ?_|refine zw12 _ (hck ⟨rfl,rfl⟩) ?_|refine zw6 rfl ?_|refine zw7 mixed rfl ?_)
   conv=>whnf
   exact FinP.zz rfl ⟨rfl,rfl⟩
  rw [if_pos d1] at hck
  by_cases d2 : a1 = b1
  rotate_left
  ·rw [← ressV_no (l:=l) (ok:=ok) (i:=i) fun h=>d2 (hat.1 h).2.1.1]
   repeat' ((conv=>whnf); first|refine zw8 (zw19 hlt) ?_|refine zw3 ?_|refine zw9 (zw20 d2) ?_|refine zw10 i _ rfl r1 ?_|refine zw10 0 _ rfl r0 ?_|refine zw12 _ (hck ⟨rfl,rfl⟩) ?_|refine zw0 ?_|refine zw6 rfl ?_|refine zw7 mixed rfl ?_)
   conv=>whnf
   exact FinP.zz rfl ⟨rfl,rfl⟩
  by_cases d3 : a2 = b2
  rotate_left
  ·rw [← ressV_no (l:=l) (ok:=ok) (i:=i) fun h=>d3 (hat.1 h).2.1.2]
   repeat' ((conv=>whnf); first|refine zw8 (zw19 hlt) ?_|refine zw3 ?_|refine zw8 (zw19 d2) ?_|refine zw9 (zw20 d3) ?_|refine zw10 i _ rfl r1 ?_|refine zw10 0 _ rfl r0 ?_|refine zw12 _ (hck ⟨rfl,rfl⟩) ?_|refine zw0 ?_|refine zw6 rfl ?_|refine zw7 mixed rfl ?_)
   conv=>whnf
   exact FinP.zz rfl ⟨rfl,rfl⟩
  by_cases d4 : (⟨a1,a2,a3,a4⟩ : Game) ∈ gs
  ·rw [← ressV_no (l:=l) (ok:=ok) (i:=i) fun h=>(hat.1 h).2.2.2.2 d4]
   have hmp : ∀ {q : Option (Nat × V) → Prop},(∀ i,q (some (i,B true))) → MapF gK (esG gs) (gameV ⟨a1,a2,a3,a4⟩) q:=fun h=>MapF.met (fun _=>h) fun hn=>absurd d4 hn
   repeat' ((conv=>whnf); first|refine zw8 (zw19 hlt) ?_|refine zw3 ?_|refine zw8 (zw19 d2) ?_|refine zw8 (zw19 d3) ?_|refine zw10 i _ rfl r1 ?_|refine zw10 0 _ rfl r0 ?_|refine zw12 _ (hck ⟨rfl,rfl⟩) ?_|refine hmp (fun _=>?_)|refine zw0 ?_|refine zw6 rfl ?_|refine zw7 mixed rfl ?_)
   conv=>whnf
   exact FinP.zz rfl ⟨rfl,rfl⟩
  have hmp : ∀ {q : Option (Nat × V) → Prop},q none → MapF gK (esG gs) (gameV ⟨a1,a2,a3,a4⟩) q:=fun h=>MapF.met (fun hn=>absurd hn d4) fun _=>h
  have c3 : ∀ {L : List Blk} {k : V → List Blk → Prop},k (B (ok a3)) L → CallP C f ([I a3] ++ caps.map .d) L k:=fun h=>hp a3 _ _ h
  have c4 : ∀ {L : List Blk} {k : V → List Blk → Prop},k (B (ok a4)) L → CallP C f ([I a4] ++ caps.map .d) L k:=fun h=>hp a4 _ _ h
  cases d5 : ok a3 with
  | false =>
   rw [d5] at c3
   rw [← ressV_no (l:=l) (ok:=ok) (i:=i) fun h=>by have:=(hat.1 h).2.2.1; rw [d5] at this; cases this]
   repeat' ((conv=>whnf); first|refine zw8 (zw19 hlt) ?_|refine zw3 ?_|refine zw8 (zw19 d2) ?_|refine zw8 (zw19 d3) ?_|refine zw10 i _ rfl r1 ?_|refine zw10 0 _ rfl r0 ?_|refine zw12 _ (hck ⟨rfl,rfl⟩) ?_|refine hmp ?_|refine zw12 _ (c3 ⟨rfl,rfl⟩) ?_|refine zw0 ?_|refine zw1 ?_|refine zw6 rfl ?_|refine zw7 mixed rfl ?_)
   conv=>whnf
   exact FinP.zz rfl ⟨rfl,rfl⟩
  | true =>
  rw [d5] at c3
  cases d6 : ok a4 with
  | false =>
   rw [d6] at c4
   rw [← ressV_no (l:=l) (ok:=ok) (i:=i) fun h=>by have:=(hat.1 h).2.2.2.1; rw [d6] at this; cases this]
   repeat' ((conv=>whnf); first|refine zw8 (zw19 hlt) ?_|refine zw3 ?_|refine zw8 (zw19 d2) ?_|refine zw8 (zw19 d3) ?_|refine zw10 i _ rfl r1 ?_|refine zw10 0 _ rfl r0 ?_|refine zw12 _ (hck ⟨rfl,rfl⟩) ?_|refine hmp ?_|refine zw12 _ (c3 ⟨rfl,rfl⟩) ?_|refine zw12 _ (c4 ⟨rfl,rfl⟩) ?_|refine zw0 ?_|refine zw1 ?_|refine zw6 rfl ?_|refine zw7 mixed rfl ?_)
   conv=>whnf
   exact FinP.zz rfl ⟨rfl,rfl⟩
  | true =>
   rw [d6] at c4
   have hok : resAt l ok i:=hat.2 ⟨d1,⟨d2,d3⟩,d5,d6,d4⟩
   repeat' ((conv=>whnf); first|refine zw8 (zw19 hlt) ?_|refine zw3 ?_|refine zw8 (zw19 d2) ?_|refine zw8 (zw19 d3) ?_|refine zw10 i _ rfl r1 ?_|refine zw10 0 _ rfl r0 ?_|refine zw12 _ (hck ⟨rfl,rfl⟩) ?_|refine hmp ?_|refine zw12 _ (c3 ⟨rfl,rfl⟩) ?_|refine zw12 _ (c4 ⟨rfl,rfl⟩) ?_|refine zw0 ?_|refine zw1 ?_|refine zw6 rfl ?_|refine zw7 mixed rfl ?_)
   conv=>whnf
   have hes : esG gs ++ [(gameV ⟨a1,a2,a3,a4⟩,B true)] = esG ((l.take (i + 1)).map (·.game)):=by rw [htk]; unfold esG; rw [List.map_append]; rfl
   exact ⟨i + 1,⟨hi',h1' hok⟩,by omega,Weak.to 1 (Eq.trans rfl (congrArg (fun x=>[Blk.map x]) hes)) (zw22 _) (zw18 rfl) ⟨rfl,rfl,rfl,rfl,rfl,congrArg I hw,trivial⟩ (hB:=by show (belM 1 _ && true) = true; rw [esG_bel]; rfl)⟩
 ·have hlt : ¬ (i : Int) < (l.length : Int):=by omega
  have e : ressV l ok = true:=by
   refine ressV_iff.2 fun j=>?_
   by_cases hj : j < i
   ·exact h1 j hj
   ·intro r hr; have:=lt_of_get hr; omega
  rw [e]
  repeat' ((conv=>whnf); refine zw9 (zw20 hlt) ?_)
  conv=>whnf
  exact FinP.zz rfl ⟨rfl,rfl⟩
def keysP (es : List (Int × Int)) : List Int:=es.map (·.1)
def pIns (es : List (Int × Int)) (c n : Int) : List (Int × Int):=if c ∈ keysP es then es.set ((keysP es).idxOf c) (c,n) else es ++ [(c,n)]
def valP (es : List (Int × Int)) (c : Int) : Int:=if c ∈ keysP es then (es.getD ((keysP es).idxOf c) (0,0)).2 else 0
def esP (es : List (Int × Int)) : List (V × V):=es.map fun p=>(I p.1,I p.2)
theorem esP_keys (es : List (Int × Int)) : (esP es).map (·.1) = (keysP es).map fun m=>.d (.int .i64 m):=by
 unfold esP keysP; rw [List.map_map,List.map_map]; rfl
theorem esP_len (es : List (Int × Int)) : (esP es).length = es.length:=by unfold esP; simp
theorem esP_bel (n : Nat) (es : List (Int × Int)) : belM n (esP es) = true:=by
 unfold esP
 induction es with
 | nil=>rfl
 | cons a r ih=>simp only [List.map_cons,belM,V.bel,Bool.true_and]; exact ih
theorem esP_set (es : List (Int × Int)) (i : Nat) (c n : Int) : (esP es).set i (I c,I n) = esP (es.set i (c,n)):=by unfold esP; rw [List.map_set]
theorem esP_snoc (es : List (Int × Int)) (c n : Int) : esP es ++ [(I c,I n)] = esP (es ++ [(c,n)]):=by unfold esP; rw [List.map_append]; rfl
theorem key_idx {es : List (Int × Int)} {c : Int} (h : c ∈ keysP es) : (keysP es).idxOf c < es.length:=by
 have:=List.idxOf_lt_length_of_mem h
 unfold keysP at this ⊢
 rwa [List.length_map] at this
theorem key_at {es : List (Int × Int)} {c : Int} (h : c ∈ keysP es) : es[(keysP es).idxOf c]? = some (c,valP es c):=by
 have hi:=key_idx h
 have h1 : (keysP es)[(keysP es).idxOf c]'(by unfold keysP at hi ⊢; rwa [List.length_map]) = c:=List.getElem_idxOf _
 unfold valP
 rw [if_pos h,List.getElem?_eq_getElem hi,List.getD_eq_getElem?_getD,List.getElem?_eq_getElem hi]
 congr 1
 refine Prod.ext ?_ rfl
 have h2 : (es[(keysP es).idxOf c]).1 = (keysP es)[(keysP es).idxOf c]'(by unfold keysP at hi ⊢; rwa [List.length_map]):=by
  show _ = (es.map (·.1))[(keysP es).idxOf c]'(by rwa [List.length_map])
  rw [List.getElem_map]
 exact h2.trans h1
theorem MapF.has {es : List (Int × Int)} {c : Int} {q : Option (Nat × V) → Prop} (hc : c ∈ keysP es) (h : q (some ((keysP es).idxOf c,I (valP es c)))) : MapF (.int .i64) (esP es) (I c) q:=by
 refine MapF.ints (keysP es) (esP_keys es) (.inl ⟨(keysP es).idxOf c,I (valP es c),?_,fun j hj e=>?_,?_,h⟩)
 ·have hi:=List.idxOf_lt_length_of_mem hc
  rw [List.getElem?_eq_getElem hi,List.getElem_idxOf]
 ·have hi:=List.idxOf_lt_length_of_mem hc
  rw [List.getElem?_eq_getElem (by omega)] at e
  have:=List.not_of_lt_findIdx (p:=(· == c)) (xs:=keysP es) (i:=j) hj
  simp only [Option.some.injEq] at e
  rw [e] at this
  simp at this
 ·unfold esP
  rw [List.getElem?_map,key_at hc]; rfl
theorem MapF.hasnt {es : List (Int × Int)} {c : Int} {q : Option (Nat × V) → Prop} (hc : c ∉ keysP es) (h : q none) : MapF (.int .i64) (esP es) (I c) q:=MapF.no (keysP es) (esP_keys es) hc h
theorem keysP_set {es : List (Int × Int)} {c n : Int} (h : c ∈ keysP es) : keysP (es.set ((keysP es).idxOf c) (c,n)) = keysP es:=by
 have hi:=key_idx h
 have h1:=key_at h
 unfold keysP at *
 rw [List.map_set]
 refine List.ext_getElem? fun j=>?_
 rw [List.getElem?_set]
 split
 ·rename_i e
  subst e
  rw [if_pos (by rwa [List.length_map]),List.getElem?_map,h1]; rfl
 ·rfl
theorem pIns_keys (es : List (Int × Int)) (c n d : Int) : d ∈ keysP (pIns es c n) ↔ d ∈ keysP es ∨ d = c:=by
 unfold pIns
 split
 ·rename_i h
  rw [keysP_set h]
  exact ⟨.inl,fun h'=>h'.elim id fun e=>e ▸ h⟩
 ·unfold keysP
  rw [List.map_append,List.mem_append]
  simp
theorem valP_ins (es : List (Int × Int)) (c n d : Int) : valP (pIns es c n) d = if d = c then n else valP es d:=by
 by_cases h : c ∈ keysP es
 ·have hp : pIns es c n = es.set ((keysP es).idxOf c) (c,n):=if_pos h
  have hi:=key_idx h
  rw [hp]
  unfold valP
  rw [keysP_set h]
  by_cases hd : d = c
  ·subst hd
   rw [if_pos h,if_pos rfl,List.getD_eq_getElem?_getD,List.getElem?_set_self hi]; rfl
  ·rw [if_neg hd]
   by_cases h' : d ∈ keysP es
   ·rw [if_pos h',if_pos h',List.getD_eq_getElem?_getD,List.getD_eq_getElem?_getD,List.getElem?_set_ne]
    intro e
    have e1:=key_at h
    have e2:=key_at h'
    rw [← e,e1] at e2
    simp only [Option.some.injEq,Prod.mk.injEq] at e2
    exact hd e2.1.symm
   ·rw [if_neg h',if_neg h']
 ·have hp : pIns es c n = es ++ [(c,n)]:=if_neg h
  have hk : keysP (es ++ [(c,n)]) = keysP es ++ [c]:=by unfold keysP; rw [List.map_append]; rfl
  rw [hp]
  unfold valP
  rw [hk]
  by_cases hd : d = c
  ·subst hd
   have hx : (keysP es ++ [d]).idxOf d = es.length:=by
    rw [List.idxOf_append,if_neg h]
    unfold keysP
    simp
   rw [if_pos (by simp),if_pos rfl,hx,List.getD_eq_getElem?_getD]
   simp
  ·rw [if_neg hd]
   by_cases h' : d ∈ keysP es
   ·have hx : (keysP es ++ [c]).idxOf d = (keysP es).idxOf d:=by rw [List.idxOf_append,if_pos h']
    have:=key_idx h'
    rw [if_pos (by simp [h']),if_pos h',hx,List.getD_eq_getElem?_getD,List.getD_eq_getElem?_getD,List.getElem?_append_left this]
   ·rw [if_neg (by simp [h',hd]),if_neg h']
def offTab (clubs off : List Int) : Nat → List (Int × Int)
 | 0=>[]
 | i + 1=>pIns (offTab clubs off i) (clubs.getD i 0) (off.getD i 0)
def lot0 (clubs : List Int) (n : Int) : Nat → List (Int × Int)
 | 0=>[]
 | i + 1=>pIns (lot0 clubs n i) (clubs.getD i 0) n
def lotTab (clubs lots : List Int) : Nat → List (Int × Int)
 | 0=>lot0 clubs lots.length clubs.length
 | i + 1=>pIns (lotTab clubs lots i) (lots.getD i 0) i
def Cp.cells (p : Cp) : List V:=[.d (ress p.res),.d (ins p.clubs),.map 1,.d (.str p.ru.name),I p.ru.win,I p.ru.draw,I p.ru.loss,.d (sps p.ru.order),.d (zns p.ru.zones),.map 2]
def cM (p : Cp) : List Blk:=[.cells p.cells,.map (esP (offTab p.clubs p.off p.clubs.length)),.map (esP (lotTab p.clubs p.lots p.lots.length))]
theorem cM_bel' (n : Nat) (h : 3 ≤ n) (p : Cp) : belB n (cM p) = true:=by
 unfold cM Cp.cells
 simp only [belB,Blk.bel,V.belL,V.bel,esP_bel,decide_eq_true (show 1 < n by omega),decide_eq_true (show 2 < n by omega),Bool.and_true]
theorem cM_bel (p : Cp) : belB 3 (cM p) = true:=cM_bel' 3 (zw21 3) p
theorem CallP.cnvO {X : Ctx} {f : FuncId} {args args' : List V} {L L' : List Blk} {k : V → List Blk → Prop} (ha : args = args') (hL : L = L') (h : CallP X f args' L' k) : CallP X f args L k:=by subst ha hL; exact h
theorem belB_app' {n : Nat} : ∀ {A B : List Blk},belB n A = true → belB n B = true → belB n (A ++ B) = true
 | [],B,_,h=>h
 | a :: A,B,h,h'=>by
  simp only [List.cons_append,belB,Bool.and_eq_true] at h ⊢
  exact ⟨h.1,belB_app' h.2 h'⟩
theorem rnM_esP (ρ : Nat → Nat) (es : List (Int × Int)) : rnM ρ (esP es) = esP es:=by
 unfold esP
 induction es with
 | nil=>rfl
 | cons a r ih=>simp only [List.map_cons,rnM,V.rn]; rw [ih]
theorem getDI {l : List Int} {i : Nat} (h : i < l.length) : l.getD i 0 = l[i]:=by rw [List.getD_eq_getElem?_getD,List.getElem?_eq_getElem h]; rfl
theorem oM_eq {c0 c3 : Blk} {a a' b b' : List (V × V)} {E : List Blk} (h1 : a = a') (h2 : b = b') : c0 :: .map a :: .map b :: c3 :: E = c0 :: .map a' :: .map b' :: c3 :: E:=by rw [h1,h2]
theorem oL_eq {c0 c1 c3 : Blk} {a a' b b' : List (V × V)} {E : List Blk} (h1 : a = a') (h2 : b = b') : c0 :: c1 :: .map a :: c3 :: .map b :: E = c0 :: c1 :: .map a' :: c3 :: .map b' :: E:=by rw [h1,h2]
theorem take_getD {l : List Int} {i : Nat} (h : i < l.length) : l.take (i + 1) = l.take i ++ [l.getD i 0]:=by rw [take_next h,getDI h]
theorem offTab_keys (clubs off : List Int) (c : Int) : ∀ i,i ≤ clubs.length → (c ∈ keysP (offTab clubs off i) ↔ c ∈ clubs.take i)
 | 0,_=>by simp [offTab,keysP]
 | i + 1,h=>by
  rw [offTab,pIns_keys,offTab_keys clubs off c i (by omega),take_getD (by omega),List.mem_append,List.mem_singleton]
theorem lot0_keys (clubs : List Int) (n c : Int) : ∀ i,i ≤ clubs.length → (c ∈ keysP (lot0 clubs n i) ↔ c ∈ clubs.take i)
 | 0,_=>by simp [lot0,keysP]
 | i + 1,h=>by
  rw [lot0,pIns_keys,lot0_keys clubs n c i (by omega),take_getD (by omega),List.mem_append,List.mem_singleton]
def esB (l : List Int) : List (V × V):=l.map fun c=>(I c,B true)
theorem esB_keys (l : List Int) : (esB l).map (·.1) = l.map fun m=>.d (.int .i64 m):=by unfold esB; rw [List.map_map]; rfl
theorem MapF.inB {l : List Int} {c : Int} {q : Option (Nat × V) → Prop} (hc : c ∈ l) (h : ∀ i,q (some (i,B true))) : MapF (.int .i64) (esB l) (I c) q:=by
 have hi:=List.idxOf_lt_length_of_mem hc
 refine MapF.ints l (esB_keys l) (.inl ⟨l.idxOf c,B true,?_,fun j hj e=>?_,?_,h _⟩)
 ·rw [List.getElem?_eq_getElem hi,List.getElem_idxOf]
 ·rw [List.getElem?_eq_getElem (by omega)] at e
  have:=List.not_of_lt_findIdx (p:=(· == c)) (xs:=l) (i:=j) hj
  simp only [Option.some.injEq] at e
  rw [e] at this
  simp at this
 ·unfold esB; rw [List.getElem?_map,List.getElem?_eq_getElem hi,List.getElem_idxOf]; rfl
theorem MapF.outB {l : List Int} {c : Int} {q : Option (Nat × V) → Prop} (hc : c ∉ l) (h : q none) : MapF (.int .i64) (esB l) (I c) q:=MapF.no l (esB_keys l) hc h
def OpenQ (p : Cp) (n : Nat) (ok : Int → Bool) (X : V) (L' : List Blk) : Prop:=(openE p n ok = 0 ∧ L' = cM p ∧ X = .tup [.ptr 0 0,I 0]) ∨ (openE p n ok ≠ 0 ∧ L' = [] ∧ X = .tup [.d .nilptr,I (openE p n ok)])
structure LCp (p : Cp) : Prop where
 res : p.res.length ≤ 1073741824
 clubs : p.clubs.length ≤ 1073741824
 off : p.off.length ≤ 1073741824
 lots : p.lots.length ≤ 1073741824
 ru : LRu p.ru
theorem lot_next (l : List Int) {i : Nat} (h : i < l.length) : esB (l.take i) ++ [(I l[i],B true)] = esB (l.take (i + 1)):=by
 rw [take_next h]; unfold esB; rw [List.map_append]; rfl
theorem open_c (p : Cp) (n : Nat) (hL : LCp p) (f : FuncId) (caps : List D) (ok : Int → Bool) (hp : ∀ n (L : List Blk) (k : V → List Blk → Prop),k (B (ok n)) L → CallP C f ([I n] ++ caps.map .d) L k) :
  CallP C 35 [.d (ress p.res),.d (ins p.clubs),I n,.d (.fn f caps),.d (ins p.off),.agg (p.ru.cells.map .d),.d (ins p.lots)] [] (OpenQ p n ok):=by
 have q1 : ∀ {L : List Blk} {k : V → List Blk → Prop},k (B (fieldOk p.clubs n)) L → CallP C 50 [.d (ins p.clubs),I n] L k:=fun h=>areClubs_c _ n (by have:=hL.clubs; omega) h
 have q2 : ∀ {L : List Blk} {k : V → List Blk → Prop},k (B (!offOk p.off)) L → CallP C 52 [.d (ins p.off),.fn 75 []] L k:=fun h=>offs_c _ (by have:=hL.off; omega) h
 have q3 : ∀ {L : List Blk} {k : V → List Blk → Prop},k (I (rulesF p.ru)) L → CallP C 76 [.agg (p.ru.cells.map .d)] L k:=fun h=>rules_c _ hL.ru h
 have q4 : ∀ {L : List Blk} {k : V → List Blk → Prop},k (B (ressV p.res ok)) L → CallP C 51 [.d (ress p.res),.d (.fn f caps)] L k:=fun h=>areResults_c _ hL.res f caps ok hp h
 have hln:=hL.lots
 have hlc:=hL.clubs
 obtain ⟨res,clubs,off,⟨nm,wi,dr,lo,od,zo⟩,lots⟩:=p
 simp only at q1 q2 q3 q4 hln hlc
 unfold OpenQ openE
 simp only
 have mc : ((clubs.map fun n=>[DI n]).length : Int) = (clubs.length : Int):=by rw [insl]
 have mo : ((off.map fun n=>[DI n]).length : Int) = (off.length : Int):=by rw [insl]
 have mt : ((lots.map fun n=>[DI n]).length : Int) = (lots.length : Int):=by rw [insl]
 cases c1 : fieldOk clubs n with
 | false =>
  rw [c1] at q1
  simp only [if_true]
  refine zw24 C_ok Tryz.func35 rfl rfl rfl (zw18 rfl) rfl ?_
  repeat' ((conv=>whnf); first|refine q1 ?_|refine zw3 ?_|refine zw1 ?_)
  conv=>whnf
  exact FinP.zz rfl (.inr ⟨by decide,rfl,rfl⟩)
 | true =>
 rw [c1] at q1
 simp only [Bool.true_eq_false,if_false]
 by_cases c2 : ((off.map fun n=>[DI n]).length : Int) = ((clubs.map fun n=>[DI n]).length : Int)
 rotate_left
 ·rw [decide_eq_false (show ¬ off.length = clubs.length by omega),Bool.false_and]
  simp only [if_true]
  refine zw24 C_ok Tryz.func35 rfl rfl rfl (zw18 rfl) rfl ?_
  repeat' ((conv=>whnf); first|refine q1 ?_|refine zw3 ?_|refine zw9 (zw20 c2) ?_|refine zw0 ?_)
  conv=>whnf
  exact FinP.zz rfl (.inr ⟨by decide,rfl,rfl⟩)
 rw [decide_eq_true (show off.length = clubs.length by omega),Bool.true_and]
 cases c3 : offOk off with
 | false =>
  rw [c3] at q2
  simp only [if_true]
  refine zw24 C_ok Tryz.func35 rfl rfl rfl (zw18 rfl) rfl ?_
  repeat' ((conv=>whnf); first|refine q1 ?_|refine q2 ?_|refine zw3 ?_|refine zw8 (zw19 c2) ?_|refine zw0 ?_|refine zw1 ?_)
  conv=>whnf
  exact FinP.zz rfl (.inr ⟨by decide,rfl,rfl⟩)
 | true =>
 rw [c3] at q2
 simp only [Bool.true_eq_false,if_false]
 generalize rulesF ⟨nm,wi,dr,lo,od,zo⟩ = re at *
 by_cases c4 : re = 0
 rotate_left
 ·rw [if_pos c4]
  refine zw24 C_ok Tryz.func35 rfl rfl rfl (zw18 rfl) rfl ?_
  repeat' ((conv=>whnf); first|refine q1 ?_|refine q2 ?_|refine q3 ?_|refine zw3 ?_|refine zw8 (zw19 c2) ?_|refine zw9 (zw20 c4) ?_|refine zw0 ?_)
  conv=>whnf
  exact FinP.zz rfl (.inr ⟨c4,rfl,rfl⟩)
 rw [if_neg (fun h=>h c4)]
 cases c5 : ressV res ok with
 | false =>
  rw [c5] at q4
  simp only [if_true]
  refine zw24 C_ok Tryz.func35 rfl rfl rfl (zw18 rfl) rfl ?_
  repeat' ((conv=>whnf); first|refine q1 ?_|refine q2 ?_|refine q3 ?_|refine q4 ?_|refine zw3 ?_|refine zw8 (zw19 c2) ?_|refine zw8 (zw19 c4) ?_|refine zw0 ?_|refine zw1 ?_)
  conv=>whnf
  exact FinP.zz rfl (.inr ⟨by decide,rfl,rfl⟩)
 | true =>
 rw [c5] at q4
 simp only [Bool.true_eq_false,if_false]
 have hnd : clubs.Nodup:=by
  unfold fieldOk at c1
  simp only [Bool.and_eq_true] at c1
  exact Sts.incr_nodup c1.1.1
 refine zw24 C_ok Tryz.func35 rfl rfl rfl (zw18 rfl) rfl ?_
 repeat' ((conv=>whnf); first|refine q1 ?_|refine q2 ?_|refine q3 ?_|refine q4 ?_|refine zw3 ?_|refine zw8 (zw19 c2) ?_|refine zw8 (zw19 c4) ?_|refine zw0 ?_)
 conv=>whnf
 refine zw26 (fun i : Nat=>i ≤ clubs.length) (fun i=>⟨[(1,.d (ins clubs)),(4,.d (ins off)),(6,.d (ins lots)),(14,.ptr 3 0),(51,.d (ins clubs)),(52,I clubs.length),(53,I i)],Tryz.f35.ntmps,[.cells [.d (.str nm),I wi,I dr,I lo,.d (sps od),.d (zns zo)],.map (esP (offTab clubs off i)),.map (esP (lot0 clubs lots.length i)),.cells (Cp.cells ⟨res,clubs,off,⟨nm,wi,dr,lo,od,zo⟩,lots⟩)],[],none⟩) (fun i=>clubs.length - i) 0 (zw22 _) ?_ ?_
 ·exact zw27 ⟨rfl,rfl,rfl,rfl,rfl,congrArg I mc,rfl,trivial⟩
 intro i hi
 by_cases hi' : i < clubs.length
 ·have hlt : (i : Int) < (clubs.length : Int):=by omega
  have hw:=zwW i (by omega)
  have r1:=ins_at hi'
  have r2:=ins_at (l:=off) (i:=i) (by omega)
  have n1 : clubs[i] ∉ keysP (offTab clubs off i):=fun h=>Sts.nodup_take hnd hi' ((offTab_keys clubs off _ i hi).1 h)
  have n2 : clubs[i] ∉ keysP (lot0 clubs lots.length i):=fun h=>Sts.nodup_take hnd hi' ((lot0_keys clubs _ _ i hi).1 h)
  have e1 : esP (offTab clubs off i) ++ [(I clubs[i],I off[i])] = esP (offTab clubs off (i + 1)):=by
   rw [esP_snoc,offTab,getDI hi',getDI (show i < off.length by omega)]; unfold pIns; rw [if_neg n1]
  have e2 : esP (lot0 clubs lots.length i) ++ [(I clubs[i],I ((lots.map fun n=>[DI n]).length : Nat))] = esP (lot0 clubs lots.length (i + 1)):=by
   rw [mt,esP_snoc,lot0,getDI hi']; unfold pIns; rw [if_neg n2]
  have m1 : ∀ {q : Option (Nat × V) → Prop},q none → MapF (.int .i64) (esP (offTab clubs off i)) (I clubs[i]) q:=fun h=>MapF.hasnt n1 h
  have m2 : ∀ {q : Option (Nat × V) → Prop},q none → MapF (.int .i64) (esP (lot0 clubs lots.length i)) (I clubs[i]) q:=fun h=>MapF.hasnt n2 h
  repeat' ((conv=>whnf); first|refine zw8 (zw19 hlt) ?_|refine zw10 i _ rfl r1 ?_|refine zw10 i _ rfl r2 ?_|refine m1 ?_|refine m2 ?_|refine zw6 rfl ?_|refine zw7 mixed rfl ?_)
  conv=>whnf
  exact ⟨i + 1,hi',by omega,Weak.by (hL:=Eq.trans rfl (oM_eq e1 e2)) ⟨rfl,rfl,rfl,rfl,rfl,rfl,congrArg I hw,trivial⟩⟩
 have hlt : ¬ (i : Int) < (clubs.length : Int):=by omega
 obtain rfl : i = clubs.length:=by omega
 repeat' ((conv=>whnf); refine zw9 (zw20 hlt) ?_)
 conv=>whnf
 clear hlt hi hi'
 refine zw26 (fun i : Nat=>i ≤ lots.length ∧ (lots.take i).Nodup ∧ ∀ c ∈ lots.take i,0 ≤ c ∧ c < 192) (fun i=>⟨[(6,.d (ins lots)),(14,.ptr 3 0),(19,.map 4),(76,.d (ins lots)),(77,I lots.length),(78,I i)],Tryz.f35.ntmps,[.cells [.d (.str nm),I wi,I dr,I lo,.d (sps od),.d (zns zo)],.map (esP (offTab clubs off clubs.length)),.map (esP (lotTab clubs lots i)),.cells (Cp.cells ⟨res,clubs,off,⟨nm,wi,dr,lo,od,zo⟩,lots⟩),.map (esB (lots.take i))],[],none⟩) (fun i=>lots.length - i) 0 ⟨zw22 _,List.nodup_nil,fun c hc=>by cases hc⟩ ?_ ?_
 ·exact zw27 ⟨rfl,rfl,rfl,rfl,congrArg I mt,rfl,trivial⟩
 rintro i ⟨hi,hn,hr⟩
 by_cases hi' : i < lots.length
 ·have hlt : (i : Int) < (lots.length : Int):=by omega
  have hw:=zwW i (by omega)
  have r1:=ins_at hi'
  have bad : ¬ (lots[i] ∉ lots.take i ∧ 0 ≤ lots[i] ∧ lots[i] < 192) → lotsOk lots = false:=fun hb=>by
   unfold lotsOk
   rw [Bool.and_eq_false_iff]
   by_cases h : lots[i] ∉ lots.take i
   ·refine .inr ?_
    rw [List.all_eq_false]
    refine ⟨lots[i],List.getElem_mem hi',fun h2=>hb ⟨h,?_⟩⟩
    simpa using h2
   ·refine .inl (zw20 fun h2=>h (Sts.nodup_take h2 hi'))
  by_cases d1 : lots[i] < 0
  ·rw [bad (fun h=>by omega)]
   simp only [if_true]
   repeat' ((conv=>whnf); first|refine zw8 (zw19 hlt) ?_|refine zw8 (zw19 d1) ?_|refine zw10 i _ rfl r1 ?_|refine zw6 rfl ?_)
   conv=>whnf
   exact FinP.zz rfl (.inr ⟨by decide,rfl,rfl⟩)
  by_cases d2 : 192 ≤ lots[i]
  ·rw [bad (fun h=>by omega)]
   simp only [if_true]
   repeat' ((conv=>whnf); first|refine zw8 (zw19 hlt) ?_|refine zw9 (zw20 d1) ?_|refine zw8 (zw19 d2) ?_|refine zw10 i _ rfl r1 ?_|refine zw6 rfl ?_)
   conv=>whnf
   exact FinP.zz rfl (.inr ⟨by decide,rfl,rfl⟩)
  by_cases d3 : lots[i] ∈ lots.take i
  ·rw [bad (fun h=>h.1 d3)]
   simp only [if_true]
   have m1 : ∀ {q : Option (Nat × V) → Prop},(∀ i,q (some (i,B true))) → MapF (.int .i64) (esB (lots.take i)) (I lots[i]) q:=fun h=>MapF.inB d3 h
   repeat' ((conv=>whnf); first|refine zw8 (zw19 hlt) ?_|refine zw9 (zw20 d1) ?_|refine zw9 (zw20 d2) ?_|refine zw10 i _ rfl r1 ?_|refine m1 (fun _=>?_)|refine zw0 ?_|refine zw6 rfl ?_)
   conv=>whnf
   exact FinP.zz rfl (.inr ⟨by decide,rfl,rfl⟩)
  have m1 : ∀ {q : Option (Nat × V) → Prop},q none → MapF (.int .i64) (esB (lots.take i)) (I lots[i]) q:=fun h=>MapF.outB d3 h
  have hb:=lot_next lots hi'
  have hn' : (lots.take (i + 1)).Nodup:=by
   rw [take_next hi']
   exact List.nodup_append.2 ⟨hn,by simp,fun a ha b hb e=>d3 (by rw [List.mem_singleton.1 hb] at e; exact e ▸ ha)⟩
  have hr' : ∀ c ∈ lots.take (i + 1),0 ≤ c ∧ c < 192:=fun c hc=>by
   rw [take_next hi',List.mem_append,List.mem_singleton] at hc
   rcases hc with hc | rfl
   ·exact hr c hc
   ·omega
  have hlt2 : lotTab clubs lots (i + 1) = pIns (lotTab clubs lots i) lots[i] i:=by rw [lotTab,getDI hi']
  generalize lotTab clubs lots i = es at *
  generalize lots[i] = c at *
  by_cases d4 : c ∈ keysP es
  ·have m2 : ∀ {q : Option (Nat × V) → Prop},q (some ((keysP es).idxOf c,I (valP es c))) → MapF (.int .i64) (esP es) (I c) q:=fun h=>MapF.has d4 h
   have hx:=key_idx d4
   have e1 : ((esP es).set ((keysP es).idxOf c) (I c,I (valP es c))).set ((keysP es).idxOf c) (I c,I i) = esP (lotTab clubs lots (i + 1)):=by
    rw [hlt2,List.set_set,esP_set]; unfold pIns; rw [if_pos d4]
   have g1 : ((esP es).set ((keysP es).idxOf c) (I c,I (valP es c)))[(keysP es).idxOf c]? = some (I c,I (valP es c)):=List.getElem?_set_self (by rw [esP_len]; exact hx)
   have g2 : (keysP es).idxOf c < ((esP es).set ((keysP es).idxOf c) (I c,I (valP es c))).length:=by rw [List.length_set,esP_len]; exact hx
   repeat' ((conv=>whnf); first|refine zw8 (zw19 hlt) ?_|refine zw9 (zw20 d1) ?_|refine zw9 (zw20 d2) ?_|refine zw10 i _ rfl r1 ?_|refine m1 ?_|refine m2 ?_|refine zw30 _ rfl g2 ?_|refine zw5 _ g1 ?_|refine zw1 ?_|refine zw6 rfl ?_)
   conv=>whnf
   exact ⟨i + 1,⟨hi',hn',hr'⟩,by omega,Weak.by (hL:=Eq.trans rfl (oL_eq e1 hb)) ⟨rfl,rfl,rfl,rfl,rfl,congrArg I hw,trivial⟩⟩
  ·have m2 : ∀ {q : Option (Nat × V) → Prop},q none → MapF (.int .i64) (esP es) (I c) q:=fun h=>MapF.hasnt d4 h
   have e1 : (esP es ++ [(I c,I 0)]).set (esP es).length (I c,I i) = esP (lotTab clubs lots (i + 1)):=by
    rw [hlt2]
    unfold pIns
    rw [if_neg d4,← esP_snoc,List.set_append_right _ _ (Nat.le_refl _),Nat.sub_self]; rfl
   have g1 : (esP es ++ [(I c,I 0)])[(esP es).length]? = some (I c,I 0):=List.getElem?_concat_length
   have g2 : (esP es).length < (esP es ++ [(I c,I 0)]).length:=by simp
   repeat' ((conv=>whnf); first|refine zw8 (zw19 hlt) ?_|refine zw9 (zw20 d1) ?_|refine zw9 (zw20 d2) ?_|refine zw10 i _ rfl r1 ?_|refine m1 ?_|refine m2 ?_|refine zw30 _ rfl g2 ?_|refine zw5 _ g1 ?_|refine zw1 ?_|refine zw6 rfl ?_)
   conv=>whnf
   exact ⟨i + 1,⟨hi',hn',hr'⟩,by omega,Weak.by (hL:=Eq.trans rfl (oL_eq e1 hb)) ⟨rfl,rfl,rfl,rfl,rfl,congrArg I hw,trivial⟩⟩
 have hlt : ¬ (i : Int) < (lots.length : Int):=by omega
 obtain rfl : i = lots.length:=by omega
 have hok : lotsOk lots = true:=by
  unfold lotsOk
  rw [List.take_length] at hn hr
  rw [decide_eq_true hn,Bool.true_and,List.all_eq_true]
  intro c hc
  have:=hr c hc
  simp [this]
 rw [hok]
 simp only [Bool.true_eq_false,if_false]
 repeat' ((conv=>whnf); refine zw9 (zw20 hlt) ?_)
 conv=>whnf
 refine FinP.part [3,1,2] (cM ⟨res,clubs,off,⟨nm,wi,dr,lo,od,zo⟩,lots⟩) ⟨by decide,fun b hb=>?_,rfl,fun b c hc=>?_,cM_bel _,rfl⟩ (fun b hb=>absurd hb (Nat.not_lt_zero b)) (X':=.tup [.ptr 0 0,I 0]) rfl rfl (.inl ⟨trivial,rfl,rfl⟩)
 ·show b < 5
  simp at hb; omega
 ·match b,hc with
  | 0,hc=>cases hc; rfl
  | 1,hc =>
   cases hc
   show some (Blk.map (esP (offTab clubs off clubs.length))) = some (Blk.map (rnM _ (esP _)))
   rw [rnM_esP]
  | 2,hc =>
   cases hc
   show some (Blk.map (esP (lotTab clubs lots lots.length))) = some (Blk.map (rnM _ (esP _)))
   rw [rnM_esP]
  | b + 3,hc=>simp at hc
end Go.Proofs.YtihibgcojdfndaaGreatDoor
namespace Go.Proofs
open Go.Shelf
def Tryz.sortA_ren : Go.Shelf.Ren:=⟨fun | 5=>67 | 8=>103 | 7=>102 | 19=>144 | 20=>145 | 10=>135 | 11=>136 | 12=>137 | 13=>138 | 14=>139 | 15=>140 | 16=>141 | 17=>142 | 18=>143 | 30=>172 | 31=>173 | 32=>174 | 33=>175 | 34=>176 | 35=>162 | 40=>198 | n=>n,fun | 23=>23 | 25=>3 | 3=>3 | 32=>60 | 22=>23 | 0=>0 | 44=>219 | 46=>221 | 4=>4 | 36=>213 | 35=>212 | 41=>178 | 5=>5 | 9=>9 | 53=>240 | 57=>131 | 63=>260 | 64=>123 | n=>n,fun n=>n⟩
theorem Tryz.sortA : Go.Proofs.SlLaysM.n5 Tryz.prog Tryz.sortA_ren:={
 mixed:=by kernel_rfl
 f5:=⟨Tryz.f67.name,by decide,Tryz.func67.trans (congrArg some (by kernel_rfl))⟩
 f7:=⟨Tryz.f102.name,by decide,Tryz.func102.trans (congrArg some (by kernel_rfl))⟩
 f8:=Tryz.func103.trans (congrArg some (by kernel_rfl))
 f10:=⟨Tryz.f135.name,by decide,Tryz.func135.trans (congrArg some (by kernel_rfl))⟩
 f11:=⟨Tryz.f136.name,by decide,Tryz.func136.trans (congrArg some (by kernel_rfl))⟩
 f12:=⟨Tryz.f137.name,by decide,Tryz.func137.trans (congrArg some (by kernel_rfl))⟩
 f13:=⟨Tryz.f138.name,by decide,Tryz.func138.trans (congrArg some (by kernel_rfl))⟩
 f14:=⟨Tryz.f139.name,by decide,Tryz.func139.trans (congrArg some (by kernel_rfl))⟩
 f15:=⟨Tryz.f140.name,by decide,Tryz.func140.trans (congrArg some (by kernel_rfl))⟩
 f16:=⟨Tryz.f141.name,by decide,Tryz.func141.trans (congrArg some (by kernel_rfl))⟩
 f17:=⟨Tryz.f142.name,by decide,Tryz.func142.trans (congrArg some (by kernel_rfl))⟩
 f18:=⟨Tryz.f143.name,by decide,Tryz.func143.trans (congrArg some (by kernel_rfl))⟩
 f19:=Tryz.func144.trans (congrArg some (by kernel_rfl))
 f20:=Tryz.func145.trans (congrArg some (by kernel_rfl))
 f30:=⟨Tryz.f172.name,by decide,Tryz.func172.trans (congrArg some (by kernel_rfl))⟩
 f31:=Tryz.func173.trans (congrArg some (by kernel_rfl))
 f32:=Tryz.func174.trans (congrArg some (by kernel_rfl))
 f33:=⟨Tryz.f175.name,by decide,Tryz.func175.trans (congrArg some (by kernel_rfl))⟩
 f34:=⟨Tryz.f176.name,by decide,Tryz.func176.trans (congrArg some (by kernel_rfl))⟩
 f35:=⟨Tryz.f162.name,by decide,Tryz.func162.trans (congrArg some (by kernel_rfl))⟩
 f40:=⟨Tryz.f198.name,by decide,Tryz.func198.trans (congrArg some (by kernel_rfl))⟩
 t0:=Tryz.underlying0
 a0:=Tryz.isAgg0
 z0:=Tryz.sizeOf0
 v0:=Tryz.zeroValue0
 t3:=Tryz.underlying3
 a3:=Tryz.isAgg3
 z3:=Tryz.sizeOf3
 v3:=Tryz.zeroValue3
 t4:=Tryz.underlying4
 a4:=Tryz.isAgg4
 z4:=Tryz.sizeOf4
 v4:=Tryz.zeroValue4
 t5:=Tryz.underlying5
 a5:=Tryz.isAgg5
 z5:=Tryz.sizeOf5
 v5:=Tryz.zeroValue5
 t9:=Tryz.underlying9
 a9:=Tryz.isAgg9
 z9:=Tryz.sizeOf9
 v9:=Tryz.zeroValue9
 t22:=Tryz.underlying23
 a22:=Tryz.isAgg23
 z22:=Tryz.sizeOf23
 v22:=Tryz.zeroValue23
 t23:=Tryz.underlying23
 a23:=Tryz.isAgg23
 z23:=Tryz.sizeOf23
 v23:=Tryz.zeroValue23
 t25:=Tryz.underlying3
 a25:=Tryz.isAgg3
 z25:=Tryz.sizeOf3
 v25:=Tryz.zeroValue3
 t32:=Tryz.underlying60
 a32:=Tryz.isAgg60
 z32:=Tryz.sizeOf60
 v32:=Tryz.zeroValue60
 t35:=Tryz.underlying212
 a35:=Tryz.isAgg212
 z35:=Tryz.sizeOf212
 v35:=Tryz.zeroValue212
 t36:=Tryz.underlying213
 a36:=Tryz.isAgg213
 z36:=Tryz.sizeOf213
 v36:=Tryz.zeroValue213
 t41:=Tryz.underlying178
 a41:=Tryz.isAgg178
 z41:=Tryz.sizeOf178
 v41:=Tryz.zeroValue178
 t44:=Tryz.underlying219
 a44:=Tryz.isAgg219
 z44:=Tryz.sizeOf219
 v44:=Tryz.zeroValue219
 t46:=Tryz.underlying221
 a46:=Tryz.isAgg221
 z46:=Tryz.sizeOf221
 v46:=Tryz.zeroValue221
 t53:=Tryz.underlying240
 a53:=Tryz.isAgg240
 z53:=Tryz.sizeOf240
 v53:=Tryz.zeroValue240
 t57:=Tryz.underlying131
 a57:=Tryz.isAgg131
 z57:=Tryz.sizeOf131
 v57:=Tryz.zeroValue131
 t63:=Tryz.underlying260
 a63:=Tryz.isAgg260
 z63:=Tryz.sizeOf260
 v63:=Tryz.zeroValue260
 t64:=Tryz.underlying123
 a64:=Tryz.isAgg123
 z64:=Tryz.sizeOf123
 v64:=Tryz.zeroValue123 }
def Tryz.cpaA_ren : Go.Shelf.Ren:=⟨fun | 20=>68 | n=>n,fun | 22=>23 | 3=>3 | 4=>4 | 0=>0 | n=>n,fun | n=>n⟩
theorem Tryz.cpaA : Go.Proofs.Lays2.n20 Tryz.prog Tryz.cpaA_ren:={
 mixed:=by kernel_rfl
 f20:=Tryz.func68.trans (congrArg some (by kernel_rfl))
 t0:=Tryz.underlying0
 a0:=Tryz.isAgg0
 z0:=Tryz.sizeOf0
 v0:=Tryz.zeroValue0
 t3:=Tryz.underlying3
 a3:=Tryz.isAgg3
 z3:=Tryz.sizeOf3
 v3:=Tryz.zeroValue3
 t4:=Tryz.underlying4
 a4:=Tryz.isAgg4
 z4:=Tryz.sizeOf4
 v4:=Tryz.zeroValue4
 t22:=Tryz.underlying23
 a22:=Tryz.isAgg23
 z22:=Tryz.sizeOf23
 v22:=Tryz.zeroValue23
 i3:=by kernel_rfl }
end Go.Proofs
