import Derived.Test.YtndlggbljkhfbaaGreatJVF
import Derived.Shelf.SlIterI.Nil
import Derived.Shelf.SortM.Plain
import Derived.Shelf.SortM.SortNone
import Derived.Shelf.Slices.Delete
set_option maxRecDepth 100000
set_option maxHeartbeats 0
set_option linter.unusedSimpArgs false
set_option linter.unusedVariables false
namespace Go.Proofs
open Go.Shelf
def Tryz.keysA_ren : Go.Shelf.Ren:=⟨fun | 7=>46 | 10=>102 | n=>n,fun | 23=>83 | 26=>3 | 3=>4 | 28=>96 | 0=>0 | 27=>95 | 33=>103 | 4=>4 | n=>n,fun | n=>n⟩
theorem Tryz.keysA : Go.Proofs.SlLaysZI.n7 Tryz.prog Tryz.keysA_ren:={
 mixed:=by kernel_rfl
 f7:=⟨Tryz.f46.name,by decide,Tryz.func46.trans (congrArg some (by kernel_rfl))⟩
 f10:=⟨Tryz.f102.name,by decide,Tryz.func102.trans (congrArg some (by kernel_rfl))⟩
 t0:=Tryz.underlying0
 a0:=Tryz.isAgg0
 z0:=Tryz.sizeOf0
 v0:=Tryz.zeroValue0
 t4:=Tryz.underlying4
 a4:=Tryz.isAgg4
 z4:=Tryz.sizeOf4
 v4:=Tryz.zeroValue4
 t23:=Tryz.underlying83
 a23:=Tryz.isAgg83
 z23:=Tryz.sizeOf83
 v23:=Tryz.zeroValue83
 t26:=Tryz.underlying3
 a26:=Tryz.isAgg3
 z26:=Tryz.sizeOf3
 v26:=Tryz.zeroValue3
 t27:=Tryz.underlying95
 a27:=Tryz.isAgg95
 z27:=Tryz.sizeOf95
 v27:=Tryz.zeroValue95
 t28:=Tryz.underlying96
 a28:=Tryz.isAgg96
 z28:=Tryz.sizeOf96
 v28:=Tryz.zeroValue96
 t33:=Tryz.underlying103
 a33:=Tryz.isAgg103
 z33:=Tryz.sizeOf103
 v33:=Tryz.zeroValue103 }
def Tryz.sortedA_ren : Go.Shelf.Ren:=⟨fun | 6=>45 | 8=>49 | 9=>101 | 11=>106 | 13=>135 | 12=>134 | 23=>164 | 24=>165 | 14=>155 | 15=>156 | 16=>157 | 17=>158 | 18=>159 | 19=>160 | 20=>161 | 21=>162 | 22=>163 | 25=>174 | 26=>175 | 27=>176 | 28=>177 | 29=>178 | 30=>179 | 31=>185 | n=>n,fun | 26=>3 | 28=>96 | 24=>22 | 0=>0 | 3=>3 | 37=>171 | 48=>197 | 50=>199 | 4=>4 | 40=>190 | 39=>189 | 45=>194 | 5=>5 | 9=>9 | 51=>205 | 55=>209 | 57=>214 | 58=>215 | 33=>103 | n=>n,fun | n=>n⟩
theorem Tryz.sortedA : Go.Proofs.SlLaysZI.n6 Tryz.prog Tryz.sortedA_ren:={
 mixed:=by kernel_rfl
 f6:=⟨Tryz.f45.name,by decide,Tryz.func45.trans (congrArg some (by kernel_rfl))⟩
 f8:=⟨Tryz.f49.name,by decide,Tryz.func49.trans (congrArg some (by kernel_rfl))⟩
 f11:=⟨Tryz.f106.name,by decide,Tryz.func106.trans (congrArg some (by kernel_rfl))⟩
 t0:=Tryz.underlying0
 a0:=Tryz.isAgg0
 z0:=Tryz.sizeOf0
 v0:=Tryz.zeroValue0
 t24:=Tryz.underlying22
 a24:=Tryz.isAgg22
 z24:=Tryz.sizeOf22
 v24:=Tryz.zeroValue22
 t26:=Tryz.underlying3
 a26:=Tryz.isAgg3
 z26:=Tryz.sizeOf3
 v26:=Tryz.zeroValue3
 t28:=Tryz.underlying96
 a28:=Tryz.isAgg96
 z28:=Tryz.sizeOf96
 v28:=Tryz.zeroValue96
 i26:=by kernel_rfl }
def Tryz.sortA_ren : Go.Shelf.Ren:=⟨fun | 5=>101 | 8=>135 | 7=>134 | 19=>164 | 20=>165 | 10=>155 | 11=>156 | 12=>157 | 13=>158 | 14=>159 | 15=>160 | 16=>161 | 17=>162 | 18=>163 | 30=>174 | 31=>175 | 32=>176 | 33=>177 | 34=>178 | 35=>179 | 40=>185 | n=>n,fun | 23=>22 | 25=>3 | 3=>3 | 32=>171 | 22=>22 | 0=>0 | 44=>197 | 46=>199 | 4=>4 | 36=>190 | 35=>189 | 41=>194 | 5=>5 | 9=>9 | 53=>205 | 57=>209 | 63=>214 | 64=>215 | n=>n,fun | n=>n⟩
theorem Tryz.sortA : Go.Proofs.SlLaysM.n5 Tryz.prog Tryz.sortA_ren:={
 mixed:=by kernel_rfl
 f5:=⟨Tryz.f101.name,by decide,Tryz.func101.trans (congrArg some (by kernel_rfl))⟩
 f7:=⟨Tryz.f134.name,by decide,Tryz.func134.trans (congrArg some (by kernel_rfl))⟩
 f8:=Tryz.func135.trans (congrArg some (by kernel_rfl))
 f10:=⟨Tryz.f155.name,by decide,Tryz.func155.trans (congrArg some (by kernel_rfl))⟩
 f11:=⟨Tryz.f156.name,by decide,Tryz.func156.trans (congrArg some (by kernel_rfl))⟩
 f12:=⟨Tryz.f157.name,by decide,Tryz.func157.trans (congrArg some (by kernel_rfl))⟩
 f13:=⟨Tryz.f158.name,by decide,Tryz.func158.trans (congrArg some (by kernel_rfl))⟩
 f14:=⟨Tryz.f159.name,by decide,Tryz.func159.trans (congrArg some (by kernel_rfl))⟩
 f15:=⟨Tryz.f160.name,by decide,Tryz.func160.trans (congrArg some (by kernel_rfl))⟩
 f16:=⟨Tryz.f161.name,by decide,Tryz.func161.trans (congrArg some (by kernel_rfl))⟩
 f17:=⟨Tryz.f162.name,by decide,Tryz.func162.trans (congrArg some (by kernel_rfl))⟩
 f18:=⟨Tryz.f163.name,by decide,Tryz.func163.trans (congrArg some (by kernel_rfl))⟩
 f19:=Tryz.func164.trans (congrArg some (by kernel_rfl))
 f20:=Tryz.func165.trans (congrArg some (by kernel_rfl))
 f30:=⟨Tryz.f174.name,by decide,Tryz.func174.trans (congrArg some (by kernel_rfl))⟩
 f31:=Tryz.func175.trans (congrArg some (by kernel_rfl))
 f32:=Tryz.func176.trans (congrArg some (by kernel_rfl))
 f33:=⟨Tryz.f177.name,by decide,Tryz.func177.trans (congrArg some (by kernel_rfl))⟩
 f34:=⟨Tryz.f178.name,by decide,Tryz.func178.trans (congrArg some (by kernel_rfl))⟩
 f35:=⟨Tryz.f179.name,by decide,Tryz.func179.trans (congrArg some (by kernel_rfl))⟩
 f40:=⟨Tryz.f185.name,by decide,Tryz.func185.trans (congrArg some (by kernel_rfl))⟩
 t0:=Tryz.underlying0
 a0:=Tryz.isAgg0
 z0:=Tryz.sizeOf0
 v0:=Tryz.zeroValue0
 t3:=Tryz.underlying3
 a3:=Tryz.isAgg3
 z3:=Tryz.sizeOf3
 v3:=Tryz.zeroValue3
 t4:=Tryz.underlying4
 a4:=Tryz.isAgg4
 z4:=Tryz.sizeOf4
 v4:=Tryz.zeroValue4
 t5:=Tryz.underlying5
 a5:=Tryz.isAgg5
 z5:=Tryz.sizeOf5
 v5:=Tryz.zeroValue5
 t9:=Tryz.underlying9
 a9:=Tryz.isAgg9
 z9:=Tryz.sizeOf9
 v9:=Tryz.zeroValue9
 t22:=Tryz.underlying22
 a22:=Tryz.isAgg22
 z22:=Tryz.sizeOf22
 v22:=Tryz.zeroValue22
 t23:=Tryz.underlying22
 a23:=Tryz.isAgg22
 z23:=Tryz.sizeOf22
 v23:=Tryz.zeroValue22
 t25:=Tryz.underlying3
 a25:=Tryz.isAgg3
 z25:=Tryz.sizeOf3
 v25:=Tryz.zeroValue3
 t32:=Tryz.underlying171
 a32:=Tryz.isAgg171
 z32:=Tryz.sizeOf171
 v32:=Tryz.zeroValue171
 t35:=Tryz.underlying189
 a35:=Tryz.isAgg189
 z35:=Tryz.sizeOf189
 v35:=Tryz.zeroValue189
 t36:=Tryz.underlying190
 a36:=Tryz.isAgg190
 z36:=Tryz.sizeOf190
 v36:=Tryz.zeroValue190
 t41:=Tryz.underlying194
 a41:=Tryz.isAgg194
 z41:=Tryz.sizeOf194
 v41:=Tryz.zeroValue194
 t44:=Tryz.underlying197
 a44:=Tryz.isAgg197
 z44:=Tryz.sizeOf197
 v44:=Tryz.zeroValue197
 t46:=Tryz.underlying199
 a46:=Tryz.isAgg199
 z46:=Tryz.sizeOf199
 v46:=Tryz.zeroValue199
 t53:=Tryz.underlying205
 a53:=Tryz.isAgg205
 z53:=Tryz.sizeOf205
 v53:=Tryz.zeroValue205
 t57:=Tryz.underlying209
 a57:=Tryz.isAgg209
 z57:=Tryz.sizeOf209
 v57:=Tryz.zeroValue209
 t63:=Tryz.underlying214
 a63:=Tryz.isAgg214
 z63:=Tryz.sizeOf214
 v63:=Tryz.zeroValue214
 t64:=Tryz.underlying215
 a64:=Tryz.isAgg215
 z64:=Tryz.sizeOf215
 v64:=Tryz.zeroValue215 }
def Tryz.delA_ren : Go.Shelf.Ren:=⟨fun | 23=>57 | n=>n,fun | 22=>22 | 3=>3 | 4=>4 | 0=>0 | n=>n,fun | n=>n⟩
theorem Tryz.delA : Go.Proofs.Lays2.n23 Tryz.prog Tryz.delA_ren:={
 mixed:=by kernel_rfl
 f23:=Tryz.func57.trans (congrArg some (by kernel_rfl))
 t0:=Tryz.underlying0
 a0:=Tryz.isAgg0
 z0:=Tryz.sizeOf0
 v0:=Tryz.zeroValue0
 t3:=Tryz.underlying3
 a3:=Tryz.isAgg3
 z3:=Tryz.sizeOf3
 v3:=Tryz.zeroValue3
 t4:=Tryz.underlying4
 a4:=Tryz.isAgg4
 z4:=Tryz.sizeOf4
 v4:=Tryz.zeroValue4
 t22:=Tryz.underlying22
 a22:=Tryz.isAgg22
 z22:=Tryz.sizeOf22
 v22:=Tryz.zeroValue22
 i3:=by kernel_rfl }
end Go.Proofs
namespace Go.Proofs.YtndlggbljkhfbaaGreat
open Go.Tidy
variable {L : List Blk} {k : V → List Blk → Prop}
theorem below_good {g : Gh} {w w' : World} (hg : Go.Tidy.Good g w L) (hb : Go.RowKit.Below w.heap.size w w') :
  ∃ g' : Gh,Go.Tidy.Good g' w' L ∧ Prog L.length g w L g' w' L ∧ ∀ q,w.heap.size ≤ q → q < w'.heap.size → g'.I q:=by
 let g' : Gh:={ g with I:=fun q=>g.I q ∨ (w.heap.size ≤ q ∧ q < w'.heap.size) }
 have hold : ∀ (a : Addr) (v : Value),g.I a.block → w.cell? a = some v → w'.cell? a = some v:=fun a v hi hc=>by
  rw [World.cell?_of_block (hb.block _ (hg.lt _ hi))]; exact hc
 have mono : ∀ (x : V) (v : Value),RV g w L x v → RV g' w' L x v:=fun x v hx=>RV.mono (g':=g') (k:=L.length) (fun r h=>Or.inl h) hold (fun b _=>Keep.same rfl rfl rfl) hx.bel hx
 have hob : ∀ (r : Nat) (o : Obj),w.heap[r]? = some o → w'.heap[r]? = some o:=fun r o ho=>by
  rw [hb.block r (Array.getElem?_eq_some_iff.1 ho).1]; exact ho
 refine ⟨g',⟨hg.inj,fun r ho hi=>?_,fun r hi=>?_,fun b x hx=>RB.mono' mono rfl rfl (fun r o _ ho=>hob r o ho) (fun l _=>⟨rfl,fun h=>h⟩) (hg.blk b x hx),hg.gl.mono (I':=g'.I) (fun r h=>Or.inl h) hold⟩,
  ⟨⟨hb.tape,hb.os,hb.output⟩,hb.size,fun r o ho _=>hob r o ho,fun r ho _=>ho,fun r hr=>?_,fun r h=>Or.inl h,fun x v _ hx=>mono x v hx,fun b r _ h1 h2=>⟨h1,h2⟩,fun h=>h⟩,fun q h1 h2=>Or.inr ⟨h1,h2⟩⟩
 ·rcases hi with h | ⟨h,_⟩
  ·exact hg.dis r ho h
  ·have:=hg.owned_lt (r:=r) ho; omega
 ·rcases hi with h | ⟨_,h⟩
  ·exact Nat.lt_of_lt_of_le (hg.lt r h) hb.size
  ·exact h
 ·rcases hr with h | ⟨h,_⟩
  ·exact .inl h
  ·exact .inr (.inl h)
def sortI (l : List Int) : List Int:=l.mergeSort fun x y=>decide (x ≤ y)
theorem sorts_ok (m : Nat) : AnyZI.SortsIn Tryz.prog Tryz.sortedA_ren Fence.wide m :=
 ⟨fun blk off cap ss W hH hblk hsz=>callsIn_wide.2 (AnyM.slices_Sort_int Tryz.sortA blk off cap ss W hH hblk hsz),fun p cap W=>callsIn_wide.2 (AnyM.slices_Sort_int_none Tryz.sortA p cap W)⟩
theorem keys_c (b : Nat) (h : k (.fn 102 [.ptr L.length 0]) (L ++ [.cells [.map b]])) : CallP C 46 [.map b] L k:=by
 refine callP_of C_ok Tryz.func46 rfl rfl (n:=_) rfl (w18 rfl) (rs:=_) rfl ?_
 repeat' ((conv=>whnf); first|refine w0 ?_|refine w1 ?_|refine w2 (fun h=>?_) (fun h=>?_)|refine w3 ?_|refine w4 (fun h=>?_) (fun h=>?_)|refine w5 _ rfl ?_|refine w6 rfl ?_|refine w7 mixed rfl ?_)
 conv=>whnf
 exact FinP.same h
abbrev anyR : Value → Option (DataW Unit × List MemPlace):=fun _=>some (.nil,[])
theorem set_reads {ents : Array MapEntry} {us : List Int} (hlen : ents.size = us.length) (hk : ∀ (i : Nat) (e : MapEntry) (hi : i < us.length),ents[i]? = some e → e.key = .int .i64 us[i]) (hr : ∀ u ∈ us,(Lit.int .i64 u).wf = true) :
  (∀ x ∈ ents.toList,∃ y,Go.WideElems.rd Tryz.prog 3 anyR x = some y) ∧ (intKeys (.map ((ents.toList.map (Go.WideElems.rg Tryz.prog 3 anyR)).foldr DataW.insert []))).Perm us:=by
 have hki : Tryz.prog.underlying 3 = some (.int .i64):=by kernel_rfl
 have at' : ∀ (i : Nat) (e : MapEntry),ents[i]? = some e → ∃ hi : i < us.length,Go.WideElems.rd Tryz.prog 3 anyR e = some (.int .i64 us[i],.nil):=fun i e he=>by
  have hi : i < us.length:=by have:=(Array.getElem?_eq_some_iff.1 he).1; omega
  refine ⟨hi,?_⟩
  unfold Go.WideElems.rd
  rw [hk i e hi he,Go.Maps.keyOf_int_mk hki (hr _ (List.getElem_mem hi))]
  rfl
 constructor
 ·intro x hx
  obtain ⟨i,hi⟩:=List.mem_iff_getElem?.1 hx
  obtain ⟨_,h⟩:=at' i x (by simpa using hi)
  exact ⟨_,h⟩
 ·have e : (ents.toList.map (Go.WideElems.rg Tryz.prog 3 anyR)).map (fun p=>Go.intOf p.1) = us:=by
   refine List.ext_getElem (by simp [hlen]) fun i h1 h2=>?_
   simp only [List.getElem_map]
   have hi : i < ents.size:=by omega
   obtain ⟨_,h⟩:=at' i ents[i] (Array.getElem?_eq_getElem hi)
   have : ents.toList[i]'(by simpa using hi) = ents[i]:=by simp
   rw [this,Go.WideElems.rg,h]; rfl
  rw [← e]
  exact (Go.WideShapes.sorted_perm _).map _
theorem sortedKeys_c {b bx : Nat} {us : List Int} (hL : L[b]? = some (.map (boolM (intK us)))) (hB : L[bx]? = some (.cells [.map b])) (hr : ∀ u ∈ us,(Lit.int .i64 u).wf = true) (hn : us.length ≤ 1073741824) (h : k (.d (ints (sortI us))) L) :
  CallP C 45 [.fn 102 [.ptr bx 0]] L k:=by
 unfold CallP
 refine ⟨⟨_,Tryz.func45,rfl,rfl⟩,fun g w vs hg hv=>?_⟩
 obtain ⟨hlen,hrel⟩:=hv
 obtain ⟨v,rfl⟩ : ∃ v,vs = #[v]:=by
  match vs,hlen with
  | ⟨[v]⟩,_=>exact ⟨v,rfl⟩
 have h0:=hrel 0 _ v rfl rfl
 cases h0 with
 | fn _ _ cs hcl hcr =>
 obtain ⟨q,rfl⟩ : ∃ q,cs = #[q]:=by
  match cs,hcl with
  | ⟨[q]⟩,_=>exact ⟨q,rfl⟩
 have h1:=hcr 0 _ q rfl rfl
 cases h1 with
 | ptrX _ _ a hd=>rw [hB] at hd; cases hd
 | ptr _ _ r1 cs1 hL1 hm1 =>
 rw [hB] at hL1; cases hL1
 obtain ⟨r1',cur,T,hm1',hh1,hsz,_,hrec⟩:=hg.blk bx _ hB
 rw [hm1] at hm1'; cases hm1'
 obtain ⟨c0,hc0⟩ : ∃ c0,cur[0]? = some c0:=⟨_,Array.getElem?_eq_getElem (by rw [hsz]; exact Nat.zero_lt_one)⟩
 have h2:=hrec 0 _ c0 rfl hc0
 cases h2 with
 | mapX _ a hd=>rw [hL] at hd; cases hd
 | map _ r2 es hL2 hm2 =>
 rw [hL] at hL2; cases hL2
 obtain ⟨r2',ents,clock,hm2',hh2,hes,hst,hent⟩:=hg.blk b _ hL
 rw [hm2] at hm2'; cases hm2'
 have hcell : w.cell? ⟨r1,0,none⟩ = some (.map (some r2)):=by rw [cell_row hh1]; exact hc0
 have hsize : ents.size = us.length:=by rw [hes]; simp [boolM,intK]
 have hkey : ∀ (i : Nat) (e : MapEntry) (hi : i < us.length),ents[i]? = some e → e.key = .int .i64 us[i]:=fun i e hi he=>by
  have hx : (boolM (intK us))[i]? = some (I us[i],B true):=by
   unfold boolM intK; rw [List.getElem?_map,List.getElem?_map,List.getElem?_eq_getElem hi]; rfl
  have hv:=(hent i _ e hx he).1
  generalize e.key = y at hv ⊢
  cases hv with | d _ _ hd=>cases hd; rfl
 obtain ⟨hrd,hperm⟩:=set_reads hsize hkey hr
 have hbig : us.length ≤ maxLen:=by simp [maxLen]; omega
 have hown : w.ownsMap Tryz.prog 3 anyR r2 ents.size (.map ((ents.toList.map (Go.WideElems.rg Tryz.prog 3 anyR)).foldr DataW.insert [])) :=
  ⟨ents,clock,hh2,⟨by rw [hsize]; exact hbig,hst,hrd⟩,Nat.le_refl _,rfl⟩
 have hms : Go.Maps.size (DataW.map ((ents.toList.map (Go.WideElems.rg Tryz.prog 3 anyR)).foldr DataW.insert [])) = us.length:=by
  show ((ents.toList.map (Go.WideElems.rg Tryz.prog 3 anyR)).foldr DataW.insert []).length = _
  rw [Go.length_sorted]; simpa using hsize
 have hr1 : r1 < w.heap.size:=(Array.getElem?_eq_some_iff.1 hh1).1
 have hseq : Go.SeqGives Fence.wide 2 Tryz.prog 102 #[.pointer (some ⟨r1,0,none⟩)] encZ _ _ w :=
  AnyZI.keys_gives (ρ:=Tryz.keysA_ren) { Tryz.keysA with } Fence.wide _ trivial rfl (by omega) r1 r2 _ _ w hr1 hcell hown
 have cS:=AnyZI.sorted_in Tryz.sortedA Fence.wide 5 trivial trivial trivial trivial rfl (by omega) (sorts_ok _) (enters_of Tryz.func101 (by kernel_rfl) rfl) 102 #[.pointer (some ⟨r1,0,none⟩)] trivial (enters_of Tryz.func102 (by kernel_rfl) rfl) _ _ (by rw [hms]; exact hbig) (by rw [hms]; omega) _ hseq
 change CallsIn _ _ Tryz.prog 45 _ _ _ at cS
 refine ((callsIn_wide (n:=5)).1 cS).mono ?_
 rintro e w' ⟨v,ss,rfl,hss,hrow,hnil,hb⟩
 obtain ⟨-,hv⟩:=hrow
 have hS : sortI us = ss.mergeSort (fun x y=>decide (x ≤ y)):=(mergeSort_of_perm_i (hss.trans hperm)).symm
 have hSl : (sortI us).length = ss.length:=by rw [hS,List.length_mergeSort]
 obtain ⟨g',hg',hp,hI⟩:=below_good hg hb
 refine .inl ⟨v,.d (ints (sortI us)),L,g',rfl,h,.d _ _ ?_,hg',hp⟩
 rcases hv with ⟨rfl,hz⟩ | ⟨gb,cap,cur',rfl,hbase,hgb,hn1,hn2,hn3,hn4⟩
 ·have : sortI us = []:=List.eq_nil_of_length_eq_zero (by omega)
  rw [this]
  exact .slNil _ _
 ·have hgl : gb < w'.heap.size:=(Array.getElem?_eq_some_iff.1 hgb).1
  have hel : ss.length = ((sortI us).map fun n=>[DI n]).length:=by rw [List.length_map,hSl]
  have hcv : ∀ (i : Nat) (hi : i < (sortI us).length),cur'[i]? = some (.int .i64 (sortI us)[i]):=fun i hi=>by
   have h1 : (cur'.toList.take (ss.length * 1))[i]? = some (.int .i64 (sortI us)[i]):=by
    rw [hn4,← hS,List.getElem?_map,List.getElem?_eq_getElem hi]; rfl
   rw [List.getElem?_take,if_pos (by omega)] at h1
   simpa using h1
  have hgd : ∀ (i : Nat) (hi : i < (sortI us).length),(sortI us).getD i 0 = (sortI us)[i]:=fun i hi=>by simp [List.getD,List.getElem?_eq_getElem hi]
  rw [hel]
  unfold ints
  refine .sl _ ⟨gb,0,none⟩ cap 1 (fun i _=>.int .i64 ((sortI us).getD i 0)) (lenC _) (fun i j hi hj=>?_) (hI gb hbase hgl) (by omega) (fun i j x hx=>?_)
  ·rw [List.length_map] at hi
   obtain rfl : j = 0:=by omega
   rw [Addr.add_lit,cell_row hgb]
   rw [show 0 + (i * 1 + 0) = i by omega,hcv i hi,hgd i hi]
  ·rw [List.getElem?_map] at hx
   cases hq : (sortI us)[i]? with
   | none=>rw [hq] at hx; cases hx
   | some y =>
    rw [hq] at hx
    have hi:=lt_of_get hq
    rw [List.getElem?_eq_getElem hi] at hq
    cases hq
    cases j with
    | zero=>simp at hx; subst hx; rw [hgd i hi]; exact .int _ _
    | succ j=>simp at hx
end Go.Proofs.YtndlggbljkhfbaaGreat
namespace Go.Proofs.YtndlggbljkhfbaaGreat
open Go.Tidy
variable {L : List Blk} {k : V → List Blk → Prop}
theorem rin07_c (n a b : Int) (h : k (B (decide (a ≤ n ∧ n ≤ b))) L) : CallP C 187 [I n,I a,I b] L k:=by
 refine CallP.pure ?_ rfl (fun _=>rfl) h
 clear h
 refine callP_of C_ok Tryz.func187 rfl rfl (n:=_) rfl (w18 rfl) (rs:=_) rfl ?_
 repeat' ((conv=>whnf); first|refine w0 ?_|refine w1 ?_|refine w2 (fun h=>?_) (fun h=>?_)|refine w3 ?_|refine w4 (fun h=>?_) (fun h=>?_)|refine w5 _ rfl ?_|refine w6 rfl ?_|refine w7 mixed rfl ?_)
 all_goals conv=>whnf
 all_goals refine w15 (n:=0) rfl (w21 0) rfl rfl ⟨rfl,congrArg B ?_⟩
 all_goals simp [*]
theorem rclub07_c (n : Int) (h : k (B (decide (0 ≤ n ∧ n ≤ 191))) L) : CallP C 186 [I n] L k:=by
 refine CallP.pure ?_ rfl (fun _=>rfl) h
 clear h
 refine callP_of C_ok Tryz.func186 rfl rfl (n:=_) rfl (w18 rfl) (rs:=_) rfl ?_
 repeat' ((conv=>whnf); first|refine w0 ?_|refine w1 ?_|refine w2 (fun h=>?_) (fun h=>?_)|refine w3 ?_|refine w4 (fun h=>?_) (fun h=>?_)|refine w5 _ rfl ?_|refine w6 rfl ?_|refine w7 mixed rfl ?_|refine rin07_c n 0 191 ?_)
 conv=>whnf
 exact FinP.drop (n:=0) rfl (w21 0) rfl rfl ⟨rfl,rfl⟩
theorem member07_c (l : List Int) (n : Int) (hl : l.length ≤ 4611686018427387904) (h : k (B (decide (n ∈ l))) L) : CallP C 173 [.d (ints l),I n] L k:=by
 refine CallP.pure ?_ rfl (fun _=>rfl) h
 clear h
 refine callP_of C_ok Tryz.func173 rfl rfl (n:=_) rfl (w18 rfl) (rs:=_) rfl ?_
 conv=>whnf
 refine LoopP.inv (fun i=>i ≤ l.length ∧ ∀ (j : Nat) (hj : j < l.length),j < i → ¬ l[j] = n) (fun i=>⟨[(0,.d (ints l)),(1,I n),(4,B false),(5,I i)],Tryz.f173.ntmps,[],[],none⟩) (fun i=>l.length - i) 0 ⟨w22 _,fun j _ h=>absurd h (Nat.not_lt_zero j)⟩ ?_ ?_
 ·exact Weak.by ⟨rfl,rfl,rfl,rfl,trivial⟩
 rintro i ⟨hi,hok⟩
 by_cases hi' : i < l.length
 ·have hlt : (i : Int) < ((l.map fun n=>[DI n]).length : Int):=by rw [List.length_map]; omega
  have hw : IntKind.i64.wrap ((i : Int) + 1) = ((i + 1 : Nat) : Int):=by rw [wrap_in (by omega)]; omega
  repeat' ((conv=>whnf); first|refine w8 (w19 hlt) ?_|refine w11 i rfl hi' ?_|refine w0 ?_|refine w1 ?_|refine w2 (fun h=>?_) (fun h=>?_)|refine w3 ?_|refine w4 (fun h=>?_) (fun h=>?_)|refine w5 _ rfl ?_|refine w6 rfl ?_|refine w7 mixed rfl ?_)
  all_goals conv=>whnf
  all_goals first
  | exact FinP.drop (n:=0) rfl (w21 0) rfl rfl ⟨rfl,congrArg B (w19 (‹l[i] = n› ▸ List.getElem_mem hi')).symm⟩
  | exact ⟨i + 1,⟨hi',fun j hj hji=>by
    by_cases e : j = i
    ·subst e; assumption
    ·exact hok j hj (by omega)⟩,by omega,Weak.by ⟨rfl,rfl,rfl,congrArg I hw,trivial⟩⟩
 ·have hlt : ¬ (i : Int) < ((l.map fun n=>[DI n]).length : Int):=by rw [List.length_map]; omega
  repeat' ((conv=>whnf); first|refine w9 (w20 hlt) ?_|refine w0 ?_|refine w1 ?_|refine w2 (fun h=>?_) (fun h=>?_)|refine w3 ?_|refine w4 (fun h=>?_) (fun h=>?_)|refine w5 _ rfl ?_|refine w6 rfl ?_|refine w7 mixed rfl ?_)
  conv=>whnf
  exact FinP.drop (n:=0) rfl (w21 0) rfl rfl ⟨rfl,congrArg B (w20 fun hm=>by
   obtain ⟨j,hj,e⟩:=List.getElem_of_mem hm
   exact hok j hj (by omega) e).symm⟩
theorem field_at {cs : List Int} (hf : fieldOk cs 2 = true) {i : Nat} (hi : i < cs.length) : (0 ≤ cs[i] ∧ cs[i] < 192) ∧ ∀ h : 0 < i,cs[i - 1]'(by omega) < cs[i]:=by
 simp only [fieldOk,Bool.and_eq_true] at hf
 exact (okAt_at hi).1 ((incr_iff cs).1 hf.1.1 i)
theorem field_len {cs : List Int} (hf : fieldOk cs 2 = true) : 2 ≤ cs.length ∧ cs.length ≤ 24:=by
 simp only [fieldOk,Bool.and_eq_true,decide_eq_true_eq] at hf; omega
theorem valid30_t (cs : List Int) (hf : fieldOk cs 2 = true) (h : k (B true) L) : CallP C 172 [.d (ints cs)] L k:=by
 obtain ⟨hl1,hl2⟩:=field_len hf
 have clubs : ∀ {L : List Blk} {k : V → List Blk → Prop},k (B true) L → CallP C 183 [.d (ints cs),I 2,I 24] L k:=by
  intro L k h
  refine CallP.pure ?_ rfl (fun _=>rfl) h
  clear h
  refine callP_of C_ok Tryz.func183 rfl rfl (n:=_) rfl (w18 rfl) (rs:=_) rfl ?_
  conv=>whnf
  refine LoopP.inv (fun i=>i ≤ cs.length) (fun i=>⟨[(0,.d (ints cs)),(1,I 2),(2,I 24),(7,I i)],Tryz.f183.ntmps,[],[],none⟩) (fun i=>cs.length - i) 0 (w22 _) ?_ ?_
  ·exact Weak.by ⟨rfl,rfl,rfl,rfl,trivial⟩
  intro i hi
  by_cases hi' : i < cs.length
  ·have hlt : (i : Int) < ((cs.map fun n=>[DI n]).length : Int):=by rw [List.length_map]; omega
   have hw : IntKind.i64.wrap ((i : Int) + 1) = ((i + 1 : Nat) : Int):=by rw [wrap_in (by omega)]; omega
   have hc:=(field_at hf hi').1
   have hcl : 0 ≤ cs[i] ∧ cs[i] ≤ 191:=by omega
   repeat' ((conv=>whnf); first|refine w8 (w19 hlt) ?_|refine w11 i rfl hi' ?_|refine rclub07_c _ ?_|refine w3 ?_|refine w8 (w19 hcl) ?_|refine w0 ?_|refine w1 ?_|refine w2 (fun h=>?_) (fun h=>?_)|refine w3 ?_|refine w4 (fun h=>?_) (fun h=>?_)|refine w5 _ rfl ?_|refine w6 rfl ?_|refine w7 mixed rfl ?_)
   conv=>whnf
   exact ⟨i + 1,hi',by omega,Weak.by ⟨rfl,rfl,rfl,congrArg I hw,trivial⟩⟩
  ·have hlt : ¬ (i : Int) < ((cs.map fun n=>[DI n]).length : Int):=by rw [List.length_map]; omega
   repeat' ((conv=>whnf); first|refine w9 (w20 hlt) ?_|refine rin07_c _ 2 24 ?_|refine w0 ?_|refine w1 ?_|refine w2 (fun h=>?_) (fun h=>?_)|refine w3 ?_|refine w4 (fun h=>?_) (fun h=>?_)|refine w5 _ rfl ?_|refine w6 rfl ?_|refine w7 mixed rfl ?_)
   conv=>whnf
   exact FinP.drop (n:=0) rfl (Nat.le_refl 0) rfl rfl ⟨rfl,congrArg B (decide_eq_true (by rw [List.length_map]; omega))⟩
 have incrs : ∀ {L : List Blk} {k : V → List Blk → Prop},k (B true) L → CallP C 184 [.d (ints cs)] L k:=by
  intro L k h
  refine CallP.pure ?_ rfl (fun _=>rfl) h
  clear h
  refine callP_of C_ok Tryz.func184 rfl rfl (n:=_) rfl (w18 rfl) (rs:=_) rfl ?_
  conv=>whnf
  refine LoopP.inv (fun i=>i < cs.length) (fun i=>⟨[(0,.d (ints cs)),(3,I (i + 1 : Nat))],Tryz.f184.ntmps,[],[],none⟩) (fun i=>cs.length - i) 0 (by omega) ?_ ?_
  ·exact Weak.by ⟨rfl,rfl,trivial⟩
  intro i hi
  by_cases hi' : i + 1 < cs.length
  ·have hlt : ((i + 1 : Nat) : Int) < ((cs.map fun n=>[DI n]).length : Int):=by rw [List.length_map]; omega
   have hw : IntKind.i64.wrap (((i + 1 : Nat) : Int) + 1) = ((i + 1 + 1 : Nat) : Int):=by rw [wrap_in (by omega)]; omega
   have hw2 : IntKind.i64.wrap (((i + 1 : Nat) : Int) - 1) = (i : Int):=by rw [wrap_in (by omega)]; omega
   have hc:=(field_at hf hi').2 (by omega)
   have hc' : ¬ cs[i + 1] ≤ cs[i]:=by simp only [Nat.add_sub_cancel] at hc; omega
   repeat' ((conv=>whnf); first|refine w8 (w19 hlt) ?_|refine w11 (i + 1) rfl hi' ?_|refine w11 i hw2 hi ?_|refine w9 (w20 hc') ?_|refine w0 ?_|refine w1 ?_|refine w2 (fun h=>?_) (fun h=>?_)|refine w3 ?_|refine w4 (fun h=>?_) (fun h=>?_)|refine w5 _ rfl ?_|refine w6 rfl ?_|refine w7 mixed rfl ?_)
   conv=>whnf
   exact ⟨i + 1,hi',by omega,Weak.by ⟨rfl,congrArg I hw,trivial⟩⟩
  ·have hlt : ¬ ((i + 1 : Nat) : Int) < ((cs.map fun n=>[DI n]).length : Int):=by rw [List.length_map]; omega
   repeat' ((conv=>whnf); first|refine w9 (w20 hlt) ?_|refine w0 ?_|refine w1 ?_|refine w2 (fun h=>?_) (fun h=>?_)|refine w3 ?_|refine w4 (fun h=>?_) (fun h=>?_)|refine w5 _ rfl ?_|refine w6 rfl ?_|refine w7 mixed rfl ?_)
   conv=>whnf
   exact FinP.drop (n:=0) rfl (w21 0) rfl rfl ⟨rfl,rfl⟩
 refine CallP.pure ?_ rfl (fun _=>rfl) h
 clear h
 refine callP_of C_ok Tryz.func172 rfl rfl (n:=_) rfl (w18 rfl) (rs:=_) rfl ?_
 repeat' ((conv=>whnf); first|refine w0 ?_|refine w1 ?_|refine w2 (fun h=>?_) (fun h=>?_)|refine w3 ?_|refine w4 (fun h=>?_) (fun h=>?_)|refine w5 _ rfl ?_|refine w6 rfl ?_|refine w7 mixed rfl ?_|refine clubs ?_|refine incrs ?_)
 conv=>whnf
 exact FinP.drop (n:=0) rfl (w21 0) rfl rfl ⟨rfl,rfl⟩
def isM (m : Mt) (x : Mt) : Bool:=decide (x = m)
def cntM (m : Mt) (l : List Mt) : Nat:=l.countP (isM m)
theorem cntM_next (m : Mt) {r : List Mt} {i : Nat} (hi : i < r.length) : cntM m (r.take (i + 1)) = cntM m (r.take i) + if r[i] = m then 1 else 0:=by
 unfold cntM
 rw [take_next hi,List.countP_append]
 simp only [List.countP_cons,List.countP_nil,isM,decide_eq_true_eq,Nat.zero_add]
theorem cntM_le (m : Mt) (l : List Mt) : cntM m l ≤ l.length:=List.countP_le_length
theorem cntM_row (m : Mt) {l : Lst} {i : Nat} (hi : i < l.length) : cntM m (l.take (i + 1)).flatten = cntM m (l.take i).flatten + cntM m l[i]:=by
 unfold cntM
 rw [take_next hi,List.flatten_append,List.countP_append,List.flatten_singleton]
theorem row_len_le {l : Lst} {i : Nat} (hi : i < l.length) : (l.take i).flatten.length + l[i].length ≤ l.flatten.length:=by
 have h : (l.take (i + 1)).flatten.length ≤ l.flatten.length:=by
  conv=>rhs; rw [← List.take_append_drop (i + 1) l]
  rw [List.flatten_append,List.length_append]; omega
 rw [take_next hi,List.flatten_append,List.length_append,List.flatten_singleton] at h
 exact h
theorem count30_c (l : Lst) (m : Mt) (hl : l.length ≤ 1073741824) (hF : l.flatten.length ≤ 1073741824) (h : k (I (cntM m l.flatten)) L) : CallP C 146 [lisV l,mtV m] L k:=by
 refine CallP.pure ?_ rfl (fun _=>rfl) h
 clear h
 refine callP_of C_ok Tryz.func146 rfl rfl (n:=_) rfl (w18 rfl) (rs:=_) rfl ?_
 conv=>whnf
 refine LoopP.inv (fun r=>r ≤ l.length) (fun r=>⟨[(2,.ptr 0 0),(3,.ptr 1 0),(5,I (cntM m (l.take r).flatten)),(6,I r)],Tryz.f146.ntmps,[.cells [.d (lisD l)],.cells (m.cells.map .d)],[],none⟩) (fun r=>l.length - r) 0 (w22 _) ?_ ?_
 ·exact Weak.by ⟨rfl,rfl,rfl,rfl,trivial⟩
 intro r hr
 by_cases hr' : r < l.length
 ·have hlt : (r : Int) < ((l.map fun r=>[mts r]).length : Int):=by rw [List.length_map]; omega
  have hw : IntKind.i64.wrap ((r : Int) + 1) = ((r + 1 : Nat) : Int):=by rw [wrap_in (by omega)]; omega
  have hrow:=row_len_le hr'
  have hcr:=cntM_le m (l.take r).flatten
  repeat' ((conv=>whnf); first|refine w8 (w19 hlt) ?_|refine w0 ?_|refine w1 ?_|refine w2 (fun h=>?_) (fun h=>?_)|refine w3 ?_|refine w4 (fun h=>?_) (fun h=>?_)|refine w5 _ rfl ?_|refine w6 rfl ?_|refine w7 mixed rfl ?_)
  conv=>whnf
  refine LoopP.inv (fun i=>i ≤ l[r].length) (fun i=>⟨[(2,.ptr 0 0),(3,.ptr 1 0),(5,I (cntM m (l.take r).flatten + cntM m (l[r].take i) : Nat)),(6,I r),(7,I i)],Tryz.f146.ntmps,[.cells [.d (lisD l)],.cells (m.cells.map .d)],[],none⟩) (fun i=>l[r].length - i) 0 (w22 _) ?_ ?_
  ·exact Weak.by ⟨rfl,rfl,rfl,rfl,rfl,trivial⟩
  intro i hi
  by_cases hi' : i < l[r].length
  ·have hlt2 : (i : Int) < ((l[r].map Mt.cells).length : Int):=by rw [List.length_map]; omega
   have hw2 : IntKind.i64.wrap ((i : Int) + 1) = ((i + 1 : Nat) : Int):=by rw [wrap_in (by omega)]; omega
   have hci:=cntM_le m (l[r].take i)
   have hti : (l[r].take i).length ≤ i:=by rw [List.length_take]; exact Nat.min_le_left _ _
   have hw3 : IntKind.i64.wrap (((cntM m (l.take r).flatten + cntM m (l[r].take i) : Nat) : Int) + 1) = ((cntM m (l.take r).flatten + cntM m (l[r].take i) + 1 : Nat) : Int):=by rw [wrap_in (by omega)]; omega
   have hn:=cntM_next m hi'
   by_cases e : l[r][i] = m
   ·have hq:=(mEq l[r][i] m).trans (w19 e)
    rw [if_pos e] at hn
    repeat' ((conv=>whnf); first|refine w11 r rfl hr' ?_|refine w8 (w19 hlt2) ?_|refine w11 i rfl hi' ?_|refine w8 hq ?_|refine w0 ?_|refine w1 ?_|refine w2 (fun h=>?_) (fun h=>?_)|refine w3 ?_|refine w4 (fun h=>?_) (fun h=>?_)|refine w5 _ rfl ?_|refine w6 rfl ?_|refine w7 mixed rfl ?_)
    conv=>whnf
    exact ⟨i + 1,hi',by omega,Weak.by ⟨rfl,rfl,congrArg I (hw3.trans (by rw [hn]; rfl)),rfl,congrArg I hw2,trivial⟩⟩
   ·have hq:=(mEq l[r][i] m).trans (w20 e)
    rw [if_neg e] at hn
    repeat' ((conv=>whnf); first|refine w11 r rfl hr' ?_|refine w8 (w19 hlt2) ?_|refine w11 i rfl hi' ?_|refine w9 hq ?_|refine w0 ?_|refine w1 ?_|refine w2 (fun h=>?_) (fun h=>?_)|refine w3 ?_|refine w4 (fun h=>?_) (fun h=>?_)|refine w5 _ rfl ?_|refine w6 rfl ?_|refine w7 mixed rfl ?_)
    conv=>whnf
    exact ⟨i + 1,hi',by omega,Weak.by ⟨rfl,rfl,congrArg I (by rw [hn]; rfl),rfl,congrArg I hw2,trivial⟩⟩
  ·have hlt2 : ¬ (i : Int) < ((l[r].map Mt.cells).length : Int):=by rw [List.length_map]; omega
   have hie : i = l[r].length:=by omega
   subst hie
   repeat' ((conv=>whnf); first|refine w11 r rfl hr' ?_|refine w9 (w20 hlt2) ?_|refine w0 ?_|refine w1 ?_|refine w2 (fun h=>?_) (fun h=>?_)|refine w3 ?_|refine w4 (fun h=>?_) (fun h=>?_)|refine w5 _ rfl ?_|refine w6 rfl ?_|refine w7 mixed rfl ?_)
   conv=>whnf
   exact ⟨r + 1,hr',by omega,Weak.by ⟨rfl,rfl,congrArg (fun n : Nat=>I n) (by rw [cntM_row m hr',List.take_length]),congrArg I hw,trivial⟩⟩
 ·have hlt : ¬ (r : Int) < ((l.map fun r=>[mts r]).length : Int):=by rw [List.length_map]; omega
  have hre : r = l.length:=by omega
  subst hre
  repeat' ((conv=>whnf); first|refine w9 (w20 hlt) ?_|refine w0 ?_|refine w1 ?_|refine w2 (fun h=>?_) (fun h=>?_)|refine w3 ?_|refine w4 (fun h=>?_) (fun h=>?_)|refine w5 _ rfl ?_|refine w6 rfl ?_|refine w7 mixed rfl ?_)
  conv=>whnf
  exact FinP.drop (n:=0) rfl (Nat.le_refl 0) rfl rfl ⟨rfl,congrArg (fun n : Nat=>I n) (by rw [List.take_length])⟩
end Go.Proofs.YtndlggbljkhfbaaGreat
namespace Go.Proofs.YtndlggbljkhfbaaGreat
open Go.Tidy
variable {L : List Blk} {k : V → List Blk → Prop}
def iR (l : List Int) : List (List V):=l.map fun n=>[I n]
theorem iR_len (l : List Int) : (iR l).length = l.length:=by unfold iR; rw [List.length_map]
theorem iR_bel (n : Nat) : ∀ l : List Int,belR n (iR l) = true
 | []=>rfl
 | c :: l=>by simp only [iR,List.map_cons,belR,V.belL,V.bel,Bool.true_and]; exact iR_bel n l
theorem iR_rows {S : Nat → Prop} {L : List Blk} : ∀ l : List Int,CvLL S L (iR l) (l.map fun n=>[DI n])
 | []=>.nil
 | c :: l=>.cons (.cons (.d _) .nil) (iR_rows l)
theorem iR_cv {S : Nat → Prop} {L : List Blk} (l : List Int) : CvLL S L (((iR l).drop 0).take l.length) (l.map fun n=>[DI n]) :=
 CvLL.cong (by rw [List.drop_zero,List.take_of_length_le (by rw [iR_len]; exact Nat.le_refl _)]) (iR_rows l)
theorem iR_app (l : List Int) (a b : Int) : (iR l).take l.length ++ [[I a],[I b]] = iR (l ++ [a,b]):=by
 unfold iR; rw [List.take_of_length_le (by simp),List.map_append]; rfl
theorem busyL_next {r : List Mt} {i : Nat} (hi : i < r.length) : busyL (r.take (i + 1)) = busyL (r.take i) ++ [r[i].home,r[i].away]:=by
 rw [take_next hi,busyL_append]; rfl
theorem part_nodup {l : Lst} {p : Pl} (hP : PartP l p) : l.flatten.Nodup:=flat_ind (S:=List.Nodup) List.nodup_nil fun i hi k hk hS=>by
 rw [List.nodup_append]
 refine ⟨hS,by simp,fun a ha b hb=>?_⟩
 rw [List.mem_singleton.1 hb]
 rintro rfl
 exact ((hP.2 i hi).2.2.2.1 k hk).2.2.2.2.2.1 ha
theorem cntM_nodup {m : Mt} : ∀ {l : List Mt},l.Nodup → cntM m l = if m ∈ l then 1 else 0
 | [],_=>rfl
 | x :: l,h=>by
  obtain ⟨h1,h2⟩:=List.nodup_cons.1 h
  have ih:=cntM_nodup (m:=m) h2
  unfold cntM at ih ⊢
  rw [List.countP_cons,ih]
  by_cases e : x = m
  ·subst e
   rw [if_neg h1,if_pos (show isM x x = true by simp [isM]),if_pos (by simp)]
  ·rw [if_neg (show ¬ isM m x = true by simp [isM,e])]
   by_cases e2 : m ∈ l
   ·rw [if_pos e2,if_pos (by simp [e2])]
   ·rw [if_neg e2,if_neg (by simp [e2]; exact fun h=>e h.symm)]
theorem rounds46 {l : Lst} {p : Pl} (h0 : checkP p = 0) (hP : PartP l p) : l.length ≤ 46:=by
 have:=field_len (checkP_field h0)
 have h:=hP.1
 unfold roundsN at h
 split at h <;> omega
theorem part_flat {l : Lst} {p : Pl} (h0 : checkP p = 0) (hP : PartP l p) : l.flatten.length ≤ 1073741824:=by
 have h1:=part_total hP
 have h2:=field_len (checkP_field h0)
 have h3 : roundsN p ≤ 46:=by unfold roundsN; split <;> omega
 have h4 : halfN p ≤ 12:=by unfold halfN; omega
 have : roundsN p * halfN p ≤ 46 * 12:=Nat.mul_le_mul h3 h4
 omega
theorem check30_t (l : Lst) (p : Pl) (h0 : checkP p = 0) (hP : PartP l p) (h : k (I 0) L) : CallP C 145 [lisV l,.d (ints p.clubs)] L k:=by
 have hf:=checkP_field h0
 have hl46:=rounds46 h0 hP
 have hF:=part_flat h0 hP
 obtain ⟨hc1,hc2⟩:=field_len hf
 have hl46' : ¬ (46 : Int) < ((l.map fun r=>[mts r]).length : Int):=by rw [List.length_map]; omega
 have hnd:=part_nodup hP
 refine CallP.pure ?_ rfl (fun _=>rfl) h
 clear h
 refine callP_of C_ok Tryz.func145 rfl rfl (n:=_) rfl (w18 rfl) (rs:=_) rfl ?_
 repeat' ((conv=>whnf); first|refine valid30_t _ hf ?_|refine w9 (w20 hl46') ?_|refine w0 ?_|refine w1 ?_|refine w2 (fun h=>?_) (fun h=>?_)|refine w3 ?_|refine w4 (fun h=>?_) (fun h=>?_)|refine w5 _ rfl ?_|refine w6 rfl ?_|refine w7 mixed rfl ?_)
 conv=>whnf
 refine LoopP.inv (fun r=>r ≤ l.length) (fun r=>⟨[(1,.d (ints p.clubs)),(2,.ptr 0 0),(5,I r)],Tryz.f145.ntmps,[.cells [.d (lisD l)]],[],none⟩) (fun r=>l.length - r) 0 (w22 _) ?_ ?_
 ·exact Weak.by ⟨rfl,rfl,rfl,trivial⟩
 intro r hr
 by_cases hr' : r < l.length
 ·have hlt : (r : Int) < ((l.map fun r=>[mts r]).length : Int):=by rw [List.length_map]; omega
  have hw : IntKind.i64.wrap ((r : Int) + 1) = ((r + 1 : Nat) : Int):=by rw [wrap_in (by omega)]; omega
  have hrow:=row_len_le hr'
  repeat' ((conv=>whnf); first|refine w8 (w19 hlt) ?_|refine w0 ?_|refine w1 ?_|refine w2 (fun h=>?_) (fun h=>?_)|refine w3 ?_|refine w4 (fun h=>?_) (fun h=>?_)|refine w5 _ rfl ?_|refine w6 rfl ?_|refine w7 mixed rfl ?_)
  conv=>whnf
  refine LoopP.inv (fun i=>i ≤ l[r].length) (fun i=>⟨[(1,.d (ints p.clubs)),(2,.ptr 0 0),(5,I r),(6,.own 1 i 0 (busyL (l[r].take i)).length),(7,I i)],Tryz.f145.ntmps,[.cells [.d (lisD l)],.row i 1 (iR (busyL (l[r].take i)))],[],none⟩) (fun i=>l[r].length - i) 0 (w22 _) ?_ ?_
  ·exact Weak.by ⟨rfl,rfl,rfl,rfl,rfl,trivial⟩
  intro i hi
  by_cases hi' : i < l[r].length
  ·have hlt2 : (i : Int) < ((l[r].map Mt.cells).length : Int):=by rw [List.length_map]; omega
   have hw2 : IntKind.i64.wrap ((i : Int) + 1) = ((i + 1 : Nat) : Int):=by rw [wrap_in (by omega)]; omega
   obtain ⟨b1,b2,b3,b4,b5,_⟩:=(hP.2 r hr').2.2.2.1 i hi'
   have hbn:=busyL_next hi'
   generalize hbq : busyL (l[r].take i) = bq at b4 b5 hbn
   have hbl : bq.length = 2 * (l[r].take i).length:=by rw [← hbq,busyL_len]
   have hti : (l[r].take i).length ≤ i:=by rw [List.length_take]; exact Nat.min_le_left _ _
   have hmem : ∀ (L : List Blk) (n : Int) (q : V → List Blk → Prop),L[1]? = some (.row i 1 (iR bq)) → q (B (decide (n ∈ bq))) L → CallP C 173 [.own 1 i 0 bq.length,I n] L q:=fun L n q hL hq =>
    CallP.lent (member07_c (L:=[]) bq n (by omega) ⟨rfl,rfl⟩) (.cv (.d (.rowL (ds:=bq.map fun n=>[DI n]) trivial hL (iR_cv bq) (by rw [List.length_map]) (lenC _))) (.keep .nil)) rfl rfl hq
   repeat' ((conv=>whnf); first|simp only [Nat.beq_refl,Bool.and_self]|refine Idx.map r rfl hr' ?_|refine Br.yes (decide_eq_true hlt2) ?_|refine Idx.map i rfl hi' ?_|refine Br.not ?_|refine Br.no (decide_eq_false b1) ?_|refine member07_c p.clubs _ (by omega) ?_|refine hmem _ _ _ rfl ?_|refine Br.yes (decide_eq_true b2) ?_|refine Br.yes (decide_eq_true b3) ?_|refine Br.no (decide_eq_false b4) ?_|refine Br.no (decide_eq_false b5) ?_|refine Need.intro (Nat.le_trans (m:=4294967296) (show bq.length + 2 ≤ 4294967296 by omega) (apLim_ge _)) ?_|refine Br.tt ?_|refine Br.ff ?_|refine Br.dec (fun h=>?_) (fun h=>?_)|refine Br.not ?_|refine Br.intro (fun h=>?_) (fun h=>?_)|refine GetE.intro _ rfl ?_|refine Need.intro rfl ?_|refine DrawP.go mixed rfl ?_)
   conv=>whnf
   refine ⟨i + 1,hi',by omega,?_⟩
   have hlen2 : (busyL (l[r].take (i + 1))).length = bq.length + 2:=by rw [hbn,List.length_append]; rfl
   refine Weak.to 2 ?_ (w22 _) (w18 rfl) ⟨rfl,rfl,rfl,?_,congrArg I hw2,trivial⟩ (hB:=?_)
   ·exact congrArg (fun z=>[Blk.cells [.d (lisD l)],.row (i + 1) 1 z]) ((iR_app bq _ _).trans (by rw [hbn]))
   ·exact congrArg (fun n : Nat=>V.own 1 (i + 1) 0 n) hlen2.symm
   ·show (true && (belR 2 (iR _) && true)) = true
    rw [iR_bel]; rfl
  ·have hlt2 : ¬ (i : Int) < ((l[r].map Mt.cells).length : Int):=by rw [List.length_map]; omega
   repeat' ((conv=>whnf); first|refine w11 r rfl hr' ?_|refine w9 (w20 hlt2) ?_|refine w0 ?_|refine w1 ?_|refine w2 (fun h=>?_) (fun h=>?_)|refine w3 ?_|refine w4 (fun h=>?_) (fun h=>?_)|refine w5 _ rfl ?_|refine w6 rfl ?_|refine w7 mixed rfl ?_)
   conv=>whnf
   exact ⟨r + 1,hr',by omega,Weak.to 1 rfl (w22 _) (w18 rfl) ⟨rfl,rfl,congrArg I hw,trivial⟩⟩
 ·have hlt : ¬ (r : Int) < ((l.map fun r=>[mts r]).length : Int):=by rw [List.length_map]; omega
  repeat' ((conv=>whnf); first|refine w9 (w20 hlt) ?_|refine w0 ?_|refine w1 ?_|refine w2 (fun h=>?_) (fun h=>?_)|refine w3 ?_|refine w4 (fun h=>?_) (fun h=>?_)|refine w5 _ rfl ?_|refine w6 rfl ?_|refine w7 mixed rfl ?_)
  conv=>whnf
  refine LoopP.inv (fun r=>r ≤ l.length) (fun r=>⟨[(1,.d (ints p.clubs)),(2,.ptr 0 0),(9,I r)],Tryz.f145.ntmps,[.cells [.d (lisD l)]],[],none⟩) (fun r=>l.length - r) 0 (w22 _) ?_ ?_
  ·exact Weak.by ⟨rfl,rfl,rfl,trivial⟩
  clear hr r hr' hlt
  intro r hr
  by_cases hr' : r < l.length
  ·have hlt : (r : Int) < ((l.map fun r=>[mts r]).length : Int):=by rw [List.length_map]; omega
   have hw : IntKind.i64.wrap ((r : Int) + 1) = ((r + 1 : Nat) : Int):=by rw [wrap_in (by omega)]; omega
   have hrow:=row_len_le hr'
   repeat' ((conv=>whnf); first|refine w8 (w19 hlt) ?_|refine w0 ?_|refine w1 ?_|refine w2 (fun h=>?_) (fun h=>?_)|refine w3 ?_|refine w4 (fun h=>?_) (fun h=>?_)|refine w5 _ rfl ?_|refine w6 rfl ?_|refine w7 mixed rfl ?_)
   conv=>whnf
   refine LoopP.inv (fun i=>i ≤ l[r].length) (fun i=>⟨[(1,.d (ints p.clubs)),(2,.ptr 0 0),(9,I r),(10,I i)],Tryz.f145.ntmps,[.cells [.d (lisD l)]],[],none⟩) (fun i=>l[r].length - i) 0 (w22 _) ?_ ?_
   ·exact Weak.by ⟨rfl,rfl,rfl,rfl,trivial⟩
   intro i hi
   by_cases hi' : i < l[r].length
   ·have hlt2 : (i : Int) < ((l[r].map Mt.cells).length : Int):=by rw [List.length_map]; omega
    have hw2 : IntKind.i64.wrap ((i : Int) + 1) = ((i + 1 : Nat) : Int):=by rw [wrap_in (by omega)]; omega
    have hc:=cntM_nodup (m:=l[r][i]) hnd
    have hc1 : ¬ (1 : Int) < (cntM l[r][i] l.flatten : Int):=by rw [hc]; split <;> omega
    repeat' ((conv=>whnf); first|refine w11 r rfl hr' ?_|refine w8 (w19 hlt2) ?_|refine w11 i rfl hi' ?_|refine w12 _ (count30_c l l[r][i] (by omega) hF ⟨rfl,rfl⟩) ?_|refine w9 (w20 hc1) ?_|refine w0 ?_|refine w1 ?_|refine w2 (fun h=>?_) (fun h=>?_)|refine w3 ?_|refine w4 (fun h=>?_) (fun h=>?_)|refine w5 _ rfl ?_|refine w6 rfl ?_|refine w7 mixed rfl ?_)
    conv=>whnf
    exact ⟨i + 1,hi',by omega,Weak.by ⟨rfl,rfl,rfl,congrArg I hw2,trivial⟩⟩
   ·have hlt2 : ¬ (i : Int) < ((l[r].map Mt.cells).length : Int):=by rw [List.length_map]; omega
    repeat' ((conv=>whnf); first|refine w11 r rfl hr' ?_|refine w9 (w20 hlt2) ?_|refine w0 ?_|refine w1 ?_|refine w2 (fun h=>?_) (fun h=>?_)|refine w3 ?_|refine w4 (fun h=>?_) (fun h=>?_)|refine w5 _ rfl ?_|refine w6 rfl ?_|refine w7 mixed rfl ?_)
    conv=>whnf
    exact ⟨r + 1,hr',by omega,Weak.by ⟨rfl,rfl,congrArg I hw,trivial⟩⟩
  ·have hlt : ¬ (r : Int) < ((l.map fun r=>[mts r]).length : Int):=by rw [List.length_map]; omega
   repeat' ((conv=>whnf); first|refine w9 (w20 hlt) ?_|refine w0 ?_|refine w1 ?_|refine w2 (fun h=>?_) (fun h=>?_)|refine w3 ?_|refine w4 (fun h=>?_) (fun h=>?_)|refine w5 _ rfl ?_|refine w6 rfl ?_|refine w7 mixed rfl ?_)
   conv=>whnf
   exact FinP.drop (n:=0) rfl (w21 0) rfl rfl ⟨rfl,rfl⟩
theorem full30_c (l : Lst) (p : Pl) (h0 : checkP p = 0) (hP : PartP l p) (h : k (.tup [B (fullC l p),I 0]) L) : CallP C 118 [lisV l,.d (ints p.clubs),B p.double] L k:=by
 have hf:=checkP_field h0
 have hl46:=rounds46 h0 hP
 have hF:=part_flat h0 hP
 obtain ⟨hc1,hc2⟩:=field_len hf
 have hnd:=part_nodup hP
 have hsum : ∀ (a b : Int),(cntM ⟨a,b⟩ l.flatten + cntM ⟨b,a⟩ l.flatten = if p.double then 2 else 1) ↔ GamesP l.flatten p.double a b:=fun a b=>by
  rw [cntM_nodup hnd,cntM_nodup hnd]
  unfold GamesP
  cases p.double <;> by_cases h1 : (⟨a,b⟩ : Mt) ∈ l.flatten <;> by_cases h2 : (⟨b,a⟩ : Mt) ∈ l.flatten <;> simp [h1,h2]
 have hfc : fullC l p = true ↔ FullX l.flatten p.clubs p.double:=by
  constructor
  ·exact fun h=>full_games h0 (full_of hP h)
  ·exact fun h=>fullC_len h0 hP (fullB_len h0 h)
 obtain ⟨fc,hfce⟩ : ∃ fc,fullC l p = fc:=⟨_,rfl⟩
 rw [hfce] at h hfc
 obtain ⟨want,hwant⟩ : ∃ want : Nat,want = if p.double then 2 else 1:=⟨_,rfl⟩
 refine CallP.pure ?_ rfl (fun _=>rfl) h
 clear h
 refine callP_of C_ok Tryz.func118 rfl rfl (n:=_) rfl (w18 rfl) (rs:=_) rfl ?_
 by_cases hd : p.double = true
 all_goals
  repeat' ((conv=>whnf); first|refine check30_t l p h0 hP ?_|refine w8 hd ?_|refine w9 (eq_false_of_ne_true hd) ?_|refine w0 ?_|refine w1 ?_|refine w2 (fun h=>?_) (fun h=>?_)|refine w3 ?_|refine w4 (fun h=>?_) (fun h=>?_)|refine w5 _ rfl ?_|refine w6 rfl ?_|refine w7 mixed rfl ?_)
  all_goals conv=>whnf
  all_goals refine LoopP.inv (fun i=>i ≤ p.clubs.length ∧ ∀ (a : Nat) (ha : a < p.clubs.length) (b : Nat) (hb : b < a),a < i → GamesP l.flatten p.double p.clubs[a] (p.clubs[b]'(by omega))) (fun i=>⟨[(1,.d (ints p.clubs)),(3,.ptr 0 0),(9,I want),(10,I i)],Tryz.f118.ntmps,[.cells [.d (lisD l)]],[],none⟩) (fun i=>p.clubs.length - i) 0 ⟨w22 _,fun _ _ _ _ h=>absurd h (Nat.not_lt_zero _)⟩ ?_ ?_
  ·exact Weak.by ⟨rfl,rfl,by rw [hwant]; simp [hd]; rfl,rfl,trivial⟩
  rintro i ⟨hi,hok⟩
  by_cases hi' : i < p.clubs.length
  ·have hlt : (i : Int) < ((p.clubs.map fun n=>[DI n]).length : Int):=by rw [List.length_map]; omega
   have hw : IntKind.i64.wrap ((i : Int) + 1) = ((i + 1 : Nat) : Int):=by rw [wrap_in (by omega)]; omega
   repeat' ((conv=>whnf); first|refine w8 (w19 hlt) ?_|refine w0 ?_|refine w1 ?_|refine w2 (fun h=>?_) (fun h=>?_)|refine w3 ?_|refine w4 (fun h=>?_) (fun h=>?_)|refine w5 _ rfl ?_|refine w6 rfl ?_|refine w7 mixed rfl ?_)
   conv=>whnf
   refine LoopP.inv (fun j=>j ≤ i ∧ ∀ (b : Nat) (hb : b < i),b < j → GamesP l.flatten p.double p.clubs[i] (p.clubs[b]'(by omega))) (fun j=>⟨[(1,.d (ints p.clubs)),(3,.ptr 0 0),(9,I want),(10,I i),(11,I j)],Tryz.f118.ntmps,[.cells [.d (lisD l)]],[],none⟩) (fun j=>i - j) 0 ⟨w22 _,fun _ _ h=>absurd h (Nat.not_lt_zero _)⟩ ?_ ?_
   ·exact Weak.by ⟨rfl,rfl,rfl,rfl,rfl,trivial⟩
   rintro j ⟨hj,hok2⟩
   by_cases hj' : j < i
   ·have hlt2 : (j : Int) < (i : Int):=by omega
    have hw2 : IntKind.i64.wrap ((j : Int) + 1) = ((j + 1 : Nat) : Int):=by rw [wrap_in (by omega)]; omega
    have hjc : j < p.clubs.length:=by omega
    have ha:=cntM_le ⟨p.clubs[i],p.clubs[j]⟩ l.flatten
    have hb:=cntM_le ⟨p.clubs[j],p.clubs[i]⟩ l.flatten
    have hw3 : IntKind.i64.wrap ((cntM ⟨p.clubs[i],p.clubs[j]⟩ l.flatten : Int) + (cntM ⟨p.clubs[j],p.clubs[i]⟩ l.flatten : Int)) = ((cntM ⟨p.clubs[i],p.clubs[j]⟩ l.flatten + cntM ⟨p.clubs[j],p.clubs[i]⟩ l.flatten : Nat) : Int):=by rw [wrap_in (by omega)]; omega
    have hs:=hsum p.clubs[i] p.clubs[j]
    rw [← hwant] at hs
    by_cases hg : GamesP l.flatten p.double p.clubs[i] p.clubs[j]
    ·have hq : IntKind.i64.wrap ((cntM ⟨p.clubs[i],p.clubs[j]⟩ l.flatten : Int) + (cntM ⟨p.clubs[j],p.clubs[i]⟩ l.flatten : Int)) = (want : Int):=by rw [hw3,hs.2 hg]
     repeat' ((conv=>whnf); first|refine w8 (w19 hlt2) ?_|refine w11 i rfl hi' ?_|refine w11 j rfl hjc ?_|refine w12 _ (count30_c l ⟨p.clubs[i],p.clubs[j]⟩ (by omega) hF ⟨rfl,rfl⟩) ?_|refine w12 _ (count30_c l ⟨p.clubs[j],p.clubs[i]⟩ (by omega) hF ⟨rfl,rfl⟩) ?_|refine w3 ?_|refine w8 (w19 hq) ?_|refine w0 ?_|refine w1 ?_|refine w2 (fun h=>?_) (fun h=>?_)|refine w3 ?_|refine w4 (fun h=>?_) (fun h=>?_)|refine w5 _ rfl ?_|refine w6 rfl ?_|refine w7 mixed rfl ?_)
     conv=>whnf
     exact ⟨j + 1,⟨hj',fun b hb hbj=>by
      by_cases e : b = j
      ·subst e; exact hg
      ·exact hok2 b hb (by omega)⟩,by omega,Weak.by ⟨rfl,rfl,rfl,rfl,congrArg I hw2,trivial⟩⟩
    ·have hq : ¬ IntKind.i64.wrap ((cntM ⟨p.clubs[i],p.clubs[j]⟩ l.flatten : Int) + (cntM ⟨p.clubs[j],p.clubs[i]⟩ l.flatten : Int)) = (want : Int):=by rw [hw3]; intro e; exact hg (hs.1 (by omega))
     repeat' ((conv=>whnf); first|refine w8 (w19 hlt2) ?_|refine w11 i rfl hi' ?_|refine w11 j rfl hjc ?_|refine w12 _ (count30_c l ⟨p.clubs[i],p.clubs[j]⟩ (by omega) hF ⟨rfl,rfl⟩) ?_|refine w12 _ (count30_c l ⟨p.clubs[j],p.clubs[i]⟩ (by omega) hF ⟨rfl,rfl⟩) ?_|refine w3 ?_|refine w9 (w20 hq) ?_|refine w0 ?_|refine w1 ?_|refine w2 (fun h=>?_) (fun h=>?_)|refine w3 ?_|refine w4 (fun h=>?_) (fun h=>?_)|refine w5 _ rfl ?_|refine w6 rfl ?_|refine w7 mixed rfl ?_)
     conv=>whnf
     refine w15 (n:=0) rfl (w21 0) rfl rfl ⟨rfl,congrArg (fun b=>V.tup [B b,I 0]) ?_⟩
     cases fc with
     | false=>rfl
     | true=>exact absurd (hfc.1 rfl i hi' j hj') hg
   ·have hlt2 : ¬ (j : Int) < (i : Int):=by omega
    repeat' ((conv=>whnf); first|refine w9 (w20 hlt2) ?_|refine w0 ?_|refine w1 ?_|refine w2 (fun h=>?_) (fun h=>?_)|refine w3 ?_|refine w4 (fun h=>?_) (fun h=>?_)|refine w5 _ rfl ?_|refine w6 rfl ?_|refine w7 mixed rfl ?_)
    conv=>whnf
    refine ⟨i + 1,⟨hi',fun a ha b hb hai=>?_⟩,by omega,Weak.by ⟨rfl,rfl,rfl,congrArg I hw,trivial⟩⟩
    by_cases e : a = i
    ·subst e; exact hok2 b hb (by omega)
    ·exact hok a ha b hb (by omega)
  ·have hlt : ¬ (i : Int) < ((p.clubs.map fun n=>[DI n]).length : Int):=by rw [List.length_map]; omega
   repeat' ((conv=>whnf); first|refine w9 (w20 hlt) ?_|refine w0 ?_|refine w1 ?_|refine w2 (fun h=>?_) (fun h=>?_)|refine w3 ?_|refine w4 (fun h=>?_) (fun h=>?_)|refine w5 _ rfl ?_|refine w6 rfl ?_|refine w7 mixed rfl ?_)
   conv=>whnf
   exact FinP.drop (n:=0) rfl (w21 0) rfl rfl ⟨rfl,congrArg (fun b=>V.tup [B b,I 0]) (hfc.2 fun a ha b hb=>hok a ha b hb (by omega)).symm⟩
end Go.Proofs.YtndlggbljkhfbaaGreat
namespace Go.Proofs.YtndlggbljkhfbaaGreat
open Go.Tidy
variable {L : List Blk} {k : V → List Blk → Prop}
theorem put_get {d : List Int} {cur : Array Value} {j : Nat} (hj : j < d.length) (hc : d.length ≤ cur.size) : (Go.Sort.putCells (Value.int .i64) 0 d.toArray cur)[j]? = some (.int .i64 d[j]):=by
 unfold Go.Sort.putCells
 rw [Array.getElem?_mapIdx,Array.getElem?_eq_getElem (by omega)]
 simp only [Option.map_some,Nat.zero_le,Nat.zero_add,List.size_toArray,true_and,Nat.sub_zero,if_pos hj]
 rw [getElem!_pos d.toArray j (by simpa using hj)]
 simp
theorem put_size (d : List Int) (cur : Array Value) : (Go.Sort.putCells (Value.int .i64) 0 d.toArray cur).size = cur.size:=by unfold Go.Sort.putCells; simp
theorem put_one {d : List Int} {cur : Array Value} (h : ∀ (i : Nat) (v : Value),cur[i]? = some v → v.oneCell' = true) : ∀ (i : Nat) (v : Value),(Go.Sort.putCells (Value.int .i64) 0 d.toArray cur)[i]? = some v → v.oneCell' = true:=by
 intro i v hv
 unfold Go.Sort.putCells at hv
 rw [Array.getElem?_mapIdx] at hv
 cases hc : cur[i]? with
 | none=>rw [hc] at hv; cases hv
 | some u =>
  rw [hc] at hv
  simp only [Option.map_some,Option.some.injEq] at hv
  split at hv
  ·rw [← hv]; rfl
  ·rw [← hv]; exact h i u hc
theorem iR_get {l : List Int} {i j : Nat} {x : V} (h : ((iR l)[i]?).bind (fun e=>e[j]?) = some x) : j = 0 ∧ ∃ hi : i < l.length,x = I l[i]:=by
 unfold iR at h
 rw [List.getElem?_map] at h
 cases hq : l[i]? with
 | none=>rw [hq] at h; cases h
 | some y =>
  have hi:=lt_of_get hq
  rw [List.getElem?_eq_getElem hi] at hq
  cases hq
  rw [List.getElem?_eq_getElem hi] at h
  cases j with
  | zero=>simp at h; exact ⟨rfl,hi,h.symm⟩
  | succ j=>simp at h
theorem iR_ones (l : List Int) : ∀ e ∈ iR l,e.length = 1:=fun e he=>by
 obtain ⟨n,_,rfl⟩:=List.mem_map.1 he; rfl
theorem delete_c {b gen i : Nat} {l : List Int} (hL : L[b]? = some (.row gen 1 (iR l))) (hi : i < l.length) (hl : l.length ≤ 1073741824) (h : k (.own b gen 0 (l.length - 1)) (L.set b (.row gen 1 (iR (l.take i ++ l.drop (i + 1) ++ [0]))))) :
  CallP C 57 [.own b gen 0 l.length,I i,I (i + 1 : Nat)] L k:=by
 unfold CallP
 refine ⟨⟨_,Tryz.func57,rfl,rfl⟩,fun g w vs hg hv=>?_⟩
 obtain ⟨hlen,hrel⟩:=hv
 obtain ⟨v,x,y,rfl⟩ : ∃ v x y,vs = #[v,x,y]:=by
  match vs,hlen with
  | ⟨[v,x,y]⟩,_=>exact ⟨v,x,y,rfl⟩
 have h0:=hrel 0 _ v rfl rfl
 have h1:=hrel 1 _ x rfl rfl
 have h2:=hrel 2 _ y rfl rfl
 cases h1 with | d _ _ hd =>
 cases hd
 cases h2 with | d _ _ hd =>
 cases hd
 have hbl:=lt_of_get hL
 generalize hn : l.length = n at h0
 cases h0 with
 | ownX _ _ _ _ a n c hL'=>rw [hL] at hL'; cases hL'
 | ownO _ _ gen2 _ _ _ _ a n c hL' hg'=>rw [hL] at hL'; cases hL'; omega
 | ownN _ _ sz2 els2 hL' hm'=>omega
 | own _ _ _ _ sz r o c els hL' hm ho hc hlc hle =>
 rw [hL] at hL'; cases hL'
 subst hn
 obtain ⟨_,hels,⟨hm',hnil⟩ | ⟨r',cur,T,hm',hh,hcap,hbig,hone,hrec⟩⟩:=hg.blk b _ hL
 ·rw [hm'] at hm; cases hm
 rw [hm] at hm'; cases hm'
 have ho0 : o = 0:=by rcases ho with h | h <;> omega
 subst ho0
 rw [iR_len,Nat.mul_one] at hbig
 have hcur : ∀ (j : Nat) (hj : j < l.length),cur[j]? = some (.int .i64 l[j]):=fun j hj=>by
  have hv : cur[j]? = some cur[j]:=Array.getElem?_eq_getElem (by omega)
  have hx : ((iR l)[j]?).bind (fun e=>e[0]?) = some (I l[j]):=by unfold iR; rw [List.getElem?_map,List.getElem?_eq_getElem hj]; rfl
  have hr:=hrec j 0 (I l[j]) cur[j] hx (by rw [show j * 1 + 0 = j by omega]; exact hv)
  rw [hv]
  generalize cur[j] = u at hr ⊢
  cases hr with | d _ _ hd=>cases hd; rfl
 have hH : Go.Sort.Holds (Value.int .i64) w r 0 l.toArray:=fun j hj=>by
  have hj' : j < l.length:=by simpa using hj
  refine ⟨?_,?_⟩
  ·rw [cell_row hh,Nat.zero_add,hcur j hj',getElem!_pos l.toArray j hj]; simp
  ·simp [World.frozen?,hh]
 have hD:=Any.slices_Delete_int Tryz.delA r 0 c i (i + 1) l w hH hlc.1 hlc.2 (by omega) (by omega)
 refine hD.mono ?_
 rintro e w' ⟨rfl,q,rfl⟩
 obtain ⟨ds,hds⟩ : ∃ ds,ds = l.take i ++ l.drop (i + 1) ++ List.replicate (i + 1 - i) 0:=⟨_,rfl⟩
 have hds' : l.take i ++ l.drop (i + 1) ++ [0] = ds:=by rw [hds,show i + 1 - i = 1 by omega]; rfl
 have hdl : ds.length = l.length:=by
  rw [← hds',List.length_append,List.length_append,List.length_take,List.length_drop]; simp; omega
 rw [← hds]
 rw [hds'] at h
 have hheap : ∀ p,(Go.Sort.putRow (Value.int .i64) (Go.Sort.ahead w q) r 0 ds.toArray).heap[p]? = if r = p then some (.cells (Go.Sort.putCells (Value.int .i64) 0 ds.toArray cur) T (0,0)) else w.heap[p]?:=fun p=>by
  show (w.heap.modify r _)[p]? = _
  rw [Array.getElem?_modify]
  split
  ·rename_i e; subst e; rw [hh]; rfl
  ·rfl
 have hsize : (Go.Sort.putRow (Value.int .i64) (Go.Sort.ahead w q) r 0 ds.toArray).heap.size = w.heap.size:=by
  show (w.heap.modify r _).size = _
  simp
 generalize hw' : Go.Sort.putRow (Value.int .i64) (Go.Sort.ahead w q) r 0 ds.toArray = w' at hheap hsize
 have henv : w'.tape = w.tape ∧ w'.os = w.os ∧ w'.output = w.output:=by rw [← hw']; exact ⟨rfl,rfl,rfl⟩
 have S : Step g w L b (.row gen 1 (iR ds)) g w':=by
  refine ⟨hg,⟨_,hL,by simp⟩,by rw [hL]; simp,henv,by omega,rfl,fun _ _=>rfl,fun _ _=>rfl,fun p o ho hne=>?_,fun r hr=>.inl hr,?_⟩
  ·rw [hheap,if_neg (fun e=>hne (by rw [← e]; exact hm))]; exact ho
  ·exact ⟨fun cs' e=>(by rw [hL] at e; cases e),fun gen1 sz1 els1 e=>(by rw [hL] at e; cases e; exact .inr ⟨_,_,_,List.getElem?_set_self hbl,.inr ⟨rfl,rfl,rfl,rfl,by rw [iR_len,iR_len,hdl]⟩⟩),fun es e=>(by rw [hL] at e; cases e),fun l e=>(by rw [hL] at e; cases e),fun e=>(by rw [hL] at e; cases e)⟩
 refine .inl ⟨_,.own b gen 0 (l.length - 1),_,g,rfl,h,?_,S.good' ⟨Nat.zero_lt_one,iR_ones ds,.inr ⟨r,_,T,hm,by rw [hheap,if_pos rfl],?_,?_,put_one hone,fun i' j x v hx hv=>?_⟩⟩,S.prog⟩
 ·rw [show i + 1 - i = 1 by omega]
  exact .own _ _ _ _ 1 r 0 c (iR ds) (List.getElem?_set_self hbl) hm (.inr rfl) hc ⟨by omega,hlc.2⟩ (by rw [iR_len,hdl]; omega)
 ·rw [put_size]; exact hcap
 ·rw [put_size,iR_len,hdl]; omega
 ·obtain ⟨rfl,hi',rfl⟩:=iR_get hx
  rw [show i' * 1 + 0 = i' by omega,put_get hi' (by omega)] at hv
  cases hv
  exact .d _ _ (.int _ _)
end Go.Proofs.YtndlggbljkhfbaaGreat
namespace Go.Proofs.YtndlggbljkhfbaaGreat
open Go.Tidy
variable {L : List Blk} {k : V → List Blk → Prop}
theorem shR_iR (n : Nat) : ∀ l : List Int,shR n (iR l) = iR l
 | []=>rfl
 | c :: l=>by simp only [iR,List.map_cons,shR,V.shL,V.sh]; exact congrArg _ (shR_iR n l)
theorem iclone_0 (l : List Int) (hl : l.length ≤ 4294967296) : CallP C 58 [.d (ints l)] [] fun X L'=>L' = [.row 1 1 (iR l)] ∧ X = .own 0 1 0 l.length:=by
 refine callP_of C_ok Tryz.func58 rfl rfl (n:=_) rfl (w18 rfl) (rs:=_) rfl ?_
 conv=>whnf
 refine NilP.intro (fun h0=>?_) ?_
 ·have hn : l = []:=List.eq_nil_of_length_eq_zero (by simpa using h0)
  subst hn
  repeat' ((conv=>whnf); first|refine w0 ?_|refine w1 ?_|refine w2 (fun h=>?_) (fun h=>?_)|refine w3 ?_|refine w4 (fun h=>?_) (fun h=>?_)|refine w5 _ rfl ?_|refine w6 rfl ?_|refine w7 mixed rfl ?_)
  conv=>whnf
  exact FinP.nilOwn (sz:=1) (gen:=1) (by decide) ⟨rfl,rfl⟩
 ·repeat' (conv => whnf
           first|refine w0 ?_|refine w1 ?_|refine w2 (fun h=>?_) (fun h=>?_)|refine w3 ?_|refine w4 (fun h=>?_) (fun h=>?_)|refine w5 _ rfl ?_|refine w6 rfl ?_|refine w7 mixed rfl ?_|refine w6 (lenC _) ?_|refine w6 (by first | omega | (simp; omega) | (refine w23 (m:=4294967296) ?_ (apLim_ge _); first | omega | (simp; omega))) ?_)
  conv=>whnf
  refine w15 (n:=1) (L':=[.row 1 1 (iR l)]) (congrArg (fun e=>[Blk.row 1 1 e]) ?_) (w18 rfl) rfl ?_ ⟨rfl,congrArg (V.own 0 1 0) ?_⟩
  ·simp [iR]
  ·show (belR 1 (iR l) && true) = true
   rw [iR_bel]; rfl
  ·simp
theorem iclone_c (l : List Int) (hl : l.length ≤ 4294967296) (h : k (.own L.length 1 0 l.length) (L ++ [.row 1 1 (iR l)])) : CallP C 58 [.d (ints l)] L k:=by
 refine (iclone_0 l hl).frame rfl fun X L' h'=>?_
 obtain ⟨rfl,rfl⟩:=h'
 simpa [V.sh,shB,Blk.sh,shR_iR] using h
def delAt (x : List Int) (i : Nat) : List Int:=x.take i ++ x.drop (i + 1)
theorem delAt_len {x : List Int} {i : Nat} (h : i < x.length) : (delAt x i).length = x.length - 1:=by
 unfold delAt; rw [List.length_append,List.length_take,List.length_drop]; omega
def leastGo (p : Pl) (bud : Int) : Nat → List Int → List Int × Int
 | 0,x=>(x,0)
 | i + 1,x=>if (planF (keepX p (delAt x i)) bud).e = 0 then leastGo p bud i x else if (planF (keepX p (delAt x i)) bud).e = 320 then leastGo p bud i (delAt x i) else ([],(planF (keepX p (delAt x i)) bud).e)
def allN (n : Nat) : List Int:=(List.range n).map fun (i : Nat)=>(i : Int)
def leastF (p : Pl) (bud : Int) : List Int × Int:=if (planF p bud).e = 0 then ([],300) else if (planF p bud).e = 320 then leastGo p bud p.demands.length (allN p.demands.length) else ([],(planF p bud).e)
theorem allN_len (n : Nat) : (allN n).length = n:=by unfold allN; simp
theorem allN_next (n : Nat) : allN (n + 1) = allN n ++ [(n : Int)]:=by unfold allN; rw [List.range_succ,List.map_append]; rfl
theorem small_keep {p : Pl} {w : List Int} (hs : Small [] p) (hw : w.length ≤ 4294967296) : Small [] (keepX p w):=by
 unfold keepX
 split
 ·refine ⟨hs.hl,hs.hr,hs.hc,fun d hd=>?_,by unfold keepP; simpa using hw⟩
  obtain ⟨i,_,rfl⟩:=List.mem_map.1 hd
  unfold getD
  cases hq : p.demands[i.toNat]? with
  | none=>simp [d0M]
  | some d=>exact hs.hd d (List.mem_of_getElem? hq)
 ·exact ⟨hs.hl,hs.hr,by simp,by simp,by simp⟩
theorem iR_snoc (l : List Int) (n : Int) : (iR l).take l.length ++ [[I n]] = iR (l ++ [n]):=by
 unfold iR; rw [List.take_of_length_le (by simp),List.map_append]; rfl
theorem bc_same {n : Nat} {L0 L1 S : List Blk} (hS : S.length = n) (hb : belB n S = true) (hL : L1.take n = S) {b : Nat} {x y : Blk} (hx : L1[b]? = some x) (hy : S[b]? = some y) : BC n L0 x y:=by
 have hlt:=lt_of_get hy
 rw [← hL,List.getElem?_take,if_pos (by omega),hx] at hy
 cases hy
 refine .inl ⟨rfl,belB_get hb (i:=b) ?_⟩
 rw [← hL,List.getElem?_take,if_pos (by omega),hx]
theorem least_c (p : Pl) (bud : Int) (hs0 : Small [] p) (hD : p.demands.length ≤ 1073741823) (h : k (.tup [.d (ints (leastF p bud).1),I (leastF p bud).2]) L) : CallP C 19 [plV p,I bud] L k:=by
 obtain ⟨R,hR⟩ : ∃ R,leastF p bud = R:=⟨_,rfl⟩
 rw [hR] at h
 refine CallP.pure ?_ rfl (fun _=>rfl) h
 clear h
 refine callP_cut (fun c=>match c with | .region 15 _ _=>true | _=>false) C_ok Tryz.func19 rfl rfl (n:=_) rfl (w18 rfl) (rs:=_) rfl ?_
 by_cases e0 : (planF p bud).e = 0
 ·have hR' : R = ([],300):=by rw [← hR]; unfold leastF; rw [if_pos e0]
  subst hR'
  repeat' ((conv=>whnf); first|refine plan_c p bud hs0 ?_|refine w8 (w19 e0) ?_|refine w0 ?_|refine w1 ?_|refine w2 (fun h=>?_) (fun h=>?_)|refine w3 ?_|refine w4 (fun h=>?_) (fun h=>?_)|refine w5 _ rfl ?_|refine w6 rfl ?_|refine w7 mixed rfl ?_)
  conv=>whnf
  exact FinP.data (L':=[]) (.pair (.d .nil) (.d (.d _))) rfl rfl ⟨rfl,rfl⟩
 by_cases e1 : (planF p bud).e = 320
 ·have hR' : leastGo p bud p.demands.length (allN p.demands.length) = R:=by rw [← hR]; unfold leastF; rw [if_neg e0,if_pos e1]
  repeat' ((conv=>whnf); first|refine plan_c p bud hs0 ?_|refine w9 (w20 e0) ?_|refine w8 (w19 e1) ?_|refine w0 ?_|refine w1 ?_|refine w2 (fun h=>?_) (fun h=>?_)|refine w3 ?_|refine w4 (fun h=>?_) (fun h=>?_)|refine w5 _ rfl ?_|refine w6 rfl ?_|refine w7 mixed rfl ?_)
  conv=>whnf
  refine LoopP.inv (fun i=>i ≤ p.demands.length) (fun i=>⟨[(1,I bud),(2,.ptr 0 0),(4,.own 1 i 0 (allN i).length),(29,I p.demands.length),(30,I i)],Tryz.f19.ntmps,[.cells (p.cells.map .d),.row i 1 (iR (allN i))],[],none⟩) (fun i=>p.demands.length - i) 0 (w22 _) ?_ ?_
  ·exact (Weak.nilOwn 4 1 rfl (by decide)).trans (Weak.by ⟨rfl,rfl,rfl,congrArg (fun n : Nat=>I n) (List.length_map ..),rfl,trivial⟩)
  intro i hi
  by_cases hi' : i < p.demands.length
  ·have hlt : (i : Int) < (p.demands.length : Int):=by omega
   have hw : IntKind.i64.wrap ((i : Int) + 1) = ((i + 1 : Nat) : Int):=by rw [wrap_in (by omega)]; omega
   have hal:=allN_len i
   have hnx:=allN_next i
   generalize allN i = x at hal hnx
   repeat' ((conv=>whnf); first|simp only [Nat.beq_refl,Bool.and_self]|refine Br.yes (decide_eq_true hlt) ?_|refine Need.intro (Nat.le_trans (m:=4294967296) (show x.length + 1 ≤ 4294967296 by omega) (apLim_ge _)) ?_|refine Br.tt ?_|refine Br.ff ?_|refine Br.dec (fun h=>?_) (fun h=>?_)|refine Br.not ?_|refine Br.intro (fun h=>?_) (fun h=>?_)|refine GetE.intro _ rfl ?_|refine Need.intro rfl ?_|refine DrawP.go mixed rfl ?_)
   conv=>whnf
   refine ⟨i + 1,hi',by omega,Weak.to 2 ?_ (w22 _) (w18 rfl) ⟨rfl,rfl,?_,rfl,congrArg I hw,trivial⟩ (hB:=?_)⟩
   ·exact congrArg (fun z=>[Blk.cells (p.cells.map .d),.row (i + 1) 1 z]) ((iR_snoc x _).trans (by rw [hnx]))
   ·exact congrArg (fun n : Nat=>V.own 1 (i + 1) 0 n) (by rw [hnx,List.length_append]; rfl)
   ·show (V.belL 2 (p.cells.map .d) && (belR 2 (iR _) && true)) = true
    rw [V.belL_d,iR_bel]; rfl
  ·have hlt : ¬ (i : Int) < (p.demands.length : Int):=by omega
   have hie : i = p.demands.length:=by omega
   subst hie
   have hal:=allN_len p.demands.length
   have hw0 : IntKind.i64.wrap (((allN p.demands.length).length : Int) - 1) = (p.demands.length : Int) - 1:=by rw [hal,wrap_in (by omega)]
   repeat' ((conv=>whnf); first|simp only [Nat.beq_refl,Bool.and_self]|refine Br.no (decide_eq_false hlt) ?_|refine Br.tt ?_|refine Br.ff ?_|refine Br.dec (fun h=>?_) (fun h=>?_)|refine Br.not ?_|refine Br.intro (fun h=>?_) (fun h=>?_)|refine GetE.intro _ rfl ?_|refine Need.intro rfl ?_|refine DrawP.go mixed rfl ?_)
   conv=>whnf
   refine LoopP.inv (fun q : Nat × List Int=>leastGo p bud q.1 q.2 = R ∧ q.1 ≤ q.2.length ∧ q.2.length ≤ p.demands.length) (fun q=>⟨[(1,I bud),(2,.ptr 0 0),(4,.d (ints q.2)),(7,I ((q.1 : Int) - 1))],Tryz.f19.ntmps,[.cells (p.cells.map .d)],[],none⟩) (fun q=>q.1) (p.demands.length,allN p.demands.length) ⟨hR',by rw [hal]; exact Nat.le_refl _,by rw [hal]; exact Nat.le_refl _⟩ ?_ ?_
   ·refine Weak.thaw 1 (Nat.zero_le _) (Nat.le_of_ble_eq_true rfl) rfl ⟨.inl ⟨rfl,rfl⟩,.inl ⟨rfl,rfl⟩,.inr (.d (.rowL (ds:=(allN p.demands.length).map fun n=>[DI n]) (Nat.le_refl 1) rfl (iR_cv _) (by rw [List.length_map]) (lenC _))),.inl ⟨congrArg I hw0,rfl⟩,trivial⟩ (fun b x y hx hy=>bc_same rfl ?_ rfl hx hy)
    show (V.belL 1 (p.cells.map .d) && true) = true
    rw [V.belL_d]; rfl
   rintro ⟨i,x⟩ ⟨hx1,hx2,hx3⟩
   simp only at hx1 hx2 hx3
   cases i with
   | zero =>
    have hlt : ¬ (0 : Int) ≤ ((0 : Nat) : Int) - 1:=by omega
    repeat' ((conv=>whnf); first|refine w9 (w20 hlt) ?_|refine w0 ?_|refine w1 ?_|refine w2 (fun h=>?_) (fun h=>?_)|refine w3 ?_|refine w4 (fun h=>?_) (fun h=>?_)|refine w5 _ rfl ?_|refine w6 rfl ?_|refine w7 mixed rfl ?_)
    conv=>whnf
    refine w16 (L':=[]) (.pair (.d (.d _)) (.d (.d _))) rfl rfl ⟨rfl,?_⟩
    rw [← hx1]; rfl
   | succ i =>
    have hlt : (0 : Int) ≤ ((i + 1 : Nat) : Int) - 1:=by omega
    have hi1 : ((i + 1 : Nat) : Int) - 1 = (i : Int):=by omega
    have hw : IntKind.i64.wrap ((i : Int) + 1) = ((i + 1 : Nat) : Int):=by rw [wrap_in (by omega)]; omega
    have hw2 : IntKind.i64.wrap ((i : Int) - 1) = (i : Int) - 1:=wrap_in (by omega)
    have hdl:=delAt_len (x:=x) (i:=i) (by omega)
    have hsk : Small [] (keepX p (delAt x i)):=small_keep hs0 (by omega)
    rw [hi1]
    have hlt' : (0 : Int) ≤ (i : Int):=by omega
    repeat' ((conv=>whnf); first|refine w8 (w19 hlt') ?_|refine w0 ?_|refine w1 ?_|refine w2 (fun h=>?_) (fun h=>?_)|refine w3 ?_|refine w4 (fun h=>?_) (fun h=>?_)|refine w5 _ rfl ?_|refine w6 rfl ?_|refine w7 mixed rfl ?_)
    conv=>whnf
    refine CutP.intro (ι:=Unit) (fun _=>⟨[(1,I bud),(2,.ptr 0 0),(4,.d (ints x)),(7,I i),(8,.d (ints (delAt x i)))],Tryz.f19.ntmps,[.cells (p.cells.map .d)],[],none⟩) ?_ (fun _=>?_)
    ·repeat' (conv => whnf
              first|refine iclone_c x (by omega) ?_|refine w0 ?_|refine w1 ?_|refine w2 (fun h=>?_) (fun h=>?_)|refine w3 ?_|refine w4 (fun h=>?_) (fun h=>?_)|refine w5 _ rfl ?_|refine w6 rfl ?_|refine w7 mixed rfl ?_)
     conv=>whnf
     refine CallP.cnv (args':=[.own 1 1 0 x.length,I i,I (i + 1 : Nat)]) (L':=[.cells (p.cells.map .d),.row 1 1 (iR x)]) (by rw [← hw]; rfl) rfl ?_
     refine delete_c rfl (by omega) (by omega) ?_
     repeat' ((conv=>whnf); first|refine w0 ?_|refine w1 ?_|refine w2 (fun h=>?_) (fun h=>?_)|refine w3 ?_|refine w4 (fun h=>?_) (fun h=>?_)|refine w5 _ rfl ?_|refine w6 rfl ?_|refine w7 mixed rfl ?_)
     conv=>whnf
     refine ⟨(),Weak.thaw 1 (w22 _) (w18 rfl) rfl ⟨.inl ⟨rfl,rfl⟩,.inl ⟨rfl,rfl⟩,.inl ⟨rfl,rfl⟩,.inl ⟨rfl,rfl⟩,.inr (.d (.rowL (ds:=(delAt x i).map fun n=>[DI n]) (w21 1) rfl (CvLL.cong ?_ (iR_rows _)) (by rw [List.length_map,hdl]) (lenC _))),trivial⟩ (fun b x y hx hy=>bc_same rfl ?_ rfl hx hy)⟩
     ·show ((iR (delAt x i ++ [0])).drop 0).take (x.length - 1) = _
      unfold iR
      rw [List.drop_zero,List.map_append,List.take_append_of_le_length (by rw [List.length_map]; omega),List.take_of_length_le (by rw [List.length_map]; omega)]
     ·show (V.belL 1 (p.cells.map .d) && true) = true
      rw [V.belL_d]; rfl
    by_cases f0 : (planF (keepX p (delAt x i)) bud).e = 0
    ·repeat' (conv => whnf
              first|refine keep_c p (delAt x i) hs0.hc hs0.hd (by omega) (by omega) ?_|refine plan_c (keepX p (delAt x i)) bud hsk ?_|refine w8 (w19 f0) ?_|refine w0 ?_|refine w1 ?_|refine w2 (fun h=>?_) (fun h=>?_)|refine w3 ?_|refine w4 (fun h=>?_) (fun h=>?_)|refine w5 _ rfl ?_|refine w6 rfl ?_|refine w7 mixed rfl ?_)
     conv=>whnf
     refine ⟨(i,x),⟨by rw [← hx1]; simp only [leastGo]; rw [if_pos f0],by simp only; omega,by simp only; omega⟩,by simp only; omega,Weak.to 1 rfl (w22 _) (w18 rfl) ⟨rfl,rfl,rfl,congrArg I hw2,trivial⟩ (hB:=?_)⟩
     show (V.belL 1 (p.cells.map .d) && true) = true
     rw [V.belL_d]; rfl
    by_cases f1 : (planF (keepX p (delAt x i)) bud).e = 320
    ·repeat' (conv => whnf
              first|refine keep_c p (delAt x i) hs0.hc hs0.hd (by omega) (by omega) ?_|refine plan_c (keepX p (delAt x i)) bud hsk ?_|refine w9 (w20 f0) ?_|refine w8 (w19 f1) ?_|refine w0 ?_|refine w1 ?_|refine w2 (fun h=>?_) (fun h=>?_)|refine w3 ?_|refine w4 (fun h=>?_) (fun h=>?_)|refine w5 _ rfl ?_|refine w6 rfl ?_|refine w7 mixed rfl ?_)
     conv=>whnf
     refine ⟨(i,delAt x i),⟨by rw [← hx1]; simp only [leastGo]; rw [if_neg f0,if_pos f1],by simp only; omega,by simp only; omega⟩,by simp only; omega,Weak.to 1 rfl (w22 _) (w18 rfl) ⟨rfl,rfl,rfl,congrArg I hw2,trivial⟩ (hB:=?_)⟩
     show (V.belL 1 (p.cells.map .d) && true) = true
     rw [V.belL_d]; rfl
    ·repeat' (conv => whnf
              first|refine keep_c p (delAt x i) hs0.hc hs0.hd (by omega) (by omega) ?_|refine plan_c (keepX p (delAt x i)) bud hsk ?_|refine w9 (w20 f0) ?_|refine w9 (w20 f1) ?_|refine w0 ?_|refine w1 ?_|refine w2 (fun h=>?_) (fun h=>?_)|refine w3 ?_|refine w4 (fun h=>?_) (fun h=>?_)|refine w5 _ rfl ?_|refine w6 rfl ?_|refine w7 mixed rfl ?_)
     conv=>whnf
     refine w16 (L':=[]) (.pair (.d .nil) (.d (.d _))) rfl rfl ⟨rfl,?_⟩
     rw [← hx1]; simp only [leastGo]; rw [if_neg f0,if_neg f1]; rfl
 ·have hR' : R = ([],(planF p bud).e):=by rw [← hR]; unfold leastF; rw [if_neg e0,if_neg e1]
  subst hR'
  repeat' ((conv=>whnf); first|refine plan_c p bud hs0 ?_|refine w9 (w20 e0) ?_|refine w9 (w20 e1) ?_|refine w0 ?_|refine w1 ?_|refine w2 (fun h=>?_) (fun h=>?_)|refine w3 ?_|refine w4 (fun h=>?_) (fun h=>?_)|refine w5 _ rfl ?_|refine w6 rfl ?_|refine w7 mixed rfl ?_)
  conv=>whnf
  exact FinP.data (L':=[]) (.pair (.d .nil) (.d (.d _))) rfl rfl ⟨rfl,rfl⟩
end Go.Proofs.YtndlggbljkhfbaaGreat
namespace Go.Proofs.YtndlggbljkhfbaaGreat
open Go.Tidy
variable {L : List Blk} {k : V → List Blk → Prop}
theorem dmA_pos {x : Lst} {p : Pl} (h0 : checkP p = 0) (hP : PartP x p) (h : 0 ≤ dmA x p) : ∃ (a : Nat) (ha : a < p.demands.length),dmA x p = (a : Int) ∧ doomsF (pR x p) p.demands[a] = true:=by
 unfold dmA at h ⊢
 rw [if_pos ⟨h0,hP⟩] at h ⊢
 cases hd : doomL (pR x p) p with
 | nil=>rw [hd] at h; simp at h
 | cons y r =>
  have hm : y ∈ doomL (pR x p) p:=by rw [hd]; simp
  obtain ⟨a,ha,e,hx⟩:=doomL_mem.1 hm
  exact ⟨a,ha,e,hx⟩
theorem chE_part {l : Lst} {p : Pl} (h0 : checkP p = 0) (hP : PartP l p) : ∀ m ∈ chE l p,PartP (extL l p m) p:=fun m hm=>by
 unfold chE at hm; rw [if_pos (dmE_of h0 hP)] at hm; exact ch_mem h0 hP hm
mutual
theorem brs_us (p : Pl) (bud : Nat) (h0 : checkP p = 0) : ∀ (n : Nat) (l : Lst) (sp : Nat) (us : List Int),PartP l p → us.length ≤ sp → us.Nodup → ∀ sp' us' t',brs p bud n l sp us = .go sp' us' t' → us'.length ≤ sp' ∧ us'.Nodup ∧ ∀ u ∈ us',u ∈ us ∨ (0 ≤ u ∧ u < (p.demands.length : Int))
 | 0,l,sp,us,hP,hs,hn,sp',us',t',h=>by cases h; exact ⟨hs,hn,fun u hu=>.inl hu⟩
 | n + 1,l,sp,us,hP,hs,hn,sp',us',t',h=>brLoop_us p bud h0 n l (chE l p) sp us [] (chE_part h0 hP) hs hn sp' us' t' h
theorem brLoop_us (p : Pl) (bud : Nat) (h0 : checkP p = 0) (n : Nat) (l : Lst) : ∀ (ms : List Mt) (sp : Nat) (us : List Int) (t : List Brc),(∀ m ∈ ms,PartP (extL l p m) p) → us.length ≤ sp → us.Nodup → ∀ sp' us' t',brLoop (brs p bud n) l p bud ms sp us t = .go sp' us' t' → us'.length ≤ sp' ∧ us'.Nodup ∧ ∀ u ∈ us',u ∈ us ∨ (0 ≤ u ∧ u < (p.demands.length : Int))
 | [],sp,us,t,hm,hs,hn,sp',us',t',h=>by cases h; exact ⟨hs,hn,fun u hu=>.inl hu⟩
 | m :: ms,sp,us,t,hm,hs,hn,sp',us',t',h=>by
  have hPx:=hm m (by simp)
  have hm' : ∀ m ∈ ms,PartP (extL l p m) p:=fun m h=>hm m (by simp [h])
  simp only [brLoop] at h
  split at h
  ·cases h
  ·split at h
   ·rename_i hd
    obtain ⟨a,ha,e,_⟩:=dmA_pos h0 hPx hd
    split at h
    ·obtain ⟨h1,h2,h3⟩:=brLoop_us p bud h0 n l ms (sp + 1) us _ hm' (by omega) hn _ _ _ h
     exact ⟨h1,h2,h3⟩
    ·rename_i hni
     obtain ⟨h1,h2,h3⟩:=brLoop_us p bud h0 n l ms (sp + 1) (us ++ [dmA (extL l p m) p]) _ hm' (by rw [List.length_append]; simp only [List.length_singleton]; omega)
      (List.nodup_append.2 ⟨hn,by simp,fun u hu v hv=>by rw [List.mem_singleton.1 hv]; rintro rfl; exact hni hu⟩) _ _ _ h
     refine ⟨h1,h2,fun u hu=>?_⟩
     rcases h3 u hu with h4 | h4
     ·rcases List.mem_append.1 h4 with h5 | h5
      ·exact .inl h5
      ·rw [List.mem_singleton.1 h5]; exact .inr (by omega)
     ·exact .inr h4
   ·split at h
    ·cases h
    ·split at h
     ·rename_i sp2 us2 t2 h2
      obtain ⟨k1,k2,k3⟩:=brs_us p bud h0 n _ (sp + 1) us hPx (by omega) hn _ _ _ h2
      obtain ⟨h1,h2,h3⟩:=brLoop_us p bud h0 n l ms sp2 us2 _ hm' k1 k2 _ _ _ h
      refine ⟨h1,h2,fun u hu=>?_⟩
      rcases h3 u hu with h4 | h4
      ·exact k3 u h4
      ·exact .inr h4
     ·cases h
end
def proveO (p : Pl) (bud : Int) : Bs:=brs p bud.toNat (fuelN p) [] 0 []
def proveU (p : Pl) (bud : Int) : List Int:=if argE p bud = 0 then (match proveO p bud with | .go _ us _=>sortI us | .stop _=>[]) else []
def proveT (p : Pl) (bud : Int) : List Brc:=if argE p bud = 0 then (match proveO p bud with | .go _ _ t=>t | .stop _=>[]) else []
def proveE (p : Pl) (bud : Int) : Int:=if argE p bud = 0 then (match proveO p bud with | .go _ _ _=>0 | .stop e=>e) else argE p bud
def refV (us : List Int) (t : List Brc) : V:=.agg [.d (ints us),.d (.sl (brcs t))]
theorem wf_of {u : Int} (h1 : -9223372036854775808 ≤ u) (h2 : u ≤ 9223372036854775807) : (Lit.int .i64 u).wf = true:=by
 simp only [Lit.wf,Bool.and_eq_true,decide_eq_true_eq]; exact ⟨h1,h2⟩
theorem prove_c (p : Pl) (bud : Int) (hs0 : Small [] p) (h : k (.tup [refV (proveU p bud) (proveT p bud),I (proveE p bud)]) L) : CallP C 14 [plV p,I bud] L k:=by
 have hD:=hs0.hD
 have kA : ∀ L,killAll [] L = L:=fun _=>rfl
 refine CallP.pure ?_ rfl (fun _=>rfl) h
 clear h
 by_cases hA : argE p bud = 0
 ·obtain ⟨h0,hm1,hm2⟩:=argE_zero hA
  obtain ⟨n,rfl⟩ : ∃ n : Nat,bud = (n : Int):=⟨bud.toNat,by omega⟩
  have hn1 : ¬ (n : Int) < 0:=by omega
  have hn2 : ¬ (1073741824 : Int) < (n : Int):=by omega
  refine callP_defer C_ok (fun _=>false) 4 (fun X L1=>∃ e,proveO p n = .stop e ∧ X = .d (errD e) ∧ L1 = pre4 p n) Tryz.func14 rfl rfl (n:=_) rfl (w18 rfl) (rs:=_) rfl ?_
  repeat' ((conv=>whnf); first|refine check_c p hs0.hc hs0.hd (by omega) ?_|refine w3 ?_|refine w8 (w19 h0) ?_|refine w9 (w20 hn1) ?_|refine w9 (w20 hn2) ?_|refine w0 ?_|refine w1 ?_|refine w2 (fun h=>?_) (fun h=>?_)|refine w3 ?_|refine w4 (fun h=>?_) (fun h=>?_)|refine w5 _ rfl ?_|refine w6 rfl ?_|refine w7 mixed rfl ?_)
  conv=>whnf
  refine DefR.intro (w21 _) (w22 _) rfl rfl ?_ ?_
  ·rintro X L1 ⟨e,hst,rfl,rfl⟩
   refine DefP.cnv (caps':=[.ptr 2 0,.ptr 3 0]) rfl ?_
   refine prove1_p _ _ _ _ e 0 rfl ?_
   repeat' ((conv=>whnf); first|refine w0 ?_|refine w1 ?_|refine w2 (fun h=>?_) (fun h=>?_)|refine w3 ?_|refine w4 (fun h=>?_) (fun h=>?_)|refine w5 _ rfl ?_|refine w6 rfl ?_|refine w7 mixed rfl ?_|simp only [kA])
   conv=>whnf
   refine w16 (L':=[]) (.pair (.aggL (.cons .nil (.cons .nil .nil))) (.d (.d _))) rfl rfl ⟨rfl,?_⟩
   have e1 : proveU p n = []:=by unfold proveU; rw [if_pos hA,hst]
   have e2 : proveT p n = []:=by unfold proveT; rw [if_pos hA,hst]
   have e3 : proveE p n = e:=by unfold proveE; rw [if_pos hA,hst]
   rw [e1,e2,e3]; rfl
  ·repeat' (conv => whnf
            first|refine w0 ?_|refine w1 ?_|refine w2 (fun h=>?_) (fun h=>?_)|refine w3 ?_|refine w4 (fun h=>?_) (fun h=>?_)|refine w5 _ rfl ?_|refine w6 rfl ?_|refine w7 mixed rfl ?_|refine w6 (w18 rfl) ?_)
   conv=>whnf
   refine CallP.cnv (args':=.agg [.nil] :: capR) (L':=preR p n [] 0) rfl rfl ?_
   refine CallP.freezeP (args:=.agg [.nil] :: capR) (dargs:=lisV [] :: capR) [] rfl rfl (.cv (.aggL (.cons .nil .nil)) (.keep (.keep (.keep (.keep (.keep .nil)))))) ?_
   refine (branches_c p n h0 hs0 (by omega) _ (fuelN p) [] 0 [] (part_nil p) (by unfold fuelN; simp) (w22 _) (fun e he=>⟨e,he,rfl,rfl⟩)).mono ?_
   rintro X L' ⟨sp',us',t,hgo,rfl,rfl⟩
   obtain ⟨hk1,hk2,hk3⟩:=brs_keep p n (fuelN p) [] 0 [] (w22 _) _ _ _ hgo
   obtain ⟨hu1,hu2,hu3⟩:=brs_us p n h0 (fuelN p) [] 0 [] (part_nil p) (w21 _) List.nodup_nil _ _ _ hgo
   have hgo' : proveO p n = .go sp' us' t:=hgo
   have hr : ∀ u ∈ us',(Lit.int .i64 u).wf = true:=fun u hu=>by
    rcases hu3 u hu with h | h
    ·cases h
    ·exact wf_of (by omega) (by omega)
   have hul : us'.length ≤ 1073741824:=by omega
   repeat' ((conv=>whnf); first|refine w0 ?_|refine w1 ?_|refine w2 (fun h=>?_) (fun h=>?_)|refine w3 ?_|refine w4 (fun h=>?_) (fun h=>?_)|refine w5 _ rfl ?_|refine w6 rfl ?_|refine w7 mixed rfl ?_|refine w6 (w18 rfl) ?_|refine w14 (keys_c 4 ?_)|refine w14 (sortedKeys_c (b:=4) (bx:=8) (us:=us') rfl rfl hr hul ?_))
   conv=>whnf
   refine DefP.cnv (caps':=[.ptr 2 0,.ptr 3 0]) rfl ?_
   refine prove1_n _ ?_ ?_
   ·show (V.belL _ (p.cells.map .d) && (true && (true && (true && (belM _ (boolM (intK us')) && true))))) = true
    rw [V.belL_d,intM_bel]; rfl
   repeat' ((conv=>whnf); first|refine w0 ?_|refine w1 ?_|refine w2 (fun h=>?_) (fun h=>?_)|refine w3 ?_|refine w4 (fun h=>?_) (fun h=>?_)|refine w5 _ rfl ?_|refine w6 rfl ?_|refine w7 mixed rfl ?_|simp only [kA])
   conv=>whnf
   refine w16 (L':=[]) (.pair (.aggL (.cons (.d _) (.cons (.d _) .nil))) (.d (.d _))) rfl rfl ⟨rfl,?_⟩
   have e1 : proveU p n = sortI us':=by unfold proveU; rw [if_pos hA,hgo']
   have e2 : proveT p n = t:=by unfold proveT; rw [if_pos hA,hgo']
   have e3 : proveE p n = 0:=by unfold proveE; rw [if_pos hA,hgo']
   rw [e1,e2,e3]; rfl
 ·have e1 : proveU p bud = []:=by unfold proveU; rw [if_neg hA]
  have e2 : proveT p bud = []:=by unfold proveT; rw [if_neg hA]
  have e3 : proveE p bud = argE p bud:=by unfold proveE; rw [if_neg hA]
  rw [e1,e2,e3]
  have fin : ∀ e : Int,e = argE p bud → (fun (X : V) (L : List Blk)=>L = [] ∧ X = .tup [refV [] [],I (argE p bud)]) (.tup [refV [] [],I e]) []:=fun e he=>⟨rfl,by rw [he]⟩
  refine callP_defer C_ok (fun _=>false) 4 (fun X L1=>False) Tryz.func14 rfl rfl (n:=_) rfl (w18 rfl) (rs:=_) rfl ?_
  by_cases h0 : checkP p = 0
  ·have hb : bud < 0 ∨ 1073741824 < bud:=by
    unfold argE at hA; rw [if_pos h0] at hA
    by_cases h : bud < 0 ∨ 1073741824 < bud
    ·exact h
    ·rw [if_neg h] at hA; exact absurd rfl hA
   have ha : (1 : Int) = argE p bud:=by unfold argE; rw [if_pos h0,if_pos hb]
   repeat' ((conv=>whnf); first|refine check_c p hs0.hc hs0.hd (by omega) ?_|refine w3 ?_|refine w8 (w19 h0) ?_|refine w0 ?_|refine w1 ?_|refine w2 (fun h=>?_) (fun h=>?_)|refine w3 ?_|refine w4 (fun h=>?_) (fun h=>?_)|refine w5 _ rfl ?_|refine w6 rfl ?_|refine w7 mixed rfl ?_)
   all_goals conv=>whnf
   all_goals first
    | exact FinP.data (L':=[]) (.pair (.aggL (.cons .nil (.cons .nil .nil))) (.d (.d _))) rfl rfl (fin 1 ha)
    | (exfalso; omega)
  ·have ha : checkP p = argE p bud:=by unfold argE; rw [if_neg h0]
   repeat' ((conv=>whnf); first|refine check_c p hs0.hc hs0.hd (by omega) ?_|refine w3 ?_|refine w9 (w20 h0) ?_|refine w0 ?_|refine w1 ?_|refine w2 (fun h=>?_) (fun h=>?_)|refine w3 ?_|refine w4 (fun h=>?_) (fun h=>?_)|refine w5 _ rfl ?_|refine w6 rfl ?_|refine w7 mixed rfl ?_)
   conv=>whnf
   exact FinP.data (L':=[]) (.pair (.aggL (.cons .nil (.cons .nil .nil))) (.d (.d _))) rfl rfl (fin _ ha)
end Go.Proofs.YtndlggbljkhfbaaGreat
namespace Go.Proofs.YtndlggbljkhfbaaGreat
open Go.Tidy
variable {L : List Blk} {k : V → List Blk → Prop}
theorem rch_c (l : Lst) (p : Pl) (h0 : checkP p = 0) (hs : Small l p) (hP : PartP l p) (h : k (.tup [.d (mts (chE l p)),I 0]) L) : CallP C 114 [lisV l,plV p] L k:=by
 obtain ⟨e1,e2⟩:=chE_eq hs
 refine rChoices_c l p hs (by have:=rounds46 h0 hP; omega) ?_ ?_
 ·have h1:=part_total hP
  have h2:=field_len (checkP_field h0)
  have h3 : roundsN p ≤ 46:=by unfold roundsN; split <;> omega
  have h4 : halfN p ≤ 12:=by unfold halfN; omega
  have : roundsN p * halfN p ≤ 46 * 12:=Nat.mul_le_mul h3 h4
  omega
 ·rw [← e1,← e2,dmE_of h0 hP]; exact h
theorem rdoom_c (x : Lst) (p : Pl) (hs : Small x p) (hF : x.flatten.length ≤ 4294967296) (h : k (.tup [I (dmA x p),I (dmE x p)]) L) : CallP C 117 [lisV x,plV p] L k:=by
 obtain ⟨e1,e2⟩:=dmd_eq hs
 refine rdmd_c x p ⟨hs,hF⟩ ?_
 show k (.tup [I (rdmA x p),I (rdmE x p)]) L
 rw [← e1,← e2]; exact h
def usR (n : Nat) (us : List Int) : List (List V):=(List.range n).map fun (i : Nat)=>[B (decide ((i : Int) ∈ us))]
theorem usR_bel (m n : Nat) (us : List Int) : belR m (usR n us) = true:=by
 unfold usR
 induction List.range n with
 | nil=>rfl
 | cons a l ih=>simp only [List.map_cons,belR,V.belL,V.bel,Bool.true_and,ih]
theorem usR_get {n : Nat} {us : List Int} {a : Nat} (ha : a < n) : (usR n us)[0 + a]? = some [B (decide ((a : Int) ∈ us))]:=by
 unfold usR; rw [Nat.zero_add,List.getElem?_map,List.getElem?_range ha]; rfl
theorem usR_set {n : Nat} {us : List Int} {a : Nat} (ha : a < n) : (usR n us).set (0 + a) [B true] = usR n (if (a : Int) ∈ us then us else us ++ [(a : Int)]):=by
 rw [Nat.zero_add]
 refine List.ext_getElem (by simp [usR]) fun i h1 h2=>?_
 rw [List.getElem_set]
 unfold usR
 simp only [List.getElem_map,List.getElem_range]
 by_cases e : a = i
 ·subst e
  rw [if_pos rfl]
  split
  ·rename_i h; simp [h]
  ·simp
 ·rw [if_neg e]
  split
  ·simp
  ·have : ¬ (i : Int) = (a : Int):=by omega
   simp [this]
def rbC (p : Pl) (bud sp : Nat) (code : Int) : List V:=[.d (ints p.clubs),B p.double,.d (.sl (p.demands.map Dm.cells)),I bud,I sp,I code,.own 1 0 0 p.demands.length]
def rM (p : Pl) (bud sp : Nat) (code : Int) (us : List Int) : List Blk:=[.cells (rbC p bud sp code),.row 0 1 (usR p.demands.length us)]
theorem rM_bel (p : Pl) (bud sp : Nat) (code : Int) (us : List Int) : belB 2 (rM p bud sp code us) = true:=by
 show (true && (belR 2 (usR _ us) && true)) = true
 rw [usR_bel]; rfl
def brOut (p : Pl) (bud : Nat) : Bs → V → List Blk → Prop
 | .go sp us t,X,M=>X = .d (.sl (brcs t)) ∧ M = rM p bud sp 0 us
 | .stop e,X,M=>∃ t sp us,e ≠ 0 ∧ X = .d (.sl (brcs t)) ∧ M = rM p bud sp e us
def rbT (p : Pl) (bud : Nat) (us : List Int) (sp : Int) (l : Lst) (c : List Brc) (x : Lst) (m : Mt) (v : V) : List Blk :=
 [.cells [.d (ints p.clubs),B p.double,.d (.sl (p.demands.map Dm.cells)),I bud,I sp,I 0,.own 1 0 0 p.demands.length],.row 0 1 (usR p.demands.length us),.cells [.d (lisD l)],.row c.length 5 (brR c),.cells [.d (lisD x)],.cells [.d (DI m.home),.d (DI m.away),I (atN l p),I (dmA x p),v]]
def rbL (p : Pl) (bud sp : Nat) (code : Int) (l : Lst) (Z : List (List V)) (g : Nat) (W : List (List V)) : List Blk :=
 [.cells [.d (ints p.clubs),B p.double,.d (.sl (p.demands.map Dm.cells)),I bud,I sp,I code,.own 1 0 0 p.demands.length],.row 0 1 Z,.cells [.d (lisD l)],.row g 5 W]
theorem rbL_eq {p : Pl} {bud sp : Nat} {code : Int} {l : Lst} {c : List Brc} {b' : Brc} {nu : List Int} {Z : List (List V)} (hZ : Z = usR p.demands.length nu) :
  rbL p bud sp code l Z (c.length + 1) ((brR c).take c.length ++ [b'.cells.map .d]) = rM p bud sp code nu ++ [.cells [.d (lisD l)],.row (c ++ [b']).length 5 (brR (c ++ [b']))]:=by
 subst hZ
 rw [List.take_of_length_le (by rw [brR_len]; exact Nat.le_refl _),← brR_snoc,List.length_append]; rfl
theorem rbI_bel (p : Pl) (bud sp : Nat) (code : Int) (us : List Int) (l : Lst) (g : Nat) (t : List Brc) : belB 4 (rM p bud sp code us ++ [.cells [.d (lisD l)],.row g 5 (brR t)]) = true:=by
 refine belB_append (belB_le (by decide) (rM_bel p bud sp code us)) ?_
 show (true && (belR 4 (brR t) && true)) = true
 rw [brR_bel]; rfl
theorem snoc_len (c : List Brc) (b : Brc) : (c ++ [b]).length = c.length + 1:=by rw [List.length_append]; rfl
structure RbS where
 i : Nat
 sp : Nat
 us : List Int
 t : List Brc
 code : Int
theorem rbr_c (p : Pl) (bud : Nat) (h0 : checkP p = 0) (hs0 : Small [] p) (hbud : bud ≤ 1073741824) :
  ∀ (n : Nat) (l : Lst) (sp : Nat) (us : List Int),PartP l p → roundsN p * halfN p < l.flatten.length + n → sp ≤ bud →
   CallP C 62 [.ptr 0 0,lisV l] (rM p bud sp 0 us) (brOut p bud (brs p bud n l sp us))
 | 0,l,sp,us,hP,hfu,_=>by have:=part_total hP; omega
 | n + 1,l,sp,us,hP,hfu,hsp=>by
  have hlen : 1 ≤ p.clubs.length ∧ p.clubs.length ≤ 1000:=by
   have hf:=checkP_field h0
   simp only [fieldOk,Bool.and_eq_true,decide_eq_true_eq] at hf; omega
  obtain ⟨hsl,hsx⟩:=part_small hs0 hlen.2 hP ⟨0,0⟩
  have hh:=halfN_le hlen.2
  have hrw : ∀ r ∈ l,r.length + 1 ≤ 4294967296:=fun r hr=>by have:=part_row hP hr; omega
  have hF:=part_flat h0 hP
  have hroot : brs p bud (n + 1) l sp us = brLoop (brs p bud n) l p bud (chE l p) sp us []:=rfl
  generalize hf0 : brs p bud n = f0 at hroot
  have hcp:=chE_part h0 hP
  have hcl : (chE l p).length ≤ 4294967296:=by
   unfold chE; split
   ·exact chs_len l p hlen.2
   ·exact Nat.zero_le _
  obtain ⟨ms,hms⟩ : ∃ ms,chE l p = ms:=⟨_,rfl⟩
  have hch : ∀ {L : List Blk} {k : V → List Blk → Prop},k (.tup [.d (mts ms),I 0]) L → CallP C 114 [lisV l,plV p] L k:=fun h=>rch_c l p h0 hsl hP (by rw [hms]; exact h)
  rw [hms] at hroot hcp hcl
  refine callP_cut (fun c=>match c with | .region 12 _ _=>true | _=>false) C_ok Tryz.func62 rfl rfl (n:=_) rfl (w18 rfl) (rs:=_) rfl ?_
  repeat' ((conv=>whnf); first|refine w12 _ (hch ⟨rfl,rfl⟩) ?_|refine w0 ?_|refine w1 ?_|refine w2 (fun h=>?_) (fun h=>?_)|refine w3 ?_|refine w4 (fun h=>?_) (fun h=>?_)|refine w5 _ rfl ?_|refine w6 rfl ?_|refine w7 mixed rfl ?_)
  conv=>whnf
  refine LoopP.inv (fun q : RbS=>q.i ≤ ms.length ∧ q.t.length ≤ q.i ∧ ((q.code = 0 ∧ q.sp ≤ bud ∧ brLoop f0 l p bud (ms.take q.i) sp us [] = .go q.sp q.us q.t) ∨ (q.code ≠ 0 ∧ brLoop f0 l p bud ms sp us [] = .stop q.code)))
   (fun q=>⟨[(0,.ptr 0 0),(3,.ptr 2 0),(5,.own 3 q.t.length 0 q.t.length),(6,.d (mts ms)),(8,I q.i)],Tryz.f62.ntmps,rM p bud q.sp q.code q.us ++ [.cells [.d (lisD l)],.row q.t.length 5 (brR q.t)],[],none⟩) (fun q=>ms.length - q.i) ⟨0,sp,us,[],0⟩ ⟨w22 _,Nat.le_refl _,.inl ⟨rfl,hsp,rfl⟩⟩ ?_ ?_
  ·exact Weak.by ⟨rfl,rfl,rfl,rfl,rfl,trivial⟩
  rintro ⟨i,a,b,c,code⟩ ⟨hi,hci,hst⟩
  simp only at hi hci hst
  have hl0 : ∀ i : Nat,i < ms.length → (i : Int) < ((ms.map Mt.cells).length : Int):=fun i h=>by rw [List.length_map]; omega
  have hl1 : ∀ i : Nat,¬ i < ms.length → ¬ (i : Int) < ((ms.map Mt.cells).length : Int):=fun i h=>by rw [List.length_map]; omega
  have hfin : ∀ (M : List Blk) (q : V → List Blk → Prop),M = rM p bud a code b ++ [.cells [.d (lisD l)],.row c.length 5 (brR c)] → q (.d (.sl (brcs c))) (rM p bud a code b) → FinP 2 (.own 3 c.length 0 c.length) M q:=fun M q hM hq=>by
   subst hM
   exact FinP.data (L':=rM p bud a code b) (.d (.rowL (ds:=brcs c) (Nat.le_of_ble_eq_true rfl) rfl (CvLL.cong (by rw [List.drop_zero,List.take_of_length_le (by rw [brR_len]; exact Nat.le_refl _)]) (brR_rows c)) (brcs_len c).symm (brcs_row c))) rfl (rM_bel p bud a code b) hq
  by_cases hc0 : code = 0
  ·rcases hst with ⟨_,hab,hgo⟩ | ⟨h,_⟩
   rotate_left 1
   ·exact absurd hc0 h
   subst hc0
   by_cases hi' : i < ms.length
   ·obtain ⟨m,hm⟩ : ∃ m,m = ms[i]:=⟨_,rfl⟩
    have hnext:=brLoop_next f0 l p bud hi' hgo
    have hPx : PartP (extL l p m) p:=by rw [hm]; exact hcp _ (List.getElem_mem hi')
    rw [← hm] at hnext
    obtain ⟨x,hx⟩ : ∃ x,x = extL l p m:=⟨_,rfl⟩
    rw [← hx] at hPx
    have hsx : Small x p:=hx ▸ (part_small hs0 hlen.2 hP m).2
    have hFx:=part_flat h0 hPx
    subst hm
    have hext : ∀ {L : List Blk} {k : V → List Blk → Prop},k (lisV x) L → CallP C 115 [lisV l,plV p,mtV ms[i]] L k:=fun h=>rext33_c l p ms[i] hsl.hl hlen.2 hrw (by rw [← hx]; exact h)
    have hrnd : ∀ {L : List Blk} {k : V → List Blk → Prop},k (I (atN l p)) L → CallP C 116 [lisV l,plV p] L k:=fun h=>rround33_c l p hsl.hl hlen.2 h
    have hdm : ∀ {L : List Blk} {k : V → List Blk → Prop},k (.tup [I (dmA x p),I (dmE x p)]) L → CallP C 117 [lisV x,plV p] L k:=fun h=>rdoom_c x p hsx (by omega) h
    by_cases hsb : a = bud
    ·have hstop : brLoop f0 l p bud ms sp us [] = .stop 3:=by
      refine brLoop_stop _ _ _ _ (i:=i + 1) ?_
      rw [hnext,brLoop,if_pos hsb]
     have hsb' : (a : Int) = (bud : Int):=by omega
     repeat' ((conv=>whnf); first|refine w8 (w19 (hl0 i hi')) ?_|refine w8 (w19 (show (0 : Int) = 0 from rfl)) ?_|refine w8 (w19 hsb') ?_|refine w0 ?_|refine w1 ?_|refine w2 (fun h=>?_) (fun h=>?_)|refine w3 ?_|refine w4 (fun h=>?_) (fun h=>?_)|refine w5 _ rfl ?_|refine w6 rfl ?_|refine w7 mixed rfl ?_)
     conv=>whnf
     exact FinP.data (L':=rM p bud a 3 b) (.d .nil) rfl (rM_bel p bud a 3 b) (by rw [hroot,hstop]; exact ⟨[],a,b,by decide,rfl,rfl⟩)
    ·have hsb' : ¬ (a : Int) = (bud : Int):=by omega
     have hi64 : IntKind.i64.wrap ((a : Int) + 1) = ((a + 1 : Nat) : Int):=by rw [wrap_in (by omega)]; omega
     repeat' ((conv=>whnf); first|refine w8 (w19 (hl0 i hi')) ?_|refine w8 (w19 (show (0 : Int) = 0 from rfl)) ?_|refine w9 (w20 hsb') ?_|refine w12 _ (hext ⟨rfl,rfl⟩) ?_|refine w0 ?_|refine w1 ?_|refine w2 (fun h=>?_) (fun h=>?_)|refine w3 ?_|refine w4 (fun h=>?_) (fun h=>?_)|refine w5 _ rfl ?_|refine w6 rfl ?_|refine w7 mixed rfl ?_)
     conv=>whnf
     refine DrawP.por mixed [] [[(0,3),(1,0),(2,0),(3,0),(4,3),(5,0),(6,0),(7,3),(8,3),(9,1),(10,0),(11,0)]] (by kernel_rfl) ?_
     all_goals
      repeat' ((conv=>whnf); first|refine w11 i rfl hi' ?_|refine w12 _ (hext ⟨rfl,rfl⟩) ?_|refine w0 ?_|refine w1 ?_|refine w2 (fun h=>?_) (fun h=>?_)|refine w3 ?_|refine w4 (fun h=>?_) (fun h=>?_)|refine w5 _ rfl ?_|refine w6 rfl ?_|refine w7 mixed rfl ?_)
     conv=>whnf
     refine DrawP.por mixed [] [[(0,0),(1,0),(2,3),(3,3),(4,3),(5,0),(6,0),(7,0),(8,3),(9,1),(10,0),(11,0),(12,0)]] (by kernel_rfl) ?_
     repeat' ((conv=>whnf); first|refine w11 i rfl hi' ?_|refine w12 _ (hrnd ⟨rfl,rfl⟩) ?_|refine w0 ?_|refine w1 ?_|refine w2 (fun h=>?_) (fun h=>?_)|refine w3 ?_|refine w4 (fun h=>?_) (fun h=>?_)|refine w5 _ rfl ?_|refine w6 rfl ?_|refine w7 mixed rfl ?_)
     conv=>whnf
     refine CutP.intro (ι:=Unit) (fun _=>⟨[(0,.ptr 0 0),(3,.ptr 2 0),(5,.own 3 c.length 0 c.length),(6,.d (mts ms)),(8,I i),(9,.ptr 4 0),(10,.ptr 5 0)],Tryz.f62.ntmps,rbT p bud b (a + 1 : Nat) l c x ms[i] (.d (.sl [])),[],none⟩) ?_ (fun _=>?_)
     ·repeat' (conv => whnf
               first|refine w12 _ (hdm ⟨rfl,rfl⟩) ?_|refine w0 ?_|refine w1 ?_|refine w2 (fun h=>?_) (fun h=>?_)|refine w3 ?_|refine w4 (fun h=>?_) (fun h=>?_)|refine w5 _ rfl ?_|refine w6 rfl ?_|refine w7 mixed rfl ?_)
      conv=>whnf
      exact ⟨(),Weak.nilDTo 5 4 [.d (DI ms[i].home),.d (DI ms[i].away),I (atN l p),I (dmA x p),.nil] rfl rfl (congrArg (fun s : Int=>rbT p bud b s l c x ms[i] (.d (.sl []))) hi64) ⟨rfl,rfl,rfl,rfl,rfl,rfl,rfl,trivial⟩⟩
     by_cases hd2' : 0 ≤ dmA x p
     ·obtain ⟨d,hd1,hd2,_⟩:=dmA_pos h0 hPx hd2'
      have hw : IntKind.i64.wrap ((i : Int) + 1) = ((i + 1 : Nat) : Int):=by rw [wrap_in (by omega)]; omega
      obtain ⟨nu,hnu⟩ : ∃ nu,nu = if (d : Int) ∈ b then b else b ++ [(d : Int)]:=⟨_,rfl⟩
      have hF1 : brLoop f0 l p bud (ms.take (i + 1)) sp us [] = .go (a + 1) nu (c ++ [.mk ms[i] (atN l p) (dmA x p) []]):=by
       rw [hnext]; simp only [brLoop]; rw [if_neg hsb,← hx,if_pos hd2',hd2,hnu]
      repeat' ((conv=>whnf); first|simp only [Nat.beq_refl,Bool.and_self]|refine Br.yes (decide_eq_true hd2') ?_|refine IdxN.intro d hd2 hd1 ?_|refine GetE.intro _ (usR_get hd1) ?_|refine Need.intro (Nat.le_trans (m:=4294967296) (show c.length + 1 ≤ 4294967296 by omega) (apLim_ge _)) ?_|refine Br.tt ?_|refine Br.ff ?_|refine Br.dec (fun h=>?_) (fun h=>?_)|refine Br.not ?_|refine Br.intro (fun h=>?_) (fun h=>?_)|refine GetE.intro _ rfl ?_|refine Need.intro rfl ?_|refine DrawP.go mixed rfl ?_)
      conv=>whnf
      refine ⟨⟨i + 1,a + 1,nu,c ++ [.mk ms[i] (atN l p) (dmA x p) []],0⟩,⟨hi',by simp only [List.length_append,List.length_singleton]; omega,.inl ⟨rfl,by simp only; omega,hF1⟩⟩,by simp only; omega,?_⟩
      exact Weak.to 4 (Eq.trans (b:=rbL p bud (a + 1) 0 l ((usR p.demands.length b).set (0 + d) [B true]) (c.length + 1) ((brR c).take c.length ++ [(Brc.mk ms[i] (atN l p) (dmA x p) []).cells.map .d])) rfl (rbL_eq ((usR_set hd1).trans (by rw [hnu])))) (Nat.le_of_ble_eq_true rfl) (Nat.le_of_ble_eq_true rfl) ⟨rfl,rfl,congrArg (fun n : Nat=>V.own 3 n 0 n) (snoc_len _ _).symm,rfl,congrArg I hw,trivial⟩ (hB:=rbI_bel _ _ _ _ _ _ _ _)
     ·have hbig : roundsN p * halfN p < x.flatten.length + n:=by rw [hx,extL_flat,List.length_append]; simp only [List.length_singleton]; omega
      by_cases hfx : fullC x p = true
      ·have hstop : brLoop f0 l p bud ms sp us [] = .stop 300:=by
        refine brLoop_stop _ _ _ _ (i:=i + 1) ?_
        rw [hnext]; simp only [brLoop]; rw [if_neg hsb,← hx,if_neg hd2',if_pos hfx]
       repeat' ((conv=>whnf); first|refine w9 (w20 hd2') ?_|refine w12 _ (full30_c x p h0 hPx ⟨rfl,rfl⟩) ?_|refine w8 hfx ?_|refine w0 ?_|refine w1 ?_|refine w2 (fun h=>?_) (fun h=>?_)|refine w3 ?_|refine w4 (fun h=>?_) (fun h=>?_)|refine w5 _ rfl ?_|refine w6 rfl ?_|refine w7 mixed rfl ?_)
       conv=>whnf
       exact FinP.data (L':=rM p bud (a + 1) 300 b) (.d .nil) rfl (rM_bel p bud (a + 1) 300 b) (by rw [hroot,hstop]; exact ⟨[],a + 1,b,by decide,rfl,rfl⟩)
      ·have hw : IntKind.i64.wrap ((i : Int) + 1) = ((i + 1 : Nat) : Int):=by rw [wrap_in (by omega)]; omega
       have hih:=rbr_c p bud h0 hs0 hbud n x (a + 1) b hPx hbig (by omega)
       rw [hf0] at hih
       repeat' ((conv=>whnf); first|refine w9 (w20 hd2') ?_|refine w12 _ (full30_c x p h0 hPx ⟨rfl,rfl⟩) ?_|refine w9 (eq_false_of_ne_true hfx) ?_|refine w0 ?_|refine w1 ?_|refine w2 (fun h=>?_) (fun h=>?_)|refine w3 ?_|refine w4 (fun h=>?_) (fun h=>?_)|refine w5 _ rfl ?_|refine w6 rfl ?_|refine w7 mixed rfl ?_)
       conv=>whnf
       refine CallP.cnv (args':=[.ptr 0 0,lisV x]) (L':=rM p bud (a + 1) 0 b ++ [.cells [.d (lisD l)],.row c.length 5 (brR c),.cells [.d (lisD x)],.cells [.d (DI ms[i].home),.d (DI ms[i].away),I (atN l p),I (dmA x p),.d (.sl [])]]) rfl rfl ?_
       refine CallP.frameP (w22 _) hih (rM_bel p bud (a + 1) 0 b) rfl rfl ?_
       intro X L1 hX
       cases ho : f0 x (a + 1) b with
       | go a' b' t' =>
        rw [ho] at hX
        obtain ⟨rfl,rfl⟩:=hX
        refine ⟨rfl,rM_bel p bud a' 0 b',rfl,?_⟩
        have hF1 : brLoop f0 l p bud (ms.take (i + 1)) sp us [] = .go a' b' (c ++ [.mk ms[i] (atN l p) (dmA x p) t']):=by
         rw [hnext]; simp only [brLoop]; rw [if_neg hsb,← hx,if_neg hd2',if_neg hfx,ho]
        obtain ⟨k4,_,_⟩:=brs_keep p bud n x (a + 1) b (by omega) _ _ _ (by rw [hf0]; exact ho)
        repeat' ((conv=>whnf); first|simp only [Nat.beq_refl,Bool.and_self]|refine Need.intro (Nat.le_trans (m:=4294967296) (show c.length + 1 ≤ 4294967296 by omega) (apLim_ge _)) ?_|refine Br.tt ?_|refine Br.ff ?_|refine Br.dec (fun h=>?_) (fun h=>?_)|refine Br.not ?_|refine Br.intro (fun h=>?_) (fun h=>?_)|refine GetE.intro _ rfl ?_|refine Need.intro rfl ?_|refine DrawP.go mixed rfl ?_)
        conv=>whnf
        refine ⟨⟨i + 1,a',b',c ++ [.mk ms[i] (atN l p) (dmA x p) t'],0⟩,⟨hi',by simp only [List.length_append,List.length_singleton]; omega,.inl ⟨rfl,by simp only; omega,hF1⟩⟩,by simp only; omega,?_⟩
        exact Weak.to 4 (Eq.trans (b:=rbL p bud a' 0 l (usR p.demands.length b') (c.length + 1) ((brR c).take c.length ++ [(Brc.mk ms[i] (atN l p) (dmA x p) t').cells.map .d])) rfl (rbL_eq rfl)) (w18 rfl) (w18 rfl) ⟨rfl,rfl,congrArg (fun n : Nat=>V.own 3 n 0 n) (snoc_len _ _).symm,rfl,congrArg I hw,trivial⟩ (hB:=rbI_bel _ _ _ _ _ _ _ _)
       | stop e =>
        rw [ho] at hX
        obtain ⟨t',a',b',he,rfl,rfl⟩:=hX
        refine ⟨rfl,rM_bel p bud a' e b',rfl,?_⟩
        have hF1 : brLoop f0 l p bud ms sp us [] = .stop e:=by
         refine brLoop_stop _ _ _ _ (i:=i + 1) ?_
         rw [hnext]; simp only [brLoop]; rw [if_neg hsb,← hx,if_neg hd2',if_neg hfx,ho]
        repeat' ((conv=>whnf); first|simp only [Nat.beq_refl,Bool.and_self]|refine Need.intro (Nat.le_trans (m:=4294967296) (show c.length + 1 ≤ 4294967296 by omega) (apLim_ge _)) ?_|refine Br.tt ?_|refine Br.ff ?_|refine Br.dec (fun h=>?_) (fun h=>?_)|refine Br.not ?_|refine Br.intro (fun h=>?_) (fun h=>?_)|refine GetE.intro _ rfl ?_|refine Need.intro rfl ?_|refine DrawP.go mixed rfl ?_)
        conv=>whnf
        refine ⟨⟨i + 1,a',b',c ++ [.mk ms[i] (atN l p) (dmA x p) t'],e⟩,⟨hi',by simp only [List.length_append,List.length_singleton]; omega,.inr ⟨he,hF1⟩⟩,by simp only; omega,?_⟩
        exact Weak.to 4 (Eq.trans (b:=rbL p bud a' e l (usR p.demands.length b') (c.length + 1) ((brR c).take c.length ++ [(Brc.mk ms[i] (atN l p) (dmA x p) t').cells.map .d])) rfl (rbL_eq rfl)) (w18 rfl) (w18 rfl) ⟨rfl,rfl,congrArg (fun n : Nat=>V.own 3 n 0 n) (snoc_len _ _).symm,rfl,congrArg I hw,trivial⟩ (hB:=rbI_bel _ _ _ _ _ _ _ _)
   ·have hie : i = ms.length:=by omega
    subst hie
    repeat' ((conv=>whnf); first|refine w9 (w20 (hl1 _ hi')) ?_|refine w0 ?_|refine w1 ?_|refine w2 (fun h=>?_) (fun h=>?_)|refine w3 ?_|refine w4 (fun h=>?_) (fun h=>?_)|refine w5 _ rfl ?_|refine w6 rfl ?_|refine w7 mixed rfl ?_)
    conv=>whnf
    rw [List.take_length] at hgo
    exact hfin _ _ rfl (by rw [hroot,hgo]; exact ⟨rfl,rfl⟩)
  ·rcases hst with ⟨h,_⟩ | ⟨_,hstop⟩
   ·exact absurd h hc0
   by_cases hi' : i < ms.length
   ·repeat' (conv => whnf
             first|refine w8 (w19 (hl0 i hi')) ?_|refine w9 (w20 hc0) ?_|refine w0 ?_|refine w1 ?_|refine w2 (fun h=>?_) (fun h=>?_)|refine w3 ?_|refine w4 (fun h=>?_) (fun h=>?_)|refine w5 _ rfl ?_|refine w6 rfl ?_|refine w7 mixed rfl ?_)
    conv=>whnf
    exact hfin _ _ rfl (by rw [hroot,hstop]; exact ⟨c,a,b,hc0,rfl,rfl⟩)
   ·repeat' (conv => whnf
             first|refine w9 (w20 (hl1 _ hi')) ?_|refine w0 ?_|refine w1 ?_|refine w2 (fun h=>?_) (fun h=>?_)|refine w3 ?_|refine w4 (fun h=>?_) (fun h=>?_)|refine w5 _ rfl ?_|refine w6 rfl ?_|refine w7 mixed rfl ?_)
    conv=>whnf
    exact hfin _ _ rfl (by rw [hroot,hstop]; exact ⟨c,a,b,hc0,rfl,rfl⟩)
end Go.Proofs.YtndlggbljkhfbaaGreat
namespace Go.Proofs.YtndlggbljkhfbaaGreat
open Go.Tidy
variable {L : List Blk} {k : V → List Blk → Prop}
mutual
def Brc.size : Brc → Nat
 | .mk _ _ _ t=>1 + brSize t
def brSize : List Brc → Nat
 | []=>0
 | x :: t=>x.size + brSize t
end
def Brc.m : Brc → Mt | .mk m _ _ _=>m
def Brc.r : Brc → Int | .mk _ r _ _=>r
def Brc.b : Brc → Int | .mk _ _ b _=>b
def Brc.t : Brc → List Brc | .mk _ _ _ t=>t
theorem Brc.cells_eq (x : Brc) : x.cells = [DI x.m.home,DI x.m.away,DI x.r,DI x.b,.sl (brcs x.t)]:=by cases x; rfl
theorem Brc.ext_iff' {x y : Brc} : x = y ↔ x.m = y.m ∧ x.r = y.r ∧ x.b = y.b ∧ x.t = y.t:=by
 cases x; cases y; simp [Brc.m,Brc.r,Brc.b,Brc.t]
theorem brSize_at : ∀ {t : List Brc} {i : Nat} (hi : i < t.length),brSize (t[i]).t < brSize t
 | x :: t,0,_=>by cases x; simp [brSize,Brc.size,Brc.t]; omega
 | x :: t,i + 1,h=>by
  have:=brSize_at (t:=t) (i:=i) (by simpa using h)
  simp only [List.getElem_cons_succ,brSize]; omega
theorem brSize_len : ∀ t : List Brc,t.length ≤ brSize t
 | []=>w21 _
 | x :: t=>by have:=brSize_len t; cases x; simp only [brSize,Brc.size,List.length_cons]; omega
open Classical in
noncomputable def eqB {α : Type} (a b : α) : Bool:=if a = b then true else false
theorem eqB_t {α : Type} {a b : α} (h : a = b) : eqB a b = true:=by unfold eqB; exact if_pos h
theorem eqB_f {α : Type} {a b : α} (h : ¬ a = b) : eqB a b = false:=by unfold eqB; exact if_neg h
theorem brcs_at {t : List Brc} {i : Nat} (hi : i < t.length) : (brcs t)[i]? = some [DI t[i].m.home,DI t[i].m.away,DI t[i].r,DI t[i].b,.sl (brcs t[i].t)]:=by
 rw [brcs_map,List.getElem?_map,List.getElem?_eq_getElem hi,Option.map_some,Brc.cells_eq]
theorem rsameT_c : ∀ (n : Nat) (a b : List Brc) {L : List Blk} {k : V → List Blk → Prop},brSize a ≤ n → n ≤ 4611686018427387904 → k (B (eqB a b)) L → CallP C 63 [.d (.sl (brcs a)),.d (.sl (brcs b))] L k:=by
 intro n
 induction n with
 | zero =>
  intro a b L k hn hb h
  have hal:=brSize_len a
  have : a = []:=List.eq_nil_of_length_eq_zero (by omega)
  subst this
  obtain ⟨q,hq⟩ : ∃ q,eqB ([] : List Brc) b = q:=⟨_,rfl⟩
  rw [hq] at h
  refine CallP.pure ?_ rfl (fun _=>rfl) h
  clear h
  refine callP_of C_ok Tryz.func63 rfl rfl (n:=_) rfl (w18 rfl) (rs:=_) rfl ?_
  cases b with
  | nil =>
   rw [eqB_t rfl] at hq; subst hq
   repeat' ((conv=>whnf); first|refine w0 ?_|refine w1 ?_|refine w2 (fun h=>?_) (fun h=>?_)|refine w3 ?_|refine w4 (fun h=>?_) (fun h=>?_)|refine w5 _ rfl ?_|refine w6 rfl ?_|refine w7 mixed rfl ?_)
   conv=>whnf
   refine LoopP.inv (fun _ : Unit=>True) (fun _=>⟨[(0,.d (.sl (brcs []))),(1,.d (.sl (brcs []))),(4,B false),(5,I 0)],Tryz.f63.ntmps,[],[],none⟩) (fun _=>0) () trivial ?_ ?_
   ·exact Weak.by ⟨rfl,rfl,rfl,rfl,trivial⟩
   intro _ _
   repeat' ((conv=>whnf); first|refine w0 ?_|refine w1 ?_|refine w2 (fun h=>?_) (fun h=>?_)|refine w3 ?_|refine w4 (fun h=>?_) (fun h=>?_)|refine w5 _ rfl ?_|refine w6 rfl ?_|refine w7 mixed rfl ?_)
   conv=>whnf
   exact FinP.drop (n:=0) rfl (w21 0) rfl rfl ⟨rfl,rfl⟩
  | cons x b =>
   rw [eqB_f (by simp)] at hq; subst hq
   have hl : ¬ ((brcs ([] : List Brc)).length : Int) = ((brcs (x :: b)).length : Int):=by rw [brcs_len,brcs_len]; simp; omega
   repeat' ((conv=>whnf); first|refine w3 ?_|refine w9 (w20 hl) ?_|refine w0 ?_|refine w1 ?_|refine w2 (fun h=>?_) (fun h=>?_)|refine w3 ?_|refine w4 (fun h=>?_) (fun h=>?_)|refine w5 _ rfl ?_|refine w6 rfl ?_|refine w7 mixed rfl ?_)
   conv=>whnf
   exact FinP.drop (n:=0) rfl (w21 0) rfl rfl ⟨rfl,rfl⟩
 | succ n ih =>
  intro a b L k hn hb h
  have hal:=brSize_len a
  obtain ⟨q,hq⟩ : ∃ q,eqB a b = q:=⟨_,rfl⟩
  rw [hq] at h
  refine CallP.pure ?_ rfl (fun _=>rfl) h
  clear h
  refine callP_of C_ok Tryz.func63 rfl rfl (n:=_) rfl (w18 rfl) (rs:=_) rfl ?_
  by_cases hlen : a.length = b.length
  ·have hl : ((brcs a).length : Int) = ((brcs b).length : Int):=by rw [brcs_len,brcs_len,hlen]
   repeat' ((conv=>whnf); first|refine w3 ?_|refine w8 (w19 hl) ?_|refine w0 ?_|refine w1 ?_|refine w2 (fun h=>?_) (fun h=>?_)|refine w3 ?_|refine w4 (fun h=>?_) (fun h=>?_)|refine w5 _ rfl ?_|refine w6 rfl ?_|refine w7 mixed rfl ?_)
   conv=>whnf
   refine LoopP.inv (fun i=>i ≤ a.length ∧ ∀ (j : Nat) (hj : j < a.length),j < i → a[j] = b[j]'(by omega)) (fun i=>⟨[(0,.d (.sl (brcs a))),(1,.d (.sl (brcs b))),(4,B false),(5,I i)],Tryz.f63.ntmps,[],[],none⟩) (fun i=>a.length - i) 0 ⟨w22 _,fun j _ h=>absurd h (Nat.not_lt_zero j)⟩ ?_ ?_
   ·exact Weak.by ⟨rfl,rfl,rfl,rfl,trivial⟩
   rintro i ⟨hi,hok⟩
   by_cases hi' : i < a.length
   ·have hib : i < b.length:=by omega
    have hlt : (i : Int) < ((brcs a).length : Int):=by rw [brcs_len]; omega
    have hw : IntKind.i64.wrap ((i : Int) + 1) = ((i + 1 : Nat) : Int):=by rw [wrap_in (by omega)]; omega
    have ra:=brcs_at hi'
    have rb:=brcs_at hib
    have hsz:=brSize_at hi'
    have hno : ¬ a[i] = b[i] → q = false:=fun e=>by rw [← hq]; exact eqB_f fun h=>e (by subst h; rfl)
    have hcall : ∀ {L : List Blk} {k : V → List Blk → Prop},k (B (eqB a[i].t b[i].t)) L → CallP C 63 [.d (.sl (brcs a[i].t)),.d (.sl (brcs b[i].t))] L k:=fun h=>ih a[i].t b[i].t (by omega) (by omega) h
    have hgo : a[i] = b[i] → ∀ (j : Nat) (hj : j < a.length),j < i + 1 → a[j] = b[j]'(by omega):=fun e j hj hji=>by
     by_cases e2 : j = i
     ·subst e2; exact e
     ·exact hok j hj (by omega)
    generalize a[i] = x at ra hno hcall hgo
    generalize b[i] = y at rb hno hcall hgo
    by_cases e1 : x.m = y.m
    ·have d1:=(mEq x.m y.m).trans (w19 e1)
     by_cases e2 : x.r = y.r
     ·by_cases e3 : x.b = y.b
      ·by_cases e4 : x.t = y.t
       ·have d4:=eqB_t e4
        rw [d4] at hcall
        repeat' ((conv=>whnf); first|refine w8 (w19 hlt) ?_|refine w10 i _ rfl ra ?_|refine w10 i _ rfl rb ?_|refine w12 _ (hcall ⟨rfl,rfl⟩) ?_|refine w3 ?_|refine w8 d1 ?_|refine w8 (w19 e2) ?_|refine w8 (w19 e3) ?_|refine w0 ?_|refine w1 ?_|refine w2 (fun h=>?_) (fun h=>?_)|refine w3 ?_|refine w4 (fun h=>?_) (fun h=>?_)|refine w5 _ rfl ?_|refine w6 rfl ?_|refine w7 mixed rfl ?_)
        conv=>whnf
        exact ⟨i + 1,⟨hi',hgo (Brc.ext_iff'.2 ⟨e1,e2,e3,e4⟩)⟩,by omega,Weak.by ⟨rfl,rfl,rfl,congrArg I hw,trivial⟩⟩
       ·have d4:=eqB_f e4
        rw [d4] at hcall
        repeat' ((conv=>whnf); first|refine w8 (w19 hlt) ?_|refine w10 i _ rfl ra ?_|refine w10 i _ rfl rb ?_|refine w12 _ (hcall ⟨rfl,rfl⟩) ?_|refine w3 ?_|refine w8 d1 ?_|refine w8 (w19 e2) ?_|refine w8 (w19 e3) ?_|refine w0 ?_|refine w1 ?_|refine w2 (fun h=>?_) (fun h=>?_)|refine w3 ?_|refine w4 (fun h=>?_) (fun h=>?_)|refine w5 _ rfl ?_|refine w6 rfl ?_|refine w7 mixed rfl ?_)
        conv=>whnf
        exact FinP.drop (n:=0) rfl (w21 0) rfl rfl ⟨rfl,congrArg B (hno fun e=>e4 (Brc.ext_iff'.1 e).2.2.2).symm⟩
      ·repeat' (conv => whnf
                first|refine w8 (w19 hlt) ?_|refine w10 i _ rfl ra ?_|refine w10 i _ rfl rb ?_|refine w3 ?_|refine w8 d1 ?_|refine w8 (w19 e2) ?_|refine w9 (w20 e3) ?_|refine w0 ?_|refine w1 ?_|refine w2 (fun h=>?_) (fun h=>?_)|refine w3 ?_|refine w4 (fun h=>?_) (fun h=>?_)|refine w5 _ rfl ?_|refine w6 rfl ?_|refine w7 mixed rfl ?_)
       conv=>whnf
       exact FinP.drop (n:=0) rfl (w21 0) rfl rfl ⟨rfl,congrArg B (hno fun e=>e3 (Brc.ext_iff'.1 e).2.2.1).symm⟩
     ·repeat' (conv => whnf
               first|refine w8 (w19 hlt) ?_|refine w10 i _ rfl ra ?_|refine w10 i _ rfl rb ?_|refine w3 ?_|refine w8 d1 ?_|refine w9 (w20 e2) ?_|refine w0 ?_|refine w1 ?_|refine w2 (fun h=>?_) (fun h=>?_)|refine w3 ?_|refine w4 (fun h=>?_) (fun h=>?_)|refine w5 _ rfl ?_|refine w6 rfl ?_|refine w7 mixed rfl ?_)
      conv=>whnf
      exact FinP.drop (n:=0) rfl (w21 0) rfl rfl ⟨rfl,congrArg B (hno fun e=>e2 (Brc.ext_iff'.1 e).2.1).symm⟩
    ·have d1:=(mEq x.m y.m).trans (w20 e1)
     repeat' ((conv=>whnf); first|refine w8 (w19 hlt) ?_|refine w10 i _ rfl ra ?_|refine w10 i _ rfl rb ?_|refine w3 ?_|refine w9 d1 ?_|refine w0 ?_|refine w1 ?_|refine w2 (fun h=>?_) (fun h=>?_)|refine w3 ?_|refine w4 (fun h=>?_) (fun h=>?_)|refine w5 _ rfl ?_|refine w6 rfl ?_|refine w7 mixed rfl ?_)
     conv=>whnf
     exact FinP.drop (n:=0) rfl (w21 0) rfl rfl ⟨rfl,congrArg B (hno fun e=>e1 (Brc.ext_iff'.1 e).1).symm⟩
   ·have hlt : ¬ (i : Int) < ((brcs a).length : Int):=by rw [brcs_len]; omega
    have hall : q = true:=by rw [← hq]; exact eqB_t (List.ext_getElem hlen fun j h1 h2=>hok j h1 (by omega))
    repeat' ((conv=>whnf); first|refine w9 (w20 hlt) ?_|refine w0 ?_|refine w1 ?_|refine w2 (fun h=>?_) (fun h=>?_)|refine w3 ?_|refine w4 (fun h=>?_) (fun h=>?_)|refine w5 _ rfl ?_|refine w6 rfl ?_|refine w7 mixed rfl ?_)
    conv=>whnf
    exact FinP.drop (n:=0) rfl (w21 0) rfl rfl ⟨rfl,congrArg B hall.symm⟩
  ·have hl : ¬ ((brcs a).length : Int) = ((brcs b).length : Int):=by rw [brcs_len,brcs_len]; omega
   have hno : q = false:=by rw [← hq]; exact eqB_f fun e=>hlen (by rw [e])
   repeat' ((conv=>whnf); first|refine w3 ?_|refine w9 (w20 hl) ?_|refine w0 ?_|refine w1 ?_|refine w2 (fun h=>?_) (fun h=>?_)|refine w3 ?_|refine w4 (fun h=>?_) (fun h=>?_)|refine w5 _ rfl ?_|refine w6 rfl ?_|refine w7 mixed rfl ?_)
   conv=>whnf
   exact FinP.drop (n:=0) rfl (w21 0) rfl rfl ⟨rfl,congrArg B hno.symm⟩
theorem rsame33_c (u : List Int) (t : List Brc) (u' : List Int) (t' : List Brc) (hu : u.length ≤ 4611686018427387904) (ht : brSize t ≤ 4611686018427387904) (h : k (B (decide (u = u') && eqB t t')) L) : CallP C 27 [refV u t,refV u' t'] L k:=by
 obtain ⟨q,hq⟩ : ∃ q,eqB t t' = q:=⟨_,rfl⟩
 rw [hq] at h
 have hcall : ∀ {L : List Blk} {k : V → List Blk → Prop},k (B q) L → CallP C 63 [.d (.sl (brcs t)),.d (.sl (brcs t'))] L k:=fun h=>rsameT_c _ t t' (Nat.le_refl _) ht (by rw [hq]; exact h)
 refine CallP.pure ?_ rfl (fun _=>rfl) h
 clear h
 refine callP_of C_ok Tryz.func27 rfl rfl (n:=_) rfl (w18 rfl) (rs:=_) rfl ?_
 repeat' ((conv=>whnf); first|refine w0 ?_|refine w1 ?_|refine w2 (fun h=>?_) (fun h=>?_)|refine w3 ?_|refine w4 (fun h=>?_) (fun h=>?_)|refine w5 _ rfl ?_|refine w6 rfl ?_|refine w7 mixed rfl ?_|refine rsameI_c u u' hu ?_|refine hcall ?_)
 all_goals conv=>whnf
 all_goals refine w15 (n:=0) rfl (w21 0) rfl rfl ⟨rfl,congrArg B ?_⟩
 all_goals simp [*]
def brN : Nat → List Brc → Nat
 | 0,_=>10000
 | d + 1,t=>if 100 < t.length then 10000 else t.foldl (fun n x=>if n ≤ 5000 then n + brN d x.t else n) t.length
def brStep (d n : Nat) (x : Brc) : Nat:=if n ≤ 5000 then n + brN d x.t else n
theorem brN_le : ∀ (d : Nat) (t : List Brc),brN d t ≤ 10000 + 5000 * d
 | 0,t=>by simp [brN]
 | d + 1,t=>by
  unfold brN
  split
  ·omega
  ·rename_i h
   have key : ∀ (l : List Brc) (n : Nat),n ≤ 10000 + 5000 * (d + 1) → l.foldl (fun n x=>if n ≤ 5000 then n + brN d x.t else n) n ≤ 10000 + 5000 * (d + 1):=by
    intro l
    induction l with
    | nil=>intro n h; exact h
    | cons x l ih =>
     intro n h
     refine ih _ ?_
     have:=brN_le d x.t
     show (if n ≤ 5000 then n + brN d x.t else n) ≤ _
     split <;> omega
   exact key t _ (by omega)
theorem foldl_next {α β : Type} (f : β → α → β) (b : β) {l : List α} {i : Nat} (hi : i < l.length) : (l.take (i + 1)).foldl f b = f ((l.take i).foldl f b) l[i]:=by
 rw [take_next hi,List.foldl_append]; rfl
theorem brStep_big (d : Nat) : ∀ (l : List Brc) (n : Nat),5000 < n → l.foldl (brStep d) n = n
 | [],_,_=>rfl
 | x :: l,n,h=>by
  rw [List.foldl_cons,show brStep d n x = n from if_neg (by omega)]
  exact brStep_big d l n h
theorem brN_succ (d : Nat) (t : List Brc) : brN (d + 1) t = if 100 < t.length then 10000 else t.foldl (brStep d) t.length:=rfl
theorem rbranches_c : ∀ (d : Nat) (t : List Brc) {L : List Blk} {k : V → List Blk → Prop},d ≤ 1000 → k (I (brN d t)) L → CallP C 64 [.d (.sl (brcs t)),I ((d : Int) - 1)] L k:=by
 intro d
 induction d with
 | zero =>
  intro t L k hd h
  have h1 : ((0 : Nat) : Int) - 1 < 0:=by omega
  refine CallP.pure ?_ rfl (fun _=>rfl) h
  clear h
  refine callP_of C_ok Tryz.func64 rfl rfl (n:=_) rfl (w18 rfl) (rs:=_) rfl ?_
  repeat' ((conv=>whnf); first|refine w8 (w19 h1) ?_|refine w0 ?_|refine w1 ?_|refine w2 (fun h=>?_) (fun h=>?_)|refine w3 ?_|refine w4 (fun h=>?_) (fun h=>?_)|refine w5 _ rfl ?_|refine w6 rfl ?_|refine w7 mixed rfl ?_)
  conv=>whnf
  exact FinP.drop (n:=0) rfl (w21 0) rfl rfl ⟨rfl,rfl⟩
 | succ d ih =>
  intro t L k hd h
  obtain ⟨R,hR⟩ : ∃ R,brN (d + 1) t = R:=⟨_,rfl⟩
  rw [hR] at h
  rw [brN_succ] at hR
  rw [show ((d + 1 : Nat) : Int) - 1 = (d : Int) by omega]
  have h1 : ¬ (d : Int) < 0:=by omega
  have hbl:=brcs_len t
  refine CallP.pure ?_ rfl (fun _=>rfl) h
  clear h
  refine callP_of C_ok Tryz.func64 rfl rfl (n:=_) rfl (w18 rfl) (rs:=_) rfl ?_
  by_cases hl : 100 < t.length
  ·rw [if_pos hl] at hR; subst hR
   have h2 : (100 : Int) < ((brcs t).length : Int):=by omega
   repeat' ((conv=>whnf); first|refine w9 (w20 h1) ?_|refine w8 (w19 h2) ?_|refine w0 ?_|refine w1 ?_|refine w2 (fun h=>?_) (fun h=>?_)|refine w3 ?_|refine w4 (fun h=>?_) (fun h=>?_)|refine w5 _ rfl ?_|refine w6 rfl ?_|refine w7 mixed rfl ?_)
   conv=>whnf
   exact FinP.drop (n:=0) rfl (w21 0) rfl rfl ⟨rfl,rfl⟩
  ·rw [if_neg hl] at hR
   have h2 : ¬ (100 : Int) < ((brcs t).length : Int):=by omega
   repeat' ((conv=>whnf); first|refine w9 (w20 h1) ?_|refine w9 (w20 h2) ?_|refine w0 ?_|refine w1 ?_|refine w2 (fun h=>?_) (fun h=>?_)|refine w3 ?_|refine w4 (fun h=>?_) (fun h=>?_)|refine w5 _ rfl ?_|refine w6 rfl ?_|refine w7 mixed rfl ?_)
   conv=>whnf
   refine LoopP.inv (fun i=>i ≤ t.length) (fun i=>⟨[(0,.d (.sl (brcs t))),(1,I d),(5,I ((t.take i).foldl (brStep d) t.length : Nat)),(6,I i)],Tryz.f64.ntmps,[],[],none⟩) (fun i=>t.length - i) 0 (w22 _) ?_ ?_
   ·exact Weak.by ⟨rfl,rfl,congrArg (fun n : Nat=>I n) hbl,rfl,trivial⟩
   intro i hi
   by_cases hi' : i < t.length
   ·have hlt : (i : Int) < ((brcs t).length : Int):=by omega
    have hnx:=foldl_next (brStep d) t.length hi'
    have hrest : (t.drop i).foldl (brStep d) ((t.take i).foldl (brStep d) t.length) = R:=by rw [← List.foldl_append,List.take_append_drop]; exact hR
    generalize (t.take i).foldl (brStep d) t.length = n at hnx hrest
    by_cases hn : n ≤ 5000
    ·have hn' : (n : Int) ≤ 5000:=by omega
     have hw : IntKind.i64.wrap ((i : Int) + 1) = ((i + 1 : Nat) : Int):=by rw [wrap_in (by omega)]; omega
     have hw2 : IntKind.i64.wrap ((d : Int) - 1) = (d : Int) - 1:=wrap_in (by omega)
     have hb:=brN_le d t[i].t
     have hw3 : IntKind.i64.wrap ((n : Int) + (brN d t[i].t : Int)) = ((n + brN d t[i].t : Nat) : Int):=by rw [wrap_in (by omega)]; omega
     have hcall : ∀ {L : List Blk} {k : V → List Blk → Prop},k (I (brN d t[i].t)) L → CallP C 64 [.d (.sl (brcs t[i].t)),I (IntKind.i64.wrap ((d : Int) - 1))] L k:=fun h=>by rw [hw2]; exact ih t[i].t (by omega) h
     have hst : brStep d n t[i] = n + brN d t[i].t:=if_pos hn
     rw [hst] at hnx
     repeat' ((conv=>whnf); first|refine w8 (w19 hlt) ?_|refine w8 (w19 hn') ?_|refine w10 i _ rfl (brcs_at hi') ?_|refine hcall ?_|refine w0 ?_|refine w1 ?_|refine w2 (fun h=>?_) (fun h=>?_)|refine w3 ?_|refine w4 (fun h=>?_) (fun h=>?_)|refine w5 _ rfl ?_|refine w6 rfl ?_|refine w7 mixed rfl ?_)
     conv=>whnf
     exact ⟨i + 1,hi',by omega,Weak.by ⟨rfl,rfl,congrArg I (hw3.trans (by rw [hnx])),congrArg I hw,trivial⟩⟩
    ·have hn' : ¬ (n : Int) ≤ 5000:=by omega
     rw [brStep_big d _ _ (by omega)] at hrest
     subst hrest
     repeat' ((conv=>whnf); first|refine w8 (w19 hlt) ?_|refine w9 (w20 hn') ?_|refine w0 ?_|refine w1 ?_|refine w2 (fun h=>?_) (fun h=>?_)|refine w3 ?_|refine w4 (fun h=>?_) (fun h=>?_)|refine w5 _ rfl ?_|refine w6 rfl ?_|refine w7 mixed rfl ?_)
     conv=>whnf
     exact FinP.drop (n:=0) rfl (w21 0) rfl rfl ⟨rfl,rfl⟩
   ·have hlt : ¬ (i : Int) < ((brcs t).length : Int):=by omega
    have hie : i = t.length:=by omega
    subst hie
    repeat' ((conv=>whnf); first|refine w9 (w20 hlt) ?_|refine w0 ?_|refine w1 ?_|refine w2 (fun h=>?_) (fun h=>?_)|refine w3 ?_|refine w4 (fun h=>?_) (fun h=>?_)|refine w5 _ rfl ?_|refine w6 rfl ?_|refine w7 mixed rfl ?_)
    conv=>whnf
    exact FinP.drop (n:=0) rfl (Nat.le_refl 0) rfl rfl ⟨rfl,congrArg (fun n : Nat=>I n) (by rw [List.take_length]; exact hR)⟩
theorem rfew33_c (t : List Brc) (h : k (B (decide (brN 41 t ≤ 5000))) L) : CallP C 28 [.d (.sl (brcs t))] L k:=by
 have hcall : ∀ {L : List Blk} {k : V → List Blk → Prop},k (I (brN 41 t)) L → CallP C 64 [.d (.sl (brcs t)),I 40] L k:=fun h=>rbranches_c 41 t (by omega) h
 refine CallP.pure ?_ rfl (fun _=>rfl) h
 clear h
 refine callP_of C_ok Tryz.func28 rfl rfl (n:=_) rfl (w18 rfl) (rs:=_) rfl ?_
 repeat' ((conv=>whnf); first|refine w0 ?_|refine w1 ?_|refine w2 (fun h=>?_) (fun h=>?_)|refine w3 ?_|refine w4 (fun h=>?_) (fun h=>?_)|refine w5 _ rfl ?_|refine w6 rfl ?_|refine w7 mixed rfl ?_|refine hcall ?_)
 conv=>whnf
 exact FinP.drop (n:=0) rfl (w21 0) rfl rfl ⟨rfl,congrArg B (decide_eq_decide.2 (by omega))⟩
theorem dm_at {ds : List Dm} {i : Nat} (hi : i < ds.length) : (ds.map Dm.cells)[i]? = some ds[i].cells:=by rw [List.getElem?_map,List.getElem?_eq_getElem hi]; rfl
theorem rsameP_c (a b : Pl) (ha : a.clubs.length ≤ 4611686018427387904) (hd : a.demands.length ≤ 4611686018427387904) (hc : ∀ d ∈ a.demands,d.clubs.length ≤ 4611686018427387904) (h : k (B (eqB a b)) L) : CallP C 26 [plV a,plV b] L k:=by
 obtain ⟨q,hq⟩ : ∃ q,eqB a b = q:=⟨_,rfl⟩
 rw [hq] at h
 have hno : ¬ a = b → q = false:=fun e=>by rw [← hq]; exact eqB_f e
 have hyes : a = b → q = true:=fun e=>by rw [← hq]; exact eqB_t e
 refine CallP.pure ?_ rfl (fun _=>rfl) h
 clear h
 refine callP_of C_ok Tryz.func26 rfl rfl (n:=_) rfl (w18 rfl) (rs:=_) rfl ?_
 by_cases h1 : a.clubs = b.clubs ∧ a.double = b.double ∧ a.demands.length = b.demands.length
 ·obtain ⟨e1,e2,e3⟩:=h1
  have hl : ((a.demands.map Dm.cells).length : Int) = ((b.demands.map Dm.cells).length : Int):=by rw [List.length_map,List.length_map,e3]
  have e2' : (a.double == b.double) = true:=by rw [e2]; simp
  repeat' ((conv=>whnf); first|refine rsameI_c a.clubs b.clubs ha ?_|refine w3 ?_|refine w8 (w19 e1) ?_|refine w8 e2' ?_|refine w8 (w19 hl) ?_|refine w0 ?_|refine w1 ?_|refine w2 (fun h=>?_) (fun h=>?_)|refine w3 ?_|refine w4 (fun h=>?_) (fun h=>?_)|refine w5 _ rfl ?_|refine w6 rfl ?_|refine w7 mixed rfl ?_)
  conv=>whnf
  refine LoopP.inv (fun i=>i ≤ a.demands.length ∧ ∀ (j : Nat) (hj : j < a.demands.length),j < i → a.demands[j] = b.demands[j]'(by omega)) (fun i=>⟨[(2,.ptr 0 0),(3,.ptr 1 0),(4,B false),(5,I i)],Tryz.f26.ntmps,[.cells (a.cells.map .d),.cells (b.cells.map .d)],[],none⟩) (fun i=>a.demands.length - i) 0 ⟨w22 _,fun j _ h=>absurd h (Nat.not_lt_zero j)⟩ ?_ ?_
  ·exact Weak.by ⟨rfl,rfl,rfl,rfl,trivial⟩
  rintro i ⟨hi,hok⟩
  by_cases hi' : i < a.demands.length
  ·have hib : i < b.demands.length:=by omega
   have hlt : (i : Int) < ((a.demands.map Dm.cells).length : Int):=by rw [List.length_map]; omega
   have hw : IntKind.i64.wrap ((i : Int) + 1) = ((i + 1 : Nat) : Int):=by rw [wrap_in (by omega)]; omega
   have ra:=dm_at hi'
   have rb:=dm_at hib
   have hcx:=hc _ (List.getElem_mem hi')
   have hno' : ¬ a.demands[i] = b.demands[i] → q = false:=fun e=>hno fun h=>e (by subst h; rfl)
   have hgo : a.demands[i] = b.demands[i] → ∀ (j : Nat) (hj : j < a.demands.length),j < i + 1 → a.demands[j] = b.demands[j]'(by omega):=fun e j hj hji=>by
    by_cases e2 : j = i
    ·subst e2; exact e
    ·exact hok j hj (by omega)
   generalize a.demands[i] = x at ra hno' hgo hcx
   generalize b.demands[i] = y at rb hno' hgo
   repeat' ((conv=>whnf); first|refine w8 (w19 hlt) ?_|refine w10 i _ rfl ra ?_|refine w10 i _ rfl rb ?_|refine rsameI_c x.clubs y.clubs hcx ?_|refine w0 ?_|refine w1 ?_|refine w2 (fun h=>?_) (fun h=>?_)|refine w3 ?_|refine w4 (fun h=>?_) (fun h=>?_)|refine w5 _ rfl ?_|refine w6 rfl ?_|refine w7 mixed rfl ?_)
   all_goals conv=>whnf
   all_goals first
    | exact FinP.drop (n:=0) rfl (Nat.le_refl 0) rfl rfl ⟨rfl,congrArg B (hno' fun e=>by cases e; simp_all).symm⟩
    | exact ⟨i + 1,⟨hi',hgo (by cases x; cases y; simp_all)⟩,by omega,Weak.to 2 rfl (Nat.zero_le _) (Nat.le_of_ble_eq_true rfl) ⟨rfl,rfl,rfl,congrArg I hw,trivial⟩⟩
  ·have hlt : ¬ (i : Int) < ((a.demands.map Dm.cells).length : Int):=by rw [List.length_map]; omega
   have hall : a = b:=by
    have : a.demands = b.demands:=List.ext_getElem e3 fun j h1 h2=>hok j h1 (by omega)
    cases a; cases b; simp_all
   repeat' ((conv=>whnf); first|refine w9 (w20 hlt) ?_|refine w0 ?_|refine w1 ?_|refine w2 (fun h=>?_) (fun h=>?_)|refine w3 ?_|refine w4 (fun h=>?_) (fun h=>?_)|refine w5 _ rfl ?_|refine w6 rfl ?_|refine w7 mixed rfl ?_)
   conv=>whnf
   exact FinP.drop (n:=0) rfl (w21 0) rfl rfl ⟨rfl,congrArg B (hyes hall).symm⟩
 ·have hne : q = false:=hno fun e=>h1 (by subst e; exact ⟨rfl,rfl,rfl⟩)
  repeat' ((conv=>whnf); first|refine w0 ?_|refine w1 ?_|refine w2 (fun h=>?_) (fun h=>?_)|refine w3 ?_|refine w4 (fun h=>?_) (fun h=>?_)|refine w5 _ rfl ?_|refine w6 rfl ?_|refine w7 mixed rfl ?_|refine rsameI_c a.clubs b.clubs ha ?_)
  all_goals conv=>whnf
  all_goals first
   | exact FinP.drop (n:=0) rfl (w21 0) rfl rfl ⟨rfl,congrArg B hne.symm⟩
   | (exfalso; refine h1 ⟨?_,?_,?_⟩ <;> first | assumption | (simp only [List.length_map] at *; omega) | (simp_all; done))
end Go.Proofs.YtndlggbljkhfbaaGreat
namespace Go.Proofs.YtndlggbljkhfbaaGreat
open Go.Tidy
variable {L : List Blk} {k : V → List Blk → Prop}
theorem pair_len {α : Type} {l : List α} {w : List Int} (h : w.Pairwise (· < ·)) (hr : ∀ u ∈ w,0 ≤ u ∧ u < (l.length : Int)) : w.length ≤ l.length:=by
 have hn : w.Nodup:=h.imp fun {a b} h=>by omega
 have hs : (w.map Int.toNat).Nodup:=by
  refine List.pairwise_map.2 (hn.imp_of_mem fun {a b} ha hb h e=>h ?_)
  have:=hr a ha; have:=hr b hb; omega
 have:=List.Nodup.length_le_of_subset (l₂:=List.range l.length) hs fun x hx=>by
  obtain ⟨u,hu,rfl⟩:=List.mem_map.1 hx
  have:=hr u hu
  exact List.mem_range.2 (by omega)
 simpa using this
theorem ind_range {n : Nat} {w : List Int} (h : IndP n w) : ∀ u ∈ w,0 ≤ u ∧ u < (n : Int):=fun u hu=>by
 obtain ⟨i,hi,rfl⟩:=List.getElem_of_mem hu
 exact (h i hi).1
theorem ind_pair {n : Nat} {w : List Int} (h : IndP n w) : w.Pairwise (· < ·):=by
 rw [List.pairwise_iff_getElem]
 intro i j hi hj hij
 have key : ∀ (d i : Nat) (hi : i < w.length) (hj : i + d + 1 < w.length),w[i] < w[i + d + 1]:=by
  intro d
  induction d with
  | zero=>intro i hi hj; exact (h (i + 1) hj).2 (by omega)
  | succ d ih =>
   intro i hi hj
   have h1:=ih i hi (by omega)
   have h2:=(h (i + d + 1 + 1) hj).2 (by omega)
   simp only [Nat.add_sub_cancel] at h2
   have : i + (d + 1) + 1 = i + d + 1 + 1:=by omega
   simp only [this]; omega
 have:=key (j - i - 1) i hi (by omega)
 have e : i + (j - i - 1) + 1 = j:=by omega
 simp only [e] at this; exact this
theorem getD_mem {p : Pl} {u : Int} (h : 0 ≤ u ∧ u < (p.demands.length : Int)) : getD p u ∈ p.demands:=by
 unfold getD
 rw [List.getElem?_eq_getElem (show u.toNat < p.demands.length by omega)]
 exact List.getElem_mem _
theorem demands_len {p : Pl} (h0 : checkP p = 0) : p.demands.length ≤ 128:=by
 have hf:=checkP_field h0
 unfold checkP at h0
 rw [if_pos hf] at h0
 split at h0
 ·assumption
 ·exact absurd h0 (by decide)
theorem keepP_check {p : Pl} {w : List Int} (h0 : checkP p = 0) (hw : IndP p.demands.length w) : checkP (keepP p w) = 0:=by
 have:=demands_len h0
 have hl:=pair_len (l:=p.demands) (ind_pair hw) (ind_range hw)
 refine check_of h0 (by rw [List.length_map]; omega) fun d hd=>?_
 obtain ⟨u,hu,rfl⟩:=List.mem_map.1 hd
 exact checkP_valid h0 _ (getD_mem (ind_range hw u hu))
theorem keep_ok {p : Pl} {w : List Int} (h0 : checkP p = 0) (hw : IndP p.demands.length w) : keepE p w = 0 ∧ keepX p w = keepP p w:=by
 have he : keepE p w = 0:=by unfold keepE; rw [if_pos h0,if_pos hw]
 exact ⟨he,by unfold keepX; rw [if_pos he]⟩
theorem ind_one {n : Nat} {u : Int} (h : 0 ≤ u ∧ u < (n : Int)) : IndP n [u]:=fun i hi=>by
 have : i = 0:=by simp at hi; omega
 subst this
 exact ⟨h,fun h=>absurd h (Nat.lt_irrefl 0)⟩
def dmB (x : Lst) (p : Pl) (u : Int) : Bool:=decide (0 ≤ dmA x (keepX p [u]))
def okBr (f : Lst → List Brc → Bool) (l : Lst) (p : Pl) (us : List Int) (m : Mt) (b : Brc) : Bool :=
 decide (b.m = m) && decide (b.r = (atN l p : Int)) && (if b.b = -1 then (!fullC (extL l p m) p && f (extL l p m) b.t) else (decide (b.b ∈ us) && b.t.isEmpty && dmB (extL l p m) p b.b))
def chk (p : Pl) (us : List Int) : Nat → Lst → List Brc → Bool
 | 0,_,_=>false
 | n + 1,l,t=>decide ((chE l p).length = t.length) && ((chE l p).zip t).all fun q=>okBr (chk p us n) l p us q.1 q.2
theorem chk_no {p : Pl} {us : List Int} {n : Nat} {l : Lst} {t : List Brc} {i : Nat} (h1 : i < (chE l p).length) (h2 : i < t.length) (h : okBr (chk p us n) l p us (chE l p)[i] t[i] = false) : chk p us (n + 1) l t = false:=by
 unfold chk
 rw [Bool.and_eq_false_iff]
 refine .inr (List.all_eq_false.2 ⟨((chE l p)[i],t[i]),?_,by rw [h]; decide⟩)
 have : ((chE l p).zip t)[i]? = some ((chE l p)[i],t[i]):=by
  rw [List.getElem?_zip_eq_some]
  exact ⟨List.getElem?_eq_getElem h1,List.getElem?_eq_getElem h2⟩
 exact List.mem_of_getElem? this
theorem chk_len {p : Pl} {us : List Int} {n : Nat} {l : Lst} {t : List Brc} (h : ¬ (chE l p).length = t.length) : chk p us (n + 1) l t = false:=by
 unfold chk; rw [decide_eq_false h]; rfl
theorem chk_yes {p : Pl} {us : List Int} {n : Nat} {l : Lst} {t : List Brc} (h : (chE l p).length = t.length) (hi : ∀ (i : Nat) (h1 : i < (chE l p).length) (h2 : i < t.length),okBr (chk p us n) l p us (chE l p)[i] t[i] = true) : chk p us (n + 1) l t = true:=by
 unfold chk
 rw [decide_eq_true h,Bool.true_and]
 refine List.all_eq_true.2 fun q hq=>?_
 obtain ⟨i,hiq⟩:=List.mem_iff_getElem?.1 hq
 rw [List.getElem?_zip_eq_some] at hiq
 obtain ⟨e1,e2⟩:=hiq
 have h1:=lt_of_get e1
 have h2:=lt_of_get e2
 rw [List.getElem?_eq_getElem h1] at e1
 rw [List.getElem?_eq_getElem h2] at e2
 rw [← Option.some.inj e1,← Option.some.inj e2]
 exact hi i h1 h2
theorem rdooms_c (x : Lst) (p : Pl) (u : Int) (h0 : checkP p = 0) (hs0 : Small [] p) (hs : Small x p) (hP : PartP x p) (hu : 0 ≤ u ∧ u < (p.demands.length : Int)) (h : k (B (dmB x p u)) L) : CallP C 120 [lisV x,plV p,I u] L k:=by
 have hi:=ind_one hu
 obtain ⟨ke,kx⟩:=keep_ok h0 hi
 have hk0 : checkP (keepX p [u]) = 0:=by rw [kx]; exact keepP_check h0 hi
 have hsk:=small_keep (w:=[u]) hs0 (by simp)
 have hsx : Small x (keepX p [u]):=⟨hs.hl,hs.hr,hsk.hc,hsk.hd,hsk.hD⟩
 have hPk : PartP x (keepX p [u]):=by rw [kx]; exact hP
 have hF:=part_flat h0 hP
 have he:=dmE_of hk0 hPk
 refine CallP.pure ?_ rfl (fun _=>rfl) h
 clear h
 refine callP_of C_ok Tryz.func120 rfl rfl (n:=_) rfl (w18 rfl) (rs:=_) rfl ?_
 have hcall : ∀ {L : List Blk} {k : V → List Blk → Prop},L[2]? = some (.row 0 1 [[I u]]) → k (.tup [plV (keepX p [u]),I 0]) (L.set 2 .dead) → CallP C 24 [plV p,.own 2 0 0 1] L k:=fun {L k} hL hk=>by
  refine CallP.freeze (args:=[plV p,.own 2 0 0 1]) (dargs:=[plV p,.d (ints [u])]) [2] rfl (by simp [plainBlk,hL]) (.keep (.cv (.d (.rowL (ds:=[[DI u]]) (by simp) hL (.cons (.cons (.d _) .nil) .nil) rfl (by simp))) .nil)) ?_
  exact rkeep_c p [u] hs0.hc hs0.hd (by have:=hs0.hD; omega) (by simp) (by rw [ke]; exact hk)
 have hdm : ∀ {L : List Blk} {k : V → List Blk → Prop},k (.tup [I (dmA x (keepX p [u])),I 0]) L → CallP C 117 [lisV x,plV (keepX p [u])] L k:=fun h=>rdoom_c x _ hsx (by omega) (by rw [he]; exact h)
 repeat' ((conv=>whnf); first|refine w0 ?_|refine w1 ?_|refine w2 (fun h=>?_) (fun h=>?_)|refine w3 ?_|refine w4 (fun h=>?_) (fun h=>?_)|refine w5 _ rfl ?_|refine w6 rfl ?_|refine w7 mixed rfl ?_|refine hcall rfl ?_|refine hdm ?_)
 all_goals conv=>whnf
 all_goals refine w15 (n:=0) rfl (w21 0) rfl rfl ⟨rfl,congrArg B ?_⟩
 all_goals first
  | rfl
  | (unfold dmB; simp_all)
theorem rtree_c (p : Pl) (us : List Int) (h0 : checkP p = 0) (hs0 : Small [] p) (hus : IndP p.demands.length us) (hul : us.length ≤ 4611686018427387904) : ∀ (n : Nat) (l : Lst) (t : List Brc) {L : List Blk} {k : V → List Blk → Prop},PartP l p → roundsN p * halfN p < l.flatten.length + n →
  k (B (chk p us n l t)) L → CallP C 65 [lisV l,plV p,.d (ints us),.d (.sl (brcs t))] L k
 | 0,l,t,L,k,hP,hfu,h=>by have:=part_total hP; omega
 | n + 1,l,t,L,k,hP,hfu,h=>by
  have hlen : 1 ≤ p.clubs.length ∧ p.clubs.length ≤ 1000:=by
   have hf:=checkP_field h0
   simp only [fieldOk,Bool.and_eq_true,decide_eq_true_eq] at hf; omega
  obtain ⟨hsl,hsx⟩:=part_small hs0 hlen.2 hP ⟨0,0⟩
  have hh:=halfN_le hlen.2
  have hrw : ∀ r ∈ l,r.length + 1 ≤ 4294967296:=fun r hr=>by have:=part_row hP hr; omega
  have hcp:=chE_part h0 hP
  have hcl : (chE l p).length ≤ 4294967296:=by
   unfold chE; split
   ·exact chs_len l p hlen.2
   ·exact Nat.zero_le _
  obtain ⟨q,hq⟩ : ∃ q,chk p us (n + 1) l t = q:=⟨_,rfl⟩
  rw [hq] at h
  have hlf:=chk_len (p:=p) (us:=us) (n:=n) (l:=l) (t:=t)
  have hyes:=chk_yes (p:=p) (us:=us) (n:=n) (l:=l) (t:=t)
  have hnok:=fun {i : Nat}=>chk_no (p:=p) (us:=us) (n:=n) (l:=l) (t:=t) (i:=i)
  have hih0 : ∀ (x : Lst) (b : Brc) {L : List Blk} {k : V → List Blk → Prop},PartP x p → roundsN p * halfN p < x.flatten.length + n → k (B (chk p us n x b.t)) L → CallP C 65 [lisV x,plV p,.d (ints us),.d (.sl (brcs b.t))] L k:=fun x b {L k} h1 h2 h3=>rtree_c p us h0 hs0 hus hul n x b.t h1 h2 h3
  rw [hq] at hlf hyes hnok
  generalize chk p us n = f0 at hih0 hyes hnok
  obtain ⟨ms,hms⟩ : ∃ ms,chE l p = ms:=⟨_,rfl⟩
  have hch : ∀ {L : List Blk} {k : V → List Blk → Prop},k (.tup [.d (mts ms),I 0]) L → CallP C 114 [lisV l,plV p] L k:=fun h=>rch_c l p h0 hsl hP (by rw [hms]; exact h)
  simp only [hms] at hlf hyes hnok hcp hcl
  have hml : ((ms.map Mt.cells).length : Int) = (ms.length : Int):=by rw [List.length_map]
  have hbl:=brcs_len t
  refine CallP.pure ?_ rfl (fun _=>rfl) h
  clear h
  refine callP_of C_ok Tryz.func65 rfl rfl (n:=_) rfl (w18 rfl) (rs:=_) rfl ?_
  by_cases hlt0 : ms.length = t.length
  ·have hl0 : ((ms.map Mt.cells).length : Int) = ((brcs t).length : Int):=by omega
   repeat' ((conv=>whnf); first|refine hch ?_|refine w3 ?_|refine w8 (w19 hl0) ?_|refine w0 ?_|refine w1 ?_|refine w2 (fun h=>?_) (fun h=>?_)|refine w3 ?_|refine w4 (fun h=>?_) (fun h=>?_)|refine w5 _ rfl ?_|refine w6 rfl ?_|refine w7 mixed rfl ?_)
   conv=>whnf
   refine LoopP.inv (fun i=>i ≤ t.length ∧ ∀ (j : Nat) (h1 : j < ms.length) (h2 : j < t.length),j < i → okBr f0 l p us ms[j] t[j] = true) (fun i=>⟨[(2,.d (ints us)),(3,.d (.sl (brcs t))),(4,.ptr 0 0),(5,.ptr 1 0),(9,.d (mts ms)),(11,I i)],Tryz.f65.ntmps,[.cells [.d (lisD l)],.cells (p.cells.map .d)],[],none⟩) (fun i=>t.length - i) 0 ⟨w22 _,fun j _ _ h=>absurd h (Nat.not_lt_zero j)⟩ ?_ ?_
   ·exact Weak.by ⟨rfl,rfl,rfl,rfl,rfl,rfl,trivial⟩
   rintro i ⟨hi,hok⟩
   by_cases hi' : i < t.length
   ·have him : i < ms.length:=by omega
    have hlt : (i : Int) < ((brcs t).length : Int):=by omega
    have hw : IntKind.i64.wrap ((i : Int) + 1) = ((i + 1 : Nat) : Int):=by rw [wrap_in (by omega)]; omega
    have rb:=brcs_at hi'
    have hno : okBr f0 l p us ms[i] t[i] = false → q = false:=fun e=>hnok him hi' e
    have hgo : okBr f0 l p us ms[i] t[i] = true → ∀ (j : Nat) (h1 : j < ms.length) (h2 : j < t.length),j < i + 1 → okBr f0 l p us ms[j] t[j] = true:=fun e j h1 h2 hji=>by
     by_cases e2 : j = i
     ·subst e2; exact e
     ·exact hok j h1 h2 (by omega)
    have hPx : PartP (extL l p ms[i]) p:=hcp _ (List.getElem_mem him)
    have hsx : Small (extL l p ms[i]) p:=(part_small hs0 hlen.2 hP ms[i]).2
    have hbig : roundsN p * halfN p < (extL l p ms[i]).flatten.length + n:=by rw [extL_flat,List.length_append]; simp only [List.length_singleton]; omega
    have hext : ∀ {L : List Blk} {k : V → List Blk → Prop},k (lisV (extL l p ms[i])) L → CallP C 115 [lisV l,plV p,mtV ms[i]] L k:=fun h=>rext33_c l p ms[i] hsl.hl hlen.2 hrw h
    have hih:=fun {L : List Blk} {k : V → List Blk → Prop}=>hih0 (extL l p ms[i]) t[i] (L:=L) (k:=k) hPx hbig
    generalize t[i] = b at rb hno hgo hih
    obtain ⟨x,hx⟩ : ∃ x,extL l p ms[i] = x:=⟨_,rfl⟩
    have hox : ∀ m,m = ms[i] → extL l p m = x:=fun m e=>by rw [e,hx]
    rw [hx] at hPx hsx hext hih
    have d1':=mEq b.m ms[i]
    by_cases e1 : b.m = ms[i]
    ·have d1:=d1'.trans (w19 e1)
     by_cases e2 : b.r = (atN l p : Int)
     ·by_cases e3 : b.b = -1
      ·by_cases e4 : fullC x p = true
       ·repeat' (conv => whnf
                 first|refine w8 (w19 hlt) ?_|refine w11 i rfl him ?_|refine w10 i _ rfl rb ?_|refine w12 _ (hext ⟨rfl,rfl⟩) ?_|refine w12 _ (rround33_c l p hsl.hl hlen.2 ⟨rfl,rfl⟩) ?_|refine hext ?_|refine rround33_c l p hsl.hl hlen.2 ?_|refine rhas33_c us _ hul ?_|refine rdooms_c x p b.b h0 hs0 hsx hPx (ind_range hus _ ‹_›) ?_|refine full30_c x p h0 hPx ?_|refine hih ?_|refine w3 ?_|refine w8 d1 ?_|refine w8 (w19 e2) ?_|refine w8 (w19 e3) ?_|refine w8 e4 ?_|refine w0 ?_|refine w1 ?_|refine w2 (fun h=>?_) (fun h=>?_)|refine w3 ?_|refine w4 (fun h=>?_) (fun h=>?_)|refine w5 _ rfl ?_|refine w6 rfl ?_|refine w7 mixed rfl ?_)
        conv=>whnf
        refine DrawP.por mixed [] [[(0,3),(1,3),(2,0),(3,0),(4,3),(5,3),(6,1),(7,0),(8,0)]] (by kernel_rfl) ?_
        repeat' ((conv=>whnf); first|refine w8 (w19 hlt) ?_|refine w11 i rfl him ?_|refine w10 i _ rfl rb ?_|refine w12 _ (hext ⟨rfl,rfl⟩) ?_|refine w12 _ (rround33_c l p hsl.hl hlen.2 ⟨rfl,rfl⟩) ?_|refine hext ?_|refine rround33_c l p hsl.hl hlen.2 ?_|refine rhas33_c us _ hul ?_|refine rdooms_c x p b.b h0 hs0 hsx hPx (ind_range hus _ ‹_›) ?_|refine full30_c x p h0 hPx ?_|refine hih ?_|refine w3 ?_|refine w8 d1 ?_|refine w8 (w19 e2) ?_|refine w8 (w19 e3) ?_|refine w8 e4 ?_|refine w0 ?_|refine w1 ?_|refine w2 (fun h=>?_) (fun h=>?_)|refine w3 ?_|refine w4 (fun h=>?_) (fun h=>?_)|refine w5 _ rfl ?_|refine w6 rfl ?_|refine w7 mixed rfl ?_)
        conv=>whnf
        exact FinP.drop (n:=0) rfl (Nat.le_refl 0) rfl rfl ⟨rfl,congrArg B (hno (by simp [okBr,e1,e2,e3,hx,e4])).symm⟩
       ·by_cases e5 : f0 x b.t = true
        ·repeat' (conv => whnf
                  first|refine w8 (w19 hlt) ?_|refine w11 i rfl him ?_|refine w10 i _ rfl rb ?_|refine w12 _ (hext ⟨rfl,rfl⟩) ?_|refine w12 _ (rround33_c l p hsl.hl hlen.2 ⟨rfl,rfl⟩) ?_|refine hext ?_|refine rround33_c l p hsl.hl hlen.2 ?_|refine rhas33_c us _ hul ?_|refine rdooms_c x p b.b h0 hs0 hsx hPx (ind_range hus _ ‹_›) ?_|refine full30_c x p h0 hPx ?_|refine hih ?_|refine w3 ?_|refine w8 d1 ?_|refine w8 (w19 e2) ?_|refine w8 (w19 e3) ?_|refine w9 (eq_false_of_ne_true e4) ?_|refine w8 e5 ?_|refine w0 ?_|refine w1 ?_|refine w2 (fun h=>?_) (fun h=>?_)|refine w3 ?_|refine w4 (fun h=>?_) (fun h=>?_)|refine w5 _ rfl ?_|refine w6 rfl ?_|refine w7 mixed rfl ?_)
         conv=>whnf
         refine DrawP.por mixed [] [[(0,3),(1,3),(2,0),(3,0),(4,3),(5,3),(6,1),(7,0),(8,0)]] (by kernel_rfl) ?_
         repeat' ((conv=>whnf); first|refine w8 (w19 hlt) ?_|refine w11 i rfl him ?_|refine w10 i _ rfl rb ?_|refine w12 _ (hext ⟨rfl,rfl⟩) ?_|refine w12 _ (rround33_c l p hsl.hl hlen.2 ⟨rfl,rfl⟩) ?_|refine hext ?_|refine rround33_c l p hsl.hl hlen.2 ?_|refine rhas33_c us _ hul ?_|refine rdooms_c x p b.b h0 hs0 hsx hPx (ind_range hus _ ‹_›) ?_|refine full30_c x p h0 hPx ?_|refine hih ?_|refine w3 ?_|refine w8 d1 ?_|refine w8 (w19 e2) ?_|refine w8 (w19 e3) ?_|refine w9 (eq_false_of_ne_true e4) ?_|refine w8 e5 ?_|refine w0 ?_|refine w1 ?_|refine w2 (fun h=>?_) (fun h=>?_)|refine w3 ?_|refine w4 (fun h=>?_) (fun h=>?_)|refine w5 _ rfl ?_|refine w6 rfl ?_|refine w7 mixed rfl ?_)
         conv=>whnf
         exact ⟨i + 1,⟨hi',hgo (by simp [okBr,e1,e2,e3,hx,e4,e5])⟩,by omega,Weak.to 2 rfl (Nat.zero_le _) (Nat.le_of_ble_eq_true rfl) ⟨rfl,rfl,rfl,rfl,rfl,congrArg I hw,trivial⟩⟩
        ·repeat' (conv => whnf
                  first|refine w8 (w19 hlt) ?_|refine w11 i rfl him ?_|refine w10 i _ rfl rb ?_|refine w12 _ (hext ⟨rfl,rfl⟩) ?_|refine w12 _ (rround33_c l p hsl.hl hlen.2 ⟨rfl,rfl⟩) ?_|refine hext ?_|refine rround33_c l p hsl.hl hlen.2 ?_|refine rhas33_c us _ hul ?_|refine rdooms_c x p b.b h0 hs0 hsx hPx (ind_range hus _ ‹_›) ?_|refine full30_c x p h0 hPx ?_|refine hih ?_|refine w3 ?_|refine w8 d1 ?_|refine w8 (w19 e2) ?_|refine w8 (w19 e3) ?_|refine w9 (eq_false_of_ne_true e4) ?_|refine w9 (eq_false_of_ne_true e5) ?_|refine w0 ?_|refine w1 ?_|refine w2 (fun h=>?_) (fun h=>?_)|refine w3 ?_|refine w4 (fun h=>?_) (fun h=>?_)|refine w5 _ rfl ?_|refine w6 rfl ?_|refine w7 mixed rfl ?_)
         conv=>whnf
         refine DrawP.por mixed [] [[(0,3),(1,3),(2,0),(3,0),(4,3),(5,3),(6,1),(7,0),(8,0)]] (by kernel_rfl) ?_
         repeat' ((conv=>whnf); first|refine w8 (w19 hlt) ?_|refine w11 i rfl him ?_|refine w10 i _ rfl rb ?_|refine w12 _ (hext ⟨rfl,rfl⟩) ?_|refine w12 _ (rround33_c l p hsl.hl hlen.2 ⟨rfl,rfl⟩) ?_|refine hext ?_|refine rround33_c l p hsl.hl hlen.2 ?_|refine rhas33_c us _ hul ?_|refine rdooms_c x p b.b h0 hs0 hsx hPx (ind_range hus _ ‹_›) ?_|refine full30_c x p h0 hPx ?_|refine hih ?_|refine w3 ?_|refine w8 d1 ?_|refine w8 (w19 e2) ?_|refine w8 (w19 e3) ?_|refine w9 (eq_false_of_ne_true e4) ?_|refine w9 (eq_false_of_ne_true e5) ?_|refine w0 ?_|refine w1 ?_|refine w2 (fun h=>?_) (fun h=>?_)|refine w3 ?_|refine w4 (fun h=>?_) (fun h=>?_)|refine w5 _ rfl ?_|refine w6 rfl ?_|refine w7 mixed rfl ?_)
         conv=>whnf
         exact FinP.drop (n:=0) rfl (Nat.le_refl 0) rfl rfl ⟨rfl,congrArg B (hno (by simp [okBr,e1,e2,e3,hx,e4,e5])).symm⟩
      ·by_cases e4 : b.b ∈ us
       ·by_cases e5 : b.t = []
        ·by_cases e6 : dmB x p b.b = true
         ·have e5n : ¬ (0 : Int) < ((brcs b.t).length : Int):=by rw [e5]; decide
          repeat' ((conv=>whnf); first|refine w8 (w19 hlt) ?_|refine w11 i rfl him ?_|refine w10 i _ rfl rb ?_|refine w12 _ (hext ⟨rfl,rfl⟩) ?_|refine w12 _ (rround33_c l p hsl.hl hlen.2 ⟨rfl,rfl⟩) ?_|refine hext ?_|refine rround33_c l p hsl.hl hlen.2 ?_|refine rhas33_c us _ hul ?_|refine rdooms_c x p b.b h0 hs0 hsx hPx (ind_range hus _ ‹_›) ?_|refine full30_c x p h0 hPx ?_|refine hih ?_|refine w3 ?_|refine w8 d1 ?_|refine w8 (w19 e2) ?_|refine w9 (w20 e3) ?_|refine w8 (w19 e4) ?_|refine w9 (w20 e5n) ?_|refine w8 e6 ?_|refine w0 ?_|refine w1 ?_|refine w2 (fun h=>?_) (fun h=>?_)|refine w3 ?_|refine w4 (fun h=>?_) (fun h=>?_)|refine w5 _ rfl ?_|refine w6 rfl ?_|refine w7 mixed rfl ?_)
          conv=>whnf
          refine DrawP.por mixed [] [[(0,3),(1,3),(2,0),(3,0),(4,3),(5,3),(6,1),(7,0),(8,0)]] (by kernel_rfl) ?_
          repeat' ((conv=>whnf); first|refine w8 (w19 hlt) ?_|refine w11 i rfl him ?_|refine w10 i _ rfl rb ?_|refine w12 _ (hext ⟨rfl,rfl⟩) ?_|refine w12 _ (rround33_c l p hsl.hl hlen.2 ⟨rfl,rfl⟩) ?_|refine hext ?_|refine rround33_c l p hsl.hl hlen.2 ?_|refine rhas33_c us _ hul ?_|refine rdooms_c x p b.b h0 hs0 hsx hPx (ind_range hus _ ‹_›) ?_|refine full30_c x p h0 hPx ?_|refine hih ?_|refine w3 ?_|refine w8 d1 ?_|refine w8 (w19 e2) ?_|refine w9 (w20 e3) ?_|refine w8 (w19 e4) ?_|refine w9 (w20 e5n) ?_|refine w8 e6 ?_|refine w0 ?_|refine w1 ?_|refine w2 (fun h=>?_) (fun h=>?_)|refine w3 ?_|refine w4 (fun h=>?_) (fun h=>?_)|refine w5 _ rfl ?_|refine w6 rfl ?_|refine w7 mixed rfl ?_)
          conv=>whnf
          exact ⟨i + 1,⟨hi',hgo (by simp [okBr,e1,e2,e3,hx,e4,e5,e6])⟩,by omega,Weak.to 2 rfl (Nat.zero_le _) (Nat.le_of_ble_eq_true rfl) ⟨rfl,rfl,rfl,rfl,rfl,congrArg I hw,trivial⟩⟩
         ·have e5n : ¬ (0 : Int) < ((brcs b.t).length : Int):=by rw [e5]; decide
          repeat' ((conv=>whnf); first|refine w8 (w19 hlt) ?_|refine w11 i rfl him ?_|refine w10 i _ rfl rb ?_|refine w12 _ (hext ⟨rfl,rfl⟩) ?_|refine w12 _ (rround33_c l p hsl.hl hlen.2 ⟨rfl,rfl⟩) ?_|refine hext ?_|refine rround33_c l p hsl.hl hlen.2 ?_|refine rhas33_c us _ hul ?_|refine rdooms_c x p b.b h0 hs0 hsx hPx (ind_range hus _ ‹_›) ?_|refine full30_c x p h0 hPx ?_|refine hih ?_|refine w3 ?_|refine w8 d1 ?_|refine w8 (w19 e2) ?_|refine w9 (w20 e3) ?_|refine w8 (w19 e4) ?_|refine w9 (w20 e5n) ?_|refine w9 (eq_false_of_ne_true e6) ?_|refine w0 ?_|refine w1 ?_|refine w2 (fun h=>?_) (fun h=>?_)|refine w3 ?_|refine w4 (fun h=>?_) (fun h=>?_)|refine w5 _ rfl ?_|refine w6 rfl ?_|refine w7 mixed rfl ?_)
          conv=>whnf
          refine DrawP.por mixed [] [[(0,3),(1,3),(2,0),(3,0),(4,3),(5,3),(6,1),(7,0),(8,0)]] (by kernel_rfl) ?_
          repeat' ((conv=>whnf); first|refine w8 (w19 hlt) ?_|refine w11 i rfl him ?_|refine w10 i _ rfl rb ?_|refine w12 _ (hext ⟨rfl,rfl⟩) ?_|refine w12 _ (rround33_c l p hsl.hl hlen.2 ⟨rfl,rfl⟩) ?_|refine hext ?_|refine rround33_c l p hsl.hl hlen.2 ?_|refine rhas33_c us _ hul ?_|refine rdooms_c x p b.b h0 hs0 hsx hPx (ind_range hus _ ‹_›) ?_|refine full30_c x p h0 hPx ?_|refine hih ?_|refine w3 ?_|refine w8 d1 ?_|refine w8 (w19 e2) ?_|refine w9 (w20 e3) ?_|refine w8 (w19 e4) ?_|refine w9 (w20 e5n) ?_|refine w9 (eq_false_of_ne_true e6) ?_|refine w0 ?_|refine w1 ?_|refine w2 (fun h=>?_) (fun h=>?_)|refine w3 ?_|refine w4 (fun h=>?_) (fun h=>?_)|refine w5 _ rfl ?_|refine w6 rfl ?_|refine w7 mixed rfl ?_)
          conv=>whnf
          exact FinP.drop (n:=0) rfl (Nat.le_refl 0) rfl rfl ⟨rfl,congrArg B (hno (by simp [okBr,e1,e2,e3,hx,e4,e5,e6])).symm⟩
        ·have e5' : (0 : Int) < ((brcs b.t).length : Int):=by
          have:=List.length_pos_iff.2 e5
          rw [brcs_len]; omega
         repeat' ((conv=>whnf); first|refine w8 (w19 hlt) ?_|refine w11 i rfl him ?_|refine w10 i _ rfl rb ?_|refine w12 _ (hext ⟨rfl,rfl⟩) ?_|refine w12 _ (rround33_c l p hsl.hl hlen.2 ⟨rfl,rfl⟩) ?_|refine hext ?_|refine rround33_c l p hsl.hl hlen.2 ?_|refine rhas33_c us _ hul ?_|refine rdooms_c x p b.b h0 hs0 hsx hPx (ind_range hus _ ‹_›) ?_|refine full30_c x p h0 hPx ?_|refine hih ?_|refine w3 ?_|refine w8 d1 ?_|refine w8 (w19 e2) ?_|refine w9 (w20 e3) ?_|refine w8 (w19 e4) ?_|refine w8 (w19 e5') ?_|refine w0 ?_|refine w1 ?_|refine w2 (fun h=>?_) (fun h=>?_)|refine w3 ?_|refine w4 (fun h=>?_) (fun h=>?_)|refine w5 _ rfl ?_|refine w6 rfl ?_|refine w7 mixed rfl ?_)
         conv=>whnf
         refine DrawP.por mixed [] [[(0,3),(1,3),(2,0),(3,0),(4,3),(5,3),(6,1),(7,0),(8,0)]] (by kernel_rfl) ?_
         repeat' ((conv=>whnf); first|refine w8 (w19 hlt) ?_|refine w11 i rfl him ?_|refine w10 i _ rfl rb ?_|refine w12 _ (hext ⟨rfl,rfl⟩) ?_|refine w12 _ (rround33_c l p hsl.hl hlen.2 ⟨rfl,rfl⟩) ?_|refine hext ?_|refine rround33_c l p hsl.hl hlen.2 ?_|refine rhas33_c us _ hul ?_|refine rdooms_c x p b.b h0 hs0 hsx hPx (ind_range hus _ ‹_›) ?_|refine full30_c x p h0 hPx ?_|refine hih ?_|refine w3 ?_|refine w8 d1 ?_|refine w8 (w19 e2) ?_|refine w9 (w20 e3) ?_|refine w8 (w19 e4) ?_|refine w8 (w19 e5') ?_|refine w0 ?_|refine w1 ?_|refine w2 (fun h=>?_) (fun h=>?_)|refine w3 ?_|refine w4 (fun h=>?_) (fun h=>?_)|refine w5 _ rfl ?_|refine w6 rfl ?_|refine w7 mixed rfl ?_)
         conv=>whnf
         exact FinP.drop (n:=0) rfl (Nat.le_refl 0) rfl rfl ⟨rfl,congrArg B (hno (by simp [okBr,e1,e2,e3,hx,e4,e5])).symm⟩
       ·repeat' (conv => whnf
                 first|refine w8 (w19 hlt) ?_|refine w11 i rfl him ?_|refine w10 i _ rfl rb ?_|refine w12 _ (hext ⟨rfl,rfl⟩) ?_|refine w12 _ (rround33_c l p hsl.hl hlen.2 ⟨rfl,rfl⟩) ?_|refine hext ?_|refine rround33_c l p hsl.hl hlen.2 ?_|refine rhas33_c us _ hul ?_|refine rdooms_c x p b.b h0 hs0 hsx hPx (ind_range hus _ ‹_›) ?_|refine full30_c x p h0 hPx ?_|refine hih ?_|refine w3 ?_|refine w8 d1 ?_|refine w8 (w19 e2) ?_|refine w9 (w20 e3) ?_|refine w9 (w20 e4) ?_|refine w0 ?_|refine w1 ?_|refine w2 (fun h=>?_) (fun h=>?_)|refine w3 ?_|refine w4 (fun h=>?_) (fun h=>?_)|refine w5 _ rfl ?_|refine w6 rfl ?_|refine w7 mixed rfl ?_)
        conv=>whnf
        refine DrawP.por mixed [] [[(0,3),(1,3),(2,0),(3,0),(4,3),(5,3),(6,1),(7,0),(8,0)]] (by kernel_rfl) ?_
        repeat' ((conv=>whnf); first|refine w8 (w19 hlt) ?_|refine w11 i rfl him ?_|refine w10 i _ rfl rb ?_|refine w12 _ (hext ⟨rfl,rfl⟩) ?_|refine w12 _ (rround33_c l p hsl.hl hlen.2 ⟨rfl,rfl⟩) ?_|refine hext ?_|refine rround33_c l p hsl.hl hlen.2 ?_|refine rhas33_c us _ hul ?_|refine rdooms_c x p b.b h0 hs0 hsx hPx (ind_range hus _ ‹_›) ?_|refine full30_c x p h0 hPx ?_|refine hih ?_|refine w3 ?_|refine w8 d1 ?_|refine w8 (w19 e2) ?_|refine w9 (w20 e3) ?_|refine w9 (w20 e4) ?_|refine w0 ?_|refine w1 ?_|refine w2 (fun h=>?_) (fun h=>?_)|refine w3 ?_|refine w4 (fun h=>?_) (fun h=>?_)|refine w5 _ rfl ?_|refine w6 rfl ?_|refine w7 mixed rfl ?_)
        conv=>whnf
        exact FinP.drop (n:=0) rfl (Nat.le_refl 0) rfl rfl ⟨rfl,congrArg B (hno (by simp [okBr,e1,e2,e3,hx,e4])).symm⟩
     ·repeat' (conv => whnf
               first|refine w8 (w19 hlt) ?_|refine w11 i rfl him ?_|refine w10 i _ rfl rb ?_|refine w12 _ (hext ⟨rfl,rfl⟩) ?_|refine w12 _ (rround33_c l p hsl.hl hlen.2 ⟨rfl,rfl⟩) ?_|refine hext ?_|refine rround33_c l p hsl.hl hlen.2 ?_|refine rhas33_c us _ hul ?_|refine rdooms_c x p b.b h0 hs0 hsx hPx (ind_range hus _ ‹_›) ?_|refine full30_c x p h0 hPx ?_|refine hih ?_|refine w3 ?_|refine w8 d1 ?_|refine w9 (w20 e2) ?_|refine w0 ?_|refine w1 ?_|refine w2 (fun h=>?_) (fun h=>?_)|refine w3 ?_|refine w4 (fun h=>?_) (fun h=>?_)|refine w5 _ rfl ?_|refine w6 rfl ?_|refine w7 mixed rfl ?_)
      conv=>whnf
      refine DrawP.por mixed [] [[(0,3),(1,3),(2,0),(3,0),(4,3),(5,3),(6,1),(7,0),(8,0)]] (by kernel_rfl) ?_
      repeat' ((conv=>whnf); first|refine w8 (w19 hlt) ?_|refine w11 i rfl him ?_|refine w10 i _ rfl rb ?_|refine w12 _ (hext ⟨rfl,rfl⟩) ?_|refine w12 _ (rround33_c l p hsl.hl hlen.2 ⟨rfl,rfl⟩) ?_|refine hext ?_|refine rround33_c l p hsl.hl hlen.2 ?_|refine rhas33_c us _ hul ?_|refine rdooms_c x p b.b h0 hs0 hsx hPx (ind_range hus _ ‹_›) ?_|refine full30_c x p h0 hPx ?_|refine hih ?_|refine w3 ?_|refine w8 d1 ?_|refine w9 (w20 e2) ?_|refine w0 ?_|refine w1 ?_|refine w2 (fun h=>?_) (fun h=>?_)|refine w3 ?_|refine w4 (fun h=>?_) (fun h=>?_)|refine w5 _ rfl ?_|refine w6 rfl ?_|refine w7 mixed rfl ?_)
      conv=>whnf
      exact FinP.drop (n:=0) rfl (Nat.le_refl 0) rfl rfl ⟨rfl,congrArg B (hno (by simp [okBr,e1,e2])).symm⟩
    ·have d1:=d1'.trans (w20 e1)
     repeat' ((conv=>whnf); first|refine w8 (w19 hlt) ?_|refine w11 i rfl him ?_|refine w10 i _ rfl rb ?_|refine w12 _ (hext ⟨rfl,rfl⟩) ?_|refine w12 _ (rround33_c l p hsl.hl hlen.2 ⟨rfl,rfl⟩) ?_|refine hext ?_|refine rround33_c l p hsl.hl hlen.2 ?_|refine rhas33_c us _ hul ?_|refine rdooms_c x p b.b h0 hs0 hsx hPx (ind_range hus _ ‹_›) ?_|refine full30_c x p h0 hPx ?_|refine hih ?_|refine w3 ?_|refine w9 d1 ?_|refine w0 ?_|refine w1 ?_|refine w2 (fun h=>?_) (fun h=>?_)|refine w3 ?_|refine w4 (fun h=>?_) (fun h=>?_)|refine w5 _ rfl ?_|refine w6 rfl ?_|refine w7 mixed rfl ?_)
     conv=>whnf
     refine DrawP.por mixed [] [[(0,3),(1,3),(2,0),(3,0),(4,3),(5,3),(6,1),(7,0),(8,0)]] (by kernel_rfl) ?_
     repeat' ((conv=>whnf); first|refine w8 (w19 hlt) ?_|refine w11 i rfl him ?_|refine w10 i _ rfl rb ?_|refine w12 _ (hext ⟨rfl,rfl⟩) ?_|refine w12 _ (rround33_c l p hsl.hl hlen.2 ⟨rfl,rfl⟩) ?_|refine hext ?_|refine rround33_c l p hsl.hl hlen.2 ?_|refine rhas33_c us _ hul ?_|refine rdooms_c x p b.b h0 hs0 hsx hPx (ind_range hus _ ‹_›) ?_|refine full30_c x p h0 hPx ?_|refine hih ?_|refine w3 ?_|refine w9 d1 ?_|refine w0 ?_|refine w1 ?_|refine w2 (fun h=>?_) (fun h=>?_)|refine w3 ?_|refine w4 (fun h=>?_) (fun h=>?_)|refine w5 _ rfl ?_|refine w6 rfl ?_|refine w7 mixed rfl ?_)
     conv=>whnf
     exact FinP.drop (n:=0) rfl (Nat.le_refl 0) rfl rfl ⟨rfl,congrArg B (hno (by simp [okBr,e1])).symm⟩
   ·have hlt : ¬ (i : Int) < ((brcs t).length : Int):=by omega
    have hall : q = true:=hyes hlt0 fun j h1 h2=>hok j h1 h2 (by omega)
    repeat' ((conv=>whnf); first|refine w9 (w20 hlt) ?_|refine w0 ?_|refine w1 ?_|refine w2 (fun h=>?_) (fun h=>?_)|refine w3 ?_|refine w4 (fun h=>?_) (fun h=>?_)|refine w5 _ rfl ?_|refine w6 rfl ?_|refine w7 mixed rfl ?_)
    conv=>whnf
    exact FinP.drop (n:=0) rfl (w21 0) rfl rfl ⟨rfl,congrArg B hall.symm⟩
  ·have hl0 : ¬ ((ms.map Mt.cells).length : Int) = ((brcs t).length : Int):=by omega
   repeat' ((conv=>whnf); first|refine hch ?_|refine w3 ?_|refine w9 (w20 hl0) ?_|refine w0 ?_|refine w1 ?_|refine w2 (fun h=>?_) (fun h=>?_)|refine w3 ?_|refine w4 (fun h=>?_) (fun h=>?_)|refine w5 _ rfl ?_|refine w6 rfl ?_|refine w7 mixed rfl ?_)
   conv=>whnf
   exact FinP.drop (n:=0) rfl (w21 0) rfl rfl ⟨rfl,congrArg B (hlf hlt0).symm⟩
end Go.Proofs.YtndlggbljkhfbaaGreat
namespace Go.Proofs.YtndlggbljkhfbaaGreat
open Go.Tidy
variable {L : List Blk} {k : V → List Blk → Prop}
def alE (p : Pl) (us : List Int) : List (V × V):=us.map fun u=>(I u,plV (keepX p [u]))
theorem alE_bel (n : Nat) (p : Pl) : ∀ us : List Int,belM n (alE p us) = true
 | []=>rfl
 | u :: us=>by simp only [alE,List.map_cons,belM,V.bel,V.belL_d,Bool.true_and]; exact alE_bel n p us
theorem al_find {p : Pl} {us : List Int} {u : Int} {κ : Option (Nat × V) → Prop} (h1 : u ∈ us → ∀ i,κ (some (i,plV (keepX p [u])))) (h2 : u ∉ us → κ none) : MapF (.int .i64) (alE p us) (I u) κ:=by
 have hks : (alE p us).map (·.1) = us.map fun m=>.d (.int .i64 m):=by unfold alE; rw [List.map_map]; rfl
 refine MapF.ints us hks ?_
 by_cases h : u ∈ us
 ·left
  have hm : I u ∈ intK us:=(intK_mem us u).2 h
  obtain ⟨i,e1,e2⟩:=firstIn hm
  have hg : ∀ j : Nat,(intK us)[j]? = (us[j]?).map fun n=>I n:=fun j=>List.getElem?_map
  have e3 : us[i]? = some u:=by
   rw [hg] at e1
   cases hq : us[i]? with
   | none=>rw [hq] at e1; cases e1
   | some y=>rw [hq] at e1; cases e1; rfl
  refine ⟨i,plV (keepX p [u]),e3,fun j hj he=>e2 j hj (by rw [hg,he]; rfl),?_,h1 h i⟩
  unfold alE; rw [List.getElem?_map,e3]; rfl
 ·exact .inr ⟨h,h2 h⟩
def capK : List V:=[.ptr 0 0,.ptr 4 0,.ptr 3 0]
def ckM (p : Pl) (us : List Int) (r : List Brc) : List Blk:=[.cells (p.cells.map .d),.cells [.d (ints us),.d (.sl (brcs r))],.map (alE p us),.cells [.map 2],.cells [.fn 56 capK]]
theorem ckM_bel (p : Pl) (us : List Int) (r : List Brc) : belB 5 (ckM p us r) = true:=by
 show (V.belL 5 (p.cells.map .d) && (true && (belM 5 (alE p us) && true))) = true
 rw [V.belL_d,alE_bel]; rfl
def ckS (p : Pl) (us : List Int) (r : List Brc) (l : Lst) (t : List Brc) (lr : LoopR) (i : Nat) : List Blk:=ckM p us r ++ [.cells [.d (lisD l)],.cells [.d (.sl (brcs t))],.cells [B false],.cells [I i],.defr,.loop lr]
def ckW (p : Pl) (us : List Int) (r : List Brc) (l : Lst) (t : List Brc) (z : Int) (y : LoopR) : List Blk:=ckM p us r ++ [.cells [.d (lisD l)],.cells [.d (.sl (brcs t))],.cells [B false],.cells [I z],.defr,.loop y]
theorem ckW_eq (p : Pl) (us : List Int) (r : List Brc) (l : Lst) (t : List Brc) {z : Int} {y lr : LoopR} {i : Nat} (h1 : z = (i : Int)) (h2 : y = lr) : ckW p us r l t z y = ckS p us r l t lr i:=by subst h1 h2; rfl
theorem al_yes {p : Pl} {us : List Int} {u : Int} {κ : Option (Nat × V) → Prop} (h : u ∈ us) (h1 : ∀ i,κ (some (i,plV (keepX p [u])))) : MapF (.int .i64) (alE p us) (I u) κ:=al_find (fun _=>h1) fun h2=>absurd h h2
theorem al_no {p : Pl} {us : List Int} {u : Int} {κ : Option (Nat × V) → Prop} (h : u ∉ us) (h1 : κ none) : MapF (.int .i64) (alE p us) (I u) κ:=al_find (fun h2=>absurd h2 h) fun _=>h1
def ckE (p : Pl) (us : List Int) (r : List Brc) (l : Lst) (t : List Brc) (lr : LoopR) (i : Int) : List Blk:=ckM p us r ++ [.cells [.d (lisD l)],.cells [.d (.sl (brcs t))],.cells [B false],.cells [I i],.defr,.loop { lr with st:=.done,pend:=some .ret }]
theorem check1_c (p : Pl) (us : List Int) (r : List Brc) (h0 : checkP p = 0) (hs0 : Small [] p) (hus : IndP p.demands.length us) :
  ∀ (n : Nat) (l : Lst) (t : List Brc),PartP l p → roundsN p * halfN p < l.flatten.length + n →
   CallP C 56 (lisV l :: .d (.sl (brcs t)) :: capK) (ckM p us r) fun X L'=>X = B (chk p us n l t) ∧ L' = ckM p us r
 | 0,l,t,hP,hfu=>by have:=part_total hP; omega
 | n + 1,l,t,hP,hfu=>by
  have hlen : 1 ≤ p.clubs.length ∧ p.clubs.length ≤ 1000:=by
   have hf:=checkP_field h0
   simp only [fieldOk,Bool.and_eq_true,decide_eq_true_eq] at hf; omega
  obtain ⟨hsl,hsx⟩:=part_small hs0 hlen.2 hP ⟨0,0⟩
  have hh:=halfN_le hlen.2
  have hrw : ∀ r ∈ l,r.length + 1 ≤ 4294967296:=fun r hr=>by have:=part_row hP hr; omega
  have hcp:=chE_part h0 hP
  have hcl : (chE l p).length ≤ 4294967296:=by
   unfold chE; split
   ·exact chs_len l p hlen.2
   ·exact Nat.zero_le _
  obtain ⟨q,hq⟩ : ∃ q,chk p us (n + 1) l t = q:=⟨_,rfl⟩
  rw [hq]
  have hlf:=chk_len (p:=p) (us:=us) (n:=n) (l:=l) (t:=t)
  have hyes:=chk_yes (p:=p) (us:=us) (n:=n) (l:=l) (t:=t)
  have hnok:=fun {i : Nat}=>chk_no (p:=p) (us:=us) (n:=n) (l:=l) (t:=t) (i:=i)
  have hih0 : ∀ (x : Lst) (b : Brc),PartP x p → roundsN p * halfN p < x.flatten.length + n → CallP C 56 (lisV x :: .d (.sl (brcs b.t)) :: capK) (ckM p us r) fun X L'=>X = B (chk p us n x b.t) ∧ L' = ckM p us r:=fun x b h1 h2=>check1_c p us r h0 hs0 hus n x b.t h1 h2
  rw [hq] at hlf hyes hnok
  generalize chk p us n = f0 at hih0 hyes hnok
  have hbl:=brcs_len t
  refine callP_of C_ok Tryz.func56 rfl rfl (n:=_) rfl (w18 rfl) (rs:=_) rfl ?_
  repeat' ((conv=>whnf); first|refine ways_c l p ?_|refine w0 ?_|refine w1 ?_|refine w2 (fun h=>?_) (fun h=>?_)|refine w3 ?_|refine w4 (fun h=>?_) (fun h=>?_)|refine w5 _ rfl ?_|refine w6 rfl ?_|refine w7 mixed rfl ?_)
  conv=>whnf
  refine CallP.cnv (args':=.yld 10 :: [D.rptr [lisD l],.rptr p.cells].map .d) (L':=ckM p us r ++ [.cells [.d (lisD l)],.cells [.d (.sl (brcs t))],.cells [B false],.cells [I 0],.defr,.loop _]) rfl rfl ?_
  generalize hlr : LoopR.mk _ _ _ _ _ _ _ _ = lr
  have hlrd : lr.df = 9:=by rw [← hlr]; rfl
  have hlrs : lr.st = .ready:=by rw [← hlr]
  have hlrp : lr.pend = none:=by rw [← hlr]
  have hback : (⟨.ready,none,lr.fr,lr.n,lr.ps,lr.assign,lr.body,lr.df⟩ : LoopR) = lr:=by rw [← hlr]
  have hblkb : (Blk.loop lr).bel 11 = true:=by rw [← hlr]; rfl
  have hSb : ∀ i,belB 11 (ckS p us r l t lr i) = true:=fun i=>by
   refine belB_append (belB_le (by decide) (ckM_bel p us r)) ?_
   show (true && (true && (true && (true && (true && ((Blk.loop lr).bel 11 && true)))))) = true
   rw [hblkb]; rfl
  have hEb : ∀ i,belB 11 (ckE p us r l t lr i) = true:=fun i=>by
   refine belB_append (belB_le (by decide) (ckM_bel p us r)) ?_
   show (true && (true && (true && (true && (true && ((Blk.loop lr).bel 11 && true)))))) = true
   rw [hblkb]; rfl
  have hSd : ∀ i,dfB (ckS p us r l t lr i) = true:=fun i=>by
   refine dfB_of fun c l' hc=>?_
   match c,hc with
   | 0,hc | 1,hc | 2,hc | 3,hc | 4,hc | 5,hc | 6,hc | 7,hc | 8,hc | 9,hc=>cases hc
   | 10,hc =>
    have : lr = l':=by cases hc; rfl
    rw [← this,hlrd]; rfl
   | c + 11,hc=>cases hc
  obtain ⟨ms,hms⟩ : ∃ ms,chE l p = ms:=⟨_,rfl⟩
  have hwi:=ways_it 0 (fun _ _=>False) l p hsl hlen.2 hrw
  rw [hms] at hwi
  simp only [hms] at hlf hyes hnok hcp hcl
  refine hwi 10 11 (fun i=>i ≤ t.length ∧ ∀ (j : Nat) (h1 : j < ms.length) (h2 : j < t.length),j < i → okBr f0 l p us ms[j] t[j] = true) (fun i=>ckS p us r l t lr i) _ (w22 _) (fun i=>rfl) hSb hSd (by omega) ?_ ?_ ⟨w22 _,fun j _ _ h=>absurd h (Nat.not_lt_zero j)⟩
  ·rintro i hi ⟨hit,hok⟩
   rw [List.length_map] at hi
   rw [List.getElem_map]
   obtain ⟨x,hx⟩ : ∃ x,x = extL l p ms[i]:=⟨_,rfl⟩
   have hnx : nxV l p ms[i] = .agg [.d (DI ms[i].home),.d (DI ms[i].away),I (atN l p),.d (lisD x)]:=by rw [hx]; rfl
   have hPx : PartP x p:=by rw [hx]; exact hcp _ (List.getElem_mem hi)
   have hsx : Small x p:=hx ▸ (part_small hs0 hlen.2 hP ms[i]).2
   have hbig : roundsN p * halfN p < x.flatten.length + n:=by rw [hx,extL_flat,List.length_append]; simp only [List.length_singleton]; omega
   have hdm0 : ∀ {L : List Blk} {k : V → List Blk → Prop},k (.tup [I (dmA x ⟨[],false,[]⟩),I (dmE x ⟨[],false,[]⟩)]) L → CallP C 43 [lisV x,.agg [.nil,B false,.nil]] L k:=fun h =>
    CallP.freeze (args:=[lisV x,.agg [.nil,B false,.nil]]) (dargs:=[lisV x,plV ⟨[],false,[]⟩]) [] rfl rfl (.keep (.cv (.aggL (.cons .nil (.cons (.d _) (.cons .nil .nil)))) .nil)) (dmd_c x ⟨[],false,[]⟩ ⟨hsx.hl,hsx.hr,by simp,by simp,by simp⟩ h)
   rw [hnx]
   have hw : IntKind.i64.wrap ((i : Int) + 1) = ((i + 1 : Nat) : Int):=by rw [wrap_in (by omega)]; omega
   refine YieldP.roundE (C_ok.wp 0 _) (fun _=>false) hlr rfl rfl ?_ (w22 _)
   by_cases hi' : i < t.length
   ·have hnge : ¬ ((brcs t).length : Int) ≤ (i : Int):=by omega
    have rb:=brcs_at hi'
    have hno : okBr f0 l p us ms[i] t[i] = false → q = false:=fun e=>hnok hi hi' e
    have hgo : okBr f0 l p us ms[i] t[i] = true → ∀ (j : Nat) (h1 : j < ms.length) (h2 : j < t.length),j < i + 1 → okBr f0 l p us ms[j] t[j] = true:=fun e j h1 h2 hji=>by
     by_cases e2 : j = i
     ·subst e2; exact e
     ·exact hok j h1 h2 (by omega)
    have hih:=hih0 x t[i] hPx hbig
    generalize t[i] = b at rb hno hgo hih
    have hx':=hx.symm
    have hsk : Small x (keepX p [b.b]):=by
     have h:=small_keep (w:=[b.b]) hs0 (by simp)
     exact ⟨hsx.hl,hsx.hr,h.hc,h.hd,h.hD⟩
    have d1':=mEq b.m ms[i]
    have hfB:=fullB_eq h0 hPx
    by_cases e1 : b.m = ms[i]
    ·have d1:=d1'.trans (w19 e1)
     by_cases e2 : b.r = (atN l p : Int)
     ·by_cases e3 : b.b = -1
      ·by_cases e4 : fullC x p = true
       ·have e4':=hfB.trans e4
        repeat' ((conv=>whnf); first|simp only [hlrs,setB_eq]|refine Br.not ?_|refine Idx.intro i _ rfl rb ?_|refine CallP.up (full_c x p hsx ?_)|refine CallP.up (dmd_c x (keepX p [b.b]) hsk ?_)|refine CallP.up (hdm0 ?_)|refine Br.no (decide_eq_false hnge) ?_|refine Br.yes d1 ?_|refine Br.yes (decide_eq_true e2) ?_|refine Br.yes (decide_eq_true e3) ?_|refine Br.yes e4' ?_|refine Br.tt ?_|refine Br.ff ?_|refine Br.dec (fun h=>?_) (fun h=>?_)|refine Br.not ?_|refine Br.intro (fun h=>?_) (fun h=>?_)|refine GetE.intro _ rfl ?_|refine Need.intro rfl ?_|refine DrawP.go mixed rfl ?_)
        conv=>whnf
        refine w15 (n:=11) (L':=ckE p us r l t lr (IntKind.i64.wrap ((i : Int) + 1))) rfl (w21 _) rfl (hEb _) (.inr ⟨rfl,rfl,hEb _,?_⟩)
        repeat' ((conv=>whnf); first|refine w0 ?_|refine w1 ?_|refine w2 (fun h=>?_) (fun h=>?_)|refine w3 ?_|refine w4 (fun h=>?_) (fun h=>?_)|refine w5 _ rfl ?_|refine w6 rfl ?_|refine w7 mixed rfl ?_|simp only [hlrs,hlrp])
        conv=>whnf
        exact FinP.drop (n:=5) (L':=ckM p us r) rfl (Nat.le_refl _) rfl (ckM_bel p us r) ⟨congrArg B (hno (by simp [okBr,e1,e2,e3,hx',e4])).symm,rfl⟩
       ·have e4':=hfB.trans (eq_false_of_ne_true e4)
        repeat' ((conv=>whnf); first|simp only [hlrs,setB_eq]|refine Br.not ?_|refine Idx.intro i _ rfl rb ?_|refine CallP.up (full_c x p hsx ?_)|refine CallP.up (dmd_c x (keepX p [b.b]) hsk ?_)|refine CallP.up (hdm0 ?_)|refine Br.no (decide_eq_false hnge) ?_|refine Br.yes d1 ?_|refine Br.yes (decide_eq_true e2) ?_|refine Br.yes (decide_eq_true e3) ?_|refine Br.no e4' ?_|refine Br.tt ?_|refine Br.ff ?_|refine Br.dec (fun h=>?_) (fun h=>?_)|refine Br.not ?_|refine Br.intro (fun h=>?_) (fun h=>?_)|refine GetE.intro _ rfl ?_|refine Need.intro rfl ?_|refine DrawP.go mixed rfl ?_)
        conv=>whnf
        refine CallP.cnv (args':=lisV x :: .d (.sl (brcs b.t)) :: capK) (L':=ckM p us r ++ [.cells [.d (lisD l)],.cells [.d (.sl (brcs t))],.cells [B false],.cells [I (IntKind.i64.wrap ((i : Int) + 1))],.defr,.loop { lr with st:=.busy },.cells [.d (DI ms[i].home),.d (DI ms[i].away),I (atN l p),.d (lisD x)],.cells [.d (DI b.m.home),.d (DI b.m.away),.d (DI b.r),.d (DI b.b),.d (.sl (brcs b.t))]]) rfl rfl ?_
        refine CallP.frameP (w22 _) (w14 hih) (ckM_bel p us r) rfl rfl ?_
        rintro X L1 ⟨rfl,rfl⟩
        refine ⟨rfl,ckM_bel p us r,rfl,?_⟩
        by_cases e5 : f0 x b.t = true
        ·repeat' (conv => whnf
                  first|simp only [hlrs,setB_eq]|refine w3 ?_|refine w10 i _ rfl rb ?_|refine w14 (full_c x p hsx ?_)|refine w14 (dmd_c x (keepX p [b.b]) hsk ?_)|refine w14 (hdm0 ?_)|refine w8 e5 ?_|refine w0 ?_|refine w1 ?_|refine w2 (fun h=>?_) (fun h=>?_)|refine w3 ?_|refine w4 (fun h=>?_) (fun h=>?_)|refine w5 _ rfl ?_|refine w6 rfl ?_|refine w7 mixed rfl ?_)
         conv=>whnf
         exact FinP.drop (n:=11) (L':=ckS p us r l t lr (i + 1)) (ckW_eq p us r l t hw hback) (Nat.le_refl _) rfl (hSb _) (.inl ⟨rfl,rfl,hi',hgo (by simp [okBr,e1,e2,e3,hx',e4,e5])⟩)
        ·repeat' (conv => whnf
                  first|simp only [hlrs,setB_eq]|refine w3 ?_|refine w10 i _ rfl rb ?_|refine w14 (full_c x p hsx ?_)|refine w14 (dmd_c x (keepX p [b.b]) hsk ?_)|refine w14 (hdm0 ?_)|refine w9 (eq_false_of_ne_true e5) ?_|refine w0 ?_|refine w1 ?_|refine w2 (fun h=>?_) (fun h=>?_)|refine w3 ?_|refine w4 (fun h=>?_) (fun h=>?_)|refine w5 _ rfl ?_|refine w6 rfl ?_|refine w7 mixed rfl ?_)
         conv=>whnf
         refine w15 (n:=11) (L':=ckE p us r l t lr (IntKind.i64.wrap ((i : Int) + 1))) rfl (w21 _) rfl (hEb _) (.inr ⟨rfl,rfl,hEb _,?_⟩)
         repeat' ((conv=>whnf); first|refine w0 ?_|refine w1 ?_|refine w2 (fun h=>?_) (fun h=>?_)|refine w3 ?_|refine w4 (fun h=>?_) (fun h=>?_)|refine w5 _ rfl ?_|refine w6 rfl ?_|refine w7 mixed rfl ?_|simp only [hlrs,hlrp])
         conv=>whnf
         exact FinP.drop (n:=5) (L':=ckM p us r) rfl (Nat.le_refl _) rfl (ckM_bel p us r) ⟨congrArg B (hno (by simp [okBr,e1,e2,e3,hx',e4,e5])).symm,rfl⟩
      ·by_cases e4 : b.b ∈ us
       ·by_cases e6 : 0 ≤ dmA x (keepX p [b.b])
        ·have e6' : ¬ dmA x (keepX p [b.b]) < 0:=by omega
         have e7 : dmB x p b.b = true:=w19 e6
         by_cases e5 : b.t = []
         ·have e5' : ¬ (0 : Int) < ((brcs b.t).length : Int):=by rw [e5]; decide
          repeat' ((conv=>whnf); first|simp only [hlrs,setB_eq]|refine Br.not ?_|refine Idx.intro i _ rfl rb ?_|refine CallP.up (full_c x p hsx ?_)|refine CallP.up (dmd_c x (keepX p [b.b]) hsk ?_)|refine CallP.up (hdm0 ?_)|refine Br.no (decide_eq_false hnge) ?_|refine Br.yes d1 ?_|refine Br.yes (decide_eq_true e2) ?_|refine Br.no (decide_eq_false e3) ?_|refine al_yes e4 (fun _=>?_)|refine Br.no (decide_eq_false e6') ?_|refine Br.no (decide_eq_false e5') ?_|refine Br.tt ?_|refine Br.ff ?_|refine Br.dec (fun h=>?_) (fun h=>?_)|refine Br.not ?_|refine Br.intro (fun h=>?_) (fun h=>?_)|refine GetE.intro _ rfl ?_|refine Need.intro rfl ?_|refine DrawP.go mixed rfl ?_)
          conv=>whnf
          exact FinP.drop (n:=11) (L':=ckS p us r l t lr (i + 1)) (ckW_eq p us r l t hw hback) (Nat.le_refl _) rfl (hSb _) (.inl ⟨rfl,rfl,hi',hgo (by simp [okBr,e1,e2,e3,hx',e4,e5,e7])⟩)
         ·have e5' : (0 : Int) < ((brcs b.t).length : Int):=by
           have:=List.length_pos_iff.2 e5
           rw [brcs_len]; omega
          repeat' ((conv=>whnf); first|simp only [hlrs,setB_eq]|refine Br.not ?_|refine Idx.intro i _ rfl rb ?_|refine CallP.up (full_c x p hsx ?_)|refine CallP.up (dmd_c x (keepX p [b.b]) hsk ?_)|refine CallP.up (hdm0 ?_)|refine Br.no (decide_eq_false hnge) ?_|refine Br.yes d1 ?_|refine Br.yes (decide_eq_true e2) ?_|refine Br.no (decide_eq_false e3) ?_|refine al_yes e4 (fun _=>?_)|refine Br.no (decide_eq_false e6') ?_|refine Br.yes (decide_eq_true e5') ?_|refine Br.tt ?_|refine Br.ff ?_|refine Br.dec (fun h=>?_) (fun h=>?_)|refine Br.not ?_|refine Br.intro (fun h=>?_) (fun h=>?_)|refine GetE.intro _ rfl ?_|refine Need.intro rfl ?_|refine DrawP.go mixed rfl ?_)
          conv=>whnf
          refine w15 (n:=11) (L':=ckE p us r l t lr (IntKind.i64.wrap ((i : Int) + 1))) rfl (w21 _) rfl (hEb _) (.inr ⟨rfl,rfl,hEb _,?_⟩)
          repeat' ((conv=>whnf); first|refine w0 ?_|refine w1 ?_|refine w2 (fun h=>?_) (fun h=>?_)|refine w3 ?_|refine w4 (fun h=>?_) (fun h=>?_)|refine w5 _ rfl ?_|refine w6 rfl ?_|refine w7 mixed rfl ?_|simp only [hlrs,hlrp])
          conv=>whnf
          exact FinP.drop (n:=5) (L':=ckM p us r) rfl (Nat.le_refl _) rfl (ckM_bel p us r) ⟨congrArg B (hno (by simp [okBr,e1,e2,e3,hx',e4,e5])).symm,rfl⟩
        ·have e6' : dmA x (keepX p [b.b]) < 0:=by omega
         have e7 : dmB x p b.b = false:=w20 e6
         repeat' ((conv=>whnf); first|simp only [hlrs,setB_eq]|refine Br.not ?_|refine Idx.intro i _ rfl rb ?_|refine CallP.up (full_c x p hsx ?_)|refine CallP.up (dmd_c x (keepX p [b.b]) hsk ?_)|refine CallP.up (hdm0 ?_)|refine Br.no (decide_eq_false hnge) ?_|refine Br.yes d1 ?_|refine Br.yes (decide_eq_true e2) ?_|refine Br.no (decide_eq_false e3) ?_|refine al_yes e4 (fun _=>?_)|refine Br.yes (decide_eq_true e6') ?_|refine Br.tt ?_|refine Br.ff ?_|refine Br.dec (fun h=>?_) (fun h=>?_)|refine Br.not ?_|refine Br.intro (fun h=>?_) (fun h=>?_)|refine GetE.intro _ rfl ?_|refine Need.intro rfl ?_|refine DrawP.go mixed rfl ?_)
         conv=>whnf
         refine w15 (n:=11) (L':=ckE p us r l t lr (IntKind.i64.wrap ((i : Int) + 1))) rfl (w21 _) rfl (hEb _) (.inr ⟨rfl,rfl,hEb _,?_⟩)
         repeat' ((conv=>whnf); first|refine w0 ?_|refine w1 ?_|refine w2 (fun h=>?_) (fun h=>?_)|refine w3 ?_|refine w4 (fun h=>?_) (fun h=>?_)|refine w5 _ rfl ?_|refine w6 rfl ?_|refine w7 mixed rfl ?_|simp only [hlrs,hlrp])
         conv=>whnf
         exact FinP.drop (n:=5) (L':=ckM p us r) rfl (Nat.le_refl _) rfl (ckM_bel p us r) ⟨congrArg B (hno (by simp [okBr,e1,e2,e3,hx',e4,e7])).symm,rfl⟩
       ·repeat' (conv => whnf
                 first|simp only [hlrs,setB_eq]|refine w3 ?_|refine w10 i _ rfl rb ?_|refine w14 (full_c x p hsx ?_)|refine w14 (dmd_c x (keepX p [b.b]) hsk ?_)|refine w14 (hdm0 ?_)|refine w9 (w20 hnge) ?_|refine w8 d1 ?_|refine w8 (w19 e2) ?_|refine w9 (w20 e3) ?_|refine al_no e4 ?_|refine w0 ?_|refine w1 ?_|refine w2 (fun h=>?_) (fun h=>?_)|refine w3 ?_|refine w4 (fun h=>?_) (fun h=>?_)|refine w5 _ rfl ?_|refine w6 rfl ?_|refine w7 mixed rfl ?_)
        conv=>whnf
        refine w15 (n:=11) (L':=ckE p us r l t lr (IntKind.i64.wrap ((i : Int) + 1))) rfl (w21 _) rfl (hEb _) (.inr ⟨rfl,rfl,hEb _,?_⟩)
        repeat' ((conv=>whnf); first|refine w0 ?_|refine w1 ?_|refine w2 (fun h=>?_) (fun h=>?_)|refine w3 ?_|refine w4 (fun h=>?_) (fun h=>?_)|refine w5 _ rfl ?_|refine w6 rfl ?_|refine w7 mixed rfl ?_|simp only [hlrs,hlrp])
        conv=>whnf
        exact FinP.drop (n:=5) (L':=ckM p us r) rfl (Nat.le_refl _) rfl (ckM_bel p us r) ⟨congrArg B (hno (by simp [okBr,e1,e2,e3,hx',e4])).symm,rfl⟩
     ·repeat' (conv => whnf
               first|simp only [hlrs,setB_eq]|refine w3 ?_|refine w10 i _ rfl rb ?_|refine w14 (full_c x p hsx ?_)|refine w14 (dmd_c x (keepX p [b.b]) hsk ?_)|refine w14 (hdm0 ?_)|refine w9 (w20 hnge) ?_|refine w8 d1 ?_|refine w9 (w20 e2) ?_|refine w0 ?_|refine w1 ?_|refine w2 (fun h=>?_) (fun h=>?_)|refine w3 ?_|refine w4 (fun h=>?_) (fun h=>?_)|refine w5 _ rfl ?_|refine w6 rfl ?_|refine w7 mixed rfl ?_)
      conv=>whnf
      refine w15 (n:=11) (L':=ckE p us r l t lr (i : Int)) rfl (w21 _) rfl (hEb _) (.inr ⟨rfl,rfl,hEb _,?_⟩)
      repeat' ((conv=>whnf); first|refine w0 ?_|refine w1 ?_|refine w2 (fun h=>?_) (fun h=>?_)|refine w3 ?_|refine w4 (fun h=>?_) (fun h=>?_)|refine w5 _ rfl ?_|refine w6 rfl ?_|refine w7 mixed rfl ?_|simp only [hlrs,hlrp])
      conv=>whnf
      exact FinP.drop (n:=5) (L':=ckM p us r) rfl (Nat.le_refl _) rfl (ckM_bel p us r) ⟨congrArg B (hno (by simp [okBr,e1,e2])).symm,rfl⟩
    ·have d1:=d1'.trans (w20 e1)
     repeat' ((conv=>whnf); first|simp only [hlrs,setB_eq]|refine Br.not ?_|refine Idx.intro i _ rfl rb ?_|refine CallP.up (full_c x p hsx ?_)|refine CallP.up (dmd_c x (keepX p [b.b]) hsk ?_)|refine CallP.up (hdm0 ?_)|refine Br.no (decide_eq_false hnge) ?_|refine Br.no d1 ?_|refine Br.tt ?_|refine Br.ff ?_|refine Br.dec (fun h=>?_) (fun h=>?_)|refine Br.not ?_|refine Br.intro (fun h=>?_) (fun h=>?_)|refine GetE.intro _ rfl ?_|refine Need.intro rfl ?_|refine DrawP.go mixed rfl ?_)
     conv=>whnf
     refine w15 (n:=11) (L':=ckE p us r l t lr (i : Int)) rfl (w21 _) rfl (hEb _) (.inr ⟨rfl,rfl,hEb _,?_⟩)
     repeat' ((conv=>whnf); first|refine w0 ?_|refine w1 ?_|refine w2 (fun h=>?_) (fun h=>?_)|refine w3 ?_|refine w4 (fun h=>?_) (fun h=>?_)|refine w5 _ rfl ?_|refine w6 rfl ?_|refine w7 mixed rfl ?_|simp only [hlrs,hlrp])
     conv=>whnf
     exact FinP.drop (n:=5) (L':=ckM p us r) rfl (Nat.le_refl _) rfl (ckM_bel p us r) ⟨congrArg B (hno (by simp [okBr,e1])).symm,rfl⟩
   ·have hge : ((brcs t).length : Int) ≤ (i : Int):=by omega
    repeat' ((conv=>whnf); first|simp only [hlrs,setB_eq]|refine Br.not ?_|refine CallP.up (full_c x p hsx ?_)|refine CallP.up (hdm0 ?_)|refine Br.yes (decide_eq_true hge) ?_|refine Br.tt ?_|refine Br.ff ?_|refine Br.dec (fun h=>?_) (fun h=>?_)|refine Br.not ?_|refine Br.intro (fun h=>?_) (fun h=>?_)|refine GetE.intro _ rfl ?_|refine Need.intro rfl ?_|refine DrawP.go mixed rfl ?_)
    conv=>whnf
    refine w15 (n:=11) (L':=ckE p us r l t lr (i : Int)) rfl (w21 _) rfl (hEb _) (.inr ⟨rfl,rfl,hEb _,?_⟩)
    repeat' ((conv=>whnf); first|refine w0 ?_|refine w1 ?_|refine w2 (fun h=>?_) (fun h=>?_)|refine w3 ?_|refine w4 (fun h=>?_) (fun h=>?_)|refine w5 _ rfl ?_|refine w6 rfl ?_|refine w7 mixed rfl ?_|simp only [hlrs,hlrp])
    conv=>whnf
    exact FinP.drop (n:=5) (L':=ckM p us r) rfl (w21 _) rfl (ckM_bel p us r) ⟨congrArg B (hlf (by omega)).symm,rfl⟩
  ·rintro ⟨hit,hok⟩
   rw [List.length_map] at hit hok
   by_cases he : ms.length = t.length
   ·have he' : ((ms.map fun m=>[nxV l p m]).length : Int) = ((brcs t).length : Int):=by rw [List.length_map]; omega
    have hall : q = true:=hyes he fun j h1 h2=>hok j h1 h2 h1
    repeat' ((conv=>whnf); first|refine w0 ?_|refine w1 ?_|refine w2 (fun h=>?_) (fun h=>?_)|refine w3 ?_|refine w4 (fun h=>?_) (fun h=>?_)|refine w5 _ rfl ?_|refine w6 rfl ?_|refine w7 mixed rfl ?_|simp only [hlrs,hlrp])
    conv=>whnf
    exact FinP.drop (n:=5) (L':=ckM p us r) rfl (w21 _) rfl (ckM_bel p us r) ⟨congrArg B ((w19 he').trans hall.symm),rfl⟩
   ·have he' : ¬ ((ms.map fun m=>[nxV l p m]).length : Int) = ((brcs t).length : Int):=by rw [List.length_map]; omega
    repeat' ((conv=>whnf); first|refine w0 ?_|refine w1 ?_|refine w2 (fun h=>?_) (fun h=>?_)|refine w3 ?_|refine w4 (fun h=>?_) (fun h=>?_)|refine w5 _ rfl ?_|refine w6 rfl ?_|refine w7 mixed rfl ?_|simp only [hlrs,hlrp])
    conv=>whnf
    exact FinP.drop (n:=5) (L':=ckM p us r) rfl (w21 _) rfl (ckM_bel p us r) ⟨congrArg B ((w20 he').trans (hlf he).symm),rfl⟩
end Go.Proofs.YtndlggbljkhfbaaGreat
namespace Go.Proofs.YtndlggbljkhfbaaGreat
open Go.Tidy
variable {L : List Blk} {k : V → List Blk → Prop}
theorem alE_snoc (p : Pl) (us : List Int) (u : Int) : alE p (us ++ [u]) = alE p us ++ [(I u,plV (keepX p [u]))]:=by unfold alE; rw [List.map_append]; rfl
def chkE (p : Pl) (us : List Int) (t : List Brc) : Int:=if checkP p = 0 then (if IndP p.demands.length us then (if chk p us (fuelN p) [] t = true then 0 else 330) else 330) else checkP p
def alS (p : Pl) (us xs : List Int) (r : List Brc) : List Blk:=[.cells (p.cells.map .d),.cells [.d (ints us),.d (.sl (brcs r))],.map (alE p xs),.cells [.map 2]]
theorem alS_bel (p : Pl) (us xs : List Int) (r : List Brc) : belB 4 (alS p us xs r) = true:=by
 show (V.belL 4 (p.cells.map .d) && (true && (belM 4 (alE p xs) && true))) = true
 rw [V.belL_d,alE_bel]; rfl
theorem ind_fresh {n : Nat} {us : List Int} (h : IndP n us) {i : Nat} (hi : i < us.length) : us[i] ∉ us.take i:=fun hm=>by
 obtain ⟨j,hj,e⟩:=List.getElem_of_mem hm
 rw [List.length_take] at hj
 rw [List.getElem_take] at e
 have hlt:=List.pairwise_iff_getElem.1 (ind_pair h) j i (by omega) hi (by omega)
 omega
theorem check33_c (p : Pl) (us : List Int) (r : List Brc) (hs0 : Small [] p) (hul : us.length ≤ 1073741824) (h : k (I (chkE p us r)) L) : CallP C 18 [plV p,refV us r] L k:=by
 have hD:=hs0.hD
 refine CallP.pure ?_ rfl (fun _=>rfl) h
 clear h
 refine callP_of C_ok Tryz.func18 rfl rfl (n:=_) rfl (w18 rfl) (rs:=_) rfl ?_
 by_cases h0 : checkP p = 0
 ·by_cases hi : IndP p.demands.length us
  ·repeat' (conv => whnf
            first|refine check_c p hs0.hc hs0.hd (by omega) ?_|refine w3 ?_|refine w8 (w19 h0) ?_|refine indices_c p us (by omega) ?_|refine w8 (w19 hi) ?_|refine w0 ?_|refine w1 ?_|refine w2 (fun h=>?_) (fun h=>?_)|refine w3 ?_|refine w4 (fun h=>?_) (fun h=>?_)|refine w5 _ rfl ?_|refine w6 rfl ?_|refine w7 mixed rfl ?_)
   conv=>whnf
   refine LoopP.inv (fun i=>i ≤ us.length) (fun i=>⟨[(2,.ptr 0 0),(3,.ptr 1 0),(4,I 0),(6,.ptr 3 0),(22,.d (ints us)),(23,I us.length),(24,I i)],Tryz.f18.ntmps,alS p us (us.take i) r,[],none⟩) (fun i=>us.length - i) 0 (w22 _) ?_ ?_
   ·exact Weak.by ⟨rfl,rfl,rfl,rfl,rfl,congrArg (fun n : Nat=>I n) (List.length_map ..),rfl,trivial⟩
   intro i hi1
   by_cases hi' : i < us.length
   ·have hlt : (i : Int) < (us.length : Int):=by omega
    have hww : IntKind.i64.wrap ((i : Int) + 1) = ((i + 1 : Nat) : Int):=by rw [wrap_in (by omega)]; omega
    repeat' ((conv=>whnf); first|refine w8 (w19 hlt) ?_|refine w11 i rfl hi' ?_|refine w0 ?_|refine w1 ?_|refine w2 (fun h=>?_) (fun h=>?_)|refine w3 ?_|refine w4 (fun h=>?_) (fun h=>?_)|refine w5 _ rfl ?_|refine w6 rfl ?_|refine w7 mixed rfl ?_)
    conv=>whnf
    have hnx : alE p (us.take (i + 1)) = alE p (us.take i) ++ [(I us[i],plV (keepX p [us[i]]))]:=by rw [take_next hi',alE_snoc]
    refine DrawP.por mixed [0,2,5] [[(1,0),(3,0),(0,2),(2,2),(4,0),(5,2),(6,0),(7,0),(8,0),(9,0)],[(1,0),(3,0),(0,2),(4,0),(2,2),(5,2),(6,0),(7,0),(8,0),(9,0)],[(1,0),(3,0),(2,2),(0,2),(4,0),(5,2),(6,0),(7,0),(8,0),(9,0)],[(1,0),(3,0),(2,2),(4,0),(0,2),(5,2),(6,0),(7,0),(8,0),(9,0)],[(1,0),(3,0),(2,2),(4,0),(5,2),(0,2),(6,0),(7,0),(8,0),(9,0)],[(1,0),(3,0),(4,0),(0,2),(2,2),(5,2),(6,0),(7,0),(8,0),(9,0)],[(1,0),(3,0),(4,0),(2,2),(0,2),(5,2),(6,0),(7,0),(8,0),(9,0)],[(1,0),(3,0),(4,0),(2,2),(5,2),(0,2),(6,0),(7,0),(8,0),(9,0)]] (by kernel_rfl) ?_
    conv=>whnf
    refine And.intro ?_ ?_
    rotate_left 1
    conv=>whnf
    refine And.intro ?_ ?_
    rotate_left 1
    conv=>whnf
    refine And.intro ?_ ?_
    rotate_left 1
    conv=>whnf
    refine And.intro ?_ ?_
    rotate_left 1
    conv=>whnf
    refine And.intro ?_ ?_
    rotate_left 1
    conv=>whnf
    refine And.intro ?_ ?_
    rotate_left 1
    conv=>whnf
    refine And.intro ?_ ?_
    all_goals
     repeat' ((conv=>whnf); first|refine w0 ?_|refine w1 ?_|refine w2 (fun h=>?_) (fun h=>?_)|refine w3 ?_|refine w4 (fun h=>?_) (fun h=>?_)|refine w5 _ rfl ?_|refine w6 rfl ?_|refine w7 mixed rfl ?_|refine QCallW.rd (.map 2) ⟨rfl,rfl⟩ ?_|refine QCallW.rd (plV p) ⟨rfl,rfl⟩ ?_|refine w13 (.tup [plV (keepX p [us[i]]),I (keepE p [us[i]])]) _ (CallP.freeze (args:=[plV p,.own 4 0 0 1]) [4] rfl rfl (.keep (.cv (.d (.rowL (ds:=[[DI us[i]]]) (List.mem_singleton.2 rfl) rfl (.cons (.cons (.d _) .nil) .nil) rfl (by exact len1 rfl))) .nil)) (keep_c p [us[i]] hs0.hc hs0.hd (by omega) (by simp) ⟨rfl,rfl⟩)) ?_|refine al_no (ind_fresh hi hi') ?_)
    all_goals conv=>whnf
    all_goals exact ⟨i + 1,hi',by omega,Weak.to 4 (Eq.trans rfl (congrArg (fun m : List (V × V)=>[Blk.cells (p.cells.map .d),.cells [.d (ints us),.d (.sl (brcs r))],.map m,.cells [.map 2]]) hnx.symm)) (w22 _) (w18 rfl) ⟨rfl,rfl,rfl,rfl,rfl,rfl,congrArg I hww,trivial⟩ (hB:=alS_bel p us _ r)⟩
   ·have hlt : ¬ (i : Int) < (us.length : Int):=by omega
    have hit : us.take i = us:=List.take_of_length_le (by omega)
    rw [hit]
    have hck:=check1_c p us r h0 hs0 hi (fuelN p) [] r (part_nil p) (by unfold fuelN; simp)
    have he : chkE p us r = if chk p us (fuelN p) [] r = true then 0 else 330:=by unfold chkE; rw [if_pos h0,if_pos hi]
    rw [he]
    repeat' ((conv=>whnf); first|refine w9 (w20 hlt) ?_|refine w0 ?_|refine w1 ?_|refine w2 (fun h=>?_) (fun h=>?_)|refine w3 ?_|refine w4 (fun h=>?_) (fun h=>?_)|refine w5 _ rfl ?_|refine w6 rfl ?_|refine w7 mixed rfl ?_)
    conv=>whnf
    refine CallP.cnv (args':=.agg [.nil] :: .d (.sl (brcs r)) :: capK) (L':=ckM p us r) rfl rfl ?_
    refine CallP.freeze (args:=.agg [.nil] :: .d (.sl (brcs r)) :: capK) (dargs:=lisV [] :: .d (.sl (brcs r)) :: capK) [] rfl rfl (.cv (.aggL (.cons .nil .nil)) (.keep (.keep (.keep (.keep .nil))))) ?_
    refine hck.mono ?_
    rintro X L' ⟨rfl,rfl⟩
    by_cases e : chk p us (fuelN p) [] r = true
    ·rw [if_pos e]
     repeat' ((conv=>whnf); first|refine w3 ?_|refine w8 e ?_|refine w0 ?_|refine w1 ?_|refine w2 (fun h=>?_) (fun h=>?_)|refine w3 ?_|refine w4 (fun h=>?_) (fun h=>?_)|refine w5 _ rfl ?_|refine w6 rfl ?_|refine w7 mixed rfl ?_)
     conv=>whnf
     exact FinP.drop (n:=0) rfl (w21 0) rfl rfl ⟨rfl,rfl⟩
    ·rw [if_neg e]
     repeat' ((conv=>whnf); first|refine w3 ?_|refine w9 (eq_false_of_ne_true e) ?_|refine w0 ?_|refine w1 ?_|refine w2 (fun h=>?_) (fun h=>?_)|refine w3 ?_|refine w4 (fun h=>?_) (fun h=>?_)|refine w5 _ rfl ?_|refine w6 rfl ?_|refine w7 mixed rfl ?_)
     conv=>whnf
     exact FinP.drop (n:=0) rfl (w21 0) rfl rfl ⟨rfl,rfl⟩
  ·repeat' (conv => whnf
            first|refine check_c p hs0.hc hs0.hd (by omega) ?_|refine w3 ?_|refine w8 (w19 h0) ?_|refine indices_c p us (by omega) ?_|refine w9 (w20 hi) ?_|refine w0 ?_|refine w1 ?_|refine w2 (fun h=>?_) (fun h=>?_)|refine w3 ?_|refine w4 (fun h=>?_) (fun h=>?_)|refine w5 _ rfl ?_|refine w6 rfl ?_|refine w7 mixed rfl ?_)
   conv=>whnf
   exact FinP.drop (n:=0) rfl (Nat.le_refl 0) rfl rfl ⟨rfl,by unfold chkE; rw [if_pos h0,if_neg hi]; rfl⟩
 ·repeat' (conv => whnf
           first|refine check_c p hs0.hc hs0.hd (by omega) ?_|refine w3 ?_|refine w9 (w20 h0) ?_|refine w0 ?_|refine w1 ?_|refine w2 (fun h=>?_) (fun h=>?_)|refine w3 ?_|refine w4 (fun h=>?_) (fun h=>?_)|refine w5 _ rfl ?_|refine w6 rfl ?_|refine w7 mixed rfl ?_)
  conv=>whnf
  exact FinP.drop (n:=0) rfl (Nat.le_refl 0) rfl rfl ⟨rfl,by unfold chkE; rw [if_neg h0]; rfl⟩
theorem rcheck33_c (p : Pl) (us : List Int) (r : List Brc) (hs0 : Small [] p) (hul : us.length ≤ 1073741824) (h : k (I (chkE p us r)) L) : CallP C 29 [plV p,refV us r] L k:=by
 have hD:=hs0.hD
 have hdl : ((p.demands.map Dm.cells).length : Int) = (p.demands.length : Nat):=by rw [List.length_map]
 refine CallP.pure ?_ rfl (fun _=>rfl) h
 clear h
 refine callP_of C_ok Tryz.func29 rfl rfl (n:=_) rfl (w18 rfl) (rs:=_) rfl ?_
 by_cases h0 : checkP p = 0
 ·by_cases hi : IndP p.demands.length us
  ·have he : chkE p us r = if chk p us (fuelN p) [] r = true then 0 else 330:=by unfold chkE; rw [if_pos h0,if_pos hi]
   have htr : ∀ {L : List Blk} {k : V → List Blk → Prop},k (B (chk p us (fuelN p) [] r)) L → CallP C 65 [.agg [.nil],plV p,.d (ints us),.d (.sl (brcs r))] L k:=fun h =>
    CallP.freeze (args:=[.agg [.nil],plV p,.d (ints us),.d (.sl (brcs r))]) (dargs:=[lisV [],plV p,.d (ints us),.d (.sl (brcs r))]) [] rfl rfl (.cv (.aggL (.cons .nil .nil)) (.keep (.keep (.keep .nil)))) (rtree_c p us h0 hs0 hi (by omega) (fuelN p) [] r (part_nil p) (by unfold fuelN; simp) h)
   rw [he]
   by_cases e : chk p us (fuelN p) [] r = true
   ·rw [if_pos e]
    repeat' ((conv=>whnf); first|refine rcheck_c p hs0.hc hs0.hd (by omega) ?_|refine w3 ?_|refine w8 (w19 h0) ?_|refine rindices_c' hdl (by omega) ?_|refine htr ?_|refine w8 (w19 hi) ?_|refine w8 e ?_|refine w0 ?_|refine w1 ?_|refine w2 (fun h=>?_) (fun h=>?_)|refine w3 ?_|refine w4 (fun h=>?_) (fun h=>?_)|refine w5 _ rfl ?_|refine w6 rfl ?_|refine w7 mixed rfl ?_)
    all_goals conv=>whnf
    all_goals exact FinP.drop (n:=0) rfl (w21 0) rfl rfl ⟨rfl,rfl⟩
   ·rw [if_neg e]
    repeat' ((conv=>whnf); first|refine rcheck_c p hs0.hc hs0.hd (by omega) ?_|refine w3 ?_|refine w8 (w19 h0) ?_|refine rindices_c' hdl (by omega) ?_|refine htr ?_|refine w8 (w19 hi) ?_|refine w9 (eq_false_of_ne_true e) ?_|refine w0 ?_|refine w1 ?_|refine w2 (fun h=>?_) (fun h=>?_)|refine w3 ?_|refine w4 (fun h=>?_) (fun h=>?_)|refine w5 _ rfl ?_|refine w6 rfl ?_|refine w7 mixed rfl ?_)
    all_goals conv=>whnf
    all_goals exact FinP.drop (n:=0) rfl (w21 0) rfl rfl ⟨rfl,rfl⟩
  ·repeat' (conv => whnf
            first|refine rcheck_c p hs0.hc hs0.hd (by omega) ?_|refine w3 ?_|refine w8 (w19 h0) ?_|refine rindices_c' hdl (by omega) ?_|refine w9 (w20 hi) ?_|refine w0 ?_|refine w1 ?_|refine w2 (fun h=>?_) (fun h=>?_)|refine w3 ?_|refine w4 (fun h=>?_) (fun h=>?_)|refine w5 _ rfl ?_|refine w6 rfl ?_|refine w7 mixed rfl ?_)
   all_goals conv=>whnf
   all_goals exact FinP.drop (n:=0) rfl (Nat.le_refl 0) rfl rfl ⟨rfl,by unfold chkE; rw [if_pos h0,if_neg hi]; rfl⟩
 ·repeat' (conv => whnf
           first|refine rcheck_c p hs0.hc hs0.hd (by omega) ?_|refine w3 ?_|refine w9 (w20 h0) ?_|refine w0 ?_|refine w1 ?_|refine w2 (fun h=>?_) (fun h=>?_)|refine w3 ?_|refine w4 (fun h=>?_) (fun h=>?_)|refine w5 _ rfl ?_|refine w6 rfl ?_|refine w7 mixed rfl ?_)
  conv=>whnf
  exact FinP.drop (n:=0) rfl (Nat.le_refl 0) rfl rfl ⟨rfl,by unfold chkE; rw [if_neg h0]; rfl⟩
end Go.Proofs.YtndlggbljkhfbaaGreat
namespace Go.Proofs.YtndlggbljkhfbaaGreat
open Go.Tidy
variable {L : List Blk} {k : V → List Blk → Prop}
theorem allN_mem {n : Nat} {x : Int} : x ∈ allN n ↔ 0 ≤ x ∧ x < (n : Int):=by
 unfold allN
 rw [List.mem_map]
 constructor
 ·rintro ⟨i,hi,rfl⟩
  have:=List.mem_range.1 hi; omega
 ·rintro ⟨h1,h2⟩
  exact ⟨x.toNat,List.mem_range.2 (by omega),by omega⟩
theorem allN_pair (n : Nat) : (allN n).Pairwise (· < ·):=by
 unfold allN
 exact List.Pairwise.map _ (fun a b h=>by omega) List.pairwise_lt_range
theorem sort_filter {n : Nat} {us : List Int} (hn : us.Nodup) (hr : ∀ u ∈ us,0 ≤ u ∧ u < (n : Int)) : sortI us = (allN n).filter fun x=>decide (x ∈ us):=by
 have tr : ∀ a b c : Int,decide (a ≤ b) = true → decide (b ≤ c) = true → decide (a ≤ c) = true:=fun a b c h1 h2=>by simp only [decide_eq_true_eq] at *; omega
 have to : ∀ a b : Int,(decide (a ≤ b) || decide (b ≤ a)) = true:=fun a b=>by simp only [Bool.or_eq_true,decide_eq_true_eq]; omega
 have hp2:=(allN_pair n).filter (p:=fun x=>decide (x ∈ us))
 refine List.Perm.eq_of_pairwise (le:=fun a b : Int=>decide (a ≤ b) = true) (fun a b _ _ h1 h2=>?_) (List.pairwise_mergeSort tr to us) (hp2.imp fun {a b} h=>by simp only [decide_eq_true_eq]; omega) ?_
 ·simp only [decide_eq_true_eq] at h1 h2; omega
 ·refine (List.mergeSort_perm us _).trans ((List.perm_ext_iff_of_nodup hn (hp2.imp fun {a b} h=>by omega)).2 fun x=>?_)
  rw [List.mem_filter,allN_mem,decide_eq_true_eq]
  exact ⟨fun h=>⟨hr x h,h⟩,fun h=>h.2⟩
def dsN (us : List Int) (i : Nat) : List Int:=(allN i).filter fun x=>decide (x ∈ us)
theorem dsN_next (us : List Int) (i : Nat) : dsN us (i + 1) = if (i : Int) ∈ us then dsN us i ++ [(i : Int)] else dsN us i:=by
 unfold dsN
 rw [allN_next,List.filter_append]
 split
 ·rename_i h; simp [h]
 ·rename_i h; simp [h]
theorem dsN_len (us : List Int) (i : Nat) : (dsN us i).length ≤ i:=by
 refine w23 (List.length_filter_le _ _) ?_
 rw [allN_len]; exact Nat.le_refl _
def rpS (p : Pl) (bud sp : Nat) (code : Int) (us : List Int) : List Blk:=[.cells (p.cells.map .d),.cells [.nil,.nil],.row 0 1 (usR p.demands.length us),.cells [.d (ints p.clubs),B p.double,.d (.sl (p.demands.map Dm.cells)),I bud,I sp,I code,.own 2 0 0 p.demands.length]]
theorem rnR_usR (ρ : Nat → Nat) (n : Nat) (us : List Int) : rnR ρ (usR n us) = usR n us:=by
 unfold usR
 induction List.range n with
 | nil=>rfl
 | cons a l ih=>simp only [List.map_cons,rnR,V.rnL,V.rn,ih]
theorem rbr_part (p : Pl) (bud sp : Nat) (code : Int) (us : List Int) : Part [3,2] (rM p bud sp code us) (rpS p bud sp code us):=by
 refine ⟨by decide,fun b hb=>?_,rfl,fun b c hc=>?_,rM_bel _ _ _ _ _,rfl⟩
 ·show b < 4
  simp at hb; omega
 ·match b,hc with
  | 0,hc=>cases hc; rfl
  | 1,hc =>
   cases hc
   show some (Blk.row 0 1 (usR p.demands.length us)) = some (Blk.row 0 1 (rnR _ (usR p.demands.length us)))
   rw [rnR_usR]
  | b + 2,hc=>simp at hc
theorem rbr_back (p : Pl) (bud sp sp0 : Nat) (code code0 : Int) (us us0 : List Int) : putB [3,2] (rnB (rnI [3,2] (rpS p bud sp0 code0 us0).length) (rM p bud sp code us)) (rpS p bud sp0 code0 us0) = rpS p bud sp code us:=by
 show [Blk.cells (p.cells.map .d),.cells [.nil,.nil],.row 0 1 (rnR _ (usR p.demands.length us)),_] = _
 rw [rnR_usR]; rfl
theorem usR_nil (n : Nat) : List.replicate n [B false] = usR n []:=by
 unfold usR
 refine List.ext_getElem (by simp) fun i h1 h2=>by simp
theorem rprove_c (p : Pl) (bud : Int) (hs0 : Small [] p) (hD1 : p.demands.length ≤ 1073741824) (h : k (.tup [refV (proveU p bud) (proveT p bud),I (proveE p bud)]) L) : CallP C 25 [plV p,I bud] L k:=by
 have hD:=hs0.hD
 refine CallP.pure ?_ rfl (fun _=>rfl) h
 clear h
 by_cases hA : argE p bud = 0
 ·obtain ⟨h0,hm1,hm2⟩:=argE_zero hA
  obtain ⟨n,rfl⟩ : ∃ n : Nat,bud = (n : Int):=⟨bud.toNat,by omega⟩
  have hn1 : ¬ (n : Int) < 0:=by omega
  have hn2 : ¬ (1073741824 : Int) < (n : Int):=by omega
  refine callP_of C_ok Tryz.func25 rfl rfl (n:=_) rfl (w18 rfl) (rs:=_) rfl ?_
  repeat' ((conv=>whnf); first|refine rcheck_c p hs0.hc hs0.hd (by omega) ?_|refine w3 ?_|refine w8 (w19 h0) ?_|refine w9 (w20 hn1) ?_|refine w9 (w20 hn2) ?_|refine w0 ?_|refine w1 ?_|refine w2 (fun h=>?_) (fun h=>?_)|refine w3 ?_|refine w4 (fun h=>?_) (fun h=>?_)|refine w5 _ rfl ?_|refine w6 rfl ?_|refine w7 mixed rfl ?_)
  conv=>whnf
  refine DrawP.por mixed [] [[(0,3),(1,0),(2,0),(3,0),(4,0),(5,0),(6,0),(7,0),(8,0)]] (by kernel_rfl) ?_
  all_goals
   repeat' ((conv=>whnf); first|refine MakeP.intro p.demands.length p.demands.length (by rw [List.length_map]) (by rw [List.length_map]) (w21 _) (by omega) ?_|refine w0 ?_|refine w1 ?_|refine w2 (fun h=>?_) (fun h=>?_)|refine w3 ?_|refine w4 (fun h=>?_) (fun h=>?_)|refine w5 _ rfl ?_|refine w6 rfl ?_|refine w7 mixed rfl ?_)
  all_goals conv=>whnf
  refine CallP.cnv (args':=[.ptr 3 0,.agg [.nil]]) (L':=rpS p n 0 0 []) rfl (congrArg (fun z=>[Blk.cells (p.cells.map .d),.cells [.nil,.nil],.row 0 1 z,.cells [.d (ints p.clubs),B p.double,.d (.sl (p.demands.map Dm.cells)),I n,I 0,I 0,.own 2 0 0 p.demands.length]]) (usR_nil _)) ?_
  refine CallP.freeze (args:=[.ptr 3 0,.agg [.nil]]) (dargs:=[.ptr 3 0,lisV []]) [] rfl rfl (.keep (.cv (.aggL (.cons .nil .nil)) .nil)) ?_
  refine CallP.cnv (args':=V.rnL (rnI [3,2] (rpS p n 0 0 []).length) [.ptr 0 0,lisV []]) (L':=rpS p n 0 0 []) rfl rfl ?_
  refine CallP.embed [3,2] (rbr_c p n h0 hs0 (by omega) (fuelN p) [] 0 [] (part_nil p) (by unfold fuelN; simp) (w22 _)) (rbr_part p n 0 0 []) rfl ?_
  intro X L1 hX
  cases ho : brs p n (fuelN p) [] 0 [] with
  | stop e =>
   rw [ho] at hX
   obtain ⟨t,sp',us',he,rfl,rfl⟩:=hX
   rw [rbr_back]
   have hst : proveO p n = .stop e:=ho
   have e1 : proveU p n = []:=by unfold proveU; rw [if_pos hA,hst]
   have e2 : proveT p n = []:=by unfold proveT; rw [if_pos hA,hst]
   have e3 : proveE p n = e:=by unfold proveE; rw [if_pos hA,hst]
   rw [e1,e2,e3]
   repeat' ((conv=>whnf); first|refine w3 ?_|refine w9 (w20 he) ?_|refine w0 ?_|refine w1 ?_|refine w2 (fun h=>?_) (fun h=>?_)|refine w3 ?_|refine w4 (fun h=>?_) (fun h=>?_)|refine w5 _ rfl ?_|refine w6 rfl ?_|refine w7 mixed rfl ?_)
   conv=>whnf
   refine DrawP.por mixed [4] [[(0,0),(1,0),(2,0),(3,0),(4,2),(5,0),(6,0)],[(0,0),(1,0),(2,0),(3,0),(5,0),(4,2),(6,0)]] (by kernel_rfl) ?_
   conv=>whnf
   refine And.intro ?_ ?_
   all_goals
    repeat' ((conv=>whnf); first|refine QCallW.rd (I e) ?_ ?_|exact ⟨rfl,rfl⟩|refine w0 ?_|refine w1 ?_|refine w2 (fun h=>?_) (fun h=>?_)|refine w3 ?_|refine w4 (fun h=>?_) (fun h=>?_)|refine w5 _ rfl ?_|refine w6 rfl ?_|refine w7 mixed rfl ?_)
   all_goals conv=>whnf
   all_goals exact FinP.data (L':=[]) (.pair (.aggL (.cons .nil (.cons .nil .nil))) (.d (.d _))) rfl rfl ⟨rfl,rfl⟩
  | go sp' us' t =>
   rw [ho] at hX
   obtain ⟨rfl,rfl⟩:=hX
   rw [rbr_back]
   have hgo : proveO p n = .go sp' us' t:=ho
   have e1 : proveU p n = sortI us':=by unfold proveU; rw [if_pos hA,hgo]
   have e2 : proveT p n = t:=by unfold proveT; rw [if_pos hA,hgo]
   have e3 : proveE p n = 0:=by unfold proveE; rw [if_pos hA,hgo]
   obtain ⟨hu1,hu2,hu3⟩:=brs_us p n h0 (fuelN p) [] 0 [] (part_nil p) (w21 _) List.nodup_nil _ _ _ ho
   have hsf:=sort_filter hu2 (n:=p.demands.length) (fun u hu=>by
    rcases hu3 u hu with h | h
    ·cases h
    ·exact h)
   rw [e1,e2,e3,hsf]
   repeat' ((conv=>whnf); first|refine w3 ?_|refine w8 (w19 (show (0 : Int) = 0 from rfl)) ?_|refine w0 ?_|refine w1 ?_|refine w2 (fun h=>?_) (fun h=>?_)|refine w3 ?_|refine w4 (fun h=>?_) (fun h=>?_)|refine w5 _ rfl ?_|refine w6 rfl ?_|refine w7 mixed rfl ?_)
   conv=>whnf
   refine LoopP.inv (fun i=>i ≤ p.demands.length) (fun i=>⟨[(4,.ptr 1 0),(7,.ptr 3 0),(9,.ptr 4 0),(10,I i)],Tryz.f25.ntmps,rpS p n sp' 0 us' ++ [.cells [.own 5 (dsN us' i).length 0 (dsN us' i).length,.d (.sl (brcs t))],.row (dsN us' i).length 1 (iR (dsN us' i))],[],none⟩) (fun i=>p.demands.length - i) 0 (w22 _) ?_ ?_
   ·exact Weak.nilCellTo 4 0 1 [.nil,.d (.sl (brcs t))] rfl rfl (by decide) rfl ⟨rfl,rfl,rfl,rfl,trivial⟩
   intro i hi
   by_cases hi' : i < p.demands.length
   ·have hlt : (i : Int) < (p.demands.length : Int):=by omega
    have hw : IntKind.i64.wrap ((i : Int) + 1) = ((i + 1 : Nat) : Int):=by rw [wrap_in (by omega)]; omega
    have hdl:=dsN_len us' i
    have hnx:=dsN_next us' i
    generalize dsN us' i = x at hdl hnx
    by_cases hm : (i : Int) ∈ us'
    ·rw [if_pos hm] at hnx
     repeat' ((conv=>whnf); first|simp only [Nat.beq_refl,Bool.and_self]|refine Br.yes (decide_eq_true hlt) ?_|refine IdxN.intro i rfl hi' ?_|refine GetE.intro _ (usR_get hi') ?_|refine Br.yes (decide_eq_true hm) ?_|refine Need.intro (Nat.le_trans (m:=4294967296) (show x.length + 1 ≤ 4294967296 by omega) (apLim_ge _)) ?_|refine Br.tt ?_|refine Br.ff ?_|refine Br.dec (fun h=>?_) (fun h=>?_)|refine Br.not ?_|refine Br.intro (fun h=>?_) (fun h=>?_)|refine GetE.intro _ rfl ?_|refine Need.intro rfl ?_|refine DrawP.go mixed rfl ?_)
     conv=>whnf
     refine ⟨i + 1,hi',by omega,Weak.to 6 ?_ (w22 _) (w18 rfl) ⟨rfl,rfl,rfl,congrArg I hw,trivial⟩ (hB:=?_)⟩
     ·have e2 : (dsN us' (i + 1)).length = x.length + 1:=by rw [hnx,List.length_append]; rfl
      have e3 : ((iR x).take x.length ++ [[I (i : Int)]],x.length + 1) = (iR (dsN us' (i + 1)),(dsN us' (i + 1)).length):=Prod.ext ((iR_snoc x _).trans (by rw [hnx])) e2.symm
      exact congrArg (fun z : List (List V) × Nat=>rpS p n sp' 0 us' ++ [.cells [.own 5 z.2 0 z.2,.d (.sl (brcs t))],.row z.2 1 z.1]) e3
     ·refine belB_append (l:=rpS p n sp' 0 us') ?_ ?_
      ·show (V.belL 6 (p.cells.map .d) && (true && (belR 6 (usR _ us') && true))) = true
       rw [V.belL_d,usR_bel]; rfl
      ·show (true && (belR 6 (iR _) && true)) = true
       rw [iR_bel]; rfl
    ·rw [if_neg hm] at hnx
     repeat' ((conv=>whnf); first|simp only [Nat.beq_refl,Bool.and_self]|refine Br.yes (decide_eq_true hlt) ?_|refine IdxN.intro i rfl hi' ?_|refine GetE.intro _ (usR_get hi') ?_|refine Br.no (decide_eq_false hm) ?_|refine Br.tt ?_|refine Br.ff ?_|refine Br.dec (fun h=>?_) (fun h=>?_)|refine Br.not ?_|refine Br.intro (fun h=>?_) (fun h=>?_)|refine GetE.intro _ rfl ?_|refine Need.intro rfl ?_|refine DrawP.go mixed rfl ?_)
     conv=>whnf
     exact ⟨i + 1,hi',by omega,Weak.by ⟨rfl,rfl,rfl,congrArg I hw,trivial⟩ (hL:=by rw [hnx])⟩
   ·have hlt : ¬ (i : Int) < (p.demands.length : Int):=by omega
    have hie : i = p.demands.length:=by omega
    subst hie
    repeat' ((conv=>whnf); first|refine w9 (w20 hlt) ?_|refine w0 ?_|refine w1 ?_|refine w2 (fun h=>?_) (fun h=>?_)|refine w3 ?_|refine w4 (fun h=>?_) (fun h=>?_)|refine w5 _ rfl ?_|refine w6 rfl ?_|refine w7 mixed rfl ?_)
    conv=>whnf
    exact FinP.data (L':=[]) (.pair (.aggL (.cons (.rowL (ds:=(dsN us' p.demands.length).map fun n=>[DI n]) (Nat.zero_le _) rfl (iR_cv _) (by rw [List.length_map]) (lenC _)) (.cons (.d _) .nil))) (.d (.d _))) rfl rfl ⟨rfl,rfl⟩
 ·have e1 : proveU p bud = []:=by unfold proveU; rw [if_neg hA]
  have e2 : proveT p bud = []:=by unfold proveT; rw [if_neg hA]
  have e3 : proveE p bud = argE p bud:=by unfold proveE; rw [if_neg hA]
  rw [e1,e2,e3]
  have fin : ∀ e : Int,e = argE p bud → (fun (X : V) (L : List Blk)=>L = [] ∧ X = .tup [refV [] [],I (argE p bud)]) (.tup [refV [] [],I e]) []:=fun e he=>⟨rfl,by rw [he]⟩
  refine callP_of C_ok Tryz.func25 rfl rfl (n:=_) rfl (w18 rfl) (rs:=_) rfl ?_
  by_cases h0 : checkP p = 0
  ·have hb : bud < 0 ∨ 1073741824 < bud:=by
    unfold argE at hA; rw [if_pos h0] at hA
    by_cases h : bud < 0 ∨ 1073741824 < bud
    ·exact h
    ·rw [if_neg h] at hA; exact absurd rfl hA
   have ha : (1 : Int) = argE p bud:=by unfold argE; rw [if_pos h0,if_pos hb]
   repeat' ((conv=>whnf); first|refine w0 ?_|refine w1 ?_|refine w2 (fun h=>?_) (fun h=>?_)|refine w3 ?_|refine w4 (fun h=>?_) (fun h=>?_)|refine w5 _ rfl ?_|refine w6 rfl ?_|refine rcheck_c p hs0.hc hs0.hd (by omega) ?_|refine w8 (w19 h0) ?_)
   all_goals first
    | exact absurd h0 ‹_›
    | skip
   all_goals conv=>whnf
   all_goals first
    | exact FinP.data (L':=[]) (.pair (.aggL (.cons .nil (.cons .nil .nil))) (.d (.d _))) rfl rfl (fin 1 ha)
    | (exfalso; omega)
  ·have ha : checkP p = argE p bud:=by unfold argE; rw [if_neg h0]
   repeat' ((conv=>whnf); first|refine rcheck_c p hs0.hc hs0.hd (by omega) ?_|refine w3 ?_|refine w9 (w20 h0) ?_|refine w0 ?_|refine w1 ?_|refine w2 (fun h=>?_) (fun h=>?_)|refine w3 ?_|refine w4 (fun h=>?_) (fun h=>?_)|refine w5 _ rfl ?_|refine w6 rfl ?_|refine w7 mixed rfl ?_)
   conv=>whnf
   exact FinP.data (L':=[]) (.pair (.aggL (.cons .nil (.cons .nil .nil))) (.d (.d _))) rfl rfl (fin _ ha)
end Go.Proofs.YtndlggbljkhfbaaGreat
namespace Go.Proofs.YtndlggbljkhfbaaGreat
open Go.Tidy
variable {L : List Blk} {k : V → List Blk → Prop}
def pC : Pl:=⟨[1,2],false,[⟨1,1,0,0,0,[]⟩,⟨2,1,0,0,0,[]⟩,⟨9,2,0,0,0,[]⟩]⟩
theorem contrary_c (h : k (plV pC) L) : CallP C 59 [] L k:=by
 refine CallP.pure ?_ rfl (fun _=>rfl) h
 clear h
 refine callP_of C_ok Tryz.func59 rfl rfl (n:=_) rfl (w18 rfl) (rs:=_) rfl ?_
 repeat' ((conv=>whnf); first|refine w0 ?_|refine w1 ?_|refine w2 (fun h=>?_) (fun h=>?_)|refine w3 ?_|refine w4 (fun h=>?_) (fun h=>?_)|refine w5 _ rfl ?_|refine w6 rfl ?_|refine w7 mixed rfl ?_)
 conv=>whnf
 exact FinP.data (L':=[]) (.aggL (.cons (.rowL (ds:=[[DI 1],[DI 2]]) (w22 _) rfl (.cons (.cons (.d _) .nil) (.cons (.cons (.d _) .nil) .nil)) rfl (by exact len1 rfl)) (.cons (.d _) (.cons (.rowL (ds:=pC.demands.map Dm.cells) (w22 _) rfl (.cons (.cons (.d _) (.cons (.d _) (.cons (.d _) (.cons (.d _) (.cons (.d _) (.cons .nil .nil)))))) (.cons (.cons (.d _) (.cons (.d _) (.cons (.d _) (.cons (.d _) (.cons (.d _) (.cons .nil .nil)))))) (.cons (.cons (.d _) (.cons (.d _) (.cons (.d _) (.cons (.d _) (.cons (.d _) (.cons .nil .nil)))))) .nil))) rfl (by exact len6 rfl)) .nil)))) rfl rfl ⟨rfl,rfl⟩
def bsShow : Bs → List Int × List (List Int)
 | .go sp us t=>(us,t.map fun b=>[b.m.home,b.m.away,b.r,b.b,(b.t.length : Int)])
 | .stop e=>([e],[])
theorem rv1 : (bsShow (proveO pC 9)).1 = [1,0] ∧ (bsShow (proveO pC 9)).2 = [[1,2,0,1,0],[2,1,0,0,0]]:=by decide +kernel
theorem rvA : argE pC 9 = 0:=by decide +kernel
theorem rv2 : leastF pC 9 = ([0,1],0):=by decide +kernel
theorem rv3 : leastF pC 0 = ([],3):=by decide +kernel
theorem rv4 : keepE pC [2] = 0 ∧ proveE (keepX pC [2]) 9 = 300 ∧ (keepX pC [2]).demands.length = 1:=by decide +kernel
theorem rv6 : chkE pC [0,1] [.mk ⟨1,2⟩ 0 1 [],.mk ⟨2,1⟩ 0 0 []] = 0:=by decide +kernel
theorem rv0 : chkE pC [] [] = 330:=by decide +kernel
theorem smC : Small [] pC:=⟨by decide,by decide,by decide,by decide,by decide⟩
def tC : List Brc:=[.mk ⟨1,2⟩ 0 1 [],.mk ⟨2,1⟩ 0 0 []]
theorem brc_of {t : List Brc} (h : (t.map fun b=>[b.m.home,b.m.away,b.r,b.b,(b.t.length : Int)]) = [[1,2,0,1,0],[2,1,0,0,0]]) : t = tC:=by
 match t,h with
 | [.mk ⟨a,b⟩ r d t1,.mk ⟨a2,b2⟩ r2 d2 t2],h =>
  simp only [List.map_cons,List.map_nil,Brc.m,Brc.r,Brc.b,Brc.t,List.cons.injEq,and_true,Int.ofNat_eq_zero,Int.natCast_eq_zero,List.length_eq_zero_iff] at h
  obtain ⟨⟨rfl,rfl,rfl,rfl,h1⟩,rfl,rfl,rfl,rfl,h2⟩:=h
  rw [h1,h2]; rfl
 | [],h=>simp at h
 | [x],h=>simp at h
 | x :: y :: z :: t,h=>simp at h
theorem rvP : proveU pC 9 = [0,1] ∧ proveT pC 9 = tC ∧ proveE pC 9 = 0:=by
 have h:=rv1
 unfold proveU proveT proveE
 rw [if_pos rvA,if_pos rvA,if_pos rvA]
 generalize proveO pC 9 = o at h
 match o,h with
 | .go sp us t,⟨h1,h2⟩ =>
  refine ⟨?_,brc_of h2,rfl⟩
  have h1' : us = [1,0]:=h1
  show sortI us = _
  rw [h1',sort_filter (n:=2) (by decide) (by decide)]
  decide
 | .stop e,⟨h1,h2⟩=>cases h1
theorem prove_e {p : Pl} {bud : Int} {us : List Int} {t : List Brc} {e : Int} (hs : Small [] p) (hv : proveU p bud = us ∧ proveT p bud = t ∧ proveE p bud = e) (h : k (.tup [refV us t,I e]) L) : CallP C 14 [plV p,I bud] L k:=by
 obtain ⟨rfl,rfl,rfl⟩:=hv; exact prove_c p bud hs h
theorem proveE_c {p : Pl} {bud : Int} {e : Int} (hs : Small [] p) (hv : proveE p bud = e) (h : ∀ us t,k (.tup [refV us t,I e]) L) : CallP C 14 [plV p,I bud] L k:=by
 subst hv; exact prove_c p bud hs (h _ _)
theorem least_e {p : Pl} {bud : Int} {x : List Int} {e : Int} (hs : Small [] p) (hD : p.demands.length ≤ 1073741823) (hv : leastF p bud = (x,e)) (h : k (.tup [.d (ints x),I e]) L) : CallP C 19 [plV p,I bud] L k :=
 least_c p bud hs hD (by rw [hv]; exact h)
theorem chk_e {p : Pl} {us : List Int} {r : List Brc} {e : Int} (hs : Small [] p) (hul : us.length ≤ 1073741824) (hv : chkE p us r = e) (h : k (I e) L) : CallP C 18 [plV p,refV us r] L k:=by
 subst hv; exact check33_c p us r hs hul h
theorem same01 (h : k (B true) L) : CallP C 31 [.d (ints [0,1]),.d (ints [0,1])] L k:=rsameI_c [0,1] [0,1] (by decide) h
theorem rsane_c (h : k (B true) L) : CallP C 22 [] L k:=by
 refine CallP.pure ?_ rfl (fun _=>rfl) h
 clear h
 refine callP_of C_ok Tryz.func22 rfl rfl (n:=_) rfl (w18 rfl) (rs:=_) rfl ?_
 repeat' ((conv=>whnf); first|refine w0 ?_|refine w1 ?_|refine w2 (fun h=>?_) (fun h=>?_)|refine w3 ?_|refine w4 (fun h=>?_) (fun h=>?_)|refine w5 _ rfl ?_|refine w6 rfl ?_|refine w7 mixed rfl ?_|refine contrary_c ?_|refine prove_e smC rvP ?_|refine least_e smC (by decide) rv2 ?_|refine least_e smC (by decide) rv3 ?_|refine CallP.freeze (args:=[plV pC,.own 2 0 0 1]) [2] rfl rfl (.keep (.cv (.d (.rowL (ds:=[[DI 2]]) (List.mem_singleton.2 rfl) rfl (.cons (.cons (.d _) .nil) .nil) rfl (by exact len1 rfl))) .nil)) (keep_c pC [2] smC.hc smC.hd (by decide) (by simp) ?_)|refine proveE_c (small_keep smC (by decide)) rv4.2.1 (fun us t=>?_)|refine chk_e smC (by decide) rv6 ?_|refine CallP.freeze (args:=[plV pC,.agg [.nil,.nil]]) (dargs:=[plV pC,refV [] []]) [] rfl rfl (.keep (.cv (.aggL (.cons .nil (.cons .nil .nil))) .nil)) (chk_e smC (by decide) rv0 ?_)|refine w10 0 _ rfl rfl ?_|refine w8 (w19 rv4.1) ?_|refine w8 (w19 (show (((keepX pC [2]).demands.map Dm.cells).length : Int) = 1 by rw [List.length_map,rv4.2.2]; rfl)) ?_|refine CallP.lent (same01 ⟨rfl,rfl⟩) (.keep (.cv (y:=.d (ints [0,1])) (.d (.rowL (ds:=[[DI 0],[DI 1]]) trivial rfl (.cons (.cons (.d _) .nil) (.cons (.cons (.d _) .nil) .nil)) rfl (by exact len1 rfl))) .nil)) rfl rfl ?_)
 conv=>whnf
 exact FinP.drop (n:=0) rfl (w21 0) rfl rfl ⟨rfl,rfl⟩
end Go.Proofs.YtndlggbljkhfbaaGreat
namespace Go.Proofs.YtndlggbljkhfbaaGreat
open Go.Tidy
theorem cells_brc : C.P.cellsOf 91 = 5:=by kernel_rfl
theorem cells_brs : C.P.cellsOf 34 = 1:=by kernel_rfl
theorem cells_ref : C.P.cellsOf 36 = 2:=by kernel_rfl
theorem brcsT : ∀ (n : Nat) (y : D),SizeOf.sizeOf y ≤ n → TyI C.P 34 [y] → ∃ t : List Brc,y = .sl (brcs t)
 | 0,y,hn,h=>by cases y <;> simp at hn
 | n + 1,y,hn,h=>by
  obtain ⟨els,he,h1,h2⟩:=h.slI Tryz.underlying34
  obtain rfl : y = .sl els:=by cases he; rfl
  obtain ⟨l,hl⟩:=map_of (f:=Brc.cells) (l:=els) fun y hy=>by
   obtain ⟨c1,c2⟩:=(h2 y hy).structI Tryz.underlying91
   rw [cells_brc] at c1
   simp only [List.mem_cons,List.not_mem_nil,or_false,forall_eq_or_imp,forall_eq] at c2
   obtain ⟨a0,a1,a2,a3⟩:=c2
   obtain ⟨m,hm⟩:=mtT a0
   rw [cells_mt] at hm
   obtain ⟨n1,b1⟩:=at_int a1
   obtain ⟨n2,b2⟩:=at_int a2
   rw [cells_brs] at a3
   obtain ⟨z,hz⟩ : ∃ z,(y.drop 4).take 1 = [z]:=by
    match y,c1 with
    | [_,_,_,_,z],_=>exact ⟨z,rfl⟩
   rw [hz] at a3
   have hzy : z ∈ y:=List.mem_of_mem_drop (List.mem_of_mem_take (by rw [hz]; exact List.mem_singleton.2 rfl))
   have s1:=List.sizeOf_lt_of_mem hzy
   have s2:=List.sizeOf_lt_of_mem hy
   simp only [D.sl.sizeOf_spec] at hn
   obtain ⟨t,rfl⟩:=brcsT n z (by omega) a3
   refine ⟨.mk m n1 n2 t,?_⟩
   have b3:=at_one hz
   rw [List.drop_zero] at hm
   have g0 : y[0]? = some (DI m.home):=by
    have:=congrArg (fun l=>l[0]?) hm
    simpa [Mt.cells] using this
   have g1 : y[1]? = some (DI m.away):=by
    have:=congrArg (fun l=>l[1]?) hm
    simpa [Mt.cells] using this
   apply List.ext_getElem?
   intro i
   match i with
   | 0=>exact g0
   | 1=>exact g1
   | 2=>exact b1
   | 3=>exact b2
   | 4=>exact b3
   | i + 5=>rw [List.getElem?_eq_none (by omega)]; rfl
  exact ⟨l,by rw [hl,brcs_map]⟩
theorem refT {xs : List D} (h : TyI C.P 36 xs) (hs : ∀ y ∈ xs,Dsm reachBytes y) : ∃ r : List Int × List Brc,xs = [ints r.1,.sl (brcs r.2)] ∧ r.1.length ≤ 140737488355328:=by
 obtain ⟨h1,h2⟩:=h.structI Tryz.underlying36
 rw [cells_ref] at h1
 simp only [List.mem_cons,List.not_mem_nil,or_false,forall_eq_or_imp,forall_eq] at h2
 obtain ⟨a0,a1⟩:=h2
 obtain ⟨l,hl,hb⟩:=intsT a0 fun y hy=>hs y (List.mem_of_mem_drop (List.mem_of_mem_take hy))
 rw [cells_ints] at hl
 have b0:=at_one hl
 rw [cells_brs] at a1
 match xs,h1,b0,a1 with
 | [x,z],_,b0,a1 =>
  obtain ⟨t,rfl⟩:=brcsT _ z (w21 _) a1
  cases b0
  exact ⟨(l,t),rfl,hb⟩
theorem few_small33 {p : Pl} (h : FewQ p) : Small [] p:=by
 obtain ⟨h1,h2,h3⟩:=h
 refine ⟨by decide,by simp,by rcases h2 with h | h <;> omega,fun d hd=>?_,by omega⟩
 obtain ⟨i,hi,rfl⟩:=List.getElem_of_mem hd
 have:=h1 i hi; omega
mutual
theorem brs_size (p : Pl) (bud : Nat) : ∀ (n : Nat) (l : Lst) (sp : Nat) (us : List Int) (sp' : Nat) (us' : List Int) (t : List Brc),brs p bud n l sp us = .go sp' us' t → sp + brSize t = sp'
 | 0,l,sp,us,sp',us',t,h=>by cases h; rfl
 | n + 1,l,sp,us,sp',us',t,h=>brLoop_size p bud n l (chE l p) sp us [] sp' us' t h
theorem brLoop_size (p : Pl) (bud : Nat) (n : Nat) (l : Lst) : ∀ (ms : List Mt) (sp : Nat) (us : List Int) (t : List Brc) (sp' : Nat) (us' : List Int) (t' : List Brc),brLoop (brs p bud n) l p bud ms sp us t = .go sp' us' t' → sp + brSize t' = sp' + brSize t
 | [],sp,us,t,sp',us',t',h=>by cases h; rfl
 | m :: ms,sp,us,t,sp',us',t',h=>by
  have ap : ∀ (t : List Brc) (x : Brc),brSize (t ++ [x]) = brSize t + x.size:=by
   intro t x
   induction t with
   | nil=>simp [brSize]
   | cons y t ih=>simp only [List.cons_append,brSize,ih]; omega
  simp only [brLoop] at h
  split at h
  ·cases h
  ·split at h
   ·have h1:=brLoop_size p bud n l ms (sp + 1) _ _ _ _ _ h
    rw [ap] at h1
    simp only [Brc.size,brSize] at h1; omega
   ·split at h
    ·cases h
    ·split at h
     ·rename_i sp2 us2 t2 h2
      have k1:=brs_size p bud n _ (sp + 1) us _ _ _ h2
      have h1:=brLoop_size p bud n l ms sp2 _ _ _ _ _ h
      rw [ap] at h1
      simp only [Brc.size] at h1; omega
     ·cases h
end
theorem proveT_size (p : Pl) (bud : Int) : brSize (proveT p bud) ≤ bud.toNat:=by
 unfold proveT
 split
 ·split
  ·rename_i sp us t ho
   have h1:=brs_size p _ _ _ _ _ _ _ _ ho
   have h2:=(brs_keep p _ _ _ _ _ (w22 _) _ _ _ ho).1
   omega
  ·exact Nat.zero_le _
 ·exact Nat.zero_le _
theorem proveT_le (p : Pl) (bud : Int) : brSize (proveT p bud) ≤ 1073741824:=by
 by_cases hA : argE p bud = 0
 ·have:=argE_zero hA
  have:=proveT_size p bud
  omega
 ·unfold proveT; rw [if_neg hA]; exact Nat.zero_le _
theorem proveU_le (p : Pl) (bud : Int) : (proveU p bud).length ≤ 1073741824:=by
 unfold proveU
 split
 ·rename_i hA
  split
  ·rename_i sp us t ho
   obtain ⟨h0,h1,h2⟩:=argE_zero hA
   obtain ⟨hu1,hu2,hu3⟩:=brs_us p _ h0 _ _ _ _ (part_nil p) (w22 _) List.nodup_nil _ _ _ ho
   have h2:=(brs_keep p _ _ _ _ _ (w22 _) _ _ _ ho).1
   unfold sortI; rw [List.length_mergeSort]; omega
  ·exact Nat.zero_le _
 ·exact Nat.zero_le _
theorem rsame33_t {L : List Blk} {k : V → List Blk → Prop} {u : List Int} {t : List Brc} (hu : u.length ≤ 1073741824) (ht : brSize t ≤ 1073741824) (h : k (B true) L) : CallP C 27 [refV u t,refV u t] L k :=
 rsame33_c u t u t (Nat.le_trans hu (by decide)) (Nat.le_trans ht (by decide)) (by rw [eqB_t rfl,decide_eq_true rfl]; exact h)
theorem rsameP_t {L : List Blk} {k : V → List Blk → Prop} {a : Pl} (hs : Small [] a) (h : k (B true) L) : CallP C 26 [plV a,plV a] L k :=
 rsameP_c a a hs.hc (Nat.le_trans hs.hD (by decide)) hs.hd (by rw [eqB_t rfl]; exact h)
end Go.Proofs.YtndlggbljkhfbaaGreat
