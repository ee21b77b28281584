import Derived.Test.YtihibgcojdfndaaGreatDoorJGA
import Derived.MapKept
import Derived.ChangeMaps4
import Derived.WideKeyRuns
import Derived.Laws.MakeOwn
set_option maxRecDepth 100000
set_option maxHeartbeats 0
set_option linter.unusedSimpArgs false
set_option linter.unusedVariables false
namespace Go.Tidy
def keyL : List KK → List V → Bool
 | [],[]=>true
 | .int k :: ks,.d (.int k' _) :: xs=>decide (k = k') && keyL ks xs
 | .str :: ks,.d (.str _) :: xs=>keyL ks xs
 | _,_=>false
def keyV : TK → V → Bool
 | .int k,.d (.int k' _)=>decide (k = k')
 | .bool,.d (.bool _)=>true
 | .str,.d (.str _)=>true
 | .keys ks,.agg xs=>keyL ks xs
 | _,_=>false
def kkOf : TK → Option KK
 | .int k=>some (.int k)
 | .str=>some .str
 | _=>none
def kindsS (C : Ctx) : Nat → List (Nat × TypeId) → Option (List KK)
 | _,[]=>some []
 | i,p :: fs=>bif Nat.beq p.1 i then match C.tt p.2 with
   | some ti=>match kkOf ti.k with
    | some k=>match kindsS C (i + 1) fs with
     | some ks=>some (k :: ks)
     | none=>none
    | none=>none
   | none=>none
  else none
def keyTK (C : Ctx) (ti : TI) : TK :=
 match ti.k with
 | .int k=>.int k
 | .bool=>.bool
 | .str=>.str
 | .struct fs=>bif ti.eqok then match kindsS C 0 fs with
   | some ks=>.keys ks
   | none=>.other
  else .other
 | .arr n e=>match C.tt e with
  | some ei=>match kkOf ei.k with
   | some k=>.keys (List.replicate n k)
   | none=>.other
  | none=>.other
 | _=>.other
@[irreducible] def MapF (tk : TK) (es : List (V × V)) (key : V) (k : Option (Nat × V) → Prop) : Prop :=
 (∀ kv ∈ es,keyV tk kv.1 = true) ∧ ((∃ i v,es[i]? = some (key,v) ∧ (∀ j kv,j < i → es[j]? = some kv → kv.1 ≠ key) ∧ k (some (i,v))) ∨ ((∀ kv ∈ es,kv.1 ≠ key) ∧ k none))
theorem MapF.hit {tk : TK} {es : List (V × V)} {key : V} {k : Option (Nat × V) → Prop} (i : Nat) (v : V) (hk : ∀ kv ∈ es,keyV tk kv.1 = true) (hi : es[i]? = some (key,v)) (hj : ∀ j kv,j < i → es[j]? = some kv → kv.1 ≠ key) (h : k (some (i,v))) : MapF tk es key k:=by
 unfold MapF; exact ⟨hk,.inl ⟨i,v,hi,hj,h⟩⟩
theorem MapF.miss {tk : TK} {es : List (V × V)} {key : V} {k : Option (Nat × V) → Prop} (hk : ∀ kv ∈ es,keyV tk kv.1 = true) (hj : ∀ kv ∈ es,kv.1 ≠ key) (h : k none) : MapF tk es key k:=by
 unfold MapF; exact ⟨hk,.inr ⟨hj,h⟩⟩
theorem MapF.nil {tk : TK} {key : V} {k : Option (Nat × V) → Prop} (h : k none) : MapF tk [] key k:=MapF.miss (fun kv hkv=>by simp at hkv) (fun kv hkv=>by simp at hkv) h
section
variable {C : Ctx} {g : Gh} {w : World} {L : List Blk}
def valL : List V → List Value
 | .d (.int k n) :: xs=>.int k n :: valL xs
 | .d (.str s) :: xs=>.string s :: valL xs
 | _=>[]
theorem keyL_cases {ks : List KK} {xs : List V} (h : keyL ks xs = true) : (ks = [] ∧ xs = []) ∨ (∃ k n ks' xs',ks = .int k :: ks' ∧ xs = .d (.int k n) :: xs' ∧ keyL ks' xs' = true) ∨ (∃ s ks' xs',ks = .str :: ks' ∧ xs = .d (.str s) :: xs' ∧ keyL ks' xs' = true):=by
 unfold keyL at h
 split at h
 ·exact .inl ⟨rfl,rfl⟩
 ·rw [Bool.and_eq_true] at h
  have e:=of_decide_eq_true h.1
  subst e
  exact .inr (.inl ⟨_,_,_,_,rfl,rfl,h.2⟩)
 ·exact .inr (.inr ⟨_,_,_,rfl,rfl,h⟩)
 ·cases h
theorem keyL_val : ∀ {ks : List KK} {xs : List V} {vs : List Value},keyL ks xs = true → xs.length = vs.length → (∀ (j : Nat) (x : V) (v : Value),xs[j]? = some x → vs[j]? = some v → RV g w L x v) → vs = valL xs
 | ks,xs,vs,h,hl,hr=>by
  rcases keyL_cases h with ⟨rfl,rfl⟩ | ⟨k,n,ks',xs',rfl,rfl,h'⟩ | ⟨s,ks',xs',rfl,rfl,h'⟩
  ·cases vs with | nil=>rfl | cons=>simp at hl
  all_goals
   cases vs with
   | nil=>simp at hl
   | cons v vs =>
    have h0:=hr 0 _ v rfl rfl
    cases h0 with | d _ _ h0 =>
    cases h0
    rw [valL,← keyL_val h' (by simpa using hl) fun j x v hx hv=>hr (j + 1) x v (by simpa using hx) (by simpa using hv)]
theorem valL_inj : ∀ {ks : List KK} {xs ys : List V},keyL ks xs = true → keyL ks ys = true → valL xs = valL ys → xs = ys
 | ks,xs,ys,h,h',he=>by
  rcases keyL_cases h with ⟨rfl,rfl⟩ | ⟨k,n,ks',xs',rfl,rfl,h1⟩ | ⟨s,ks',xs',rfl,rfl,h1⟩ <;> rcases keyL_cases h' with ⟨e,rfl⟩ | ⟨k2,n2,ks2,ys',e,rfl,h2⟩ | ⟨s2,ks2,ys',e,rfl,h2⟩ <;> cases e
  ·rfl
  ·simp only [valL,List.cons.injEq,Value.int.injEq,true_and] at he
   obtain ⟨rfl,he⟩:=he
   rw [valL_inj h1 h2 he]
  ·simp only [valL,List.cons.injEq,Value.string.injEq] at he
   obtain ⟨rfl,he⟩:=he
   rw [valL_inj h1 h2 he]
theorem valL_same (n : Nat) : ∀ {xs : List V},((valL xs).zip (valL xs)).all (fun (p : Value × Value)=>Instr.sameBits n p.1 p.2) = true
 | []=>rfl
 | x :: xs=>by
  unfold valL
  split
  ·rename_i e
   simp only [List.cons.injEq] at e
   obtain ⟨rfl,rfl⟩:=e
   simp only [List.zip_cons_cons,List.all_cons,Bool.and_eq_true]
   exact ⟨by simp [Instr.sameBits],valL_same n⟩
  ·rename_i s _ e
   simp only [List.cons.injEq] at e
   obtain ⟨rfl,rfl⟩:=e
   simp only [List.zip_cons_cons,List.all_cons,Bool.and_eq_true]
   exact ⟨by have : (s == s) = true := (MapKept.bytes_beq s s).2 rfl
             simp [Instr.sameBits,this],valL_same n⟩
  ·rfl
theorem keyV_form {tk : TK} {x : V} (h : keyV tk x = true) : (∃ k n,tk = .int k ∧ x = .d (.int k n)) ∨ (tk = .bool ∧ ∃ b,x = .d (.bool b)) ∨ (tk = .str ∧ ∃ s,x = .d (.str s)) ∨ (∃ ks xs,tk = .keys ks ∧ x = .agg xs ∧ keyL ks xs = true):=by
 unfold keyV at h
 split at h
 ·simp at h; subst h; exact .inl ⟨_,_,rfl,rfl⟩
 ·exact .inr (.inl ⟨rfl,_,rfl⟩)
 ·exact .inr (.inr (.inl ⟨rfl,_,rfl⟩))
 ·exact .inr (.inr (.inr ⟨_,_,rfl,rfl,h⟩))
 ·cases h
theorem RV.aggV {ks : List KK} {xs : List V} {v : Value} (hx : RV g w L (.agg xs) v) (h : keyL ks xs = true) : v = .agg (valL xs).toArray:=by
 cases hx with | agg _ vs hl ho hr =>
 have:=keyL_val h (vs:=vs.toList) (by simpa using hl) fun j x v hx hv=>hr j x v hx (by simpa using hv)
 rw [← this]
theorem keyV_eq {tk : TK} {x y : V} {v u : Value} (hx : RV g w L x v) (hy : RV g w L y u) (h : keyV tk x = true) (h' : keyV tk y = true) : v = u ↔ x = y:=by
 rcases keyV_form h with ⟨k,n,rfl,rfl⟩ | ⟨rfl,b,rfl⟩ | ⟨rfl,s,rfl⟩ | ⟨ks,xs,rfl,rfl,h1⟩ <;> rcases keyV_form h' with ⟨k',n',e,rfl⟩ | ⟨e,b',rfl⟩ | ⟨e,s',rfl⟩ | ⟨ks',ys,e,rfl,h2⟩
 all_goals first | (cases e; done) | skip
 iterate 3
  ·cases hx with | d _ _ hd =>
   cases hd
   cases hy with | d _ _ hd =>
   cases hd
   cases e
   simp
 ·cases e
  rw [hx.aggV h1,hy.aggV h2]
  constructor
  ·intro h
   simp only [Value.agg.injEq] at h
   rw [valL_inj h1 h2 (by simpa using congrArg Array.toList h)]
  ·rintro ⟨⟩; rfl
theorem TIok.keyFields {P : Program} {t : TypeId} {ti : TI} (h : TIok P t ti) {fs : List (Nat × TypeId)} (hk : ti.k = .struct fs) :
  ∃ fields, P.underlying t = some (.struct fields) ∧ fields.toList.map (fun f => (f.offset, f.type)) = fs ∧ fields.toList.all (fun f => f.name != "_") = true := by
 obtain ⟨u,hu,hko⟩:=h.und
 rw [hk] at hko
 cases u <;> first | exact hko.elim | exact ⟨_,hu,hko.1,hko.2⟩
theorem keyL_drop {ks : List KK} {k : KK} {xs : List V} {i : Nat} (h : keyL (k :: ks) (xs.drop i) = true) : ∃ d,xs[i]? = some (.d d) ∧ xs.drop i = .d d :: xs.drop (i + 1) ∧ keyL ks (xs.drop (i + 1)) = true ∧ i + 1 ≤ xs.length ∧ ((∃ k0 n,k = .int k0 ∧ d = .int k0 n) ∨ ∃ s,k = .str ∧ d = .str s):=by
 have hd : xs.drop (i + 1) = (xs.drop i).tail:=by rw [List.tail_drop]
 rw [hd]
 have hg : xs[i]? = (xs.drop i)[0]?:=by rw [List.getElem?_drop]; rfl
 rw [hg]
 have hlen : xs.length - i = (xs.drop i).length:=by simp
 generalize xs.drop i = zs at *
 rcases keyL_cases h with ⟨e,_⟩ | ⟨k,n,ks',xs',e,rfl,h1⟩ | ⟨s,ks',xs',e,rfl,h1⟩ <;> cases e
 ·exact ⟨_,rfl,rfl,h1,by simp at hlen; omega,.inl ⟨_,_,rfl,rfl⟩⟩
 ·exact ⟨_,rfl,rfl,h1,by simp at hlen; omega,.inr ⟨_,rfl,rfl⟩⟩
theorem cut_one {ti : TI} (hk : ti.k.isAgg = false) (hs : ti.sz = 1) {xs : List V} {i : Nat} {x : V} (hx : xs[i]? = some x) (hl : i + 1 ≤ xs.length) : cut ti xs i = some x:=by
 unfold cut
 rw [hs,Nat.ble_eq_true_of_le hl,hk]
 have : (xs.drop i).take 1 = [x]:=by
  rw [List.drop_eq_getElem_cons (by omega)]
  rw [List.getElem?_eq_getElem (by omega)] at hx
  cases hx
  rfl
 simp [mk,this]
theorem kkOf_form {tk : TK} {k : KK} (h : kkOf tk = some k) : (∃ k0,tk = .int k0 ∧ k = .int k0) ∨ (tk = .str ∧ k = .str):=by
 unfold kkOf at h
 split at h
 ·cases h; exact .inl ⟨_,rfl,rfl⟩
 ·cases h; exact .inr ⟨rfl,rfl⟩
 ·cases h
theorem kkOf_agg {tk : TK} {k : KK} (h : kkOf tk = some k) : tk.isAgg = false:=by
 rcases kkOf_form h with ⟨k0,rfl,_⟩ | ⟨rfl,_⟩ <;> rfl
theorem run_checkFields (hC : C.OK) (em : Bool) (n : Nat) {xs : List V} {vs : Array Value} (hx : RV g w L (.agg xs) (.agg vs)) : ∀ (fl : List Field) (i : Nat) (ks : List KK), kindsS C i (fl.map (fun f => (f.offset, f.type))) = some ks → fl.all (fun f => f.name != "_") = true → keyL ks (xs.drop i) = true →
  (forIn fl PUnit.unit (fun f _=>do
    if f.name ≠ "_" then Instr.checkKey em (n + 1) f.type (← part f.type vs f.offset)
    pure (ForInStep.yield PUnit.unit)) : Sem PUnit).run C.P w = .ok PUnit.unit w
 | [],i,ks,_,_,_=>by simp
 | f :: fl,i,ks,h,hn,hk=>by
  simp only [List.map_cons,kindsS] at h
  cases hb : Nat.beq f.offset i with
  | false=>simp [hb] at h
  | true =>
  have hoff : f.offset = i:=Nat.eq_of_beq_eq_true hb
  simp only [hb,cond_true] at h
  cases ht : C.tt f.type with
  | none=>simp [ht] at h
  | some ti =>
  simp only [ht] at h
  cases htk : kkOf ti.k with
  | none=>simp [htk] at h
  | some k =>
  simp only [htk] at h
  cases hks : kindsS C (i + 1) (fl.map fun f=>(f.offset,f.type)) with
  | none=>simp [hks] at h
  | some ks' =>
  simp only [hks,Option.some.injEq] at h
  subst h
  have hT:=hC _ ti ht
  obtain ⟨d,h1,h2,h3,h4,hd⟩:=keyL_drop hk
  obtain ⟨r,hr,hR⟩:=part_ok hT hx (cut_one (kkOf_agg htk) (hT.one (kkOf_agg htk)) h1 h4)
  simp only [List.all_cons,Bool.and_eq_true] at hn
  have hname : f.name ≠ "_" := by simpa using hn.1
  cases hR with | d _ _ hR =>
  have h5 : (Instr.checkKey em (n + 1) f.type r).run C.P w = .ok () w:=by
   rcases hd with ⟨k0,m,rfl,rfl⟩ | ⟨s,rfl,rfl⟩ <;> rcases kkOf_form htk with ⟨k1,e1,e2⟩ | ⟨e1,e2⟩ <;> cases e2 <;> cases hR
   ·exact MapKept.run_checkKey (d:=.int k0) (k:=.int k0 m) (hT.intK e1) rfl em n
   ·exact MapKept.run_checkKey (d:=.string) (k:=.string s) (hT.strK e1) trivial em n
  have ih:=run_checkFields hC em n hx fl (i + 1) ks' hks hn.2 h3
  rw [List.forIn_cons]
  simp only [Sem.run_bind,hoff,hr,h5,hname,ne_eq,not_false_eq_true,if_true,Result.andThen_ok,Sem.run_pure]
  simpa using ih
theorem keyOne {k : KK} {d : D} {ti : TI} {e : TypeId} (hT : TIok C.P e ti) (htk : kkOf ti.k = some k) (hd : (∃ k0 n,k = .int k0 ∧ d = .int k0 n) ∨ ∃ s,k = .str ∧ d = .str s) {I : Nat → Prop} {r : Value} (hR : RD I w d r) (em : Bool) (n : Nat) : (Instr.checkKey em (n + 1) e r).run C.P w = .ok () w:=by
 rcases hd with ⟨k0,m,rfl,rfl⟩ | ⟨s,rfl,rfl⟩ <;> rcases kkOf_form htk with ⟨k1,e1,e2⟩ | ⟨e1,e2⟩ <;> cases e2 <;> cases hR
 ·exact MapKept.run_checkKey (d:=.int k0) (k:=.int k0 m) (hT.intK e1) rfl em n
 ·exact MapKept.run_checkKey (d:=.string) (k:=.string s) (hT.strK e1) trivial em n
theorem run_checkItems (hC : C.OK) (em : Bool) (n : Nat) {xs : List V} {vs : Array Value} (hx : RV g w L (.agg xs) (.agg vs)) {e : TypeId} {ti : TI} (ht : C.tt e = some ti) {k : KK} (htk : kkOf ti.k = some k) : ∀ (m i : Nat),keyL (List.replicate m k) (xs.drop i) = true →
  (forIn (List.range' i m) PUnit.unit (fun j _=>do
    Instr.checkKey em (n + 1) e (← part e vs (j * (← sizeOf e)))
    pure (ForInStep.yield PUnit.unit)) : Sem PUnit).run C.P w = .ok PUnit.unit w
 | 0,i,_=>by simp
 | m + 1,i,hk=>by
  have hT:=hC _ ti ht
  rw [List.replicate_succ] at hk
  obtain ⟨d,h1,h2,h3,h4,hd⟩:=keyL_drop hk
  obtain ⟨r,hr,hR⟩:=part_ok hT hx (cut_one (kkOf_agg htk) (hT.one (kkOf_agg htk)) h1 h4)
  cases hR with | d _ _ hR =>
  have h5:=keyOne hT htk hd hR em n
  have ih:=run_checkItems hC em n hx ht htk m (i + 1) h3
  rw [List.range'_succ,List.forIn_cons]
  have hs:=hT.run_sizeOf (w:=w)
  rw [hT.one (kkOf_agg htk)] at hs
  simp only [Sem.run_bind,hs,Nat.mul_one,hr,h5,Result.andThen_ok,Sem.run_pure]
  simpa using ih
theorem TIok.keyArr {P : Program} {t : TypeId} {ti : TI} (h : TIok P t ti) {n : Nat} {e : TypeId} (hk : ti.k = .arr n e) : P.underlying t = some (.array n e):=by
 obtain ⟨u,hu,hko⟩:=h.und
 rw [hk] at hko
 cases u <;> first | exact hko.elim | skip
 obtain ⟨rfl,rfl⟩:=hko
 exact hu
theorem run_check (hC : C.OK) {kt : TypeId} {ki : TI} (hkt : C.tt kt = some ki) {key : V} {kv : Value} (hx : RV g w L key kv) (h : keyV (keyTK C ki) key = true) (e : Bool) : (Instr.checkKey e 10000 kt kv).run C.P w = .ok () w:=by
 have hK:=hC kt ki hkt
 obtain ⟨u,hu,hku⟩:=hK.und
 unfold keyTK at h
 split at h
 ·rename_i k hk
  rcases keyV_form h with ⟨k,n,e1,rfl⟩ | ⟨e1,b,rfl⟩ | ⟨e1,s,rfl⟩ | ⟨ks,xs,e1,rfl,h1⟩ <;> cases e1
  cases hx with | d _ _ hd =>
  cases hd
  exact MapKept.run_checkKey (d:=.int k) (k:=.int k n) (hK.intK hk) rfl e 9999
 ·rename_i hk
  rcases keyV_form h with ⟨k,n,e1,rfl⟩ | ⟨e1,b,rfl⟩ | ⟨e1,s,rfl⟩ | ⟨ks,xs,e1,rfl,h1⟩ <;> cases e1
  cases hx with | d _ _ hd =>
  cases hd
  exact MapKept.run_checkKey (d:=.bool) (k:=.bool b) (hK.boolK hk) trivial e 9999
 ·rename_i hk
  rcases keyV_form h with ⟨k,n,e1,rfl⟩ | ⟨e1,b,rfl⟩ | ⟨e1,s,rfl⟩ | ⟨ks,xs,e1,rfl,h1⟩ <;> cases e1
  cases hx with | d _ _ hd =>
  cases hd
  exact MapKept.run_checkKey (d:=.string) (k:=.string s) (hK.strK hk) trivial e 9999
 ·rename_i fs hk
  cases he : ki.eqok with
  | false=>simp [he,keyV] at h
  | true =>
  simp only [he,cond_true] at h
  split at h
  ·rename_i ks hks
   cases key <;> first | (simp [keyV] at h; done) | skip
   rename_i xs
   have h : keyL ks xs = true:=h
   cases hx with | agg _ vs hl ho hr =>
   obtain ⟨fields,hu',hfs,hnames⟩:=hK.keyFields hk
   rw [Instr.checkKey]
   simp only [Sem.run_bind,run_underlying hu',Result.andThen_ok]
   rw [← Array.forIn_toList]
   subst hfs
   have:=run_checkFields hC e 9998 (RV.agg xs vs hl ho hr) fields.toList 0 ks hks hnames (by simpa using h)
   have h2 : ∀ (m : Sem PUnit) (h : m.run C.P w = .ok PUnit.unit w),(m.run C.P w).andThen (fun a w'=>Result.ok () w') = Result.ok () w:=fun m h=>by rw [h]; rfl
   refine Eq.trans ?_ (h2 _ this)
   simp
  ·simp [keyV] at h
 ·rename_i n el hk
  split at h
  ·rename_i ei hei
   split at h
   ·rename_i k0 hk0
    cases key <;> first | (simp [keyV] at h; done) | skip
    rename_i xs
    have h : keyL (List.replicate n k0) xs = true:=h
    cases hx with | agg _ vs hl ho hr =>
    have hu':=hK.keyArr hk
    rw [Instr.checkKey]
    simp only [Sem.run_bind,run_underlying hu',Result.andThen_ok]
    simp only [Std.Legacy.Range.forIn_eq_forIn_range',Std.Legacy.Range.size,Nat.sub_zero,Nat.add_one_sub_one,Nat.div_one]
    have:=run_checkItems hC e 9998 (RV.agg xs vs hl ho hr) hei hk0 n 0 (by simpa using h)
    have h2 : ∀ (m : Sem PUnit) (h : m.run C.P w = .ok PUnit.unit w),(m.run C.P w).andThen (fun a w'=>Result.ok () w') = Result.ok () w:=fun m h=>by rw [h]; rfl
    refine Eq.trans ?_ (h2 _ this)
    simp
   ·simp [keyV] at h
  ·simp [keyV] at h
 ·simp [keyV] at h
theorem eqFields_ints (hC : C.OK) (d : Nat) {xs ys : List V} {vs us : Array Value} (hx : RV g w L (.agg xs) (.agg vs)) (hy : RV g w L (.agg ys) (.agg us)) : ∀ (fl : List Field) (i : Nat) (ks : List KK), kindsS C i (fl.map (fun f => (f.offset, f.type))) = some ks → fl.all (fun f => f.name != "_") = true →
  keyL ks (xs.drop i) = true → keyL ks (ys.drop i) = true → ∃ r,(Op.eqFields (d + 1) vs us fl).run C.P w = .ok r w ∧ (r = true ↔ xs.drop i = ys.drop i)
 | [],i,ks,h,_,hk,hk'=>by
  simp only [List.map_nil,kindsS,Option.some.injEq] at h
  subst h
  have e1 : xs.drop i = []:=by cases h : xs.drop i with | nil=>rfl | cons=>rw [h] at hk; simp [keyL] at hk
  have e2 : ys.drop i = []:=by cases h : ys.drop i with | nil=>rfl | cons=>rw [h] at hk'; simp [keyL] at hk'
  exact ⟨true,by simp [Op.eqFields],by simp [e1,e2]⟩
 | f :: fl,i,ks,h,hn,hk,hk'=>by
  simp only [List.map_cons,kindsS] at h
  cases hb : Nat.beq f.offset i with
  | false=>simp [hb] at h
  | true =>
  have hoff : f.offset = i:=Nat.eq_of_beq_eq_true hb
  simp only [hb,cond_true] at h
  cases ht : C.tt f.type with
  | none=>simp [ht] at h
  | some ti =>
  simp only [ht] at h
  cases htk : kkOf ti.k with
  | none=>simp [htk] at h
  | some k =>
  simp only [htk] at h
  cases hks : kindsS C (i + 1) (fl.map fun f=>(f.offset,f.type)) with
  | none=>simp [hks] at h
  | some ks' =>
  simp only [hks,Option.some.injEq] at h
  subst h
  have hT:=hC _ ti ht
  obtain ⟨m,h1,h2,h3,h4,hd⟩:=keyL_drop hk
  obtain ⟨m',h1',h2',h3',h4',hd'⟩:=keyL_drop hk'
  obtain ⟨r,hr,hR⟩:=part_ok hT hx (cut_one (kkOf_agg htk) (hT.one (kkOf_agg htk)) h1 h4)
  obtain ⟨r',hr',hR'⟩:=part_ok hT hy (cut_one (kkOf_agg htk) (hT.one (kkOf_agg htk)) h1' h4')
  simp only [List.all_cons,Bool.and_eq_true] at hn
  have hname : f.name ≠ "_" := by simpa using hn.1
  cases hR with | d _ _ hR =>
  cases hR' with | d _ _ hR' =>
  have hone : ∃ q,(Op.equalIn (d + 1) f.type r r').run C.P w = .ok q w ∧ (q = true ↔ m = m'):=by
   rcases hd with ⟨k0,n,rfl,rfl⟩ | ⟨s,rfl,rfl⟩ <;> rcases hd' with ⟨k1,n',e,rfl⟩ | ⟨s',e,rfl⟩ <;> cases e <;> rcases kkOf_form htk with ⟨k2,e1,e2⟩ | ⟨e1,e2⟩ <;> cases e2 <;> cases hR <;> cases hR'
   ·exact ⟨n == n',run_equalIn_int w d f.type k0 k0 n n' (hT.intK e1),by simp⟩
   ·refine ⟨s == s',?_,?_⟩
    ·simp [Op.equalIn,run_underlying (hT.strK e1)]
    ·rw [MapKept.bytes_beq]; simp
  obtain ⟨q,hq1,hq2⟩:=hone
  obtain ⟨b,hb1,hb2⟩:=eqFields_ints hC d hx hy fl (i + 1) ks' hks hn.2 h3 h3'
  refine ⟨q && b,?_,?_⟩
  ·simp only [Op.eqFields,Sem.run_bind,hoff,hr,hr',hq1,Result.andThen_ok,hname,ne_eq,not_false_eq_true,if_true,Sem.run_ite]
   cases hmm : q with
   | false=>simp
   | true=>simp [hb1]
  ·rw [h2,h2']
   simp only [Bool.and_eq_true,List.cons.injEq,V.d.injEq,hq2,hb2]
theorem eqItems_ints (hC : C.OK) (d : Nat) {xs ys : List V} {vs us : Array Value} (hx : RV g w L (.agg xs) (.agg vs)) (hy : RV g w L (.agg ys) (.agg us)) {e : TypeId} {ti : TI} (ht : C.tt e = some ti) {k : KK} (htk : kkOf ti.k = some k) : ∀ (m i : Nat),
  keyL (List.replicate m k) (xs.drop i) = true → keyL (List.replicate m k) (ys.drop i) = true → ∃ r,(Op.eqItems (d + 1) e 1 vs us (List.range' i m)).run C.P w = .ok r w ∧ (r = true ↔ xs.drop i = ys.drop i)
 | 0,i,hk,hk'=>by
  have e1 : xs.drop i = []:=by cases h : xs.drop i with | nil=>rfl | cons=>rw [h] at hk; simp [keyL] at hk
  have e2 : ys.drop i = []:=by cases h : ys.drop i with | nil=>rfl | cons=>rw [h] at hk'; simp [keyL] at hk'
  exact ⟨true,by simp [Op.eqItems],by simp [e1,e2]⟩
 | m + 1,i,hk,hk'=>by
  have hT:=hC _ ti ht
  rw [List.replicate_succ] at hk hk'
  obtain ⟨m1,h1,h2,h3,h4,hd⟩:=keyL_drop hk
  obtain ⟨m2,h1',h2',h3',h4',hd'⟩:=keyL_drop hk'
  obtain ⟨r,hr,hR⟩:=part_ok hT hx (cut_one (kkOf_agg htk) (hT.one (kkOf_agg htk)) h1 h4)
  obtain ⟨r',hr',hR'⟩:=part_ok hT hy (cut_one (kkOf_agg htk) (hT.one (kkOf_agg htk)) h1' h4')
  cases hR with | d _ _ hR =>
  cases hR' with | d _ _ hR' =>
  have hone : ∃ q,(Op.equalIn (d + 1) e r r').run C.P w = .ok q w ∧ (q = true ↔ m1 = m2):=by
   rcases hd with ⟨k0,n,rfl,rfl⟩ | ⟨s,rfl,rfl⟩ <;> rcases hd' with ⟨k1,n',e,rfl⟩ | ⟨s',e,rfl⟩ <;> cases e <;> rcases kkOf_form htk with ⟨k2,e1,e2⟩ | ⟨e1,e2⟩ <;> cases e2 <;> cases hR <;> cases hR'
   ·exact ⟨n == n',run_equalIn_int w d _ k0 k0 n n' (hT.intK e1),by simp⟩
   ·refine ⟨s == s',?_,?_⟩
    ·simp [Op.equalIn,run_underlying (hT.strK e1)]
    ·rw [MapKept.bytes_beq]; simp
  obtain ⟨q,hq1,hq2⟩:=hone
  obtain ⟨b,hb1,hb2⟩:=eqItems_ints hC d hx hy ht htk m (i + 1) h3 h3'
  refine ⟨q && b,?_,?_⟩
  ·rw [List.range'_succ]
   simp only [Op.eqItems,Sem.run_bind,Nat.mul_one,hr,hr',hq1,Result.andThen_ok]
   cases hmm : q with
   | false=>simp
   | true=>simp [hb1]
  ·rw [h2,h2']
   simp only [Bool.and_eq_true,List.cons.injEq,V.d.injEq,hq2,hb2]
theorem run_findAsking {kt : TypeId} {kv : Value} : ∀ (es : List MapEntry) (i : Nat),(∀ e ∈ es,∃ r,(Op.equal kt kv e.key).run C.P w = .ok r w ∧ (r = true ↔ kv = e.key)) →
  ((Instr.findAsking kt kv es i).run C.P w = .ok none w ∧ ∀ e ∈ es,e.key ≠ kv) ∨
  ∃ j e,(Instr.findAsking kt kv es i).run C.P w = .ok (some (i + j,e.val)) w ∧ es[j]? = some e ∧ e.key = kv ∧ ∀ m x,m < j → es[m]? = some x → x.key ≠ kv
 | [],i,_=>.inl ⟨by simp [Instr.findAsking],by simp⟩
 | e :: es,i,hall=>by
  obtain ⟨r,hr,hiff⟩:=hall e (by simp)
  cases r
  ·have hne : e.key ≠ kv:=fun h=>by have:=hiff.2 h.symm; cases this
   rcases run_findAsking es (i + 1) (fun y hy=>hall y (by simp [hy])) with ⟨h1,h2⟩ | ⟨j,e',h1,h2,h3,h4⟩
   ·left
    refine ⟨by simp [Instr.findAsking,hr,h1],fun y hy=>?_⟩
    rcases List.mem_cons.1 hy with rfl | hy
    ·exact hne
    ·exact h2 y hy
   ·right
    refine ⟨j + 1,e',by simp [Instr.findAsking,hr,h1,Nat.add_assoc,Nat.add_comm 1 j],by simpa using h2,h3,fun m x hm hx=>?_⟩
    cases m with
    | zero=>simp at hx; subst hx; exact hne
    | succ m=>exact h4 m x (by omega) (by simpa using hx)
  ·right
   exact ⟨0,e,by simp [Instr.findAsking,hr],rfl,(hiff.1 rfl).symm,fun m x hm=>absurd hm (Nat.not_lt_zero m)⟩
theorem keyV_is {tk : TK} {u : TypeDesc} (hu : kindOK tk u) {x : V} {v : Value} (hx : RV g w L x v) (h : keyV tk x = true) : MapKept.IsKey u v:=by
 rcases keyV_form h with ⟨k,n,rfl,rfl⟩ | ⟨rfl,b,rfl⟩ | ⟨rfl,s,rfl⟩ | ⟨ks,xs,rfl,rfl,h1⟩
 iterate 3
  ·cases hx with | d _ _ hd =>
   cases hd
   cases u <;> first | exact hu.elim | skip
   first | exact (show _ = _ from hu) | trivial
 ·cases u <;> exact hu.elim
theorem find_now {tk : TK} {u : TypeDesc} (hu : kindOK tk u) {es : List (V × V)} {ents : List MapEntry} (hlen : ents.length = es.length) (hes : ∀ (i : Nat) (x : V × V) (e : MapEntry),es[i]? = some x → ents[i]? = some e → RV g w L x.1 e.key ∧ RV g w L x.2 e.val)
  {key : V} {kv : Value} (hkey : RV g w L key kv) (hk : keyV tk key = true) {k : Option (Nat × V) → Prop} (h : MapF tk es key k) :
  (∃ i v e,es[i]? = some (key,v) ∧ ents[i]? = some e ∧ e.key = kv ∧ k (some (i,v)) ∧ Instr.findNow u kv ents 0 = some (some (i,e.val))) ∨ (Instr.findNow u kv ents 0 = some none ∧ k none ∧ ∀ e ∈ ents,e.key ≠ kv):=by
 unfold MapF at h
 obtain ⟨h1,h2⟩:=h
 have ex : ∀ (i : Nat) (e : MapEntry),ents[i]? = some e → ∃ x,es[i]? = some x:=fun i e he=>⟨es[i]'(by have:=lt_of_get he; omega),List.getElem?_eq_getElem _⟩
 have hall : ∀ x ∈ ents,MapKept.IsKey u x.key:=by
  intro x hx
  obtain ⟨i,hi⟩:=List.mem_iff_getElem?.1 hx
  obtain ⟨y,hy⟩:=ex i x hi
  exact keyV_is hu (hes i y x hy hi).1 (h1 y (List.mem_of_getElem? hy))
 have hkv:=keyV_is hu hkey hk
 have heq : ∀ (i : Nat) (x : V × V) (e : MapEntry),es[i]? = some x → ents[i]? = some e → (e.key = kv ↔ x.1 = key):=fun i x e hx he =>
  keyV_eq (hes i x e hx he).1 hkey (h1 x (List.mem_of_getElem? hx)) hk
 rcases h2 with ⟨i,v,hi,hj,hk'⟩ | ⟨hno,hk'⟩
 ·left
  have hil : i < ents.length:=by have:=lt_of_get hi; omega
  refine ⟨i,v,ents[i],hi,List.getElem?_eq_getElem hil,(heq i _ _ hi (List.getElem?_eq_getElem hil)).2 rfl,hk',?_⟩
  have key' : ∀ (l : List MapEntry) (o j : Nat) (e : MapEntry),(∀ x ∈ l,MapKept.IsKey u x.key) → l[j]? = some e → e.key = kv → (∀ m x,m < j → l[m]? = some x → x.key ≠ kv) → Instr.findNow u kv l o = some (some (o + j,e.val)):=by
   intro l
   induction l with
   | nil=>intro o j e _ he; simp at he
   | cons a l ih =>
    intro o j e hl he hek hm
    obtain ⟨r,hr,hiff⟩:=MapKept.sameNow_of_keys hkv (hl a (by simp))
    cases j with
    | zero =>
     simp at he
     subst he
     have : r = true:=hiff.2 hek.symm
     subst this
     simp [Instr.findNow,hr]
    | succ j =>
     have hne : r = false:=by
      cases r with
      | false=>rfl
      | true=>exact absurd (hiff.1 rfl).symm (hm 0 a (by omega) rfl)
     subst hne
     have:=ih (o + 1) j e (fun x hx=>hl x (by simp [hx])) (by simpa using he) hek fun m x hm' hx=>hm (m + 1) x (by omega) (by simpa using hx)
     simp only [Instr.findNow,hr,this]
     congr 3
     omega
  have:=key' ents 0 i ents[i] hall (List.getElem?_eq_getElem hil) ((heq i _ _ hi (List.getElem?_eq_getElem hil)).2 rfl) fun m x hm hx=>by
   obtain ⟨y,hy⟩:=ex m x hx
   exact fun e=>hj m y hm hy ((heq m y x hy hx).1 e)
  simpa using this
 ·right
  refine ⟨?_,hk',fun e he hek=>?_⟩
  rotate_left 1
  ·obtain ⟨j,hj⟩:=List.mem_iff_getElem?.1 he
   obtain ⟨y,hy⟩:=ex j e hj
   exact hno y (List.mem_of_getElem? hy) ((heq j y e hy hj).1 hek)
  rcases MapKept.findNow_spec hkv ents 0 hall with ⟨h,_⟩ | ⟨j,e,_,he,hek⟩
  ·exact h
  ·obtain ⟨y,hy⟩:=ex j e he
   exact absurd ((heq j y e hy he).1 hek) (hno y (List.mem_of_getElem? hy))
theorem keyTK_plain {ki : TI} {tk : TK} (h : keyTK C ki = tk) (hno : ∀ ks,tk ≠ .keys ks) (hno' : tk ≠ .other) : ki.k = tk:=by
 subst h
 unfold keyTK at hno hno' ⊢
 split
 ·assumption
 ·assumption
 ·assumption
 ·rename_i fs hk
  simp only [hk] at hno hno'
  cases he : ki.eqok with
  | false=>simp [he] at hno'
  | true =>
  simp only [he,cond_true] at hno hno'
  split at hno
  ·rename_i ks hks
   exact absurd rfl (hno ks)
  ·rename_i hks
   simp [hks] at hno'
 ·rename_i n e hk
  simp only [hk] at hno hno'
  split at hno
  ·rename_i ei hei
   split at hno
   ·exact absurd rfl (hno _)
   ·rename_i hk0
    simp [hei,hk0] at hno'
  ·rename_i hei
   simp [hei] at hno'
 ·rename_i h1 h2 h3 h4 h5
  split at hno' <;> simp_all
theorem keyTK_keys {ki : TI} {ks : List KK} (h : keyTK C ki = .keys ks) : (∃ fs,ki.k = .struct fs ∧ ki.eqok = true ∧ kindsS C 0 fs = some ks) ∨ ∃ n e ei k,ki.k = .arr n e ∧ C.tt e = some ei ∧ kkOf ei.k = some k ∧ ks = List.replicate n k:=by
 unfold keyTK at h
 split at h
 all_goals first | (cases h; done) | skip
 ·rename_i fs hk
  cases he : ki.eqok with
  | false=>simp [he] at h
  | true =>
  simp only [he,cond_true] at h
  split at h
  ·rename_i ks' hks
   cases h
   exact .inl ⟨fs,hk,rfl,hks⟩
  ·cases h
 ·rename_i n e hk
  split at h
  ·rename_i ei hei
   split at h
   ·rename_i k hk0
    cases h
    exact .inr ⟨n,e,ei,k,hk,hei,hk0,rfl⟩
   ·cases h
  ·cases h
theorem equal_keys (hC : C.OK) {kt : TypeId} {ki : TI} (hkt : C.tt kt = some ki) {ks : List KK} (htk : keyTK C ki = .keys ks) : (match C.P.underlying kt with | some (.array _ _) | some (.struct _)=>true | _=>false) = true ∧
  ∀ {xs ys : List V} {vs us : Array Value},RV g w L (.agg xs) (.agg vs) → RV g w L (.agg ys) (.agg us) → keyL ks xs = true → keyL ks ys = true → ∃ r,(Op.equal kt (.agg vs) (.agg us)).run C.P w = .ok r w ∧ (r = true ↔ xs = ys):=by
 have hK:=hC kt ki hkt
 rcases keyTK_keys htk with ⟨fs,hks1,heq,hks⟩ | ⟨n,e,ei,k0,hk,hei,hk0,rfl⟩
 ·obtain ⟨fields,hu',hfs,hnames⟩:=hK.keyFields hks1
  subst hfs
  refine ⟨by rw [hu'],fun {xs ys vs us} hx hy hxs hys=>?_⟩
  obtain ⟨r,hr,hr2⟩:=eqFields_ints hC 9998 hx hy fields.toList 0 ks hks hnames (by simpa using hxs) (by simpa using hys)
  refine ⟨r,?_,by rw [hr2]; simp only [List.drop_zero]⟩
  have:=run_equalIn_struct w 9999 kt vs us (P:=C.P) (by rw [fieldsOf_eq hu']; exact hu') (hK.eqok heq).2
  rw [Op.equal]
  rw [show Op.maxDepth = 9999 + 1 from rfl,this,fieldsOf_eq hu',hr]
 ·have hu':=hK.keyArr hk
  have hT:=hC _ ei hei
  refine ⟨by rw [hu'],fun {xs ys vs us} hx hy hxs hys=>?_⟩
  obtain ⟨r,hr,hr2⟩:=eqItems_ints hC 9998 hx hy hei hk0 n 0 (by simpa using hxs) (by simpa using hys)
  refine ⟨r,?_,by rw [hr2]; simp only [List.drop_zero]⟩
  have hinf:=hT.info
  cases hi : C.P.info? e with
  | none=>rw [hi] at hinf; cases hinf
  | some inf =>
   rw [hi] at hinf
   have hsz : inf.size = ei.sz:=by
    simp only [Option.map_some,Option.some.injEq,Prod.mk.injEq] at hinf
    exact hinf.1
   have hcells : C.P.cellsOf e = 1:=by
    unfold Program.cellsOf
    rw [hi,Option.map_some,Option.getD_some,hsz,hT.one (kkOf_agg hk0)]
   have:=run_equalIn_array w 9999 vs us (P:=C.P) hu' hi
   rw [Op.equal]
   rw [show Op.maxDepth = 9999 + 1 from rfl,this,hcells,List.range_eq_range',hr]
theorem find_ok (hC : C.OK) {kt : TypeId} {ki : TI} (hkt : C.tt kt = some ki) {es : List (V × V)} {ents : List MapEntry} (hlen : ents.length = es.length) (hes : ∀ (i : Nat) (x : V × V) (e : MapEntry),es[i]? = some x → ents[i]? = some e → RV g w L x.1 e.key ∧ RV g w L x.2 e.val)
  {key : V} {kv : Value} (hkey : RV g w L key kv) (hk : keyV (keyTK C ki) key = true) {k : Option (Nat × V) → Prop} (h : MapF (keyTK C ki) es key k) :
  (∃ i v e,es[i]? = some (key,v) ∧ ents[i]? = some e ∧ e.key = kv ∧ k (some (i,v)) ∧ (Instr.findKey kt kv ents).run C.P w = .ok (some (i,e.val)) w) ∨ ((Instr.findKey kt kv ents).run C.P w = .ok none w ∧ k none ∧ ∀ e ∈ ents,e.key ≠ kv):=by
 have hK:=hC kt ki hkt
 obtain ⟨u,hu,hku⟩:=hK.und
 generalize htk : keyTK C ki = tk at hk h
 have plain : ki.k = tk → (∃ i v e,es[i]? = some (key,v) ∧ ents[i]? = some e ∧ e.key = kv ∧ k (some (i,v)) ∧ (Instr.findKey kt kv ents).run C.P w = .ok (some (i,e.val)) w) ∨ ((Instr.findKey kt kv ents).run C.P w = .ok none w ∧ k none ∧ ∀ e ∈ ents,e.key ≠ kv):=by
  intro e
  rw [e] at hku
  rcases find_now hku hlen hes hkey hk h with ⟨i,v,e,h1,h2,h3,h4,h5⟩ | ⟨h1,h2,h3⟩
  ·exact .inl ⟨i,v,e,h1,h2,h3,h4,MapKept.run_findKey hu h5⟩
  ·exact .inr ⟨MapKept.run_findKey hu h1,h2,h3⟩
 rcases keyV_form hk with ⟨k0,n,rfl,rfl⟩ | ⟨rfl,b,rfl⟩ | ⟨rfl,s,rfl⟩ | ⟨ks,xs,rfl,rfl,hxs⟩
 ·exact plain (keyTK_plain htk (fun ks e=>by cases e) (fun e=>by cases e))
 ·exact plain (keyTK_plain htk (fun ks e=>by cases e) (fun e=>by cases e))
 ·exact plain (keyTK_plain htk (fun ks e=>by cases e) (fun e=>by cases e))
 clear plain
 obtain ⟨hwide,hEq⟩:=equal_keys (g:=g) (L:=L) (w:=w) hC hkt htk
 rw [run_findKey_eq w hwide]
 unfold MapF at h
 obtain ⟨h1,h2⟩:=h
 have ex : ∀ (i : Nat) (e : MapEntry),ents[i]? = some e → ∃ x,es[i]? = some x:=fun i e he=>⟨es[i]'(by have:=lt_of_get he; omega),List.getElem?_eq_getElem _⟩
 have heqv : ∀ (i : Nat) (x : V × V) (e : MapEntry),es[i]? = some x → ents[i]? = some e → (e.key = kv ↔ x.1 = .agg xs):=fun i x e hx he =>
  keyV_eq (hes i x e hx he).1 hkey (h1 x (List.mem_of_getElem? hx)) hk
 have hkv:=hkey.aggV hxs
 have hask : ∀ e ∈ ents,∃ r,(Op.equal kt kv e.key).run C.P w = .ok r w ∧ (r = true ↔ kv = e.key):=by
  intro e he
  obtain ⟨i,hi⟩:=List.mem_iff_getElem?.1 he
  obtain ⟨y,hy⟩:=ex i e hi
  have hky:=h1 y (List.mem_of_getElem? hy)
  have hry:=(hes i y e hy hi).1
  rcases keyV_form hky with ⟨k0,n,e1,e2⟩ | ⟨e1,b,e2⟩ | ⟨e1,s,e2⟩ | ⟨ks',ys,e1,e2,hys⟩ <;> cases e1
  have hiff:=heqv i y e hy hi
  rw [e2] at hry hiff
  have hey:=hry.aggV hys
  rw [hey] at hry hiff ⊢
  rw [hkv] at hkey hiff ⊢
  obtain ⟨r,hr,hr2⟩:=hEq hkey hry hxs hys
  refine ⟨r,hr,?_⟩
  rw [hr2]
  constructor
  ·intro e; rw [e]
  ·intro e; have:=hiff.1 e.symm; cases this; rfl
 rcases run_findAsking (C:=C) (w:=w) ents 0 hask with ⟨f1,f2⟩ | ⟨j,e,f1,f2,f3,f4⟩
 ·right
  refine ⟨f1,?_,f2⟩
  rcases h2 with ⟨i,v,hi,hj,hk'⟩ | ⟨hno,hk'⟩
  ·have hil : i < ents.length:=by have:=lt_of_get hi; omega
   exact absurd ((heqv i _ _ hi (List.getElem?_eq_getElem hil)).2 rfl) (f2 _ (List.getElem_mem _))
  ·exact hk'
 ·left
  rcases h2 with ⟨i,v,hi,hj,hk'⟩ | ⟨hno,hk'⟩
  ·have hil : i < ents.length:=by have:=lt_of_get hi; omega
   have hie:=(heqv i _ _ hi (List.getElem?_eq_getElem hil)).2 rfl
   have : i = j:=by
    rcases Nat.lt_trichotomy i j with h | h | h
    ·exact absurd hie (f4 i _ h (List.getElem?_eq_getElem hil))
    ·exact h
    ·obtain ⟨y,hy⟩:=ex j e f2
     exact absurd ((heqv j y e hy f2).1 f3) (hj j y h hy)
   subst this
   exact ⟨i,v,e,hi,f2,f3,hk',by simpa using f1⟩
  ·obtain ⟨y,hy⟩:=ex j e f2
   exact absurd ((heqv j y e hy f2).1 f3) (hno y (List.mem_of_getElem? hy))
theorem run_stays {tk : TK} {key : V} {kv : Value} (hx : RV g w L key kv) (h : keyV tk key = true) : (Instr.keyThatStays kv kv).run C.P w = .ok kv w:=by
 rcases keyV_form h with ⟨k0,n,rfl,rfl⟩ | ⟨rfl,b,rfl⟩ | ⟨rfl,s,rfl⟩ | ⟨ks,xs,rfl,rfl,hxs⟩
 ·cases hx with | d _ _ hd=>cases hd; simp [Instr.keyThatStays,Instr.sameBits]
 ·cases hx with | d _ _ hd=>cases hd; simp [Instr.keyThatStays,Instr.sameBits]
 ·cases hx with | d _ _ hd =>
  cases hd
  have : (s == s) = true:=(MapKept.bytes_beq s s).2 rfl
  simp [Instr.keyThatStays,Instr.sameBits,this]
 ·rw [hx.aggV hxs]
  have : Instr.sameBits 10000 (.agg (valL xs).toArray) (.agg (valL xs).toArray) = true:=by
   have:=valL_same 9999 (xs:=xs)
   simp only [Instr.sameBits,beq_self_eq_true,Bool.true_and]
   exact this
  simp [Instr.keyThatStays,this]
theorem dense_empty : DenseM #[] 0:=⟨MapKept.stamped_empty 0,rfl,fun i e h=>by simp at h⟩
theorem dense_modify {es : Array MapEntry} {clock : Nat} (h : DenseM es clock) (i : Nat) (f : MapEntry → MapEntry) (hb : ∀ e ∈ es.toList,(f e).born = e.born) (hk : ∀ e ∈ es.toList,es[i]? = some e → (f e).key = e.key) : DenseM (es.modify i f) clock:=by
 refine ⟨MapKept.stamped_modify h.1 i f hb hk,by rw [Array.size_modify]; exact h.2.1,fun j e he=>?_⟩
 rw [Array.getElem?_modify] at he
 split at he
 ·cases hx : es[j]? with
  | none=>rw [hx] at he; cases he
  | some x =>
   rw [hx] at he
   cases he
   rw [hb x (Array.mem_toList_iff.2 (Array.mem_of_getElem? hx))]
   exact h.2.2 j x hx
 ·exact h.2.2 j e he
theorem dense_push {es : Array MapEntry} {clock : Nat} (h : DenseM es clock) {key val : Value} (hk : ∀ x ∈ es.toList,x.key ≠ key) : DenseM (es.push { key,val,born:=clock }) (clock + 1):=by
 refine ⟨MapKept.stamped_push h.1 hk,by rw [Array.size_push,h.2.1],fun j e he=>?_⟩
 rw [Array.getElem?_push] at he
 split at he
 ·rename_i hj
  cases he
  rw [hj]; exact h.2.1
 ·exact h.2.2 j e he
theorem dense_find {es : Array MapEntry} {clock : Nat} (h : DenseM es clock) {i : Nat} (hi : i < es.size) : es.findIdx? (fun e=>(e.born : Int) == (i : Int)) = some i:=by
 rw [Array.findIdx?_eq_some_iff_getElem]
 refine ⟨hi,?_,fun j hj=>?_⟩
 ·have:=h.2.2 i es[i] (Array.getElem?_eq_getElem hi)
  rw [this]; simp
 ·have hj' : j < es.size:=by omega
  have:=h.2.2 j es[j] (Array.getElem?_eq_getElem hj')
  rw [this]
  simp; omega
def zeroV (ti : TI) : V:=ofConst ti.zv
def vLookup (C : Ctx) (t : TypeId) (m key : V) (ok : Bool) (L : List Blk) (k : V → Prop) : Prop :=
 match C.tt t with
 | some ti=>match ti.k with
  | .map kt et=>match C.tt kt,C.tt et with
   | some ki,some ei=>bif keyV (keyTK C ki) key then
     match m with
     | .map b=>match L[b]? with
      | some (.map es)=>MapF (keyTK C ki) es key fun r=>match r with
       | some (_,v)=>k (bif ok then .tup [v,.d (.bool true)] else v)
       | none=>k (bif ok then .tup [zeroV ei,.d (.bool false)] else zeroV ei)
      | _=>False
     | .d .nilmap=>k (bif ok then .tup [zeroV ei,.d (.bool false)] else zeroV ei)
     | _=>False
    else False
   | _,_=>False
  | _=>False
 | none=>False
def vMapUpdate (C : Ctx) (t : TypeId) (m key v : V) (L : List Blk) (k : List Blk → Prop) : Prop :=
 match C.tt t with
 | some ti=>match ti.k with
  | .map kt _=>match C.tt kt with
   | some ki=>bif keyV (keyTK C ki) key then
     match m with
     | .map b=>match L[b]? with
      | some (.map es)=>MapF (keyTK C ki) es key fun r=>match r with
       | some (i,_)=>k (L.set b (.map (es.set i (key,v))))
       | none=>k (L.set b (.map (es ++ [(key,v)])))
      | _=>False
     | _=>False
    else False
   | none=>False
  | _=>False
 | none=>False
def vMapEntry (C : Ctx) (t : TypeId) (m key : V) (L : List Blk) (k : V → List Blk → Prop) : Prop :=
 match C.tt t with
 | some ti=>match ti.k with
  | .map kt et=>match C.tt kt,C.tt et with
   | some ki,some ei=>bif keyV (keyTK C ki) key then
     match m with
     | .map b=>match L[b]? with
      | some (.map es)=>MapF (keyTK C ki) es key fun r=>match r with
       | some (i,v)=>k (.tup [v,.d (.int .i64 i)]) (L.set b (.map (es.set i (key,v))))
       | none=>k (.tup [zeroV ei,.d (.int .i64 es.length)]) (L.set b (.map (es ++ [(key,zeroV ei)])))
      | _=>False
     | _=>False
    else False
   | _,_=>False
  | _=>False
 | none=>False
def vEntryStore (m s x : V) (L : List Blk) (k : List Blk → Prop) : Prop :=
 match m with
 | .map b=>match L[b]? with
  | some (.map es)=>match s with
   | .d (.int _ n)=>IdxN es.length n fun i=>GetE es i fun kv=>k (L.set b (.map (es.set i (kv.1,x))))
   | _=>False
  | _=>False
 | _=>False
theorem RV.tup2 {x y : V} {v u : Value} (hx : RV g w L x v) (hy : RV g w L y u) : RV g w L (.tup [x,y]) (.tuple #[v,u]):=by
 refine .tup _ _ rfl fun j z s hz hs=>?_
 match j with
 | 0=>simp at hz hs; subst hz hs; exact hx
 | 1=>simp at hz hs; subst hz hs; exact hy
 | j + 2=>simp at hz
theorem TIok.map {t : TypeId} {ti : TI} (h : TIok C.P t ti) {kt et : TypeId} (hk : ti.k = .map kt et) : C.P.underlying t = some (.map kt et):=by
 obtain ⟨u,hu,hku⟩:=h.und
 rw [hk] at hku
 cases u <;> first | exact hku.elim | skip
 obtain ⟨rfl,rfl⟩:=hku
 exact hu
theorem vLookup_ok (hC : C.OK) (hg : Good g w L) {t : TypeId} {m key : V} {ok : Bool} {mv kv : Value} (hm : RV g w L m mv) (hkey : RV g w L key kv) {k : V → Prop} (h : vLookup C t m key ok L k) :
  ∃ r X,(Instr.lookup t mv kv ok).run C.P w = .ok r w ∧ k X ∧ RV g w L X r:=by
 unfold vLookup at h
 cases ht : C.tt t with
 | none=>simp only [ht] at h
 | some ti =>
 simp only [ht] at h
 have hT:=hC t ti ht
 cases hk : ti.k
 all_goals first | (simp only [hk] at h; done) | skip
 rename_i kt et
 simp only [hk] at h
 have hmt:=hT.map hk
 cases hkt : C.tt kt with
 | none=>simp only [hkt] at h
 | some ki =>
 cases het : C.tt et with
 | none=>simp only [hkt,het] at h
 | some ei =>
 simp only [hkt,het] at h
 have hK:=hC kt ki hkt
 have hE:=hC et ei het
 obtain ⟨u,hu,hku⟩:=hK.und
 cases hkv : keyV (keyTK C ki) key with
 | false=>simp only [hkv,cond_false] at h
 | true =>
 simp only [hkv,cond_true] at h
 have hz : RV g w L (zeroV ei) ei.zv:=ofConst_ok g w L ei.zv
 have hck : ∀ e,(Instr.checkKey e 10000 kt kv).run C.P w = .ok () w:=run_check hC hkt hkey hkv
 split at h
 ·rename_i b
  split at h
  ·rename_i es hL
   obtain ⟨r,ents,clock,hmr,hh,hsz,hst,hrec⟩:=hg.blk b _ hL
   cases hm with
   | mapX _ a hL'=>rw [hL] at hL'; cases hL'
   | map _ r' es' hL' hm' =>
   rw [hmr] at hm'; cases hm'
   have hfound:=find_ok hC hkt (ents:=ents.toList) (by simpa using hsz) (fun i x e hx he=>hrec i x e hx (by simpa using he)) hkey hkv h
   rcases hfound with ⟨i,v,e,hi,he,hek,hk',hf⟩ | ⟨hf,hk',hne⟩
   ·have hv:=(hrec i _ e hi (by simpa using he)).2
    cases ok with
    | true=>exact ⟨_,_,by simp [Instr.lookup,run_underlying hmt,MapKept.run_getObj_map hh,hck,hf,Result.andThen],hk',hv.tup2 (.d _ _ (.bool true))⟩
    | false=>exact ⟨_,_,by simp [Instr.lookup,run_underlying hmt,MapKept.run_getObj_map hh,hck,hf,Result.andThen],hk',hv⟩
   ·cases ok with
    | true=>exact ⟨_,_,by simp [Instr.lookup,run_underlying hmt,MapKept.run_getObj_map hh,hck,hf,Result.andThen,hE.run_zero],hk',hz.tup2 (.d _ _ (.bool false))⟩
    | false=>exact ⟨_,_,by simp [Instr.lookup,run_underlying hmt,MapKept.run_getObj_map hh,hck,hf,Result.andThen,hE.run_zero],hk',hz⟩
  ·exact h.elim
 ·cases hm with | d _ _ hd =>
  cases hd
  have hf : (Instr.findKey kt kv ([] : List MapEntry)).run C.P w = .ok none w:=by simp [Instr.findKey,run_underlying hu,Instr.findNow]
  cases ok with
  | true=>exact ⟨_,_,by simp [Instr.lookup,run_underlying hmt,hck,hf,Result.andThen,hE.run_zero],h,hz.tup2 (.d _ _ (.bool false))⟩
  | false=>exact ⟨_,_,by simp [Instr.lookup,run_underlying hmt,hck,hf,Result.andThen,hE.run_zero],h,hz⟩
 ·exact h.elim
theorem map_step (hg : Good g w L) {b r : Nat} {es es' : List (V × V)} {ents ents' : Array MapEntry} {clock clock' : Nat} (hL : L[b]? = some (.map es)) (hm : g.m b = some r) (hh : w.heap[r]? = some (.map ents clock)) (hlen : ents'.size = es'.length) (hst : DenseM ents' clock')
  (hrec : ∀ (i : Nat) (x : V × V) (e : MapEntry),es'[i]? = some x → ents'[i]? = some e → RV g w L x.1 e.key ∧ RV g w L x.2 e.val) :
  Good g { w with heap:=w.heap.setIfInBounds r (.map ents' clock') } (L.set b (.map es')) ∧ Prog L.length g w L g { w with heap:=w.heap.setIfInBounds r (.map ents' clock') } (L.set b (.map es')):=by
 have hbl:=lt_of_get hL
 have S : Step g w L b (.map es') g { w with heap:=w.heap.setIfInBounds r (.map ents' clock') }:=by
  refine ⟨hg,⟨_,hL,by simp⟩,by rw [hL]; simp,⟨rfl,rfl,rfl⟩,by simp,rfl,fun _ _=>rfl,fun _ _=>rfl,fun q o ho hne=>?_,fun r hr=>.inl hr,?_⟩
  ·have : q ≠ r:=fun e=>hne (by rw [e]; exact hm)
   rw [(MapKept.heap_set hh).2 q this]; exact ho
  ·exact ⟨fun cs e=>(by rw [hL] at e; cases e),fun gen sz els e=>(by rw [hL] at e; cases e),fun es0 _=>.inr ⟨_,List.getElem?_set_self hbl,rfl⟩,fun l e=>(by rw [hL] at e; cases e),fun e=>(by rw [hL] at e; cases e)⟩
 refine ⟨S.good' ⟨r,ents',clock',hm,(MapKept.heap_set hh).1,hlen,hst,fun i x e hx he=>?_⟩,S.prog⟩
 obtain ⟨h1,h2⟩:=hrec i x e hx he
 exact ⟨S.mono h1,S.mono h2⟩
theorem vMapUpdate_ok (hC : C.OK) (hg : Good g w L) {t : TypeId} {m key x : V} {mv kv xv : Value} (hm : RV g w L m mv) (hkey : RV g w L key kv) (hx : RV g w L x xv) {k : List Blk → Prop} (h : vMapUpdate C t m key x L k) :
  ∃ w' L',(Instr.mapUpdate t mv kv xv).run C.P w = .ok () w' ∧ k L' ∧ Good g w' L' ∧ Prog L.length g w L g w' L':=by
 unfold vMapUpdate at h
 cases ht : C.tt t with
 | none=>simp only [ht] at h
 | some ti =>
 simp only [ht] at h
 have hT:=hC t ti ht
 cases hk : ti.k
 all_goals first | (simp only [hk] at h; done) | skip
 rename_i kt et
 simp only [hk] at h
 have hmt:=hT.map hk
 cases hkt : C.tt kt with
 | none=>simp only [hkt] at h
 | some ki =>
 simp only [hkt] at h
 have hK:=hC kt ki hkt
 obtain ⟨u,hu,hku⟩:=hK.und
 cases hkv : keyV (keyTK C ki) key with
 | false=>simp only [hkv,cond_false] at h
 | true =>
 simp only [hkv,cond_true] at h
 have hck : ∀ e,(Instr.checkKey e 10000 kt kv).run C.P w = .ok () w:=run_check hC hkt hkey hkv
 split at h
 ·rename_i b
  split at h
  ·rename_i es hL
   obtain ⟨r,ents,clock,hmr,hh,hsz,hst,hrec⟩:=hg.blk b _ hL
   cases hm with
   | mapX _ a hL'=>rw [hL] at hL'; cases hL'
   | map _ r' es' hL' hm' =>
   rw [hmr] at hm'; cases hm'
   have hfound:=find_ok hC hkt (ents:=ents.toList) (by simpa using hsz) (fun i x e hx he=>hrec i x e hx (by simpa using he)) hkey hkv h
   rcases hfound with ⟨i,v,e,hi,he,hek,hk',hf⟩ | ⟨hf,hk',hne⟩
   ·have he' : ents[i]? = some e:=by simpa using he
    have hks : (Instr.keyThatStays (((ents[i]?).map (·.key)).getD kv) kv).run C.P w = .ok kv w:=by
     rw [he']; simp only [Option.map_some,Option.getD_some,hek]; exact run_stays hkey hkv
    obtain ⟨h1,h2⟩:=map_step (ents':=ents.modify i fun e=>{ e with key:=kv,val:=xv }) (es':=es.set i (key,x)) (clock':=clock) hg hL hmr hh (by simp [hsz]) (dense_modify hst i _ (fun _ _=>rfl) (fun e' _ h=>by rw [he'] at h; cases h; exact hek.symm)) (fun j y f hy hf'=>by
     by_cases ej : i = j
     ·subst ej
      rw [List.getElem?_set_self (lt_of_get hi)] at hy
      cases hy
      rw [Array.getElem?_modify,if_pos rfl,he'] at hf'
      cases hf'
      exact ⟨hkey,hx⟩
     ·rw [List.getElem?_set_ne ej] at hy
      rw [Array.getElem?_modify,if_neg ej] at hf'
      exact hrec j y f hy hf')
    exact ⟨_,_,by simp [Instr.mapUpdate,run_underlying hmt,MapKept.run_getObj_map hh,hck,hf,hks,MapKept.run_setObj_map _ hh,Result.andThen],hk',h1,h2⟩
   ·obtain ⟨h1,h2⟩:=map_step (ents':=ents.push { key:=kv,val:=xv,born:=clock }) (es':=es ++ [(key,x)]) (clock':=clock + 1) hg hL hmr hh (by simp [hsz]) (dense_push hst hne) (fun j y f hy hf'=>by
     rcases Nat.lt_or_ge j es.length with hj | hj
     ·rw [List.getElem?_append_left hj] at hy
      rw [Array.getElem?_push,if_neg (by omega)] at hf'
      exact hrec j y f hy hf'
     ·rw [List.getElem?_append_right hj] at hy
      have : j = es.length:=by
       have:=lt_of_get hy
       simp at this; omega
      subst this
      simp at hy
      subst hy
      rw [Array.getElem?_push,if_pos hsz.symm] at hf'
      cases hf'
      exact ⟨hkey,hx⟩)
    exact ⟨_,_,by simp [Instr.mapUpdate,run_underlying hmt,MapKept.run_getObj_map hh,hck,hf,MapKept.run_setObj_map _ hh,Result.andThen],hk',h1,h2⟩
  ·exact h.elim
 ·exact h.elim
theorem vMapEntry_ok (hC : C.OK) (hg : Good g w L) {t : TypeId} {m key : V} {mv kv : Value} (hm : RV g w L m mv) (hkey : RV g w L key kv) {k : V → List Blk → Prop} (h : vMapEntry C t m key L k) :
  ∃ rv w' X L',(Instr.mapEntry t mv kv).run C.P w = .ok rv w' ∧ k X L' ∧ RV g w' L' X rv ∧ Good g w' L' ∧ Prog L.length g w L g w' L':=by
 unfold vMapEntry at h
 cases ht : C.tt t with
 | none=>simp only [ht] at h
 | some ti =>
 simp only [ht] at h
 have hT:=hC t ti ht
 cases hk : ti.k
 all_goals first | (simp only [hk] at h; done) | skip
 rename_i kt et
 simp only [hk] at h
 have hmt:=hT.map hk
 cases hkt : C.tt kt with
 | none=>simp only [hkt] at h
 | some ki =>
 cases het : C.tt et with
 | none=>simp only [hkt,het] at h
 | some ei =>
 simp only [hkt,het] at h
 have hK:=hC kt ki hkt
 have hE:=hC et ei het
 obtain ⟨u,hu,hku⟩:=hK.und
 cases hkv : keyV (keyTK C ki) key with
 | false=>simp only [hkv,cond_false] at h
 | true =>
 simp only [hkv,cond_true] at h
 have hz : RV g w L (zeroV ei) ei.zv:=ofConst_ok g w L ei.zv
 have hck : ∀ e,(Instr.checkKey e 10000 kt kv).run C.P w = .ok () w:=run_check hC hkt hkey hkv
 split at h
 ·rename_i b
  split at h
  ·rename_i es hL
   obtain ⟨r,ents,clock,hmr,hh,hsz,hst,hrec⟩:=hg.blk b _ hL
   cases hm with
   | mapX _ a hL'=>rw [hL] at hL'; cases hL'
   | map _ r' es' hL' hm' =>
   rw [hmr] at hm'; cases hm'
   have hfound:=find_ok hC hkt (ents:=ents.toList) (by simpa using hsz) (fun i x e hx he=>hrec i x e hx (by simpa using he)) hkey hkv h
   rcases hfound with ⟨i,v,e,hi,he,hek,hk',hf⟩ | ⟨hf,hk',hne⟩
   ·have he' : ents[i]? = some e:=by simpa using he
    have hks : (Instr.keyThatStays e.key kv).run C.P w = .ok kv w:=by
     rw [hek]; exact run_stays hkey hkv
    have hv:=(hrec i _ e hi he').2
    have hbn:=hst.2.2 i e he'
    obtain ⟨h1,h2⟩:=map_step (ents':=ents.modify i fun e=>{ e with key:=kv }) (es':=es.set i (key,v)) (clock':=clock) hg hL hmr hh (by simp [hsz]) (dense_modify hst i _ (fun _ _=>rfl) (fun e' _ h=>by rw [he'] at h; cases h; exact hek.symm)) (fun j y f hy hf'=>by
     by_cases ej : i = j
     ·subst ej
      rw [List.getElem?_set_self (lt_of_get hi)] at hy
      cases hy
      rw [Array.getElem?_modify,if_pos rfl,he'] at hf'
      cases hf'
      exact ⟨hkey,hv⟩
     ·rw [List.getElem?_set_ne ej] at hy
      rw [Array.getElem?_modify,if_neg ej] at hf'
      exact hrec j y f hy hf')
    refine ⟨.tuple #[e.val,goInt i],_,_,_,?_,hk',(h2.mono _ _ hv.bel hv).tup2 (.d _ _ (.int .i64 i)),h1,h2⟩
    simp [Instr.mapEntry,run_underlying hmt,MapKept.run_getObj_map hh,hck,hf,hks,MapKept.run_setObj_map _ hh,Result.andThen,he',hbn]
   ·obtain ⟨h1,h2⟩:=map_step (ents':=ents.push { key:=kv,val:=ei.zv,born:=clock }) (es':=es ++ [(key,zeroV ei)]) (clock':=clock + 1) hg hL hmr hh (by simp [hsz]) (dense_push hst hne) (fun j y f hy hf'=>by
     rcases Nat.lt_or_ge j es.length with hj | hj
     ·rw [List.getElem?_append_left hj] at hy
      rw [Array.getElem?_push,if_neg (by omega)] at hf'
      exact hrec j y f hy hf'
     ·rw [List.getElem?_append_right hj] at hy
      have : j = es.length:=by
       have:=lt_of_get hy
       simp at this; omega
      subst this
      simp at hy
      subst hy
      rw [Array.getElem?_push,if_pos hsz.symm] at hf'
      cases hf'
      exact ⟨hkey,hz⟩)
    have hcl : clock = es.length:=by rw [hst.2.1,hsz]
    refine ⟨.tuple #[ei.zv,goInt clock],_,_,_,?_,hk',(h2.mono _ _ hz.bel hz).tup2 (by rw [hcl]; exact .d _ _ (.int .i64 _)),h1,h2⟩
    simp [Instr.mapEntry,run_underlying hmt,MapKept.run_getObj_map hh,hck,hf,MapKept.run_setObj_map _ hh,Result.andThen,hE.run_zero]
  ·exact h.elim
 ·exact h.elim
theorem vEntryStore_ok (hg : Good g w L) {t : TypeId} {m s x : V} {mv sv xv : Value} (hm : RV g w L m mv) (hs : RV g w L s sv) (hx : RV g w L x xv) {k : List Blk → Prop} (h : vEntryStore m s x L k) :
  ∃ w' L',(Instr.entryStore t mv sv xv).run C.P w = .ok () w' ∧ k L' ∧ Good g w' L' ∧ Prog L.length g w L g w' L':=by
 unfold vEntryStore at h
 split at h
 ·rename_i b
  split at h
  ·rename_i es hL
   obtain ⟨r,ents,clock,hmr,hh,hsz,hst,hrec⟩:=hg.blk b _ hL
   cases hm with
   | mapX _ a hL'=>rw [hL] at hL'; cases hL'
   | map _ r' es' hL' hm' =>
   rw [hmr] at hm'; cases hm'
   split at h
   ·rename_i kk n
    unfold IdxN at h
    obtain ⟨i,hn,hi,h⟩:=h
    unfold GetE at h
    obtain ⟨kv,hkv,h⟩:=h
    cases hs with | d _ _ hd =>
    cases hd
    subst hn
    have hie : i < ents.size:=by omega
    have he' : ents[i]? = some ents[i]:=Array.getElem?_eq_getElem hie
    have hr:=hrec i kv ents[i] hkv he'
    obtain ⟨h1,h2⟩:=map_step (ents':=ents.modify i fun e=>{ e with val:=xv }) (es':=es.set i (kv.1,x)) (clock':=clock) hg hL hmr hh (by simp [hsz]) (dense_modify hst i _ (fun _ _=>rfl) (fun e' _ h=>rfl)) (fun j y f hy hf'=>by
     by_cases ej : i = j
     ·subst ej
      rw [List.getElem?_set_self hi] at hy
      cases hy
      rw [Array.getElem?_modify,if_pos rfl,he'] at hf'
      cases hf'
      exact ⟨hr.1,hx⟩
     ·rw [List.getElem?_set_ne ej] at hy
      rw [Array.getElem?_modify,if_neg ej] at hf'
      exact hrec j y f hy hf')
    refine ⟨_,_,?_,h,h1,h2⟩
    simp [Instr.entryStore,MapKept.run_getObj_map hh,asInt,asIntOf,dense_find hst hie,MapKept.run_setObj_map _ hh,Result.andThen]
   ·exact h.elim
  ·exact h.elim
 ·exact h.elim
theorem makeMap_ok (hg : Good g w L) : Good (g.add L.length (some w.heap.size) 0) (w.alloc (.map #[] 0)) (L ++ [.map []]) ∧ Prog L.length g w L (g.add L.length (some w.heap.size) 0) (w.alloc (.map #[] 0)) (L ++ [.map []]) ∧
  RV (g.add L.length (some w.heap.size) 0) (w.alloc (.map #[] 0)) (L ++ [.map []]) (.map L.length) (.map (some w.heap.size)):=by
 refine ⟨alloc_good hg _ _ (fun q h=>by cases h; rfl) 0 ⟨w.heap.size,#[],0,by simp [Gh.add],(MapKept.heap_alloc w _).1,rfl,dense_empty,fun i x e hx=>by simp at hx⟩,alloc_prog hg _ _ _ (fun q h=>by cases h; rfl) 0,?_⟩
 exact .map _ _ [] (by simp) (by simp [Gh.add])
end
end Go.Tidy
/-
 The base layer: interface values; the bytes of strings.
-/
namespace Go.Tidy
section
variable {C : Ctx} {g : Gh} {w : World} {L : List Blk}
def dOf : V → Option D
 | .d x=>some x
 | .nil=>some (.sl [])
 | .tt=>some (.bool true)
 | .ff=>some (.bool false)
 | _=>none
theorem dOf_ok {x : V} {d : D} {v : Value} (h : dOf x = some d) (hx : RV g w L x v) : RD g.I w d v:=by
 unfold dOf at h
 split at h
 ·cases h; cases hx; assumption
 ·cases h; cases hx; exact .slNil none 0
 ·cases h; cases hx; exact .bool _
 ·cases h; cases hx; exact .bool _
 ·cases h
def dsOf : List V → Option (List D)
 | []=>some []
 | x :: r=>match dOf x with
  | some d=>match dsOf r with
   | some ds=>some (d :: ds)
   | none=>none
  | none=>none
theorem dsOf_get : ∀ {cs : List V} {ds : List D},dsOf cs = some ds → cs.length = ds.length ∧ ∀ (j : Nat) (d : D),ds[j]? = some d → ∃ x,cs[j]? = some x ∧ dOf x = some d
 | [],ds,h=>by cases h; exact ⟨rfl,fun j d h=>by simp at h⟩
 | x :: r,ds,h=>by
  unfold dsOf at h
  split at h
  ·rename_i d hd
   split at h
   ·rename_i ds' hds
    cases h
    obtain ⟨h1,h2⟩:=dsOf_get hds
    refine ⟨by simp [h1],fun j y hj=>?_⟩
    cases j with
    | zero=>simp at hj; subst hj; exact ⟨x,rfl,hd⟩
    | succ j=>simpa using h2 j y (by simpa using hj)
   ·cases h
  ·cases h
def isConc : TK → Bool
 | .int _ | .bool | .str | .sl _ | .map _ _ | .struct _ | .arr _ _ | .ptr _ | .func=>true
 | _=>false
theorem conc_und {P : Program} {t : TypeId} {ti : TI} (hT : TIok P t ti) (h : isConc ti.k = true) : ∃ u,P.underlying t = some u ∧ ∀ ms,u ≠ .interface ms:=by
 obtain ⟨u,hu,hk⟩:=hT.und
 refine ⟨u,hu,fun ms e=>?_⟩
 subst e
 revert hk h
 cases ti.k <;> simp [isConc,kindOK]
def vMakeIface (C : Ctx) (t : TypeId) (x : V) (k : V → Prop) : Prop :=
 match C.tt t with
 | none=>False
 | some ti=>bif isConc ti.k then match x with
   | .agg cs=>match dsOf cs with
    | some ds=>k (.d (.iface t true ds))
    | none=>k (.iface t (.agg cs))
   | x=>match dOf x with
    | some d=>k (.d (.iface t false [d]))
    | none=>k (.iface t x)
  else False
theorem run_makeIface {P : Program} {t : TypeId} {ti : TI} (hT : TIok P t ti) (h : isConc ti.k = true) (v : Value) (w : World) : (Instr.makeInterface t v).run P w = .ok (.iface t v) w:=by
 obtain ⟨u,hu,hn⟩:=conc_und hT h
 unfold Instr.makeInterface
 rw [Sem.run_bind,run_underlying hu,Result.andThen_ok]
 cases u <;> first | rfl | exact absurd rfl (hn _)
theorem vMakeIface_ok (hC : C.OK) {t : TypeId} {x : V} {v : Value} (hx : RV g w L x v) {k : V → Prop} (h : vMakeIface C t x k) : ∃ r X,(Instr.makeInterface t v).run C.P w = .ok r w ∧ k X ∧ RV g w L X r:=by
 unfold vMakeIface at h
 cases ht : C.tt t with
 | none=>simp [ht] at h
 | some ti =>
 simp only [ht] at h
 have hT:=hC t ti ht
 cases hk : isConc ti.k with
 | false=>simp [hk] at h
 | true =>
 simp only [hk,cond_true] at h
 refine ⟨.iface t v,?_⟩
 have hrun:=run_makeIface hT hk v w
 split at h
 ·rename_i cs
  split at h
  ·rename_i ds hds
   refine ⟨_,hrun,h,.d _ _ ?_⟩
   cases hx with | agg _ vs hlen hone hrec =>
   obtain ⟨h1,h2⟩:=dsOf_get hds
   refine .ifaceA t ds vs (by omega) fun j d v hd hv=>?_
   obtain ⟨x,hx1,hx2⟩:=h2 j d hd
   exact dOf_ok hx2 (hrec j x v hx1 hv)
  ·exact ⟨_,hrun,h,.iface t _ v hx⟩
 ·split at h
  ·rename_i d hd
   exact ⟨_,hrun,h,.d _ _ (.ifaceL t d v (dOf_ok hd hx))⟩
  ·exact ⟨_,hrun,h,.iface t _ v hx⟩
def unI : Bool → List D → V
 | true,ds=>.agg (ds.map .d)
 | false,[x]=>.d x
 | _,_=>.poison
theorem unI_ok {t : TypeId} {b : Bool} {ds : List D} {v : Value} (h : RD g.I w (.iface t b ds) v) : ∃ u,v = .iface t u ∧ RV g w L (unI b ds) u:=by
 cases h with
 | ifaceA _ _ vs hlen hrec =>
  refine ⟨_,rfl,.agg _ vs (by simp [hlen]) (fun j u hu=>?_) (fun j x u hx hu=>?_)⟩
  ·have hj : j < ds.length:=by have:=(Array.getElem?_eq_some_iff.1 hu).1; omega
   exact (hrec j _ u (List.getElem?_eq_getElem hj) hu).one
  ·rw [List.getElem?_map] at hx
   cases e : ds[j]? with
   | none=>rw [e] at hx; cases hx
   | some d=>rw [e] at hx; cases hx; exact .d _ _ (hrec j d u e hu)
 | ifaceL _ x u hr=>exact ⟨_,rfl,.d _ _ hr⟩
def vHold (ok : Bool) (y : V) (k : V → Prop) : Prop:=match ok with
 | true=>k (.tup [y,.d (.bool true)])
 | false=>k y
def vFail (ok : Bool) (k : V → Prop) : Prop:=match ok with
 | true=>k (.tup [.poison,.d (.bool false)])
 | false=>False
def vTypeAssert (C : Ctx) (x : V) (t : TypeId) (ok : Bool) (k : V → Prop) : Prop :=
 match C.tt t with
 | none=>False
 | some ti=>bif isConc ti.k then match x with
   | .d (.iface t' b ds)=>match Nat.beq t' t with
    | true=>vHold ok (unI b ds) k
    | false=>vFail ok k
   | .iface t' y=>match Nat.beq t' t with
    | true=>vHold ok y k
    | false=>vFail ok k
   | .d .niliface=>vFail ok k
   | _=>False
  else False
theorem vTypeAssert_ok (hC : C.OK) {t xt : TypeId} {x : V} {v : Value} {ok : Bool} (hx : RV g w L x v) {k : V → Prop} (h : vTypeAssert C x t ok k) : ∃ r X,(Instr.typeAssert v xt t ok).run C.P w = .ok r w ∧ k X ∧ RV g w L X r:=by
 unfold vTypeAssert at h
 cases ht : C.tt t with
 | none=>simp [ht] at h
 | some ti =>
 simp only [ht] at h
 have hT:=hC t ti ht
 cases hk : isConc ti.k with
 | false=>simp [hk] at h
 | true =>
 simp only [hk,cond_true] at h
 obtain ⟨u,hu,hn⟩:=conc_und hT hk
 have pair : ∀ (y : V) (a : Value) (b : Bool),RV g w L y a → RV g w L (.tup [y,.d (.bool b)]) (.tuple #[a,.bool b]):=fun y a b hy =>
  .tup _ _ rfl fun j x v hx hv=>by
   match j,hx,hv with
   | 0,hx,hv=>cases hx; cases hv; exact hy
   | 1,hx,hv=>cases hx; cases hv; exact .d _ _ (.bool _)
   | j + 2,hx,_=>simp at hx
 have hold : ∀ (y : V) (a : Value),RV g w L y a → vHold ok y k → ∃ r X,(Instr.typeAssert (.iface t a) xt t ok).run C.P w = .ok r w ∧ k X ∧ RV g w L X r:=by
  intro y a hy h
  have hrun : (Instr.typeAssert (.iface t a) xt t ok).run C.P w = .ok (if ok then .tuple #[a,.bool true] else a) w:=by
   unfold Instr.typeAssert
   simp only []
   rw [Sem.run_bind,run_underlying hu,Result.andThen_ok]
   cases u <;> first | (simp; done) | exact absurd rfl (hn _)
  cases ok with
  | true=>exact ⟨_,_,hrun,h,pair y a true hy⟩
  | false=>exact ⟨_,_,hrun,h,hy⟩
 have fail : ∀ (a : Value),(∀ u,(∃ t',a = .iface t' u ∧ t' ≠ t) ∨ a = .nilIface → True) → ((∃ t' u,a = .iface t' u ∧ t' ≠ t) ∨ a = .nilIface) → vFail ok k → ∃ r X,(Instr.typeAssert a xt t ok).run C.P w = .ok r w ∧ k X ∧ RV g w L X r:=by
  intro a _ ha h
  cases ok with
  | false=>exact h.elim
  | true =>
   refine ⟨.tuple #[ti.zv,.bool false],_,?_,h,pair _ _ _ (.poison _)⟩
   unfold Instr.typeAssert
   simp only []
   rw [Sem.run_bind,run_underlying hu,Result.andThen_ok]
   rcases ha with ⟨t',b,rfl,hne⟩ | rfl
   ·cases u <;> first | (simp [hne,hT.run_zero]; done) | exact absurd rfl (hn _)
   ·cases u <;> first | (simp [hT.run_zero]; done) | exact absurd rfl (hn _)
 split at h
 ·rename_i t' b ds
  cases hx with | d _ _ hd =>
  obtain ⟨a,rfl,ha⟩:=unI_ok (L:=L) hd
  cases hb : Nat.beq t' t with
  | true =>
   simp only [hb] at h
   have:=Nat.eq_of_beq_eq_true hb
   subst this
   exact hold _ a ha h
  | false =>
   simp only [hb] at h
   exact fail _ (fun _ _=>trivial) (.inl ⟨_,_,rfl,fun e=>by subst e; simp at hb⟩) h
 ·rename_i t' y
  cases hx with | iface _ _ a ha =>
  cases hb : Nat.beq t' t with
  | true =>
   simp only [hb] at h
   have:=Nat.eq_of_beq_eq_true hb
   subst this
   exact hold _ a ha h
  | false =>
   simp only [hb] at h
   exact fail _ (fun _ _=>trivial) (.inl ⟨_,_,rfl,fun e=>by subst e; simp at hb⟩) h
 ·cases hx with | d _ _ hd =>
  cases hd
  exact fail _ (fun _ _=>trivial) (.inr rfl) h
 ·exact h.elim
def MethOK (P : Program) (t : TypeId) (name : String) (f : FuncId) : Prop:=∀ (v : Value) (w : World),(method (P.types.size + Made.depth) t v name).run P w = .ok (f,v) w
@[irreducible] def MethP (C : Ctx) (t : TypeId) (name : String) (k : FuncId → Prop) : Prop:=∃ f,MethOK C.P t name f ∧ k f
theorem MethP.intro {t : TypeId} {name : String} {k : FuncId → Prop} (f : FuncId) (h : MethOK C.P t name f) (hk : k f) : MethP C t name k:=by unfold MethP; exact ⟨f,h,hk⟩
def byteAt (s : ByteArray) (j : Nat) : Int:=((s.data.getD j 0).toNat : Int)
def vIndex (C : Ctx) (t : TypeId) (x i : V) (k : V → Prop) : Prop :=
 match C.tt t with
 | none=>False
 | some ti=>match ti.k with
  | .str=>match x,i with
   | .d (.str s),.d (.int _ n)=>IdxN s.size n fun j=>k (.d (.int .u8 (byteAt s j)))
   | _,_=>False
  | .arr m e=>match C.tt e with
   | some ei=>match x,i with
    | .agg cs,.d (.int _ n)=>IdxN m n fun j=>match cut ei cs (j * ei.sz) with
     | some y=>k y
     | none=>False
    | _,_=>False
   | none=>False
  | _=>False
theorem vIndex_ok (hC : C.OK) {t : TypeId} {x i : V} {v u : Value} (hx : RV g w L x v) (hi : RV g w L i u) {k : V → Prop} (h : vIndex C t x i k) : ∃ r X,(Instr.index t v u).run C.P w = .ok r w ∧ k X ∧ RV g w L X r:=by
 unfold vIndex at h
 cases ht : C.tt t with
 | none=>simp [ht] at h
 | some ti =>
 simp only [ht] at h
 have hT:=hC t ti ht
 split at h
 ·rename_i hk
  split at h
  ·rename_i s kk n
   cases hx with | d _ _ hx=>cases hx; cases hi with | d _ _ hi =>
   cases hi
   unfold IdxN at h
   obtain ⟨j,hj,hlt,hkj⟩:=h
   subst hj
   have hs : s[j]? = some (s.data.getD j 0):=by
    have h1 : s[j]? = some s[j]:=getElem?_pos s j hlt
    rw [h1]
    have h2 : s[j] = s.data[j]'hlt:=rfl
    rw [h2]
    have hlt' : j < s.data.size:=hlt
    simp [Array.getD]
    intro hh
    exact absurd hlt (Nat.not_lt.2 hh)
   refine ⟨_,_,?_,hkj,.d _ _ (.int _ _)⟩
   simp only [Instr.index,asIntOf,Sem.run_bind,Sem.run_pure,Result.andThen_ok,run_underlying (hT.strK hk)]
   simp only [Int.toNat_natCast,hs,byteAt,Int.natCast_nonneg,if_true]
   rfl
  ·exact h.elim
 ·rename_i m e hk
  split at h
  rotate_left
  ·exact h.elim
  rename_i ei he
  have hE:=hC e ei he
  split at h
  rotate_left
  ·exact h.elim
  rename_i cs kk n
  cases hi with | d _ _ hi =>
  cases hi
  unfold IdxN at h
  obtain ⟨j,hj,hlt,h⟩:=h
  subst hj
  split at h
  rotate_left
  ·exact h.elim
  rename_i y hy
  have hx0:=hx
  cases hx with | agg _ vs hl ho hr =>
  obtain ⟨r,h1,h2⟩:=part_ok hE hx0 hy
  refine ⟨r,_,?_,h,h2⟩
  simp only [Instr.index,asIntOf,Sem.run_bind,Sem.run_pure,Result.andThen_ok,run_underlying (hT.array hk)]
  simp [hE.run_sizeOf,h1,hlt]
 ·exact h.elim
@[irreducible] def MakeP (n m : Int) (k : Nat → Prop) : Prop:=∃ a b : Nat,n = a ∧ m = b ∧ a ≤ b ∧ b ≤ 4294967296 ∧ k a
theorem MakeP.intro {n m : Int} {k : Nat → Prop} (a b : Nat) (h1 : n = a) (h2 : m = b) (h3 : a ≤ b) (h4 : b ≤ 4294967296) (hk : k a) : MakeP n m k:=by unfold MakeP; exact ⟨a,b,h1,h2,h3,h4,hk⟩
def vMakeSlice (C : Ctx) (t : TypeId) (x y : V) (L : List Blk) (k : V → List Blk → Prop) : Prop :=
 match C.tt t with
 | some ti=>match ti.k with
  | .sl e=>match C.tt e with
   | some ei=>bif zokB ei && Nat.beq ei.zv.cells.size ei.sz && Nat.blt 0 ei.sz && Nat.ble ei.bytes 4096 then
     match x,y with
     | .d (.int _ n),.d (.int _ m)=>MakeP n m fun a=>k (.own L.length 0 0 a) (L ++ [.row 0 ei.sz (List.replicate a (Go.Tidy.zeroCells ei))])
     | _,_=>False
    else False
   | none=>False
  | _=>False
 | none=>False
theorem made_get {z : Array Value} {n j : Nat} {u : Value} (hz : 0 < z.size) (h : (madeCells z n).toList[j]? = some u) : z[j % z.size]? = some u:=by
 have hj : j < n:=by have:=lt_of_get h; simpa [madeCells] using this
 have hm:=Nat.mod_lt j hz
 rw [Array.getElem?_eq_getElem hm]
 unfold madeCells at h
 simp only [Array.toList_map,Array.toList_range,List.getElem?_map,List.getElem?_range hj,Option.map_some,Option.some.injEq] at h
 rw [getElem!_pos z (j % z.size) hm] at h
 rw [h]
theorem vMakeSlice_ok (hC : C.OK) (hg : Good g w L) {t : TypeId} {x y : V} {v u : Value} (hx : RV g w L x v) (hy : RV g w L y u) {k : V → List Blk → Prop} (h : vMakeSlice C t x y L k) :
  ∃ r w' X L' g',(Instr.makeSlice t v u).run C.P w = .ok r w' ∧ k X L' ∧ RV g' w' L' X r ∧ Good g' w' L' ∧ Prog L.length g w L g' w' L':=by
 unfold vMakeSlice at h
 cases ht : C.tt t with
 | none=>simp only [ht] at h
 | some ti =>
 simp only [ht] at h
 split at h
 ·rename_i e hk
  cases he : C.tt e with
  | none=>simp only [he] at h
  | some ei =>
  simp only [he] at h
  have hE:=hC e ei he
  cases hc : (zokB ei && Nat.beq ei.zv.cells.size ei.sz && Nat.blt 0 ei.sz && Nat.ble ei.bytes 4096) with
  | false=>simp only [hc,cond_false] at h
  | true =>
  simp only [hc,cond_true] at h
  rw [Bool.and_eq_true,Bool.and_eq_true,Bool.and_eq_true] at hc
  obtain ⟨⟨⟨c0,c1⟩,c2⟩,c3⟩:=hc
  have c1:=Nat.eq_of_beq_eq_true c1
  have c2 : 0 < ei.sz:=by simpa [Nat.blt_eq] using c2
  have c3:=Nat.le_of_ble_eq_true c3
  split at h
  ·rename_i k1 n k2 m
   unfold MakeP at h
   obtain ⟨a,b,rfl,rfl,hab,hb,h⟩:=h
   obtain ⟨hl,hone,hrec⟩:=zeroCells_ok g w L c0
   have hv : v = .int k1 a:=by cases hx with | d _ _ hd=>cases hd; rfl
   have hu : u = .int k2 b:=by cases hy with | d _ _ hd=>cases hd; rfl
   subst hv hu
   obtain ⟨i,hi,hs,hby,hz⟩:=hE.infos
   have hels : ∀ e ∈ List.replicate a (Go.Tidy.zeroCells ei),e.length = ei.sz:=fun e he=>by rw [List.eq_of_mem_replicate he,hl,c1]
   have hle : a * ei.sz ≤ b * ei.sz:=Nat.mul_le_mul_right _ hab
   obtain ⟨g',r1,r2,r3⟩:=newRow_ok hg e c2 hels (vs:=(madeCells ei.zv.cells (b * ei.sz)).toList.take (a * ei.sz)) (spare:=(madeCells ei.zv.cells (b * ei.sz)).toList.drop (a * ei.sz)) (by
    refine ⟨?_,fun j u hu=>?_,fun j y u hy hu=>?_⟩
    ·rw [flatten_len hels,List.length_replicate,List.length_take,Array.length_toList,size_madeCells,Nat.min_eq_left hle]
    ·rw [List.getElem?_take] at hu
     split at hu
     ·exact hone _ u (made_get (by rw [c1]; exact c2) hu)
     ·cases hu
    ·rw [List.getElem?_take] at hu
     split at hu
     ·rename_i hj
      have hu:=made_get (by rw [c1]; exact c2) hu
      rw [c1] at hu
      have hj2 : j / ei.sz < a:=(Nat.div_lt_iff_lt_mul c2).2 hj
      have e1:=flatten_get hels (i:=j / ei.sz) (j:=j % ei.sz) (Nat.mod_lt _ c2)
      rw [Nat.mul_comm,Nat.div_add_mod] at e1
      rw [e1,List.getElem?_replicate,if_pos hj2] at hy
      exact hrec _ y u hy hu
     ·cases hu) (fun j u hu=>by
    rw [List.getElem?_drop] at hu
    exact hone _ u (made_get (by rw [c1]; exact c2) hu)) b (by
    rw [List.length_take,List.length_drop,Array.length_toList,size_madeCells,Nat.min_eq_left hle]; omega) (by rw [List.length_replicate]; exact ⟨hab,by omega⟩)
   rw [List.length_replicate,List.take_append_drop,Array.toArray_toList] at r1
   rw [List.take_append_drop,Array.toArray_toList] at r2 r3
   refine ⟨_,_,_,_,g',?_,h,r1,r2,r3⟩
   have hrun:=run_make (P:=C.P) w t e i ei.zv ((hC t ti ht).slice hk) hi hz k1 k2 a b (by omega) (by omega) (by
    rw [hby]
    have : ei.bytes * b ≤ 4096 * 4294967296:=Nat.mul_le_mul c3 hb
    have h2 : ((ei.bytes * b : Nat) : Int) ≤ 281474976710656:=by omega
    rwa [Int.natCast_mul] at h2) (by omega)
   rw [hs,Int.toNat_natCast,Int.toNat_natCast] at hrun
   exact hrun
  ·exact h.elim
 ·exact h.elim
end
end Go.Tidy
/-
 The base layer: blocks that speak of few others; blocks that are dropped.
-/
namespace Go.Tidy
theorem look_cons (fr : List (Nat × V)) (d i : Nat) (v : V) : look ((d,v) :: fr) i = if d = i then v else look fr i:=by
 simp only [look]
 by_cases h : d = i
 ·subst h; simp
 ·have : Nat.beq d i = false:=by
   cases hb : Nat.beq d i with
   | false=>rfl
   | true=>exact absurd (Nat.eq_of_beq_eq_true hb) h
  simp [this,h]
def belF (n : Nat) : List (Nat × V) → Bool
 | []=>true
 | p :: r=>p.2.bel n && belF n r
def belM (n : Nat) : List (V × V) → Bool
 | []=>true
 | p :: r=>p.1.bel n && p.2.bel n && belM n r
def belR (n : Nat) : List (List V) → Bool
 | []=>true
 | p :: r=>V.belL n p && belR n r
def Blk.bel (n : Nat) : Blk → Bool
 | .cells cs=>V.belL n cs
 | .row _ _ els=>belR n els
 | .map es=>belM n es
 | .loop l=>belF n l.fr && decide (l.df < n)
 | .defr=>true
 | .dead=>true
def belB (n : Nat) : List Blk → Bool
 | []=>true
 | k :: r=>k.bel n && belB n r
theorem belF_look {n : Nat} : ∀ {fr : List (Nat × V)},belF n fr = true → ∀ i,(look fr i).bel n = true
 | [],_,i=>rfl
 | (d,v) :: r,h,i=>by
  simp only [belF,Bool.and_eq_true] at h
  rw [look_cons]
  split
  ·exact h.1
  ·exact belF_look h.2 i
theorem belM_get {n : Nat} : ∀ {es : List (V × V)},belM n es = true → ∀ {i : Nat} {x : V × V},es[i]? = some x → x.1.bel n = true ∧ x.2.bel n = true
 | [],_,i,x,h=>by simp at h
 | p :: r,h,0,x,hx=>by simp only [belM,Bool.and_eq_true] at h; simp at hx; exact hx ▸ h.1
 | p :: r,h,i + 1,x,hx=>by simp only [belM,Bool.and_eq_true] at h; exact belM_get h.2 (by simpa using hx)
theorem belR_get {n : Nat} : ∀ {els : List (List V)},belR n els = true → ∀ {i j : Nat} {x : V},(els[i]?).bind (fun e=>e[j]?) = some x → x.bel n = true
 | [],_,i,j,x,h=>by simp at h
 | p :: r,h,0,j,x,hx=>by simp only [belR,Bool.and_eq_true] at h; exact V.belL_get h.1 (by simpa using hx)
 | p :: r,h,i + 1,j,x,hx=>by simp only [belR,Bool.and_eq_true] at h; exact belR_get h.2 (by simpa using hx)
theorem belB_get {n : Nat} : ∀ {L : List Blk},belB n L = true → ∀ {i : Nat} {k : Blk},L[i]? = some k → k.bel n = true
 | [],_,i,k,h=>by simp at h
 | p :: r,h,0,k,hx=>by simp only [belB,Bool.and_eq_true] at h; simp at hx; exact hx ▸ h.1
 | p :: r,h,i + 1,k,hx=>by simp only [belB,Bool.and_eq_true] at h; exact belB_get h.2 (by simpa using hx)
section
variable {C : Ctx} {g : Gh} {w : World} {L : List Blk} {r : Option Nat}
theorem RB.mono_bel {g g' : Gh} {w w' : World} {L L' : List Blk} {b n : Nat} {k : Blk} (hb : k.bel n = true) (hmono : ∀ (x : V) (v : Value),x.bel n = true → RV g w L x v → RV g' w' L' x v)
  (hm : g'.m b = g.m b) (hcap : g'.cap b = g.cap b) (hheap : ∀ r o,g.m b = some r → w.heap[r]? = some o → w'.heap[r]? = some o)
  (hdf : ∀ l,k = .loop l → g'.m l.df = g.m l.df ∧ (L[l.df]? = some .defr → L'[l.df]? = some .defr)) (h : RB g w L b k) : RB g' w' L' b k:=by
 cases k with
 | cells cs =>
  obtain ⟨r,cur,T,h1,h2,h3,h4,h5⟩:=h
  exact ⟨r,cur,T,hm.trans h1,hheap r _ h1 h2,h3,h4,fun i x v hx hv=>hmono x v (V.belL_get hb hx) (h5 i x v hx hv)⟩
 | row gen sz els =>
  obtain ⟨h0,h1,⟨h2,h3⟩ | ⟨r,cur,T,h2,h3,h4,h5,h6,h7⟩⟩:=h
  ·exact ⟨h0,h1,.inl ⟨hm.trans h2,h3⟩⟩
  ·exact ⟨h0,h1,.inr ⟨r,cur,T,hm.trans h2,hheap r _ h2 h3,by rw [hcap]; exact h4,h5,h6,fun i j x v hx hv=>hmono x v (belR_get hb hx) (h7 i j x v hx hv)⟩⟩
 | map es =>
  obtain ⟨r,ents,clock,h1,h2,h3,hst,h4⟩:=h
  exact ⟨r,ents,clock,hm.trans h1,hheap r _ h1 h2,h3,hst,fun i x e hx he=>⟨hmono _ _ (belM_get hb hx).1 (h4 i x e hx he).1,hmono _ _ (belM_get hb hx).2 (h4 i x e hx he).2⟩⟩
 | loop l =>
  simp only [Blk.bel,Bool.and_eq_true] at hb
  obtain ⟨r,rec,h1,h2,h3,h4,h5,h6,h7,h8,h9,h10,h11⟩:=h
  exact ⟨r,rec,hm.trans h1,hheap r _ h1 h2,h3,h4,h5,h6,h7,h8,fun i=>hmono _ _ (belF_look hb.1 i) (h9 i),(hdf l rfl).1.trans h10,(hdf l rfl).2 h11.1,h11.2⟩
 | defr =>
  obtain ⟨r,h1,h2⟩:=h
  exact ⟨r,hm.trans h1,hheap r _ h1 h2⟩
 | dead=>trivial
theorem take_get {n b : Nat} (hb : b < n) : (L.take n)[b]? = L[b]?:=by rw [List.getElem?_take,if_pos hb]
theorem take_live {n b : Nat} (h : live (L.take n) b) : b < n ∧ live L b:=by
 obtain ⟨k,hk,hd⟩:=h
 rw [List.getElem?_take] at hk
 split at hk
 ·exact ⟨by assumption,k,hk,hd⟩
 ·cases hk
theorem drop_good (hg : Good g w L) {n : Nat} (hB : belB n (L.take n) = true) (I' : Nat → Prop) (hI : ∀ q,g.I q → I' q) (hI' : ∀ q,I' q → g.I q ∨ ∃ b,n ≤ b ∧ live L b ∧ g.m b = some q) :
  (∀ (x : V) (v : Value),x.bel n = true → RV g w L x v → RV { g with I:=I' } w (L.take n) x v) ∧ Good { g with I:=I' } w (L.take n):=by
 have hmono : ∀ (x : V) (v : Value),x.bel n = true → RV g w L x v → RV { g with I:=I' } w (L.take n) x v:=fun x v hx h =>
  RV.mono (g:=g) (g':={ g with I:=I' }) (L:=L) (L':=L.take n) hI (fun a v _ h=>h) (fun b hb=>Keep.same (take_get hb) rfl rfl) hx h
 refine ⟨hmono,?_,?_,?_,?_,hg.gl.mono hI (fun a v _ h=>h)⟩
 ·intro b b' q h1 h2 hm1 hm2
  exact hg.inj b b' q (take_live h1).2 (take_live h2).2 hm1 hm2
 ·rintro q ⟨b,h1,hm⟩ hq
  obtain ⟨hbn,hl⟩:=take_live h1
  rcases hI' q hq with h | ⟨b',hb',hl',hm'⟩
  ·exact hg.dis q ⟨b,hl,hm⟩ h
  ·have:=hg.inj b b' q hl hl' hm hm'; omega
 ·intro q hq
  rcases hI' q hq with h | ⟨b',hb',hl',hm'⟩
  ·exact hg.lt q h
  ·exact hg.owned_lt ⟨b',hl',hm'⟩
 ·intro b k hk
  have hkb:=belB_get hB hk
  rw [List.getElem?_take] at hk
  split at hk
  ·refine RB.mono_bel hkb hmono rfl rfl (fun _ _ _ h=>h) (fun l hl=>⟨rfl,fun h=>?_⟩) (hg.blk b k hk)
   subst hl
   simp only [Blk.bel,Bool.and_eq_true,decide_eq_true_eq] at hkb
   rw [take_get hkb.2]; exact h
  ·cases hk
theorem drop_prog (hg : Good g w L) {n k : Nat} (hk : k ≤ n) (hB : belB n (L.take n) = true) (hn : n ≤ L.length) (I' : Nat → Prop) (hI : ∀ q,g.I q → I' q) (hI' : ∀ q,I' q → g.I q ∨ ∃ b,n ≤ b ∧ live L b ∧ g.m b = some q) :
  Prog k g w L { g with I:=I' } w (L.take n):=by
 obtain ⟨hmono,hgood⟩:=drop_good hg hB I' hI hI'
 refine ⟨⟨rfl,rfl,rfl⟩,Nat.le_refl _,fun _ _ h _=>h,?_,?_,hI,fun x v hx h=>hmono x v (V.bel_le hk x hx) h,fun b q hb hL hm=>⟨by rw [take_get (by omega)]; exact hL,hm⟩,fun _=>by simp; omega⟩
 ·rintro q ⟨b,h1,hm⟩ _
  exact ⟨b,(take_live h1).2,hm⟩
 ·intro q hq
  rcases hI' q hq with h | ⟨b',hb',hl',hm'⟩
  ·exact .inl h
  ·exact .inr (.inr ⟨b',hl',hm'⟩)
end
end Go.Tidy
/-
 The base layer: slicing,length,calls; one operation.
-/
namespace Go.Tidy
section
variable {C : Ctx} {g : Gh} {w : World} {L : List Blk}
def isB (o : Option V) (dflt n : Nat) : Prop :=
 match o with
 | none=>n = dflt
 | some (.d (.int _ a))=>a = n
 | _=>False
@[irreducible] def SliceP (n : Nat) (lo hi : Option V) (k : Nat → Nat → Prop) : Prop:=∃ l h : Nat,isB lo 0 l ∧ isB hi n h ∧ l ≤ h ∧ h ≤ n ∧ k l h
theorem SliceP.intro {n : Nat} {lo hi : Option V} {k : Nat → Nat → Prop} (l h : Nat) (h1 : isB lo 0 l) (h2 : isB hi n h) (h3 : l ≤ h) (h4 : h ≤ n) (hk : k l h) : SliceP n lo hi k:=by
 unfold SliceP; exact ⟨l,h,h1,h2,h3,h4,hk⟩
def chunks (sz : Nat) (cs : List D) (n : Nat) : List (List D):=(List.range n).map fun i=>(cs.drop (i * sz)).take sz
theorem chunks_get {sz n i : Nat} {cs : List D} (h : i < n) : (chunks sz cs n)[i]? = some ((cs.drop (i * sz)).take sz):=by
 unfold chunks
 rw [List.getElem?_map,List.getElem?_eq_getElem (by rw [List.length_range]; exact h),List.getElem_range]; rfl
theorem chunks_len (sz n : Nat) (cs : List D) : (chunks sz cs n).length = n:=by unfold chunks; simp
theorem chunk_len {sz n i : Nat} {cs : List D} (hl : cs.length = n * sz) (h : i < n) : ((cs.drop (i * sz)).take sz).length = sz:=by
 have : (i + 1) * sz ≤ n * sz:=Nat.mul_le_mul_right sz h
 rw [Nat.add_mul,Nat.one_mul] at this
 rw [List.length_take,List.length_drop]; omega
def vSlice (C : Ctx) (t : TypeId) (x : V) (lo hi mx : Option V) (L : List Blk) (k : V → Prop) : Prop :=
 match mx with
 | some _=>False
 | none=>match C.tt t with
  | some ti=>match ti.k with
   | .sl e=>match C.tt e with
    | some ei=>match x with
     | .d (.sl els)=>Need (∀ e ∈ els,e.length = ei.sz) (SliceP els.length lo hi fun l h=>k (.d (.sl ((els.drop l).take (h - l)))))
     | .own b gen o len=>match L[b]? with
      | some (.row gen' sz _)=>bif Nat.beq gen gen' && Nat.beq sz ei.sz then SliceP len lo hi fun l h=>k (.own b gen (o + l) (h - l)) else False
      | _=>False
     | .nil=>SliceP 0 lo hi fun _ _=>k .nil
     | _=>False
    | none=>False
   | .str=>match x with
    | .d (.str s)=>SliceP s.size lo hi fun l h=>k (.d (.str (s.extract l h)))
    | _=>False
   | .arr n e=>match C.tt e with
    | some ei=>match x with
     | .d (.rptr cs)=>bif Nat.beq cs.length (n * ei.sz) then SliceP n lo hi fun l h=>k (.d (.sl (((chunks ei.sz cs n).drop l).take (h - l)))) else False
     | _=>False
    | none=>False
   | _=>False
  | none=>False
def RO (g : Gh) (w : World) (L : List Blk) : Option V → Option Value → Prop
 | none,none=>True
 | some x,some v=>RV g w L x v
 | _,_=>False
theorem run_bound {P : Program} {o : Option V} {p : Option Value} (h : RO g w L o p) {d n y : Nat} (hb : isB o d n) (hn : n ≤ y) (code : BoundsCode) {v : Value} (hp : p = some v) : (Instr.sliceBound v y code).run P w = .ok n w:=by
 subst hp
 cases o with
 | none=>exact h.elim
 | some x =>
  unfold isB at hb
  split at hb
  ·simp_all
  ·rename_i kk a heq
   simp only [Option.some.injEq] at heq
   subst heq hb
   have h' : RV g w L (.d (.int kk n)) v:=h
   cases h' with | d _ _ hd =>
   cases hd
   simp [Instr.sliceBound,asIntOf]
   intro hh; omega
  ·exact hb.elim
theorem run_bounds {P : Program} {lo hi : Option V} {plo phi : Option Value} (hlo : RO g w L lo plo) (hhi : RO g w L hi phi) {len cap l h : Nat} (h1 : isB lo 0 l) (h2 : isB hi len h) (h3 : l ≤ h) (h4 : h ≤ len) (h5 : len ≤ cap) (b : Bool) :
  (Instr.sliceBounds b len cap plo phi none).run P w = .ok (l,h,cap) w:=by
 unfold Instr.sliceBounds
 cases phi with
 | none =>
  cases hi with
  | some x=>exact hhi.elim
  | none =>
  have e : h = len:=h2
  subst e
  cases plo with
  | none =>
   cases lo with
   | some x=>exact hlo.elim
   | none =>
   have e : l = 0:=h1
   subst e
   simp
  | some v =>
   have:=run_bound (P:=P) hlo h1 h3 .sliceB rfl
   simp [this]
 | some u =>
  have hu:=fun code=>run_bound (P:=P) hhi h2 (show h ≤ cap by omega) code (v:=u) rfl
  cases plo with
  | none =>
   cases lo with
   | some x=>exact hlo.elim
   | none =>
   have e : l = 0:=h1
   subst e
   cases b <;> simp [hu]
  | some v =>
   have:=run_bound (P:=P) hlo h1 h3 .sliceB rfl
   cases b <;> simp [hu,this]
theorem vSlice_ok (hC : C.OK) (_hg : Good g w L) {t : TypeId} {x : V} {lo hi mx : Option V} {v : Value} {plo phi pmx : Option Value} (hx : RV g w L x v) (hlo : RO g w L lo plo) (hhi : RO g w L hi phi) (hmx : RO g w L mx pmx)
  {k : V → Prop} (h : vSlice C t x lo hi mx L k) : ∃ r X,(Instr.sliceAt t v plo phi pmx).run C.P w = .ok r w ∧ k X ∧ RV g w L X r:=by
 unfold vSlice at h
 cases mx with
 | some _=>exact h.elim
 | none =>
 cases pmx with
 | some _=>exact hmx.elim
 | none =>
 simp only at h
 cases ht : C.tt t with
 | none=>simp [ht] at h
 | some ti =>
 simp only [ht] at h
 have hT:=hC t ti ht
 split at h
 ·rename_i e hk
  cases he : C.tt e with
  | none=>simp [he] at h
  | some ei =>
  simp only [he] at h
  have hE:=hC e ei he
  have hsl:=hT.slice hk
  have hrun : ∀ (a : Option Addr) (len cap l hh : Nat),isB lo 0 l → isB hi len hh → l ≤ hh → hh ≤ len → len ≤ cap → (Instr.sliceAt t (.slice a len cap) plo phi none).run C.P w = .ok (.slice (if cap = l then a else a.map (·.add (l * ei.sz))) (hh - l) (cap - l)) w:=by
   intro a len cap l hh h1 h2 h3 h4 h5
   have:=run_bounds (P:=C.P) (w:=w) hlo hhi h1 h2 h3 h4 h5 true
   simp [Instr.sliceAt,Instr.slice,run_underlying hsl,this,hE.run_sizeOf]
  split at h
  ·rename_i els
   obtain ⟨hlen,h⟩:=h.out
   unfold SliceP at h
   obtain ⟨l,hh,h1,h2,h3,h4,h⟩:=h
   cases hx with | d _ _ hd =>
   cases hd with
   | slNil a c =>
    simp only [List.length_nil,Nat.le_zero] at h4 h2
    subst h4
    have : l = 0:=by omega
    subst this
    exact ⟨_,_,hrun a 0 c 0 0 h1 h2 (Nat.le_refl _) (Nat.le_refl _) (Nat.zero_le _),h,.d _ _ (by simpa using RD.slNil _ _)⟩
   | sl _ ad c sz cs hsz hcell hI hlc hrec =>
    refine ⟨_,_,hrun (some ad) els.length c l hh h1 h2 h3 h4 hlc,h,.d _ _ ?_⟩
    rcases Nat.eq_zero_or_pos (hh - l) with h0 | hpos
    ·rw [h0]
     simp only [List.take_zero]
     exact .slNil _ _
    ·have hne : c ≠ l:=by omega
     rw [if_neg hne]
     have hpos2 : 0 < els.length:=by omega
     have hszz : sz = ei.sz:=by
      have:=hsz els[0] (List.getElem_mem hpos2)
      rw [← this]; exact hlen _ (List.getElem_mem hpos2)
     have hlen2 : ((els.drop l).take (hh - l)).length = hh - l:=by simp; omega
     have:=RD.sl (I:=g.I) (w:=w) ((els.drop l).take (hh - l)) (ad.add (l * ei.sz)) (c - l) sz (fun i j=>cs (l + i) j) (fun e he=>hsz e (List.mem_of_mem_drop (List.mem_of_mem_take he)))
      (fun i j hi hj=>by
       rw [hlen2] at hi
       rw [add_add,← hszz,← Nat.add_assoc,← Nat.add_mul]
       exact hcell (l + i) j (by omega) hj) (by rw [add_block]; exact hI) (by rw [hlen2]; omega)
      (fun i j x hx=>by
       refine hrec (l + i) j x ?_
       rw [List.getElem?_take] at hx
       split at hx
       ·rw [List.getElem?_drop] at hx; exact hx
       ·cases hx)
     rw [hlen2] at this
     exact this
  ·rename_i b gen o len
   split at h
   ·rename_i gen' sz els hL
    cases hle : (Nat.beq gen gen' && Nat.beq sz ei.sz) with
    | false=>simp only [hle,cond_false] at h
    | true =>
    simp only [hle,cond_true] at h
    rw [Bool.and_eq_true] at hle
    have e1:=Nat.eq_of_beq_eq_true hle.1
    have e2:=Nat.eq_of_beq_eq_true hle.2
    subst e1 e2
    unfold SliceP at h
    obtain ⟨l,hh,h1,h2,h3,h4,h⟩:=h
    cases hx with
    | ownX _ _ _ _ a c hL'=>rw [hL] at hL'; cases hL'
    | ownO _ _ gen2 _ _ _ _ a c hL' hg'=>rw [hL] at hL'; cases hL'; omega
    | ownN _ _ _ _ hL' hm' =>
     have e1 : l = 0:=by omega
     have e2 : hh = 0:=by omega
     subst e1 e2
     exact ⟨_,_,hrun _ 0 0 0 0 h1 h2 (Nat.le_refl _) (Nat.le_refl _) (Nat.le_refl _),h,by simpa using RV.ownN b gen _ _ hL hm'⟩
    | own _ _ _ _ sz' r oo c els' hL' hm' ho hc hlc hle2 =>
     rw [hL] at hL'; cases hL'
     refine ⟨_,_,hrun _ len c l hh h1 h2 h3 h4 hlc.1,h,?_⟩
     have e3 : (o + l + (c - l)) * ei.sz = (o + c) * ei.sz:=by congr 1; omega
     by_cases hne : c = l
     ·rw [if_pos hne]
      exact .own b gen _ _ ei.sz r oo (c - l) els hL hm' (.inl (by omega)) (by rw [e3]; exact hc) (by omega) (by omega)
     ·rw [if_neg hne]
      have ho' : oo = o * ei.sz:=by
       rcases ho with h0 | h0
       ·omega
       ·exact h0
      subst ho'
      simp only [Option.map_some,Addr.add_lit]
      exact .own b gen _ _ ei.sz r _ (c - l) els hL hm' (.inr (by rw [Nat.add_mul])) (by rw [e3]; exact hc) (by omega) (by omega)
   ·exact h.elim
  ·unfold SliceP at h
   obtain ⟨l,hh,h1,h2,h3,h4,h⟩:=h
   have e1 : l = 0:=by omega
   have e2 : hh = 0:=by omega
   subst e1 e2
   cases hx with
   | nil=>exact ⟨_,_,hrun none 0 0 0 0 h1 h2 (Nat.le_refl _) (Nat.le_refl _) (Nat.le_refl _),h,by simpa using RV.nil⟩
  ·exact h.elim
 ·rename_i hk
  split at h
  ·rename_i s
   unfold SliceP at h
   obtain ⟨l,hh,h1,h2,h3,h4,h⟩:=h
   cases hx with | d _ _ hd =>
   cases hd
   have:=run_bounds (P:=C.P) (w:=w) hlo hhi h1 h2 h3 h4 (Nat.le_refl _) false
   exact ⟨_,_,by simp [Instr.sliceAt,Instr.slice,run_underlying (hT.strK hk),this],h,.d _ _ (.str _)⟩
  ·exact h.elim
 ·rename_i n e hk
  cases he : C.tt e with
  | none=>simp [he] at h
  | some ei =>
  simp only [he] at h
  have hE:=hC e ei he
  split at h
  ·rename_i cs
   cases hle : Nat.beq cs.length (n * ei.sz) with
   | false=>simp [hle] at h
   | true =>
   simp only [hle,cond_true] at h
   have hln:=Nat.eq_of_beq_eq_true hle
   unfold SliceP at h
   obtain ⟨l,hh,h1,h2,h3,h4,h⟩:=h
   cases hx with | d _ _ hd =>
   cases hd with | rptr _ ad cv hcell hI hrec =>
   have hb:=run_bounds (P:=C.P) (w:=w) hlo hhi h1 h2 h3 h4 (Nat.le_refl _) false
   refine ⟨.slice (some (if n = l then ad else ad.add (l * ei.sz))) (hh - l) (n - l),_,by simp [Instr.sliceAt,run_underlying (hT.array hk),Instr.sureAddr,hb,hE.run_sizeOf],h,.d _ _ ?_⟩
   rcases Nat.eq_zero_or_pos (hh - l) with h0 | hpos
   ·rw [h0]
    simp only [List.take_zero]
    exact .slNil _ _
   ·have hne : n ≠ l:=by omega
    rw [if_neg hne]
    have hlen2 : (((chunks ei.sz cs n).drop l).take (hh - l)).length = hh - l:=by rw [List.length_take,List.length_drop,chunks_len]; omega
    have hget : ∀ i e,(((chunks ei.sz cs n).drop l).take (hh - l))[i]? = some e → i < hh - l ∧ e = (cs.drop ((l + i) * ei.sz)).take ei.sz:=fun i e he=>by
     have hi : i < hh - l:=by have:=lt_of_get he; omega
     rw [List.getElem?_take,if_pos hi,List.getElem?_drop,chunks_get (by omega)] at he
     cases he; exact ⟨hi,rfl⟩
    have hin : ∀ i j,i < hh - l → j < ei.sz → (l + i) * ei.sz + j < cs.length:=fun i j hi hj=>by
     have : (l + i + 1) * ei.sz ≤ n * ei.sz:=Nat.mul_le_mul_right _ (by omega)
     rw [Nat.add_mul,Nat.one_mul] at this
     omega
    have:=RD.sl (I:=g.I) (w:=w) (((chunks ei.sz cs n).drop l).take (hh - l)) (ad.add (l * ei.sz)) (n - l) ei.sz (fun i j=>cv ((l + i) * ei.sz + j))
     (fun e he=>by
      obtain ⟨i,hi⟩:=List.mem_iff_getElem?.1 he
      obtain ⟨hi2,rfl⟩:=hget i e hi
      exact chunk_len hln (by omega))
     (fun i j hi hj=>by
      rw [hlen2] at hi
      rw [add_add,← Nat.add_assoc,← Nat.add_mul]
      exact hcell _ (hin i j hi hj)) (by rw [add_block]; exact hI) (by rw [hlen2]; omega)
     (fun i j x hx=>by
      cases hc : (((chunks ei.sz cs n).drop l).take (hh - l))[i]? with
      | none=>rw [hc] at hx; cases hx
      | some e =>
       rw [hc] at hx
       obtain ⟨hi2,rfl⟩:=hget i e hc
       simp only [Option.bind_some] at hx
       have hj : j < ei.sz:=by have:=lt_of_get hx; rw [List.length_take] at this; omega
       rw [List.getElem?_take,if_pos hj,List.getElem?_drop] at hx
       exact hrec _ x hx)
    rw [hlen2] at this
    exact this
  ·exact h.elim
 ·exact h.elim
def vSlice3 (C : Ctx) (t : TypeId) (x : V) (lo hi : Option V) (mx : V) (L : List Blk) (k : V → List Blk → Prop) : Prop :=
 match C.tt t with
 | some ti=>match ti.k with
  | .sl e=>match C.tt e with
   | some ei=>bif Nat.blt 0 ei.sz then Need (isB lo 0 0 ∧ isB hi 1 0 ∧ isB (some mx) 1 0) (match x with
     | .nil=>k (.own L.length 0 0 0) (L ++ [.row 0 ei.sz []])
     | .d (.sl _)=>k (.own L.length 0 0 0) (L ++ [.row 0 ei.sz []])
     | .own ..=>k (.own L.length 0 0 0) (L ++ [.row 0 ei.sz []])
     | _=>False) else False
   | none=>False
  | _=>False
 | none=>False
theorem vSlice3_ok (hC : C.OK) (hg : Good g w L) {t : TypeId} {x mx : V} {lo hi : Option V} {v vm : Value} {plo phi : Option Value} (hx : RV g w L x v) (hlo : RO g w L lo plo) (hhi : RO g w L hi phi) (hmx : RV g w L mx vm)
  {k : V → List Blk → Prop} (h : vSlice3 C t x lo hi mx L k) : ∃ r X L' g',(Instr.sliceAt t v plo phi (some vm)).run C.P w = .ok r w ∧ k X L' ∧ RV g' w L' X r ∧ Good g' w L' ∧ Prog L.length g w L g' w L':=by
 unfold vSlice3 at h
 cases ht : C.tt t with
 | none=>simp [ht] at h
 | some ti =>
 simp only [ht] at h
 have hT:=hC t ti ht
 split at h
 ·rename_i e hk
  cases he : C.tt e with
  | none=>simp [he] at h
  | some ei =>
  simp only [he] at h
  have hE:=hC e ei he
  have hsl:=hT.slice hk
  cases hz : Nat.blt 0 ei.sz with
  | false=>simp [hz] at h
  | true =>
  simp only [hz,cond_true] at h
  have hz : 0 < ei.sz:=by simpa [Nat.blt_eq] using hz
  obtain ⟨⟨h1,h2,h3⟩,hk3⟩:=h.out
  clear h
  have hmx : RO g w L (some mx) (some vm):=hmx
  have hrun : ∀ (a : Option Addr) (len cap : Nat),(Instr.sliceAt t (.slice a len cap) plo phi (some vm)).run C.P w = .ok (.slice a 0 0) w:=by
   intro a len cap
   have b3:=fun code=>run_bound (P:=C.P) (w:=w) (p:=some vm) hmx h3 (Nat.zero_le cap) code rfl
   have hb : (Instr.sliceBounds true len cap plo phi (some vm)).run C.P w = .ok (0,0,0) w:=by
    unfold Instr.sliceBounds
    cases phi with
    | none =>
     cases hi with
     | some x=>exact hhi.elim
     | none=>exact absurd h2 (by simp [isB])
    | some u =>
     have b2:=fun code=>run_bound (P:=C.P) hhi h2 (Nat.le_refl 0) code (v:=u) rfl
     cases plo with
     | none=>simp [b3,b2]
     | some v =>
      have b1:=fun code=>run_bound (P:=C.P) hlo h1 (Nat.le_refl 0) code (v:=v) rfl
      simp [b3,b2,b1]
   simp [Instr.sliceAt,Instr.slice,run_underlying hsl,hb,hE.run_sizeOf]
  have fin : ∀ (a : Option Addr) (len cap : Nat),v = .slice a len cap → k (.own L.length 0 0 0) (L ++ [.row 0 ei.sz []]) → ∃ r X L' g',(Instr.sliceAt t v plo phi (some vm)).run C.P w = .ok r w ∧ k X L' ∧ RV g' w L' X r ∧ Good g' w L' ∧ Prog L.length g w L g' w L':=by
   rintro a len cap rfl hk
   exact ⟨_,_,_,g.add L.length none 0,hrun a len cap,hk,.ownN _ _ ei.sz [] (by simp) (by simp [Gh.add]),
    add_good hg (Ext.refl w) none (fun q h=>by cases h) 0 ⟨hz,by simp,.inl ⟨by simp [Gh.add],rfl⟩⟩,add_prog hg (Ext.refl w) _ none (fun q h=>by cases h) 0⟩
  split at hk3
  ·cases hx with | nil=>exact fin _ _ _ rfl hk3
  ·cases hx with | d _ _ hd=>cases hd with
    | slNil a c=>exact fin _ _ _ rfl hk3
    | sl _ ad c=>exact fin _ _ _ rfl hk3
  ·cases hx with
   | own=>exact fin _ _ _ rfl hk3
   | ownN=>exact fin _ _ _ rfl hk3
   | ownO=>exact fin _ _ _ rfl hk3
   | ownX=>exact fin _ _ _ rfl hk3
  ·exact hk3.elim
 ·exact h.elim
def vSlice4 (C : Ctx) (t : TypeId) (x : V) (lo hi : Option V) (mx : V) (L : List Blk) (k : V → List Blk → Prop) : Prop :=
 match C.tt t with
 | some ti=>match ti.k with
  | .sl e=>match C.tt e with
   | some ei=>match x with
    | .d (.sl els)=>Need (∀ e ∈ els,e.length = ei.sz) (Need (hi.isSome = true) (SliceP els.length lo hi fun l h=>Need (isB (some mx) 0 h) (k (.clp ((els.drop l).take (h - l))) L)))
    | .own b gen _ len=>match L[b]? with
     | some (.row gen' sz _)=>bif Nat.beq gen gen' && Nat.beq sz ei.sz then Need (hi.isSome = true ∧ isB (some mx) 0 len) (SliceP len lo hi fun _ _=>k .poison L) else False
     | _=>False
    | .nil=>Need (hi.isSome = true ∧ isB (some mx) 0 0) (SliceP 0 lo hi fun _ _=>k .nil L)
    | _=>False
   | none=>False
  | _=>False
 | none=>False
theorem run_bounds4 {P : Program} {lo hi : Option V} {mx : V} {plo phi : Option Value} {vm : Value} (hlo : RO g w L lo plo) (hhi : RO g w L hi phi) (hmx : RV g w L mx vm) {len cap l h m : Nat} (h0 : hi.isSome = true) (h1 : isB lo 0 l) (h2 : isB hi len h) (hm : isB (some mx) 0 m) (h3 : l ≤ h) (h4 : h ≤ m) (h5 : m ≤ cap) :
  (Instr.sliceBounds true len cap plo phi (some vm)).run P w = .ok (l,h,m) w:=by
 have hmx : RO g w L (some mx) (some vm):=hmx
 have b3:=fun code=>run_bound (P:=P) (w:=w) (p:=some vm) hmx hm h5 code rfl
 unfold Instr.sliceBounds
 cases phi with
 | none =>
  cases hi with
  | some x=>exact hhi.elim
  | none=>cases h0
 | some u =>
  have b2:=fun code=>run_bound (P:=P) hhi h2 h4 code (v:=u) rfl
  cases plo with
  | none =>
   cases lo with
   | some x=>exact hlo.elim
   | none =>
   have e : l = 0:=h1
   subst e
   simp [b3,b2]
  | some v =>
   have b1:=fun code=>run_bound (P:=P) hlo h1 h3 code (v:=v) rfl
   simp [b3,b2,b1]
theorem vSlice4_ok (hC : C.OK) (_hg : Good g w L) {t : TypeId} {x mx : V} {lo hi : Option V} {v vm : Value} {plo phi : Option Value} (hx : RV g w L x v) (hlo : RO g w L lo plo) (hhi : RO g w L hi phi) (hmx : RV g w L mx vm)
  {k : V → List Blk → Prop} (h : vSlice4 C t x lo hi mx L k) : ∃ r X,(Instr.sliceAt t v plo phi (some vm)).run C.P w = .ok r w ∧ k X L ∧ RV g w L X r:=by
 unfold vSlice4 at h
 cases ht : C.tt t with
 | none=>simp [ht] at h
 | some ti =>
 simp only [ht] at h
 have hT:=hC t ti ht
 split at h
 ·rename_i e hk
  cases he : C.tt e with
  | none=>simp [he] at h
  | some ei =>
  simp only [he] at h
  have hE:=hC e ei he
  have hsl:=hT.slice hk
  have hrun : ∀ (a : Option Addr) (len cap l hh m : Nat),hi.isSome = true → isB lo 0 l → isB hi len hh → isB (some mx) 0 m → l ≤ hh → hh ≤ m → m ≤ cap → (Instr.sliceAt t (.slice a len cap) plo phi (some vm)).run C.P w = .ok (.slice (if m = l then a else a.map (·.add (l * ei.sz))) (hh - l) (m - l)) w:=by
   intro a len cap l hh m h0 h1 h2 hm h3 h4 h5
   have:=run_bounds4 (P:=C.P) (w:=w) hlo hhi hmx h0 h1 h2 hm h3 h4 h5
   simp [Instr.sliceAt,Instr.slice,run_underlying hsl,this,hE.run_sizeOf]
  split at h
  ·rename_i els
   obtain ⟨hlen,h⟩:=h.out
   obtain ⟨h0,h⟩:=h.out
   unfold SliceP at h
   obtain ⟨l,hh,h1,h2,h3,h4,h⟩:=h
   obtain ⟨hm,h⟩:=h.out
   have hl2 : ((els.drop l).take (hh - l)).length = hh - l:=by simp; omega
   have fin : ∀ a : Option Addr,RD g.I w (.sl ((els.drop l).take (hh - l))) (.slice a (hh - l) (hh - l)) → RV g w L (.clp ((els.drop l).take (hh - l))) (.slice a (hh - l) (hh - l)):=fun a ha=>by
    have:=RV.clp (g:=g) (w:=w) (L:=L) ((els.drop l).take (hh - l)) a (by rw [hl2]; exact ha)
    rw [hl2] at this; exact this
   cases hx with | d _ _ hd =>
   cases hd with
   | slNil a c =>
    simp only [List.length_nil,Nat.le_zero] at h4 h2
    subst h4
    have : l = 0:=by omega
    subst this
    exact ⟨_,_,hrun a 0 c 0 0 0 h0 h1 h2 hm (Nat.le_refl _) (Nat.le_refl _) (Nat.zero_le _),h,fin _ (by simpa using RD.slNil _ _)⟩
   | sl _ ad c sz cs hsz hcell hI hlc hrec =>
    refine ⟨_,_,hrun (some ad) els.length c l hh hh h0 h1 h2 hm h3 (Nat.le_refl _) (Nat.le_trans h4 hlc),h,fin _ ?_⟩
    rcases Nat.eq_zero_or_pos (hh - l) with h0 | hpos
    ·rw [h0]
     simp only [List.take_zero]
     exact .slNil _ _
    ·have hne : hh ≠ l:=by omega
     rw [if_neg hne]
     have hpos2 : 0 < els.length:=by omega
     have hszz : sz = ei.sz:=by
      have:=hsz els[0] (List.getElem_mem hpos2)
      rw [← this]; exact hlen _ (List.getElem_mem hpos2)
     have:=RD.sl (I:=g.I) (w:=w) ((els.drop l).take (hh - l)) (ad.add (l * ei.sz)) (hh - l) sz (fun i j=>cs (l + i) j) (fun e he=>hsz e (List.mem_of_mem_drop (List.mem_of_mem_take he)))
      (fun i j hi hj=>by
       rw [hl2] at hi
       rw [add_add,← hszz,← Nat.add_assoc,← Nat.add_mul]
       exact hcell (l + i) j (by omega) hj) (by rw [add_block]; exact hI) (by rw [hl2]; exact Nat.le_refl _)
      (fun i j x hx=>by
       refine hrec (l + i) j x ?_
       rw [List.getElem?_take] at hx
       split at hx
       ·rw [List.getElem?_drop] at hx; exact hx
       ·cases hx)
     rw [hl2] at this
     exact this
  ·rename_i b gen o len
   split at h
   ·rename_i gen' sz els hL
    cases hle : (Nat.beq gen gen' && Nat.beq sz ei.sz) with
    | false=>simp only [hle,cond_false] at h
    | true =>
    simp only [hle,cond_true] at h
    rw [Bool.and_eq_true] at hle
    have e1:=Nat.eq_of_beq_eq_true hle.1
    have e2:=Nat.eq_of_beq_eq_true hle.2
    subst e1 e2
    obtain ⟨⟨h0,hm⟩,h'⟩:=h.out
    clear h
    unfold SliceP at h'
    obtain ⟨l,hh,h1,h2,h3,h4,hkk⟩:=h'
    cases hx with
    | ownX _ _ _ _ a c hL'=>rw [hL] at hL'; cases hL'
    | ownO _ _ gen2 _ _ _ _ a c hL' hg'=>rw [hL] at hL'; cases hL'; omega
    | ownN _ _ _ _ hL' hm' =>
     exact ⟨_,_,hrun _ 0 0 l hh 0 h0 h1 h2 hm h3 h4 (Nat.le_refl _),hkk,.poison _⟩
    | own _ _ _ _ sz' r oo c els' hL' hm' ho hc hlc hle2 =>
     exact ⟨_,_,hrun _ len c l hh len h0 h1 h2 hm h3 h4 hlc.1,hkk,.poison _⟩
   ·exact h.elim
  ·obtain ⟨⟨h0,hm⟩,h'⟩:=h.out
   unfold SliceP at h'
   obtain ⟨l,hh,h1,h2,h3,h4,hkk⟩:=h'
   have e1 : l = 0:=by omega
   have e2 : hh = 0:=by omega
   subst e1 e2
   cases hx with
   | nil=>exact ⟨_,_,hrun none 0 0 0 0 0 h0 h1 h2 hm (Nat.le_refl _) (Nat.le_refl _) (Nat.le_refl _),hkk,by simpa using RV.nil⟩
  ·exact h.elim
 ·exact h.elim
def isCst : Option Operand → Bool
 | some (.const _)=>true
 | _=>false
def vSliceM (C : Ctx) (t : TypeId) (x : V) (lo hi mx : Option V) (c : Bool) (L : List Blk) (k : V → List Blk → Prop) : Prop :=
 match mx with
 | none=>vSlice C t x lo hi none L fun x=>k x L
 | some m=>bif c then vSlice3 C t x lo hi m L k else vSlice4 C t x lo hi m L k
@[irreducible] def NilP (n : Nat) (k : Bool → Prop) : Prop:=(n = 0 → k true) ∧ k false
theorem NilP.intro {n : Nat} {k : Bool → Prop} (h1 : n = 0 → k true) (h2 : k false) : NilP n k:=by unfold NilP; exact ⟨h1,h2⟩
theorem NilP.no {n : Nat} {k : Bool → Prop} (h1 : n ≠ 0) (h2 : k false) : NilP n k:=NilP.intro (fun h=>absurd h h1) h2
def vNilQ (x : V) (L : List Blk) (k : Bool → Prop) : Prop :=
 match x with
 | .nil=>k true
 | .d (.sl els)=>NilP els.length k
 | .own b gen _ len=>match L[b]? with
  | some (.row gen' _ _)=>bif Nat.beq gen gen' then NilP len k else False
  | _=>False
 | _=>False
def vNilSl (C : Ctx) (op : BinOp) (t : TypeId) (x : V) (L : List Blk) (k : V → Prop) : Prop :=
 match C.tt t with
 | some ti=>match ti.k with
  | .sl _=>match op with
   | .eql=>vNilQ x L fun b=>k (.d (.bool b))
   | .neq=>vNilQ x L fun b=>k (.d (.bool (!b)))
   | _=>False
  | _=>False
 | none=>False
def isNilSl : Operand → Bool
 | .const (.slice none 0 0)=>true
 | _=>false
theorem isNilSl_eq {y : Operand} (h : isNilSl y = true) : y = .const (.slice none 0 0):=by
 unfold isNilSl at h
 split at h
 ·rfl
 ·cases h
theorem vNilQ_ok {x : V} {v : Value} (hx : RV g w L x v) {k : Bool → Prop} (h : vNilQ x L k) : ∃ a n c,v = .slice a n c ∧ k a.isNone:=by
 have nilp : ∀ {n : Nat} {a : Option Addr},NilP n k → (n ≠ 0 → a.isNone = false) → k a.isNone:=by
  intro n a hn ha
  unfold NilP at hn
  cases e : a.isNone with
  | false=>exact hn.2
  | true =>
   refine hn.1 (Classical.byContradiction fun h0=>?_)
   rw [ha h0] at e; cases e
 unfold vNilQ at h
 split at h
 ·cases hx with | nil=>exact ⟨_,_,_,rfl,h⟩
 ·cases hx with | d _ _ hd=>cases hd with
   | slNil a c=>exact ⟨_,_,_,rfl,nilp h fun h0=>absurd rfl h0⟩
   | sl _ ad c=>exact ⟨_,_,_,rfl,nilp h fun _=>rfl⟩
 ·rename_i b gen lo len
  split at h
  ·rename_i gen' sz els hL
   cases hle : Nat.beq gen gen' with
   | false=>simp [hle] at h
   | true =>
   simp only [hle,cond_true] at h
   have e1:=Nat.eq_of_beq_eq_true hle
   subst e1
   cases hx with
   | ownX _ _ _ _ a c hL'=>rw [hL] at hL'; cases hL'
   | ownO _ _ gen2 _ _ _ _ a c hL' hg'=>rw [hL] at hL'; cases hL'; omega
   | ownN _ _ _ _ hL' hm'=>exact ⟨_,_,_,rfl,nilp h fun h0=>absurd rfl h0⟩
   | own=>exact ⟨_,_,_,rfl,nilp h fun _=>rfl⟩
  ·exact h.elim
 ·exact h.elim
theorem vNilSl_ok (hC : C.OK) {op : BinOp} {t : TypeId} {x : V} {v : Value} (hx : RV g w L x v) (ox oy : Operand) {c : V → Prop} (h : vNilSl C op t x L c) :
  ∃ r X,(do eqGuard op t ox oy v (.slice none 0 0); binOp op t v (.slice none 0 0) : Sem Value).run C.P w = .ok r w ∧ c X ∧ RV g w L X r:=by
 unfold vNilSl at h
 cases ht : C.tt t with
 | none=>simp [ht] at h
 | some ti =>
 simp only [ht] at h
 have hT:=hC t ti ht
 split at h
 ·rename_i e hk
  have hsl:=hT.slice hk
  have key0 : ∀ (d : Nat) (a : Option Addr) (n c : Nat),(Op.equalIn (d + 1) t (.slice a n c) (.slice none 0 0)).run C.P w = .ok a.isNone w:=by
   intro d a n c
   rw [Op.equalIn]
   cases a <;> simp [run_underlying hsl]
  have key : ∀ (a : Option Addr) (n c : Nat),(Op.equal t (.slice a n c) (.slice none 0 0)).run C.P w = .ok a.isNone w:=fun a n c=>key0 9999 a n c
  split at h
  ·obtain ⟨a,n,c',rfl,hk⟩:=vNilQ_ok hx h
   exact ⟨_,_,by simp [eqGuard,binOp,key],hk,.d _ _ (.bool _)⟩
  ·obtain ⟨a,n,c',rfl,hk⟩:=vNilQ_ok hx h
   exact ⟨_,_,by simp [eqGuard,binOp,key],hk,.d _ _ (.bool _)⟩
  ·exact h.elim
 ·exact h.elim
def vLen (C : Ctx) (t : TypeId) (x : V) (k : V → Prop) : Prop :=
 match C.tt t with
 | some ti=>match ti.k,x with
  | .sl _,.nil=>k (.d (.int .i64 0))
  | .sl _,.d (.sl els)=>k (.d (.int .i64 els.length))
  | .sl _,.own _ _ _ len=>k (.d (.int .i64 len))
  | .str,.d (.str s)=>k (.d (.int .i64 s.size))
  | _,_=>False
 | none=>False
theorem RV.own_len {b gen lo len : Nat} {v : Value} (h : RV g w L (.own b gen lo len) v) : ∃ a c,v = .slice a len c:=by
 cases h with
 | own=>exact ⟨_,_,rfl⟩
 | ownN=>exact ⟨_,_,rfl⟩
 | ownO=>exact ⟨_,_,rfl⟩
 | ownX=>exact ⟨_,_,rfl⟩
def vLenL (C : Ctx) (t : TypeId) (x : V) (_L : List Blk) (k : V → Prop) : Prop:=vLen C t x k
theorem vLen_ok (hC : C.OK) {t ty : TypeId} {x : V} {v : Value} (hx : RV g w L x v) (hx' : ∀ b gen lo len,x = .own b gen lo len → ∃ a c,v = .slice a len c) {k : V → Prop} (h : vLen C t x k) :
  ∃ r X,(Builtin.len_ #[t] ty #[v]).run C.P w = .ok r w ∧ k X ∧ RV g w L X r:=by
 have hi : ∀ n : Int,RV g w L (.d (.int .i64 n)) (.int .i64 n):=fun n=>.d _ _ (.int _ _)
 unfold vLen at h
 cases ht : C.tt t with
 | none=>simp [ht] at h
 | some ti =>
 simp only [ht] at h
 have hT:=hC t ti ht
 split at h
 ·rename_i e hk
  cases hx with | nil =>
  exact ⟨_,_,by simp [Builtin.len_,run_underlying (hT.slice hk),goInt],h,hi _⟩
 ·rename_i e els hk
  cases hx with | d _ _ hd =>
  cases hd with
  | slNil a c=>exact ⟨.int .i64 0,_,by simp [Builtin.len_,run_underlying (hT.slice hk),goInt],h,by simpa using hi 0⟩
  | sl _ ad c sz cs=>exact ⟨_,_,by simp [Builtin.len_,run_underlying (hT.slice hk),goInt],h,hi _⟩
 ·rename_i e b gen lo len hk
  obtain ⟨a,c,rfl⟩:=hx' _ _ _ _ rfl
  exact ⟨_,_,by simp [Builtin.len_,run_underlying (hT.slice hk),goInt],h,hi _⟩
 ·rename_i s hk
  cases hx with | d _ _ hd =>
  cases hd
  exact ⟨_,_,by simp [Builtin.len_,run_underlying (hT.strK hk),goInt],h,hi _⟩
 ·exact h.elim
theorem vLenL_ok (hC : C.OK) {t ty : TypeId} {x : V} {v : Value} (hx : RV g w L x v) {k : V → Prop} (h : vLenL C t x L k) :
  ∃ r X,(Builtin.len_ #[t] ty #[v]).run C.P w = .ok r w ∧ k X ∧ RV g w L X r:=by
 unfold vLenL at h
 exact vLen_ok hC hx (fun b' gen2 lo' len' e=>by subst e; exact hx.own_len) h
def bytesV (s : List UInt8) : List (List V):=s.map fun b=>[.d (.int .u8 b.toNat)]
@[irreducible] def BytesP (els : List (List V)) (k : ByteArray → Prop) : Prop:=∃ s : List UInt8,els = bytesV s ∧ k ⟨s.toArray⟩
theorem BytesP.intro {els : List (List V)} {k : ByteArray → Prop} (s : List UInt8) (h : els = bytesV s) (hk : k ⟨s.toArray⟩) : BytesP els k:=by unfold BytesP; exact ⟨s,h,hk⟩
theorem bytesV_inj : ∀ {s s' : List UInt8},bytesV s = bytesV s' → s = s'
 | [],[],_=>rfl
 | [],b :: s,h=>by cases h
 | b :: s,[],h=>by cases h
 | b :: s,c :: s',h=>by
  simp only [bytesV,List.map_cons,List.cons.injEq,V.d.injEq,D.int.injEq,true_and,and_true] at h
  obtain ⟨h1,h2⟩:=h
  have e : b = c:=UInt8.toNat_inj.1 (by omega)
  rw [e,bytesV_inj (s:=s) (s':=s') h2]
def isSlT (C : Ctx) (s : TypeId) : Bool:=match C.tt s with
 | some ti=>match ti.k with | .sl _=>true | _=>false
 | none=>false
def vBytes (C : Ctx) (s t : TypeId) (x : V) (L : List Blk) (k : V → Prop) : Prop :=
 match C.tt s with
 | some si=>match si.k with
  | .sl e=>match C.tt t with
   | some ti=>match ti.k with
    | .str=>match C.tt e with
     | some ei=>match ei.k with
      | .int .u8=>vSrc L 1 x fun els=>BytesP els fun s=>k (.d (.str s))
      | _=>False
     | none=>False
    | _=>False
   | none=>False
  | _=>False
 | none=>False
def vConvL (C : Ctx) (s t : TypeId) (x : V) (L : List Blk) (k : V → Prop) : Prop:=bif isSlT C s then vBytes C s t x L k else vConv C s t x k
theorem bytes_RL : ∀ (s : List UInt8) (vs : List Value),RL g w L (bytesV s).flatten vs → vs = s.map fun b=>Value.int .u8 b.toNat
 | [],vs,h=>by
  have:=h.1
  simp [bytesV] at this
  exact List.length_eq_zero_iff.1 this.symm
 | b :: s,vs,h=>by
  have h1:=h.1
  cases vs with
  | nil=>simp [bytesV] at h1
  | cons v vs =>
   have h0:=h.2.2 0 (.d (.int .u8 b.toNat)) v rfl rfl
   cases h0 with | d _ _ h0 =>
   cases h0
   rw [List.map_cons,← bytes_RL s vs ⟨by simpa [bytesV] using h1,fun j u hu=>h.2.1 (j + 1) u (by simpa using hu),fun j y u hy hu=>h.2.2 (j + 1) y u (by simpa [bytesV] using hy) (by simpa using hu)⟩]
theorem run_bytes {ad : Addr} {len c : Nat} {l : List UInt8} (h : (loadCells ad len).run C.P w = .ok (l.map fun b=>Value.int .u8 b.toNat).toArray w) : (Conv.bytesToString (.slice (some ad) len c)).run C.P w = .ok (.string ⟨l.toArray⟩) w:=by
 unfold Conv.bytesToString
 simp only [Sem.run_bind,h,Result.andThen_ok]
 rw [← Array.forIn_toList]
 have e : (⟨l.toArray⟩ : ByteArray) = ⟨(ByteArray.empty.data.toList ++ l).toArray⟩:=rfl
 rw [e]
 clear e h
 generalize ByteArray.empty = s
 induction l generalizing s with
 | nil=>simp
 | cons b l ih =>
  rw [List.map_cons,List.forIn_cons]
  have:=ih (s.push b)
  simp at this ⊢
  rw [this]
theorem vBytes_ok (hC : C.OK) (hg : Good g w L) {s t : TypeId} {x : V} {v : Value} (hx : RV g w L x v) {k : V → Prop} (h : vBytes C s t x L k) : ∃ r X,(convert s t v).run C.P w = .ok r w ∧ k X ∧ RV g w L X r:=by
 unfold vBytes at h
 split at h
 rotate_left
 ·exact h.elim
 rename_i si hs
 split at h
 rotate_left
 ·exact h.elim
 rename_i e hk
 split at h
 rotate_left
 ·exact h.elim
 rename_i ti ht
 split at h
 rotate_left
 ·exact h.elim
 rename_i hk'
 split at h
 rotate_left
 ·exact h.elim
 rename_i ei he
 split at h
 rotate_left
 ·exact h.elim
 rename_i hke
 have u1:=(hC s si hs).slice hk
 have u2:=(hC t ti ht).strK hk'
 have u3:=(hC e ei he).intK hke
 obtain ⟨els,⟨_,a,c,vs,rfl,hc,hRL,hl,hpos⟩,h⟩:=vSrc_ok hg (by decide) hx h
 unfold BytesP at h
 obtain ⟨l,rfl,h⟩:=h
 have hvs:=bytes_RL l vs hRL
 subst hvs
 refine ⟨_,_,?_,h,.d _ _ (.str _)⟩
 have hconv : (convert s t (.slice a (bytesV l).length c)).run C.P w = (Conv.bytesToString (.slice a (bytesV l).length c)).run C.P w:=by
  simp [convert,run_underlying u1,run_underlying u2,run_underlying u3]
 rw [hconv]
 cases a with
 | none =>
  have h0 : (bytesV l).length = 0:=by
   rcases Nat.eq_zero_or_pos (bytesV l).length with h | h
   ·exact h
   ·obtain ⟨ad,h1,_⟩:=hpos h; cases h1
  have : l = []:=by simpa [bytesV] using h0
  subst this
  simp [Conv.bytesToString]; rfl
 | some ad =>
  refine run_bytes ?_
  rcases Nat.eq_zero_or_pos (bytesV l).length with h | h
  ·have : l = []:=by simpa [bytesV] using h
   subst this
   exact run_loadCells_list w ad [] (by simp)
  ·obtain ⟨ad',h1,_,h3⟩:=hpos h
   cases h1
   have:=run_loadCells_list (P:=C.P) w ad _ h3
   simpa [bytesV] using this
theorem vConvL_ok (hC : C.OK) (hg : Good g w L) {s t : TypeId} {x : V} {v : Value} (hx : RV g w L x v) {k : V → Prop} (h : vConvL C s t x L k) : ∃ r X,(convert s t v).run C.P w = .ok r w ∧ k X ∧ RV g w L X r:=by
 unfold vConvL at h
 cases hb : isSlT C s with
 | true=>rw [hb] at h; exact vBytes_ok hC hg hx h
 | false=>rw [hb] at h; exact vConv_ok hC hx h
def RVs (g : Gh) (w : World) (L : List Blk) (xs : List V) (vs : Array Value) : Prop :=
 xs.length = vs.size ∧ ∀ (j : Nat) (x : V) (v : Value),xs[j]? = some x → vs[j]? = some v → RV g w L x v
structure PanS (C : Ctx) (k : Nat) (g : Gh) (w : World) (L : List Blk) (v : Value) (X : V) (L' : List Blk) (g' : Gh) (w' : World) : Prop where
 pan : C.pan X L'
 hpn : C.pn ≤ k
 rv : RV g' w' L' X v
 good : Good g' w' L'
 prog : Prog C.pn g w L g' w' L'
 df : ∀ b q,b < k → L[b]? = some .defr → g.m b = some q → w'.heap[q]? = some (.deferred (some [])) ∧ ¬ g'.I q ∧ ¬ owned g' L' q
def PanO (C : Ctx) (g : Gh) (w : World) (L : List Blk) (e : Ending) (w' : World) : Prop:=∃ v X L' g',e = .panicked [{ v,recovered:=false }] ∧ PanS C L.length g w L v X L' g' w'
theorem PanS.later {C : Ctx} {k : Nat} {g g1 : Gh} {w w1 w' : World} {L L1 L' : List Blk} {v : Value} {X : V} {g' : Gh} (hk : k ≤ L.length) (hp : Prog k g w L g1 w1 L1) (h : PanS C k g1 w1 L1 v X L' g' w') : PanS C k g w L v X L' g' w' :=
 ⟨h.pan,h.hpn,h.rv,h.good,(hp.le h.hpn hk).trans h.prog,fun b q hbk hb hm =>
  let ⟨h1,h2⟩:=hp.defr b q hbk hb hm
  h.df b q hbk h1 h2⟩
theorem PanS.less {C : Ctx} {k k' : Nat} {g : Gh} {w w' : World} {L L' : List Blk} {v : Value} {X : V} {g' : Gh} (hk : k' ≤ k) (hn : C.pn ≤ k') (h : PanS C k g w L v X L' g' w') : PanS C k' g w L v X L' g' w' :=
 ⟨h.pan,hn,h.rv,h.good,h.prog,fun b q hbk=>h.df b q (by omega)⟩
@[irreducible] def CallP (C : Ctx) (f : FuncId) (args : List V) (L : List Blk) (k : V → List Blk → Prop) : Prop :=
 (∃ fn, C.P.funcs[f]? = some fn ∧ fn.body.isSome = true ∧ (fn.name == "runtime.NumGoroutine") = false) ∧
 ∀ (g : Gh) (w : World) (vs : Array Value),Good g w L → RVs g w L args vs →
  Calls C.P f vs w fun e w'=>(∃ v X L' g',e = .returned v ∧ k X L' ∧ RV g' w' L' X v ∧ Good g' w' L' ∧ Prog L.length g w L g' w' L') ∨ PanO C g w L e w'
theorem CallP.mono {f : FuncId} {args : List V} {k k' : V → List Blk → Prop} (h : CallP C f args L k) (hk : ∀ X L',k X L' → k' X L') : CallP C f args L k':=by
 unfold CallP at h ⊢
 refine ⟨h.1,fun g w vs hg hv=>(h.2 g w vs hg hv).mono ?_⟩
 rintro e w' (⟨v,X,L',g',he,hX,hr,hgood,hp⟩ | h)
 ·exact .inl ⟨v,X,L',g',he,hk _ _ hX,hr,hgood,hp⟩
 ·exact .inr h
class Quiet (C : Ctx) : Prop where
 q : ∀ X L,¬ C.pan X L
theorem PanO.no {C : Ctx} [hq : Quiet C] {g : Gh} {w : World} {L : List Blk} {e : Ending} {w' : World} (h : PanO C g w L e w') : False:=by
 obtain ⟨_,X,L',_,_,hs⟩:=h
 exact hq.q X L' hs.pan
theorem CallP_q {C : Ctx} [Quiet C] {f : FuncId} {args : List V} {L : List Blk} {k : V → List Blk → Prop} : CallP C f args L k = ((∃ fn, C.P.funcs[f]? = some fn ∧ fn.body.isSome = true ∧ (fn.name == "runtime.NumGoroutine") = false) ∧
  ∀ (g : Gh) (w : World) (vs : Array Value),Good g w L → RVs g w L args vs →
   Calls C.P f vs w fun e w'=>∃ v X L' g',e = .returned v ∧ k X L' ∧ RV g' w' L' X v ∧ Good g' w' L' ∧ Prog L.length g w L g' w' L'):=by
 unfold CallP
 refine propext (and_congr_right fun _=>forall_congr' fun g=>forall_congr' fun w=>forall_congr' fun vs=>imp_congr_right fun _=>imp_congr_right fun _=>?_)
 exact ⟨fun h=>h.mono fun e w' h=>h.resolve_right PanO.no,fun h=>h.mono fun e w' h=>.inl h⟩
def Ctx.wp (C : Ctx) (pn : Nat) (pan : V → List Blk → Prop) : Ctx:={ P:=C.P,tt:=C.tt,pn,pan }
theorem CallP.up {C : Ctx} [Quiet C] {pn : Nat} {pan : V → List Blk → Prop} {f : FuncId} {args : List V} {L : List Blk} {k : V → List Blk → Prop} (h : CallP C f args L k) : CallP (C.wp pn pan) f args L k:=by
 rw [CallP_q] at h
 unfold CallP
 exact ⟨h.1,fun g w vs hg hv=>(h.2 g w vs hg hv).mono fun e w' h=>.inl h⟩
structure TSL where
 fr : List (Nat × V)
 L : List Blk
@[irreducible] def YieldP (C : Ctx) (b : Nat) (args : List V) (L : List Blk) (k : V → List Blk → Prop) : Prop :=
 ∀ (g : Gh) (w : World) (vs : Array Value) (l : Nat),Good g w L → RVs g w L args vs → RV g w L (.yld b) (.func (.yield l) #[] #[]) →
  ∃ f tmps assign body,(Instr.yield l vs).run C.P w = .ok (.round l f tmps assign body) w ∧
   RoundIn Fence.wide 0 C.P l f tmps assign body w fun e w'=>(∃ v X L' g',e = .returned v ∧ k X L' ∧ RV g' w' L' X v ∧ Good g' w' L' ∧ Prog L.length g w L g' w' L') ∨ PanO C g w L e w'
def vCallF (C : Ctx) (f : V) (args : List V) (L : List Blk) (k : V → List Blk → Prop) : Prop :=
 match f with
 | .fn f caps=>CallP C f (args ++ caps) L k
 | .d (.fn f caps)=>CallP C f (args ++ caps.map .d) L k
 | _=>False
def vCallV (C : Ctx) (f : V) (args : List V) (L : List Blk) (k : V → List Blk → Prop) : Prop :=
 match f with
 | .yld b=>YieldP C b args L k
 | f=>vCallF C f args L k
def vInvoke (C : Ctx) (x : V) (name : String) (args : List V) (L : List Blk) (k : V → List Blk → Prop) : Prop :=
 match x with
 | .d (.iface t b ds)=>MethP C t name fun f=>CallP C f (unI b ds :: args) L k
 | .iface t y=>MethP C t name fun f=>CallP C f (y :: args) L k
 | _=>False
def noDefr (n : Nat) (L : List Blk) : Bool:=(L.take n).all fun k=>match k with | .defr=>false | _=>true
def vPanic (C : Ctx) (x : V) (L : List Blk) : Prop :=
 match x with
 | .iface t y=>Need (C.pn ≤ L.length ∧ belB C.pn (L.take C.pn) = true ∧ noDefr C.pn L = true ∧ y.bel C.pn = true) (C.pan (.iface t y) (L.take C.pn))
 | .d (.iface t b ds)=>Need (C.pn ≤ L.length ∧ belB C.pn (L.take C.pn) = true ∧ noDefr C.pn L = true) (C.pan (.d (.iface t b ds)) (L.take C.pn))
 | _=>False
def vOp (C : Ctx) (o : Oper) (fr : List (Nat × V)) (L : List Blk) (k : V → List Blk → Prop) : Prop :=
 match o.op with
 | .move x=>k (evB fr x) L
 | .assign x=>k (evB fr x) L
 | .pick c a b =>
  match evB fr c with
  | .tt=>k (evB fr a) L
  | .ff=>k (evB fr b) L
  | .d (.bool t)=>Br t fun t=>match t with | true=>k (evB fr a) L | false=>k (evB fr b) L
  | _=>False
 | .alloc t=>vAlloc C t L k
 | .box _ x=>vBox (ev fr x) L k
 | .build t ps=>vBuild C t (ps.toList.map fun p=>(p.1,ev fr p.2)) fun x=>k x L
 | .buildSlice t len ps=>vBuildSlice C t len (ps.toList.map fun p=>(p.1,ev fr p.2)) L k
 | .load t a=>vLoad C t (ev fr a) L fun x=>k x L
 | .store t a x=>vStore C t (ev fr a) (ev fr x) L fun L'=>k .poison L'
 | .nilCheck x =>
  match ev fr x with
  | .ptr b off=>k (.ptr b off) L
  | .eptr b gen i off=>k (.eptr b gen i off) L
  | .d (.rptr cs)=>k (.d (.rptr cs)) L
  | .fn f caps=>k (.fn f caps) L
  | .d (.fn f caps)=>k (.d (.fn f caps)) L
  | .yld b=>k (.yld b) L
  | _=>False
 | .binOp op t x y _=>match isNilSl y with
  | false=>vBin C op t (ev fr x) (ev fr y) fun x=>k x L
  | true=>vNilSl C op t (ev fr x) L fun x=>k x L
 | .unOp op _ x=>vUn op (evB fr x) fun x=>k x L
 | .convert s t x=>vConvL C s t (ev fr x) L fun x=>k x L
 | .fieldAddr s x f=>vFieldAddr C s (ev fr x) f fun x=>k x L
 | .field s x f=>match C.tt s,ev fr x with
  | some si,.agg cs=>match si.k with
   | .struct fs=>match fs[f]? with
    | some (off,ft)=>match C.tt ft with
     | some fi=>match cut fi cs off with | some x=>k x L | none=>False
     | none=>False
    | none=>False
   | _=>False
  | _,_=>False
 | .indexAddr t x i=>vIndexAddr C t (ev fr x) (ev fr i) (fun x=>k x L) L
 | .extract x i =>
  match ev fr x with
  | .tup vs=>match vs[i]? with | some v=>k v L | none=>False
  | _=>False
 | .slice t x lo hi mx=>vSliceM C t (ev fr x) (lo.map (ev fr)) (hi.map (ev fr)) (mx.map (ev fr)) (isCst mx) L k
 | .makeFunc (.func f) first caps=>bif first.isEmpty then k (.fn f (caps.toList.map (ev fr))) L else False
 | .makeMap _ none=>k (.map L.length) (L ++ [.map []])
 | .makeSlice t x y=>vMakeSlice C t (ev fr x) (ev fr y) L k
 | .lookup t x i ok=>vLookup C t (ev fr x) (ev fr i) ok L fun x=>k x L
 | .mapUpdate t m x v=>vMapUpdate C t (ev fr m) (ev fr x) (ev fr v) L fun L'=>k .poison L'
 | .insert t m x v=>vMapUpdate C t (ev fr m) (ev fr x) (ev fr v) L fun L'=>k .poison L'
 | .mapEntry t m x=>vMapEntry C t (ev fr m) (ev fr x) L k
 | .entryStore _ m s v=>vEntryStore (ev fr m) (ev fr s) (ev fr v) L fun L'=>k .poison L'
 | .makeInterface t x=>vMakeIface C t (ev fr x) fun x=>k x L
 | .typeAssert x _ t ok=>vTypeAssert C (ev fr x) t ok fun x=>k x L
 | .index t x i=>vIndex C t (ev fr x) (ev fr i) fun x=>k x L
 | .call c =>
  match c.callee with
  | .value f=>vCallV C (ev fr f) (c.args.toList.map (ev fr)) L k
  | .builtin .len=>match c.args.toList,c.argTypes.toList with
   | [x],[t]=>vLenL C t (ev fr x) L fun x=>k x L
   | _,_=>False
  | .builtin .append=>match c.args.toList,c.argTypes.toList with
   | [s,x],[t,t']=>bif Nat.beq t t' then vAppend C t (ev fr s) (ev fr x) L k else False
   | _,_=>False
  | .builtin .clear=>match c.args.toList,c.argTypes.toList with
   | [s],[t]=>vClear C t (ev fr s) L fun L'=>k (.tup []) L'
   | _,_=>False
  | .builtin .min=>match c.args.toList with
   | [x,y]=>vMin (ev fr x) (ev fr y) fun x=>k x L
   | _=>False
  | .builtin .max=>match c.args.toList with
   | [x,y]=>vMax (ev fr x) (ev fr y) fun x=>k x L
   | _=>False
  | .invoke x name=>vInvoke C (ev fr x) name (c.args.toList.map (ev fr)) L k
  | _=>False
 | .panic x=>vPanic C (ev fr x) L
 | _=>False
abbrev Fx (r : Option Nat) : Fence:={ Fence.wide with round:=r }
variable {r : Option Nat} {a : Act} {o : Oper} {next : Act → World → Prop} {Q : Exit → Act → World → Prop}
theorem about_any (P : Program) (o : Oper) (a : Act) (w : World) : ∀ f,o.about P w a.eval = some f → (Fx r).fn f:=fun _ _=>trivial
theorem wpIn_val {P : Program} {v : Value} {w' : World} (hd : ∀ c,o.op ≠ .defer c) (h : (execOp a.eval o).run P w = .ok (.value v) w') (hn : next (a.put o.dst v) w') : Oper.wpIn (Fx r) 0 P o a w next Q:=by
 refine ⟨about_any P o a w,?_⟩
 rw [Oper.semAt_eq _ _ _ hd,h]
 exact hn
theorem wpIn_skip {P : Program} {w' : World} (hd : ∀ c,o.op ≠ .defer c) (h : (execOp a.eval o).run P w = .ok .skip w') (hn : next (a.put o.dst undef) w') : Oper.wpIn (Fx r) 0 P o a w next Q:=by
 refine ⟨about_any P o a w,?_⟩
 rw [Oper.semAt_eq _ _ _ hd,h]
 exact hn
theorem wpIn_enter {P : Program} {f : FuncId} {args : Array Value} {w' : World} (hd : ∀ c,o.op ≠ .defer c) (h : (execOp a.eval o).run P w = .ok (.enter f args) w')
  (hc : Calls P f args w' fun e w''=>(∃ v,e = .returned v ∧ next (a.put o.dst v) w'') ∨ ∃ ch,e = .panicked ch ∧ Q (.panic ch) a w'') : Oper.wpIn (Fx r) 0 P o a w next Q:=by
 refine ⟨about_any P o a w,?_⟩
 rw [Oper.semAt_eq _ _ _ hd,h]
 refine ⟨fun h=>by simp [Fence.wide] at h,?_⟩
 have h2 : CallsIn Fence.wide 0 P f args w' fun e w''=>(∃ v,e = .returned v ∧ next (a.put o.dst v) w'') ∨ ∃ ch,e = .panicked ch ∧ Q (.panic ch) a w'':=callsIn_wide.2 hc
 have h3:=h2.mono (R':=fun
  | .returned v,w''=>next (a.put o.dst v) w''
  | .panicked chain,w''=>Q (.panic chain) a w''
  | .outgrown,_=>LetsOut Q) (by rintro e w'' (⟨v,rfl,hv⟩ | ⟨ch,rfl,hv⟩) <;> exact hv)
 exact h3
theorem wpIn_round {P : Program} {l f : Nat} {tmps : Array Value} {assign body : Code} {w' : World} (hd : ∀ c,o.op ≠ .defer c) (h : (execOp a.eval o).run P w = .ok (.round l f tmps assign body) w')
  (hc : RoundIn Fence.wide 0 P l f tmps assign body w' fun e w''=>(∃ v,e = .returned v ∧ next (a.put o.dst v) w'') ∨ ∃ ch,e = .panicked ch ∧ Q (.panic ch) a w'') : Oper.wpIn (Fx r) 0 P o a w next Q:=by
 refine ⟨about_any P o a w,?_⟩
 rw [Oper.semAt_eq _ _ _ hd,h]
 refine ⟨fun h=>by simp [Fence.wide] at h,?_⟩
 have h3:=hc.mono (R':=fun
  | .returned v,w''=>next (a.put o.dst v) w''
  | .panicked chain,w''=>Q (.panic chain) a w''
  | .outgrown,_=>LetsOut Q) (by rintro e w'' (⟨v,rfl,hv⟩ | ⟨ch,rfl,hv⟩) <;> exact hv)
 exact h3
theorem RVs.of {fr : List (Nat × V)} (hgl : GlobOK g.I w) (h : ∀ i,RV g w L (look fr i) (a.tmps.getD i undef)) (xs : Array Operand) : RVs g w L (xs.toList.map (ev fr)) (xs.map a.eval):=by
 refine ⟨by simp,fun j x v hx hv=>?_⟩
 rw [List.getElem?_map] at hx
 rw [Array.getElem?_map] at hv
 cases e : xs[j]? with
 | none=>rw [e] at hv; cases hv
 | some p =>
  rw [e] at hv
  rw [show xs.toList[j]? = some p by simpa using e] at hx
  cases hx; cases hv
  exact ev_ok hgl h p
theorem RVs.append {xs ys : List V} {vs us : Array Value} (h : RVs g w L xs vs) (h' : RVs g w L ys us) : RVs g w L (xs ++ ys) (vs ++ us):=by
 refine ⟨by simp [h.1,h'.1],fun j x v hx hv=>?_⟩
 rcases Nat.lt_or_ge j vs.size with hj | hj
 ·rw [List.getElem?_append_left (by rw [h.1]; exact hj)] at hx
  rw [Array.getElem?_append_left hj] at hv
  exact h.2 j x v hx hv
 ·rw [List.getElem?_append_right (by rw [h.1]; exact hj)] at hx
  rw [Array.getElem?_append_right hj] at hv
  rw [h.1] at hx
  exact h'.2 _ x v hx hv
theorem vCallF_ok {f : V} {args : List V} {u : Value} {vs : Array Value} (hf : RV g w L f u) (ha : RVs g w L args vs) (hg : Good g w L) {k : V → List Blk → Prop} (h : vCallF C f args L k) :
  ∃ (f : FuncId) (us : Array Value),u = .func (.func f) #[] us ∧ (callFunc f (vs ++ us)).run C.P w = .ok (.enter f (vs ++ us)) w ∧
   Calls C.P f (vs ++ us) w fun e w'=>(∃ v X L' g',e = .returned v ∧ k X L' ∧ RV g' w' L' X v ∧ Good g' w' L' ∧ Prog L.length g w L g' w' L') ∨ PanO C g w L e w':=by
 have fin : ∀ (f : FuncId) (caps : List V) (us : Array Value),RVs g w L caps us → CallP C f (args ++ caps) L k → (callFunc f (vs ++ us)).run C.P w = .ok (.enter f (vs ++ us)) w ∧
   Calls C.P f (vs ++ us) w fun e w'=>(∃ v X L' g',e = .returned v ∧ k X L' ∧ RV g' w' L' X v ∧ Good g' w' L' ∧ Prog L.length g w L g' w' L') ∨ PanO C g w L e w':=by
  intro f caps us hcaps hcall
  unfold CallP at hcall
  obtain ⟨⟨fn,h1,h2,h3⟩,h4⟩:=hcall
  refine ⟨?_,h4 g w (vs ++ us) hg (ha.append hcaps)⟩
  have h2' : fn.body ≠ none:=by intro hb; rw [hb] at h2; cases h2
  have h3' : fn.name ≠ "runtime.NumGoroutine" := by simpa using h3
  simp [callFunc,h1,h2',h3']
 unfold vCallF at h
 split at h
 ·rename_i f caps
  cases hf with | fn _ _ us hlen hrec =>
  obtain ⟨h1,h2⟩:=fin f caps us ⟨hlen,hrec⟩ h
  exact ⟨f,us,rfl,h1,h2⟩
 ·rename_i f caps
  cases hf with | d _ _ hd =>
  cases hd with | fn _ _ us hlen hrec =>
  obtain ⟨h1,h2⟩:=fin f (caps.map .d) us ⟨by simpa using hlen,fun j x v hx hv=>by
   rw [List.getElem?_map] at hx
   cases e : caps[j]? with
   | none=>rw [e] at hx; cases hx
   | some y=>rw [e] at hx; cases hx; exact .d _ _ (hrec j y v e hv)⟩ h
  exact ⟨f,us,rfl,h1,h2⟩
 ·exact h.elim
theorem vCallV_ok {f : V} {args : List V} {u : Value} {vs : Array Value} {c : Call} (hf : RV g w L f u) (ha : RVs g w L args vs) (hg : Good g w L) {k : V → List Blk → Prop} (h : vCallV C f args L k)
  (ho : o.op = .call c) {fo : Operand} (hc : c.callee = .value fo) (hfo : a.eval fo = u) (has : c.args.map a.eval = vs)
  (hnext : ∀ v X L' g' w',k X L' → RV g' w' L' X v → Good g' w' L' → Prog L.length g w L g' w' L' → next (a.put o.dst v) w') (hP : ∀ v X L' g' w',PanS C L.length g w L v X L' g' w' → Q (.panic [{ v,recovered:=false }]) a w') : Oper.wpIn (Fx r) 0 C.P o a w next Q:=by
 unfold vCallV at h
 split at h
 ·rename_i b
  unfold YieldP at h
  have hu : ∃ l,u = .func (.yield l) #[] #[]:=by cases hf <;> exact ⟨_,rfl⟩
  obtain ⟨l,rfl⟩:=hu
  obtain ⟨f,tmps,assign,body,h1,h2⟩:=h g w vs l hg ha hf
  refine wpIn_round (w':=w) (fun c=>by rw [ho]; simp) ?_ (h2.mono ?_)
  ·simp only [execOp,ho,resolve,hc,hfo,Deferred.ofValue,has,Sem.run_bind,Sem.run_pure,Result.andThen_ok,invoke]
   simpa using h1
  ·rintro e w' (⟨v,X,L',g',rfl,hX,hr,hgood,hp⟩ | ⟨v,X,L',g',rfl,hS⟩)
   ·exact .inl ⟨v,rfl,hnext v X L' g' w' hX hr hgood hp⟩
   ·exact .inr ⟨_,rfl,hP v X L' g' w' hS⟩
 ·obtain ⟨f,us,rfl,h1,h2⟩:=vCallF_ok hf ha hg h
  refine wpIn_enter (f:=f) (args:=vs ++ us) (w':=w) (fun c=>by rw [ho]; simp) ?_ (h2.mono ?_)
  ·simp only [execOp,ho,resolve,hc,hfo,Deferred.ofValue,has,Sem.run_bind,Sem.run_pure,Result.andThen_ok,invoke]
   simpa using h1
  ·rintro e w' (⟨v,X,L',g',rfl,hX,hr,hgood,hp⟩ | ⟨v,X,L',g',rfl,hS⟩)
   ·exact .inl ⟨v,rfl,hnext v X L' g' w' hX hr hgood hp⟩
   ·exact .inr ⟨_,rfl,hP v X L' g' w' hS⟩
theorem vInvoke_ok {x : V} {name : String} {args : List V} {u : Value} {vs : Array Value} {c : Call} (hx : RV g w L x u) (ha : RVs g w L args vs) (hg : Good g w L) {k : V → List Blk → Prop} (h : vInvoke C x name args L k)
  (ho : o.op = .call c) {xo : Operand} (hc : c.callee = .invoke xo name) (hxo : a.eval xo = u) (has : c.args.map a.eval = vs)
  (hnext : ∀ v X L' g' w',k X L' → RV g' w' L' X v → Good g' w' L' → Prog L.length g w L g' w' L' → next (a.put o.dst v) w') (hP : ∀ v X L' g' w',PanS C L.length g w L v X L' g' w' → Q (.panic [{ v,recovered:=false }]) a w') : Oper.wpIn (Fx r) 0 C.P o a w next Q:=by
 have fin : ∀ (t : TypeId) (y : V) (q : Value),u = .iface t q → RV g w L y q → (MethP C t name fun f=>CallP C f (y :: args) L k) → Oper.wpIn (Fx r) 0 C.P o a w next Q:=by
  rintro t y q rfl hy hm
  unfold MethP at hm
  obtain ⟨f,hf,hcall⟩:=hm
  unfold CallP at hcall
  obtain ⟨⟨fn,h1,h2,h3⟩,h4⟩:=hcall
  have hvs : RVs g w L (y :: args) (#[q] ++ vs):=RVs.append (xs:=[y]) (us:=vs) ⟨rfl,fun j x v hx hv=>by
   match j,hx,hv with
   | 0,hx,hv=>cases hx; cases hv; exact hy
   | j + 1,hx,_=>simp at hx⟩ ha
  have h2' : fn.body ≠ none:=by intro hb; rw [hb] at h2; cases h2
  have h3' : fn.name ≠ "runtime.NumGoroutine" := by simpa using h3
  have hcf : (callFunc f (#[q] ++ vs)).run C.P w = .ok (.enter f (#[q] ++ vs)) w:=by simp [callFunc,h1,h2',h3']
  refine wpIn_enter (f:=f) (args:=#[q] ++ vs) (w':=w) (fun c=>by rw [ho]; simp) ?_ ((h4 g w (#[q] ++ vs) hg hvs).mono ?_)
  ·have he : (#[Value.iface t q] ++ vs).extract 1 (#[Value.iface t q] ++ vs).size = vs:=by
    rw [Array.extract_append]; simp
   have h0 : (#[Value.iface t q] ++ vs)[0]? = some (Value.iface t q):=by rw [Array.getElem?_append_left (Nat.zero_lt_one)]; rfl
   simp only [execOp,ho,resolve,hc,hxo,has,Sem.run_bind,Sem.run_pure,Result.andThen_ok,invoke,h0,he,callMethod]
   have:=hf q w
   simp [this,hcf]
  ·rintro e w' (⟨v,X,L',g',rfl,hX,hr,hgood,hp⟩ | ⟨v,X,L',g',rfl,hS⟩)
   ·exact .inl ⟨v,rfl,hnext v X L' g' w' hX hr hgood hp⟩
   ·exact .inr ⟨_,rfl,hP v X L' g' w' hS⟩
 unfold vInvoke at h
 split at h
 ·cases hx with | d _ _ hd =>
  obtain ⟨q,rfl,hq⟩:=unI_ok (L:=L) hd
  exact fin _ _ q rfl hq h
 ·cases hx with | iface _ _ q hq=>exact fin _ _ q rfl hq h
 ·exact h.elim
theorem vPanic_ok {x : V} {u : Value} (hg : Good g w L) (hx : RV g w L x u) (h : vPanic C x L) : ∃ v X g',(Instr.panic u).run C.P w = .halt (.panic v) w ∧ PanS C L.length g w L v X (L.take C.pn) g' w:=by
 have fin : ∀ (t : TypeId) (q : Value) (y : V),u = .iface t q → y.bel C.pn = true → RV g w L y u → C.pn ≤ L.length → belB C.pn (L.take C.pn) = true → noDefr C.pn L = true → C.pan y (L.take C.pn) → ∃ v X g',(Instr.panic u).run C.P w = .halt (.panic v) w ∧ PanS C L.length g w L v X (L.take C.pn) g' w:=by
  rintro t q y rfl hb hy hn hB hd hp
  obtain ⟨hm,hgood⟩:=drop_good hg hB g.I (fun _ h=>h) (fun _ h=>.inl h)
  refine ⟨.iface t q,y,_,by simp [Instr.panic],hp,hn,hm _ _ hb hy,hgood,drop_prog hg (Nat.le_refl _) hB hn g.I (fun _ h=>h) (fun _ h=>.inl h),fun b q _ hb hm=>?_⟩
  obtain ⟨q',h1,h2⟩:=hg.blk b _ hb
  rw [hm] at h1; cases h1
  refine ⟨h2,fun hI=>hg.dis q ⟨b,⟨_,hb,by simp⟩,hm⟩ hI,?_⟩
  rintro ⟨b',hl,hm'⟩
  obtain ⟨hlt,hl'⟩:=take_live hl
  have:=hg.inj b b' q ⟨_,hb,by simp⟩ hl' hm hm'
  subst this
  unfold noDefr at hd
  have:=List.all_eq_true.1 hd .defr (List.mem_of_getElem? (i:=b) (by rw [take_get hlt]; exact hb))
  simp at this
 unfold vPanic at h
 split at h
 ·rename_i t y
  obtain ⟨⟨h1,h2,h3,h4⟩,h5⟩:=h.out
  cases hx with
  | iface _ _ q hq=>exact fin t q (.iface t y) rfl (by simpa [V.bel] using h4) (.iface t y q hq) h1 h2 h3 h5
 ·rename_i t b ds
  obtain ⟨⟨h1,h2,h3⟩,h5⟩:=h.out
  cases hx with
  | d _ _ hd =>
   obtain ⟨q,rfl,hq⟩:=unI_ok (L:=L) hd
   exact fin t q (.d (.iface t b ds)) rfl rfl (.d _ _ hd) h1 h2 h3 h5
 ·exact h.elim
theorem wpIn_panic {P : Program} {v : Value} {w' : World} (hd : ∀ c,o.op ≠ .defer c) (h : (execOp a.eval o).run P w = .halt (.panic v) w') (hn : Q (.panic [{ v,recovered:=false }]) a w') : Oper.wpIn (Fx r) 0 P o a w next Q:=by
 refine ⟨about_any P o a w,?_⟩
 rw [Oper.semAt_eq _ _ _ hd,h]
 exact hn
theorem parts_ok {fr : List (Nat × V)} (hgl : GlobOK g.I w) (h : ∀ i,RV g w L (look fr i) (a.tmps.getD i undef)) (ps : Array (Nat × Operand)) :
  ((ps.toList.map fun p=>(p.1,ev fr p.2)).map (·.1) = ((ps.map fun p=>(p.1,a.eval p.2)).toList.map (·.1))) ∧
  ∀ (j : Nat) (p : Nat × V) (q : Nat × Value),(ps.toList.map fun p=>(p.1,ev fr p.2))[j]? = some p → (ps.map fun p=>(p.1,a.eval p.2)).toList[j]? = some q → RV g w L p.2 q.2:=by
 refine ⟨by simp,fun j p q hp hq=>?_⟩
 rw [List.getElem?_map] at hp
 rw [Array.toList_map,List.getElem?_map] at hq
 cases e : ps.toList[j]? with
 | none=>rw [e] at hp; cases hp
 | some x=>rw [e] at hp hq; cases hp; cases hq; exact ev_ok hgl h x.2
theorem vOp_ok (hC : C.OK) {fr : List (Nat × V)} (hfr : ∀ i,RV g w L (look fr i) (a.tmps.getD i undef)) (hg : Good g w L) {k : V → List Blk → Prop} (h : vOp C o fr L k)
  (hnext : ∀ v X L' g' w',k X L' → RV g' w' L' X v → Good g' w' L' → Prog L.length g w L g' w' L' → next (a.put o.dst v) w') (hP : ∀ v X L' g' w',PanS C L.length g w L v X L' g' w' → Q (.panic [{ v,recovered:=false }]) a w') : Oper.wpIn (Fx r) 0 C.P o a w next Q:=by
 have E:=fun x=>ev_ok hg.gl hfr x
 have EB:=fun x=>evB_ok hg.gl hfr x
 have pure1 : ∀ {v X},(∀ c,o.op ≠ .defer c) → (execOp a.eval o).run C.P w = .ok (.value v) w → k X L → RV g w L X v → Oper.wpIn (Fx r) 0 C.P o a w next Q :=
  fun hd hrun hk hv=>wpIn_val hd hrun (hnext _ _ _ _ _ hk hv hg (Prog.refl _ _ _ _))
 have opt : ∀ x : Option Operand,RO g w L (x.map (ev fr)) (x.map a.eval):=fun x=>by
  cases x with
  | none=>trivial
  | some x=>exact E x
 unfold vOp at h
 split at h
 ·rename_i x ho
  exact pure1 (by simp [ho]) (by simp [execOp,ho]) h (EB x)
 ·rename_i x ho
  exact pure1 (by simp [ho]) (by simp [execOp,ho]) h (EB x)
 ·rename_i c x y ho
  have hcv:=evB_ok hg.gl hfr c
  have fin : ∀ t : Bool,a.eval c = .bool t → (match t with | true=>k (evB fr x) L | false=>k (evB fr y) L) → Oper.wpIn (Fx r) 0 C.P o a w next Q:=by
   intro t hb h
   cases t with
   | true=>exact pure1 (by simp [ho]) (by simp [execOp,ho,hb,asBool]) h (EB x)
   | false=>exact pure1 (by simp [ho]) (by simp [execOp,ho,hb,asBool]) h (EB y)
  split at h
  ·rename_i hc
   rw [hc] at hcv
   exact fin true (by generalize a.eval c = v at hcv; cases hcv; rfl) h
  ·rename_i hc
   rw [hc] at hcv
   exact fin false (by generalize a.eval c = v at hcv; cases hcv; rfl) h
  ·rename_i t hc
   rw [hc] at hcv
   exact fin t hcv.bool_of h.out
  ·exact h.elim
 ·rename_i t ho
  obtain ⟨rv,w',X,L',g',h1,h2,h3,h4,h5⟩:=vAlloc_ok hC hg h
  exact wpIn_val (by simp [ho]) (by simp [execOp,ho,h1]) (hnext _ _ _ _ _ h2 h3 h4 h5)
 ·rename_i t x ho
  obtain ⟨rv,w',X,L',g',h1,h2,h3,h4,h5⟩:=vBox_ok (C:=C) hg t (E x) h
  exact wpIn_val (by simp [ho]) (by simp [execOp,ho,h1]) (hnext _ _ _ _ _ h2 h3 h4 h5)
 ·rename_i t ps ho
  obtain ⟨p1,p2⟩:=parts_ok hg.gl hfr ps
  obtain ⟨rv,X,h1,h2,h3⟩:=vBuild_ok hC p1 p2 h
  exact pure1 (by simp [ho]) (by simp [execOp,ho,h1]) h2 h3
 ·rename_i t len ps ho
  obtain ⟨p1,p2⟩:=parts_ok hg.gl hfr ps
  obtain ⟨rv,w',X,L',g',h1,h2,h3,h4,h5⟩:=vBuildSlice_ok hC hg p1 p2 h
  exact wpIn_val (by simp [ho]) (by simp [execOp,ho,h1]) (hnext _ _ _ _ _ h2 h3 h4 h5)
 ·rename_i t x ho
  obtain ⟨rv,X,h1,h2,h3⟩:=vLoad_ok hC hg (E x) h
  exact pure1 (by simp [ho]) (by simp [execOp,ho,h1]) h2 h3
 ·rename_i t x y ho
  obtain ⟨w',L',h1,h2,_,h3,h4⟩:=vStore_ok hC hg (E x) (E y) h
  exact wpIn_skip (by simp [ho]) (by simp [execOp,ho,h1]) (hnext undef _ _ _ _ h2 (.poison _) h3 h4)
 ·rename_i x ho
  have hx:=E x
  have nc : ∀ v,(∀ n,v ≠ .pointer none ∧ v ≠ .nilIface ∧ v ≠ .nilFunc ∧ ∀ p q,v ≠ .func (.method n) p q) → a.eval x = v → (execOp a.eval o).run C.P w = .ok (.value v) w:=by
   intro v hv he
   simp only [execOp,ho,he]
   split
   ·exact absurd rfl (hv "").1
   ·exact absurd rfl (hv "").2.1
   ·exact absurd rfl (hv "").2.2.1
   ·rename_i n p q
    exact absurd rfl ((hv n).2.2.2 p q)
   ·rfl
  have go : ∀ X,ev fr x = X → (∀ v,RV g w L X v → ∀ n,v ≠ .pointer none ∧ v ≠ .nilIface ∧ v ≠ .nilFunc ∧ ∀ p q,v ≠ .func (.method n) p q) → k X L → Oper.wpIn (Fx r) 0 C.P o a w next Q:=fun X he hn hk=>by
   rw [he] at hx
   exact pure1 (by simp [ho]) (nc _ (hn _ hx) rfl) hk hx
  split at h
  ·rename_i he
   exact go _ he (fun v hv n=>by cases hv <;> simp) h
  ·rename_i he
   exact go _ he (fun v hv n=>by cases hv <;> simp) h
  ·rename_i he
   exact go _ he (fun v hv n=>by cases hv with | d _ _ hd=>cases hd; simp) h
  ·rename_i he
   exact go _ he (fun v hv n=>by cases hv <;> simp) h
  ·rename_i he
   exact go _ he (fun v hv n=>by cases hv with | d _ _ hd=>cases hd; simp) h
  ·rename_i he
   exact go _ he (fun v hv n=>by cases hv <;> simp) h
  ·exact h.elim
 ·rename_i op t x y yt ho
  split at h
  ·obtain ⟨rv,X,h1,h2,h3⟩:=vBin_ok hC (E x) (E y) x y h
   exact pure1 (by simp [ho]) (by simp only [execOp,ho]; rw [Sem.run_bind,h1]; rfl) h2 h3
  ·rename_i hn
   have hy:=isNilSl_eq hn
   subst hy
   obtain ⟨rv,X,h1,h2,h3⟩:=vNilSl_ok hC (E x) x (.const (.slice none 0 0)) h
   have h1 : (do eqGuard op t x (.const (.slice none 0 0)) (a.eval x) (a.eval (.const (.slice none 0 0))); binOp op t (a.eval x) (a.eval (.const (.slice none 0 0))) : Sem Value).run C.P w = .ok rv w:=h1
   exact pure1 (by simp [ho]) (by simp only [execOp,ho]; rw [Sem.run_bind,h1]; rfl) h2 h3
 ·rename_i op t x ho
  obtain ⟨rv,X,h1,h2,h3⟩:=vUn_ok (EB x) h
  exact pure1 (by simp [ho]) (by simp only [execOp,ho]; rw [Sem.run_bind,h1]; rfl) h2 h3
 ·rename_i s t x ho
  obtain ⟨rv,X,h1,h2,h3⟩:=vConvL_ok hC hg (E x) h
  exact pure1 (by simp [ho]) (by simp only [execOp,ho]; rw [Sem.run_bind,h1]; rfl) h2 h3
 ·rename_i s x f ho
  obtain ⟨rv,X,h1,h2,h3⟩:=vFieldAddr_ok hC (E x) h
  exact pure1 (by simp [ho]) (by simp only [execOp,ho]; rw [Sem.run_bind,h1]; rfl) h2 h3
 ·rename_i s x f ho
  split at h
  ·rename_i si cs hs hx
   split at h
   ·rename_i fs hk
    split at h
    ·rename_i off ft hf
     split at h
     ·rename_i fi hft
      split at h
      ·rename_i X hcut
       have hxv:=E x
       rw [hx] at hxv
       obtain ⟨fields,hu,hfs,_⟩:=(hC s si hs).struct hk
       obtain ⟨fld,f1,f2,f3⟩:=field_get hfs hf
       subst f2 f3
       generalize hv : a.eval x = v at hxv
       have hxv':=hxv
       cases hxv' with | agg _ vs _ _ _ =>
       obtain ⟨rv,h1,h2⟩:=part_ok (hC _ fi hft) hxv hcut
       exact pure1 (by simp [ho]) (by simp [execOp,ho,hv,Instr.field,run_underlying hu,f1,asAgg,h1]) h h2
      ·exact h.elim
     ·exact h.elim
    ·exact h.elim
   ·exact h.elim
  ·exact h.elim
 ·rename_i t x i ho
  obtain ⟨rv,X,h1,h2,h3⟩:=vIndexAddr_ok hC hg (E x) (E i) h
  exact pure1 (by simp [ho]) (by simp only [execOp,ho]; rw [Sem.run_bind,h1]; rfl) h2 h3
 ·rename_i x i ho
  split at h
  ·rename_i vs hx
   split at h
   ·rename_i X hX
    have hxv:=E x
    rw [hx] at hxv
    generalize hv : a.eval x = v at hxv
    cases hxv with | tup _ us hlen hrec =>
    have hlt:=lt_of_get hX
    have hu : us[i]? = some (us[i]'(by omega)):=Array.getElem?_eq_getElem _
    exact pure1 (by simp [ho]) (by simp only [execOp,ho,hv,Instr.extract,hu,Sem.run_bind]; rfl) h (hrec i X _ hX hu)
   ·exact h.elim
  ·exact h.elim
 ·rename_i t x lo hi mx ho
  cases mx with
  | none =>
   obtain ⟨rv,X,h1,h2,h3⟩:=vSlice_ok hC hg (E x) (opt lo) (opt hi) (opt none) (show vSlice C t (ev fr x) (lo.map (ev fr)) (hi.map (ev fr)) none L fun x=>k x L from h)
   exact pure1 (by simp [ho]) (by simp only [execOp,ho]; rw [Sem.run_bind,h1]; rfl) h2 h3
  | some m =>
   cases hcs : isCst (some m) with
   | true =>
    obtain ⟨rv,X,L',g',h1,h2,h3,h4,h5⟩:=vSlice3_ok hC hg (E x) (opt lo) (opt hi) (E m) (show vSlice3 C t (ev fr x) (lo.map (ev fr)) (hi.map (ev fr)) (ev fr m) L k by
     have h' : (bif isCst (some m) then vSlice3 C t (ev fr x) (lo.map (ev fr)) (hi.map (ev fr)) (ev fr m) L k else vSlice4 C t (ev fr x) (lo.map (ev fr)) (hi.map (ev fr)) (ev fr m) L k):=h
     rw [hcs] at h'; exact h')
    exact wpIn_val (by simp [ho]) (by simp only [execOp,ho,Option.map_some]; rw [Sem.run_bind,h1]; rfl) (hnext _ _ _ _ _ h2 h3 h4 h5)
   | false =>
    obtain ⟨rv,X,h1,h2,h3⟩:=vSlice4_ok hC hg (E x) (opt lo) (opt hi) (E m) (show vSlice4 C t (ev fr x) (lo.map (ev fr)) (hi.map (ev fr)) (ev fr m) L k by
     have h' : (bif isCst (some m) then vSlice3 C t (ev fr x) (lo.map (ev fr)) (hi.map (ev fr)) (ev fr m) L k else vSlice4 C t (ev fr x) (lo.map (ev fr)) (hi.map (ev fr)) (ev fr m) L k):=h
     rw [hcs] at h'; exact h')
    exact pure1 (by simp [ho]) (by simp only [execOp,ho,Option.map_some]; rw [Sem.run_bind,h1]; rfl) h2 h3
 ·rename_i f first caps ho
  cases hf : first.isEmpty with
  | false=>simp [hf] at h
  | true =>
  simp only [hf,cond_true] at h
  have hfe : first = #[]:=by simpa using hf
  subst hfe
  have:=RVs.of (a:=a) (g:=g) (w:=w) (L:=L) hg.gl hfr caps
  exact pure1 (by simp [ho]) (by simp [execOp,ho,Instr.makeFunc]) h (.fn _ _ _ this.1 this.2)
 ·rename_i t ho
  obtain ⟨h1,h2,h3⟩:=makeMap_ok hg
  exact wpIn_val (by simp [ho]) (by simp [execOp,ho,Instr.makeMap,newObj]; rfl) (hnext _ _ _ _ _ h h3 h1 h2)
 ·rename_i t x y ho
  obtain ⟨rv,w',X,L',g',h1,h2,h3,h4,h5⟩:=vMakeSlice_ok hC hg (E x) (E y) h
  exact wpIn_val (by simp [ho]) (by simp only [execOp,ho]; rw [Sem.run_bind,h1]; rfl) (hnext _ _ _ _ _ h2 h3 h4 h5)
 ·rename_i t x i ok ho
  obtain ⟨rv,X,h1,h2,h3⟩:=vLookup_ok hC hg (E x) (E i) h
  exact pure1 (by simp [ho]) (by simp only [execOp,ho]; rw [Sem.run_bind,h1]; rfl) h2 h3
 ·rename_i t m x v ho
  obtain ⟨w',L',h1,h2,h3,h4⟩:=vMapUpdate_ok hC hg (E m) (E x) (E v) h
  exact wpIn_skip (by simp [ho]) (by simp [execOp,ho,h1]) (hnext undef _ _ _ _ h2 (.poison _) h3 h4)
 ·rename_i t m x v ho
  obtain ⟨w',L',h1,h2,h3,h4⟩:=vMapUpdate_ok hC hg (E m) (E x) (E v) h
  exact wpIn_skip (by simp [ho]) (by simp [execOp,ho,h1]) (hnext undef _ _ _ _ h2 (.poison _) h3 h4)
 ·rename_i t m x ho
  obtain ⟨rv,w',X,L',h1,h2,h3,h4,h5⟩:=vMapEntry_ok hC hg (E m) (E x) h
  exact wpIn_val (by simp [ho]) (by simp only [execOp,ho]; rw [Sem.run_bind,h1]; rfl) (hnext _ _ _ _ _ h2 h3 h4 h5)
 ·rename_i t m s v ho
  obtain ⟨w',L',h1,h2,h3,h4⟩:=vEntryStore_ok (C:=C) (t:=t) hg (E m) (E s) (E v) h
  exact wpIn_skip (by simp [ho]) (by simp [execOp,ho,h1]) (hnext undef _ _ _ _ h2 (.poison _) h3 h4)
 ·rename_i t x ho
  obtain ⟨rv,X,h1,h2,h3⟩:=vMakeIface_ok hC (E x) h
  exact pure1 (by simp [ho]) (by simp only [execOp,ho]; rw [Sem.run_bind,h1]; rfl) h2 h3
 ·rename_i x xt t ok ho
  obtain ⟨rv,X,h1,h2,h3⟩:=vTypeAssert_ok (xt:=xt) hC (E x) h
  exact pure1 (by simp [ho]) (by simp only [execOp,ho]; rw [Sem.run_bind,h1]; rfl) h2 h3
 ·rename_i t x i ho
  obtain ⟨rv,X,h1,h2,h3⟩:=vIndex_ok hC (E x) (E i) h
  exact pure1 (by simp [ho]) (by simp only [execOp,ho]; rw [Sem.run_bind,h1]; rfl) h2 h3
 ·rename_i c ho
  split at h
  ·rename_i f hc
   exact vCallV_ok (E f) (RVs.of hg.gl hfr c.args) hg h ho hc rfl rfl hnext hP
  ·rename_i hc
   split at h
   ·rename_i x t hxs hts
    obtain ⟨rv,X,h1,h2,h3⟩:=vLenL_ok (ty:=o.type) hC (E x) h
    have e1 : c.args = #[x]:=by apply Array.ext'; rw [hxs]
    have e2 : c.argTypes = #[t]:=by apply Array.ext'; rw [hts]
    exact pure1 (by simp [ho]) (by simp [execOp,ho,resolve,hc,e1,e2,invoke,builtin,h1]) h2 h3
   ·exact h.elim
  ·rename_i hc
   split at h
   ·rename_i s x t t' hxs hts
    cases htt : Nat.beq t t' with
    | false=>simp [htt] at h
    | true =>
    simp only [htt,cond_true] at h
    have:=Nat.eq_of_beq_eq_true htt
    subst this
    obtain ⟨rv,w',X,L',g',h1,h2,h3,h4,h5⟩:=vAppend_ok (ty:=o.type) hC hg (E s) (E x) h
    have e1 : c.args = #[s,x]:=by apply Array.ext'; rw [hxs]
    have e2 : c.argTypes = #[t,t]:=by apply Array.ext'; rw [hts]
    exact wpIn_val (by simp [ho]) (by simp [execOp,ho,resolve,hc,e1,e2,invoke,builtin,h1]) (hnext _ _ _ _ _ h2 h3 h4 h5)
   ·exact h.elim
  ·rename_i hc
   split at h
   ·rename_i s t hxs hts
    obtain ⟨w',L',h1,h2,h3,h4⟩:=vClear_ok (ty:=o.type) hC hg (E s) h
    have e1 : c.args = #[s]:=by apply Array.ext'; rw [hxs]
    have e2 : c.argTypes = #[t]:=by apply Array.ext'; rw [hts]
    exact wpIn_val (by simp [ho]) (by simp [execOp,ho,resolve,hc,e1,e2,invoke,builtin,h1]) (hnext _ _ _ _ _ h2 (.tup [] #[] rfl (fun j x v hx=>by simp at hx)) h3 h4)
   ·exact h.elim
  ·rename_i hc
   split at h
   ·rename_i x y hxs
    obtain ⟨rv,X,h1,h2,h3⟩:=vMin_ok (C:=C) (E x) (E y) c.argTypes o.type h
    have e1 : c.args = #[x,y]:=by apply Array.ext'; rw [hxs]
    exact pure1 (by simp [ho]) (by simp [execOp,ho,resolve,hc,e1,invoke,builtin,h1]) h2 h3
   ·exact h.elim
  ·rename_i hc
   split at h
   ·rename_i x y hxs
    obtain ⟨rv,X,h1,h2,h3⟩:=vMax_ok (C:=C) (E x) (E y) c.argTypes o.type h
    have e1 : c.args = #[x,y]:=by apply Array.ext'; rw [hxs]
    exact pure1 (by simp [ho]) (by simp [execOp,ho,resolve,hc,e1,invoke,builtin,h1]) h2 h3
   ·exact h.elim
  ·rename_i x name hc
   exact vInvoke_ok (E x) (RVs.of hg.gl hfr c.args) hg h ho hc rfl rfl hnext hP
  ·exact h.elim
 ·rename_i x ho
  obtain ⟨v,X,g',hv,hS⟩:=vPanic_ok hg (E x) h
  exact wpIn_panic (by simp [ho]) (by simp [execOp,ho,hv]) (hP v X _ g' w hS)
 ·exact h.elim
end
end Go.Tidy
