import Derived.Test.YtihibgcojdfndaaGreatDoorJBA
import Derived.MapKept
import Derived.ChangeMaps4
import Derived.WideKeyRuns
import Derived.Laws.MakeOwn
set_option maxRecDepth 100000
set_option maxHeartbeats 0
set_option linter.unusedSimpArgs false
set_option linter.unusedVariables false
namespace Go.Tidy
def keyL : List KK → List V → Bool
 | [],[]=>true
 | .int k :: ks,.d (.int k' _) :: xs=>decide (k = k') && keyL ks xs
 | .str :: ks,.d (.str _) :: xs=>keyL ks xs
 | _,_=>false
def keyV : TK → V → Bool
 | .int k,.d (.int k' _)=>decide (k = k')
 | .bool,.d (.bool _)=>true
 | .str,.d (.str _)=>true
 | .keys ks,.agg xs=>keyL ks xs
 | _,_=>false
def kkOf : TK → Option KK
 | .int k=>some (.int k)
 | .str=>some .str
 | _=>none
def kindsS (C : Ctx) : Nat → List (Nat × TypeId) → Option (List KK)
 | _,[]=>some []
 | i,p :: fs=>bif Nat.beq p.1 i then match C.tt p.2 with
   | some ti=>match kkOf ti.k with
    | some k=>match kindsS C (i + 1) fs with
     | some ks=>some (k :: ks)
     | none=>none
    | none=>none
   | none=>none
  else none
def keyTK (C : Ctx) (ti : TI) : TK :=
 match ti.k with
 | .int k=>.int k
 | .bool=>.bool
 | .str=>.str
 | .struct fs=>bif ti.eqok then match kindsS C 0 fs with
   | some ks=>.keys ks
   | none=>.other
  else .other
 | _=>.other
@[irreducible] def MapF (tk : TK) (es : List (V × V)) (key : V) (k : Option (Nat × V) → Prop) : Prop :=
 (∀ kv ∈ es,keyV tk kv.1 = true) ∧ ((∃ i v,es[i]? = some (key,v) ∧ (∀ j kv,j < i → es[j]? = some kv → kv.1 ≠ key) ∧ k (some (i,v))) ∨ ((∀ kv ∈ es,kv.1 ≠ key) ∧ k none))
theorem MapF.hit {tk : TK} {es : List (V × V)} {key : V} {k : Option (Nat × V) → Prop} (i : Nat) (v : V) (hk : ∀ kv ∈ es,keyV tk kv.1 = true) (hi : es[i]? = some (key,v)) (hj : ∀ j kv,j < i → es[j]? = some kv → kv.1 ≠ key) (h : k (some (i,v))) : MapF tk es key k:=by
 unfold MapF; exact ⟨hk,.inl ⟨i,v,hi,hj,h⟩⟩
theorem MapF.miss {tk : TK} {es : List (V × V)} {key : V} {k : Option (Nat × V) → Prop} (hk : ∀ kv ∈ es,keyV tk kv.1 = true) (hj : ∀ kv ∈ es,kv.1 ≠ key) (h : k none) : MapF tk es key k:=by
 unfold MapF; exact ⟨hk,.inr ⟨hj,h⟩⟩
theorem MapF.nil {tk : TK} {key : V} {k : Option (Nat × V) → Prop} (h : k none) : MapF tk [] key k:=MapF.miss (fun kv hkv=>by simp at hkv) (fun kv hkv=>by simp at hkv) h
section
variable {C : Ctx} {g : Gh} {w : World} {L : List Blk}
def valL : List V → List Value
 | .d (.int k n) :: xs=>.int k n :: valL xs
 | .d (.str s) :: xs=>.string s :: valL xs
 | _=>[]
theorem keyL_cases {ks : List KK} {xs : List V} (h : keyL ks xs = true) : (ks = [] ∧ xs = []) ∨ (∃ k n ks' xs',ks = .int k :: ks' ∧ xs = .d (.int k n) :: xs' ∧ keyL ks' xs' = true) ∨ (∃ s ks' xs',ks = .str :: ks' ∧ xs = .d (.str s) :: xs' ∧ keyL ks' xs' = true):=by
 unfold keyL at h
 split at h
 ·exact .inl ⟨rfl,rfl⟩
 ·rw [Bool.and_eq_true] at h
  have e:=of_decide_eq_true h.1
  subst e
  exact .inr (.inl ⟨_,_,_,_,rfl,rfl,h.2⟩)
 ·exact .inr (.inr ⟨_,_,_,rfl,rfl,h⟩)
 ·cases h
theorem keyL_val : ∀ {ks : List KK} {xs : List V} {vs : List Value},keyL ks xs = true → xs.length = vs.length → (∀ (j : Nat) (x : V) (v : Value),xs[j]? = some x → vs[j]? = some v → RV g w L x v) → vs = valL xs
 | ks,xs,vs,h,hl,hr=>by
  rcases keyL_cases h with ⟨rfl,rfl⟩ | ⟨k,n,ks',xs',rfl,rfl,h'⟩ | ⟨s,ks',xs',rfl,rfl,h'⟩
  ·cases vs with | nil=>rfl | cons=>simp at hl
  all_goals
   cases vs with
   | nil=>simp at hl
   | cons v vs =>
    have h0:=hr 0 _ v rfl rfl
    cases h0 with | d _ _ h0 =>
    cases h0
    rw [valL,← keyL_val h' (by simpa using hl) fun j x v hx hv=>hr (j + 1) x v (by simpa using hx) (by simpa using hv)]
theorem valL_inj : ∀ {ks : List KK} {xs ys : List V},keyL ks xs = true → keyL ks ys = true → valL xs = valL ys → xs = ys
 | ks,xs,ys,h,h',he=>by
  rcases keyL_cases h with ⟨rfl,rfl⟩ | ⟨k,n,ks',xs',rfl,rfl,h1⟩ | ⟨s,ks',xs',rfl,rfl,h1⟩ <;> rcases keyL_cases h' with ⟨e,rfl⟩ | ⟨k2,n2,ks2,ys',e,rfl,h2⟩ | ⟨s2,ks2,ys',e,rfl,h2⟩ <;> cases e
  ·rfl
  ·simp only [valL,List.cons.injEq,Value.int.injEq,true_and] at he
   obtain ⟨rfl,he⟩:=he
   rw [valL_inj h1 h2 he]
  ·simp only [valL,List.cons.injEq,Value.string.injEq] at he
   obtain ⟨rfl,he⟩:=he
   rw [valL_inj h1 h2 he]
theorem valL_same (n : Nat) : ∀ {xs : List V},((valL xs).zip (valL xs)).all (fun (p : Value × Value)=>Instr.sameBits n p.1 p.2) = true
 | []=>rfl
 | x :: xs=>by
  unfold valL
  split
  ·rename_i e
   simp only [List.cons.injEq] at e
   obtain ⟨rfl,rfl⟩:=e
   simp only [List.zip_cons_cons,List.all_cons,Bool.and_eq_true]
   exact ⟨by simp [Instr.sameBits],valL_same n⟩
  ·rename_i s _ e
   simp only [List.cons.injEq] at e
   obtain ⟨rfl,rfl⟩:=e
   simp only [List.zip_cons_cons,List.all_cons,Bool.and_eq_true]
   exact ⟨by have : (s == s) = true := (MapKept.bytes_beq s s).2 rfl
             simp [Instr.sameBits,this],valL_same n⟩
  ·rfl
theorem keyV_form {tk : TK} {x : V} (h : keyV tk x = true) : (∃ k n,tk = .int k ∧ x = .d (.int k n)) ∨ (tk = .bool ∧ ∃ b,x = .d (.bool b)) ∨ (tk = .str ∧ ∃ s,x = .d (.str s)) ∨ (∃ ks xs,tk = .keys ks ∧ x = .agg xs ∧ keyL ks xs = true):=by
 unfold keyV at h
 split at h
 ·simp at h; subst h; exact .inl ⟨_,_,rfl,rfl⟩
 ·exact .inr (.inl ⟨rfl,_,rfl⟩)
 ·exact .inr (.inr (.inl ⟨rfl,_,rfl⟩))
 ·exact .inr (.inr (.inr ⟨_,_,rfl,rfl,h⟩))
 ·cases h
theorem RV.aggV {ks : List KK} {xs : List V} {v : Value} (hx : RV g w L (.agg xs) v) (h : keyL ks xs = true) : v = .agg (valL xs).toArray:=by
 cases hx with | agg _ vs hl ho hr =>
 have:=keyL_val h (vs:=vs.toList) (by simpa using hl) fun j x v hx hv=>hr j x v hx (by simpa using hv)
 rw [← this]
theorem keyV_eq {tk : TK} {x y : V} {v u : Value} (hx : RV g w L x v) (hy : RV g w L y u) (h : keyV tk x = true) (h' : keyV tk y = true) : v = u ↔ x = y:=by
 rcases keyV_form h with ⟨k,n,rfl,rfl⟩ | ⟨rfl,b,rfl⟩ | ⟨rfl,s,rfl⟩ | ⟨ks,xs,rfl,rfl,h1⟩ <;> rcases keyV_form h' with ⟨k',n',e,rfl⟩ | ⟨e,b',rfl⟩ | ⟨e,s',rfl⟩ | ⟨ks',ys,e,rfl,h2⟩
 all_goals first | (cases e; done) | skip
 iterate 3
  ·cases hx with | d _ _ hd =>
   cases hd
   cases hy with | d _ _ hd =>
   cases hd
   cases e
   simp
 ·cases e
  rw [hx.aggV h1,hy.aggV h2]
  constructor
  ·intro h
   simp only [Value.agg.injEq] at h
   rw [valL_inj h1 h2 (by simpa using congrArg Array.toList h)]
  ·rintro ⟨⟩; rfl
theorem TIok.keyFields {P : Program} {t : TypeId} {ti : TI} (h : TIok P t ti) {fs : List (Nat × TypeId)} (hk : ti.k = .struct fs) :
  ∃ fields, P.underlying t = some (.struct fields) ∧ fields.toList.map (fun f => (f.offset, f.type)) = fs ∧ fields.toList.all (fun f => f.name != "_") = true := by
 obtain ⟨u,hu,hko⟩:=h.und
 rw [hk] at hko
 cases u <;> first | exact hko.elim | exact ⟨_,hu,hko.1,hko.2⟩
theorem keyL_drop {ks : List KK} {k : KK} {xs : List V} {i : Nat} (h : keyL (k :: ks) (xs.drop i) = true) : ∃ d,xs[i]? = some (.d d) ∧ xs.drop i = .d d :: xs.drop (i + 1) ∧ keyL ks (xs.drop (i + 1)) = true ∧ i + 1 ≤ xs.length ∧ ((∃ k0 n,k = .int k0 ∧ d = .int k0 n) ∨ ∃ s,k = .str ∧ d = .str s):=by
 have hd : xs.drop (i + 1) = (xs.drop i).tail:=by rw [List.tail_drop]
 rw [hd]
 have hg : xs[i]? = (xs.drop i)[0]?:=by rw [List.getElem?_drop]; rfl
 rw [hg]
 have hlen : xs.length - i = (xs.drop i).length:=by simp
 generalize xs.drop i = zs at *
 rcases keyL_cases h with ⟨e,_⟩ | ⟨k,n,ks',xs',e,rfl,h1⟩ | ⟨s,ks',xs',e,rfl,h1⟩ <;> cases e
 ·exact ⟨_,rfl,rfl,h1,by simp at hlen; omega,.inl ⟨_,_,rfl,rfl⟩⟩
 ·exact ⟨_,rfl,rfl,h1,by simp at hlen; omega,.inr ⟨_,rfl,rfl⟩⟩
theorem cut_one {ti : TI} (hk : ti.k.isAgg = false) (hs : ti.sz = 1) {xs : List V} {i : Nat} {x : V} (hx : xs[i]? = some x) (hl : i + 1 ≤ xs.length) : cut ti xs i = some x:=by
 unfold cut
 rw [hs,Nat.ble_eq_true_of_le hl,hk]
 have : (xs.drop i).take 1 = [x]:=by
  rw [List.drop_eq_getElem_cons (by omega)]
  rw [List.getElem?_eq_getElem (by omega)] at hx
  cases hx
  rfl
 simp [mk,this]
theorem kkOf_form {tk : TK} {k : KK} (h : kkOf tk = some k) : (∃ k0,tk = .int k0 ∧ k = .int k0) ∨ (tk = .str ∧ k = .str):=by
 unfold kkOf at h
 split at h
 ·cases h; exact .inl ⟨_,rfl,rfl⟩
 ·cases h; exact .inr ⟨rfl,rfl⟩
 ·cases h
theorem kkOf_agg {tk : TK} {k : KK} (h : kkOf tk = some k) : tk.isAgg = false:=by
 rcases kkOf_form h with ⟨k0,rfl,_⟩ | ⟨rfl,_⟩ <;> rfl
theorem run_checkFields (hC : C.OK) (em : Bool) (n : Nat) {xs : List V} {vs : Array Value} (hx : RV g w L (.agg xs) (.agg vs)) : ∀ (fl : List Field) (i : Nat) (ks : List KK), kindsS C i (fl.map (fun f => (f.offset, f.type))) = some ks → fl.all (fun f => f.name != "_") = true → keyL ks (xs.drop i) = true →
  (forIn fl PUnit.unit (fun f _=>do
    if f.name ≠ "_" then Instr.checkKey em (n + 1) f.type (← part f.type vs f.offset)
    pure (ForInStep.yield PUnit.unit)) : Sem PUnit).run C.P w = .ok PUnit.unit w
 | [],i,ks,_,_,_=>by simp
 | f :: fl,i,ks,h,hn,hk=>by
  simp only [List.map_cons,kindsS] at h
  cases hb : Nat.beq f.offset i with
  | false=>simp [hb] at h
  | true =>
  have hoff : f.offset = i:=Nat.eq_of_beq_eq_true hb
  simp only [hb,cond_true] at h
  cases ht : C.tt f.type with
  | none=>simp [ht] at h
  | some ti =>
  simp only [ht] at h
  cases htk : kkOf ti.k with
  | none=>simp [htk] at h
  | some k =>
  simp only [htk] at h
  cases hks : kindsS C (i + 1) (fl.map fun f=>(f.offset,f.type)) with
  | none=>simp [hks] at h
  | some ks' =>
  simp only [hks,Option.some.injEq] at h
  subst h
  have hT:=hC _ ti ht
  obtain ⟨d,h1,h2,h3,h4,hd⟩:=keyL_drop hk
  obtain ⟨r,hr,hR⟩:=part_ok hT hx (cut_one (kkOf_agg htk) (hT.one (kkOf_agg htk)) h1 h4)
  simp only [List.all_cons,Bool.and_eq_true] at hn
  have hname : f.name ≠ "_" := by simpa using hn.1
  cases hR with | d _ _ hR =>
  have h5 : (Instr.checkKey em (n + 1) f.type r).run C.P w = .ok () w:=by
   rcases hd with ⟨k0,m,rfl,rfl⟩ | ⟨s,rfl,rfl⟩ <;> rcases kkOf_form htk with ⟨k1,e1,e2⟩ | ⟨e1,e2⟩ <;> cases e2 <;> cases hR
   ·exact MapKept.run_checkKey (d:=.int k0) (k:=.int k0 m) (hT.intK e1) rfl em n
   ·exact MapKept.run_checkKey (d:=.string) (k:=.string s) (hT.strK e1) trivial em n
  have ih:=run_checkFields hC em n hx fl (i + 1) ks' hks hn.2 h3
  rw [List.forIn_cons]
  simp only [Sem.run_bind,hoff,hr,h5,hname,ne_eq,not_false_eq_true,if_true,Result.andThen_ok,Sem.run_pure]
  simpa using ih
theorem run_check (hC : C.OK) {kt : TypeId} {ki : TI} (hkt : C.tt kt = some ki) {key : V} {kv : Value} (hx : RV g w L key kv) (h : keyV (keyTK C ki) key = true) (e : Bool) : (Instr.checkKey e 10000 kt kv).run C.P w = .ok () w:=by
 have hK:=hC kt ki hkt
 obtain ⟨u,hu,hku⟩:=hK.und
 unfold keyTK at h
 split at h
 ·rename_i k hk
  rcases keyV_form h with ⟨k,n,e1,rfl⟩ | ⟨e1,b,rfl⟩ | ⟨e1,s,rfl⟩ | ⟨ks,xs,e1,rfl,h1⟩ <;> cases e1
  cases hx with | d _ _ hd =>
  cases hd
  exact MapKept.run_checkKey (d:=.int k) (k:=.int k n) (hK.intK hk) rfl e 9999
 ·rename_i hk
  rcases keyV_form h with ⟨k,n,e1,rfl⟩ | ⟨e1,b,rfl⟩ | ⟨e1,s,rfl⟩ | ⟨ks,xs,e1,rfl,h1⟩ <;> cases e1
  cases hx with | d _ _ hd =>
  cases hd
  exact MapKept.run_checkKey (d:=.bool) (k:=.bool b) (hK.boolK hk) trivial e 9999
 ·rename_i hk
  rcases keyV_form h with ⟨k,n,e1,rfl⟩ | ⟨e1,b,rfl⟩ | ⟨e1,s,rfl⟩ | ⟨ks,xs,e1,rfl,h1⟩ <;> cases e1
  cases hx with | d _ _ hd =>
  cases hd
  exact MapKept.run_checkKey (d:=.string) (k:=.string s) (hK.strK hk) trivial e 9999
 ·rename_i fs hk
  cases he : ki.eqok with
  | false=>simp [he,keyV] at h
  | true =>
  simp only [he,cond_true] at h
  split at h
  ·rename_i ks hks
   cases key <;> first | (simp [keyV] at h; done) | skip
   rename_i xs
   have h : keyL ks xs = true:=h
   cases hx with | agg _ vs hl ho hr =>
   obtain ⟨fields,hu',hfs,hnames⟩:=hK.keyFields hk
   rw [Instr.checkKey]
   simp only [Sem.run_bind,run_underlying hu',Result.andThen_ok]
   rw [← Array.forIn_toList]
   subst hfs
   have:=run_checkFields hC e 9998 (RV.agg xs vs hl ho hr) fields.toList 0 ks hks hnames (by simpa using h)
   have h2 : ∀ (m : Sem PUnit) (h : m.run C.P w = .ok PUnit.unit w),(m.run C.P w).andThen (fun a w'=>Result.ok () w') = Result.ok () w:=fun m h=>by rw [h]; rfl
   refine Eq.trans ?_ (h2 _ this)
   simp
  ·simp [keyV] at h
 ·simp [keyV] at h
theorem eqFields_ints (hC : C.OK) (d : Nat) {xs ys : List V} {vs us : Array Value} (hx : RV g w L (.agg xs) (.agg vs)) (hy : RV g w L (.agg ys) (.agg us)) : ∀ (fl : List Field) (i : Nat) (ks : List KK), kindsS C i (fl.map (fun f => (f.offset, f.type))) = some ks → fl.all (fun f => f.name != "_") = true →
  keyL ks (xs.drop i) = true → keyL ks (ys.drop i) = true → ∃ r,(Op.eqFields (d + 1) vs us fl).run C.P w = .ok r w ∧ (r = true ↔ xs.drop i = ys.drop i)
 | [],i,ks,h,_,hk,hk'=>by
  simp only [List.map_nil,kindsS,Option.some.injEq] at h
  subst h
  have e1 : xs.drop i = []:=by cases h : xs.drop i with | nil=>rfl | cons=>rw [h] at hk; simp [keyL] at hk
  have e2 : ys.drop i = []:=by cases h : ys.drop i with | nil=>rfl | cons=>rw [h] at hk'; simp [keyL] at hk'
  exact ⟨true,by simp [Op.eqFields],by simp [e1,e2]⟩
 | f :: fl,i,ks,h,hn,hk,hk'=>by
  simp only [List.map_cons,kindsS] at h
  cases hb : Nat.beq f.offset i with
  | false=>simp [hb] at h
  | true =>
  have hoff : f.offset = i:=Nat.eq_of_beq_eq_true hb
  simp only [hb,cond_true] at h
  cases ht : C.tt f.type with
  | none=>simp [ht] at h
  | some ti =>
  simp only [ht] at h
  cases htk : kkOf ti.k with
  | none=>simp [htk] at h
  | some k =>
  simp only [htk] at h
  cases hks : kindsS C (i + 1) (fl.map fun f=>(f.offset,f.type)) with
  | none=>simp [hks] at h
  | some ks' =>
  simp only [hks,Option.some.injEq] at h
  subst h
  have hT:=hC _ ti ht
  obtain ⟨m,h1,h2,h3,h4,hd⟩:=keyL_drop hk
  obtain ⟨m',h1',h2',h3',h4',hd'⟩:=keyL_drop hk'
  obtain ⟨r,hr,hR⟩:=part_ok hT hx (cut_one (kkOf_agg htk) (hT.one (kkOf_agg htk)) h1 h4)
  obtain ⟨r',hr',hR'⟩:=part_ok hT hy (cut_one (kkOf_agg htk) (hT.one (kkOf_agg htk)) h1' h4')
  simp only [List.all_cons,Bool.and_eq_true] at hn
  have hname : f.name ≠ "_" := by simpa using hn.1
  cases hR with | d _ _ hR =>
  cases hR' with | d _ _ hR' =>
  have hone : ∃ q,(Op.equalIn (d + 1) f.type r r').run C.P w = .ok q w ∧ (q = true ↔ m = m'):=by
   rcases hd with ⟨k0,n,rfl,rfl⟩ | ⟨s,rfl,rfl⟩ <;> rcases hd' with ⟨k1,n',e,rfl⟩ | ⟨s',e,rfl⟩ <;> cases e <;> rcases kkOf_form htk with ⟨k2,e1,e2⟩ | ⟨e1,e2⟩ <;> cases e2 <;> cases hR <;> cases hR'
   ·exact ⟨n == n',run_equalIn_int w d f.type k0 k0 n n' (hT.intK e1),by simp⟩
   ·refine ⟨s == s',?_,?_⟩
    ·simp [Op.equalIn,run_underlying (hT.strK e1)]
    ·rw [MapKept.bytes_beq]; simp
  obtain ⟨q,hq1,hq2⟩:=hone
  obtain ⟨b,hb1,hb2⟩:=eqFields_ints hC d hx hy fl (i + 1) ks' hks hn.2 h3 h3'
  refine ⟨q && b,?_,?_⟩
  ·simp only [Op.eqFields,Sem.run_bind,hoff,hr,hr',hq1,Result.andThen_ok,hname,ne_eq,not_false_eq_true,if_true,Sem.run_ite]
   cases hmm : q with
   | false=>simp
   | true=>simp [hb1]
  ·rw [h2,h2']
   simp only [Bool.and_eq_true,List.cons.injEq,V.d.injEq,hq2,hb2]
theorem run_findAsking {kt : TypeId} {kv : Value} : ∀ (es : List MapEntry) (i : Nat),(∀ e ∈ es,∃ r,(Op.equal kt kv e.key).run C.P w = .ok r w ∧ (r = true ↔ kv = e.key)) →
  ((Instr.findAsking kt kv es i).run C.P w = .ok none w ∧ ∀ e ∈ es,e.key ≠ kv) ∨
  ∃ j e,(Instr.findAsking kt kv es i).run C.P w = .ok (some (i + j,e.val)) w ∧ es[j]? = some e ∧ e.key = kv ∧ ∀ m x,m < j → es[m]? = some x → x.key ≠ kv
 | [],i,_=>.inl ⟨by simp [Instr.findAsking],by simp⟩
 | e :: es,i,hall=>by
  obtain ⟨r,hr,hiff⟩:=hall e (by simp)
  cases r
  ·have hne : e.key ≠ kv:=fun h=>by have:=hiff.2 h.symm; cases this
   rcases run_findAsking es (i + 1) (fun y hy=>hall y (by simp [hy])) with ⟨h1,h2⟩ | ⟨j,e',h1,h2,h3,h4⟩
   ·left
    refine ⟨by simp [Instr.findAsking,hr,h1],fun y hy=>?_⟩
    rcases List.mem_cons.1 hy with rfl | hy
    ·exact hne
    ·exact h2 y hy
   ·right
    refine ⟨j + 1,e',by simp [Instr.findAsking,hr,h1,Nat.add_assoc,Nat.add_comm 1 j],by simpa using h2,h3,fun m x hm hx=>?_⟩
    cases m with
    | zero=>simp at hx; subst hx; exact hne
    | succ m=>exact h4 m x (by omega) (by simpa using hx)
  ·right
   exact ⟨0,e,by simp [Instr.findAsking,hr],rfl,(hiff.1 rfl).symm,fun m x hm=>absurd hm (Nat.not_lt_zero m)⟩
theorem keyV_is {tk : TK} {u : TypeDesc} (hu : kindOK tk u) {x : V} {v : Value} (hx : RV g w L x v) (h : keyV tk x = true) : MapKept.IsKey u v:=by
 rcases keyV_form h with ⟨k,n,rfl,rfl⟩ | ⟨rfl,b,rfl⟩ | ⟨rfl,s,rfl⟩ | ⟨ks,xs,rfl,rfl,h1⟩
 iterate 3
  ·cases hx with | d _ _ hd =>
   cases hd
   cases u <;> first | exact hu.elim | skip
   first | exact (show _ = _ from hu) | trivial
 ·cases u <;> exact hu.elim
theorem find_now {tk : TK} {u : TypeDesc} (hu : kindOK tk u) {es : List (V × V)} {ents : List MapEntry} (hlen : ents.length = es.length) (hes : ∀ (i : Nat) (x : V × V) (e : MapEntry),es[i]? = some x → ents[i]? = some e → RV g w L x.1 e.key ∧ RV g w L x.2 e.val)
  {key : V} {kv : Value} (hkey : RV g w L key kv) (hk : keyV tk key = true) {k : Option (Nat × V) → Prop} (h : MapF tk es key k) :
  (∃ i v e,es[i]? = some (key,v) ∧ ents[i]? = some e ∧ e.key = kv ∧ k (some (i,v)) ∧ Instr.findNow u kv ents 0 = some (some (i,e.val))) ∨ (Instr.findNow u kv ents 0 = some none ∧ k none ∧ ∀ e ∈ ents,e.key ≠ kv):=by
 unfold MapF at h
 obtain ⟨h1,h2⟩:=h
 have ex : ∀ (i : Nat) (e : MapEntry),ents[i]? = some e → ∃ x,es[i]? = some x:=fun i e he=>⟨es[i]'(by have:=lt_of_get he; omega),List.getElem?_eq_getElem _⟩
 have hall : ∀ x ∈ ents,MapKept.IsKey u x.key:=by
  intro x hx
  obtain ⟨i,hi⟩:=List.mem_iff_getElem?.1 hx
  obtain ⟨y,hy⟩:=ex i x hi
  exact keyV_is hu (hes i y x hy hi).1 (h1 y (List.mem_of_getElem? hy))
 have hkv:=keyV_is hu hkey hk
 have heq : ∀ (i : Nat) (x : V × V) (e : MapEntry),es[i]? = some x → ents[i]? = some e → (e.key = kv ↔ x.1 = key):=fun i x e hx he =>
  keyV_eq (hes i x e hx he).1 hkey (h1 x (List.mem_of_getElem? hx)) hk
 rcases h2 with ⟨i,v,hi,hj,hk'⟩ | ⟨hno,hk'⟩
 ·left
  have hil : i < ents.length:=by have:=lt_of_get hi; omega
  refine ⟨i,v,ents[i],hi,List.getElem?_eq_getElem hil,(heq i _ _ hi (List.getElem?_eq_getElem hil)).2 rfl,hk',?_⟩
  have key' : ∀ (l : List MapEntry) (o j : Nat) (e : MapEntry),(∀ x ∈ l,MapKept.IsKey u x.key) → l[j]? = some e → e.key = kv → (∀ m x,m < j → l[m]? = some x → x.key ≠ kv) → Instr.findNow u kv l o = some (some (o + j,e.val)):=by
   intro l
   induction l with
   | nil=>intro o j e _ he; simp at he
   | cons a l ih =>
    intro o j e hl he hek hm
    obtain ⟨r,hr,hiff⟩:=MapKept.sameNow_of_keys hkv (hl a (by simp))
    cases j with
    | zero =>
     simp at he
     subst he
     have : r = true:=hiff.2 hek.symm
     subst this
     simp [Instr.findNow,hr]
    | succ j =>
     have hne : r = false:=by
      cases r with
      | false=>rfl
      | true=>exact absurd (hiff.1 rfl).symm (hm 0 a (by omega) rfl)
     subst hne
     have:=ih (o + 1) j e (fun x hx=>hl x (by simp [hx])) (by simpa using he) hek fun m x hm' hx=>hm (m + 1) x (by omega) (by simpa using hx)
     simp only [Instr.findNow,hr,this]
     congr 3
     omega
  have:=key' ents 0 i ents[i] hall (List.getElem?_eq_getElem hil) ((heq i _ _ hi (List.getElem?_eq_getElem hil)).2 rfl) fun m x hm hx=>by
   obtain ⟨y,hy⟩:=ex m x hx
   exact fun e=>hj m y hm hy ((heq m y x hy hx).1 e)
  simpa using this
 ·right
  refine ⟨?_,hk',fun e he hek=>?_⟩
  rotate_left 1
  ·obtain ⟨j,hj⟩:=List.mem_iff_getElem?.1 he
   obtain ⟨y,hy⟩:=ex j e hj
   exact hno y (List.mem_of_getElem? hy) ((heq j y e hy hj).1 hek)
  rcases MapKept.findNow_spec hkv ents 0 hall with ⟨h,_⟩ | ⟨j,e,_,he,hek⟩
  ·exact h
  ·obtain ⟨y,hy⟩:=ex j e he
   exact absurd ((heq j y e hy he).1 hek) (hno y (List.mem_of_getElem? hy))
theorem keyTK_plain {ki : TI} {tk : TK} (h : keyTK C ki = tk) (hno : ∀ ks,tk ≠ .keys ks) (hno' : tk ≠ .other) : ki.k = tk:=by
 subst h
 unfold keyTK at hno hno' ⊢
 split
 ·assumption
 ·assumption
 ·assumption
 ·rename_i fs hk
  simp only [hk] at hno hno'
  cases he : ki.eqok with
  | false=>simp [he] at hno'
  | true =>
  simp only [he,cond_true] at hno hno'
  split at hno
  ·rename_i ks hks
   exact absurd rfl (hno ks)
  ·rename_i hks
   simp [hks] at hno'
 ·rename_i h1 h2 h3 h4
  split at hno' <;> simp_all
theorem keyTK_keys {ki : TI} {ks : List KK} (h : keyTK C ki = .keys ks) : ∃ fs,ki.k = .struct fs ∧ ki.eqok = true ∧ kindsS C 0 fs = some ks:=by
 unfold keyTK at h
 split at h
 all_goals first | (cases h; done) | skip
 rename_i fs hk
 cases he : ki.eqok with
 | false=>simp [he] at h
 | true =>
 simp only [he,cond_true] at h
 split at h
 ·rename_i ks' hks
  cases h
  exact ⟨fs,hk,rfl,hks⟩
 ·cases h
theorem find_ok (hC : C.OK) {kt : TypeId} {ki : TI} (hkt : C.tt kt = some ki) {es : List (V × V)} {ents : List MapEntry} (hlen : ents.length = es.length) (hes : ∀ (i : Nat) (x : V × V) (e : MapEntry),es[i]? = some x → ents[i]? = some e → RV g w L x.1 e.key ∧ RV g w L x.2 e.val)
  {key : V} {kv : Value} (hkey : RV g w L key kv) (hk : keyV (keyTK C ki) key = true) {k : Option (Nat × V) → Prop} (h : MapF (keyTK C ki) es key k) :
  (∃ i v e,es[i]? = some (key,v) ∧ ents[i]? = some e ∧ e.key = kv ∧ k (some (i,v)) ∧ (Instr.findKey kt kv ents).run C.P w = .ok (some (i,e.val)) w) ∨ ((Instr.findKey kt kv ents).run C.P w = .ok none w ∧ k none ∧ ∀ e ∈ ents,e.key ≠ kv):=by
 have hK:=hC kt ki hkt
 obtain ⟨u,hu,hku⟩:=hK.und
 generalize htk : keyTK C ki = tk at hk h
 have plain : ki.k = tk → (∃ i v e,es[i]? = some (key,v) ∧ ents[i]? = some e ∧ e.key = kv ∧ k (some (i,v)) ∧ (Instr.findKey kt kv ents).run C.P w = .ok (some (i,e.val)) w) ∨ ((Instr.findKey kt kv ents).run C.P w = .ok none w ∧ k none ∧ ∀ e ∈ ents,e.key ≠ kv):=by
  intro e
  rw [e] at hku
  rcases find_now hku hlen hes hkey hk h with ⟨i,v,e,h1,h2,h3,h4,h5⟩ | ⟨h1,h2,h3⟩
  ·exact .inl ⟨i,v,e,h1,h2,h3,h4,MapKept.run_findKey hu h5⟩
  ·exact .inr ⟨MapKept.run_findKey hu h1,h2,h3⟩
 rcases keyV_form hk with ⟨k0,n,rfl,rfl⟩ | ⟨rfl,b,rfl⟩ | ⟨rfl,s,rfl⟩ | ⟨ks,xs,rfl,rfl,hxs⟩
 ·exact plain (keyTK_plain htk (fun ks e=>by cases e) (fun e=>by cases e))
 ·exact plain (keyTK_plain htk (fun ks e=>by cases e) (fun e=>by cases e))
 ·exact plain (keyTK_plain htk (fun ks e=>by cases e) (fun e=>by cases e))
 clear plain
 obtain ⟨fs,hks1,heq,hks⟩:=keyTK_keys htk
 obtain ⟨fields,hu',hfs,hnames⟩:=hK.keyFields hks1
 subst hfs
 rw [run_findKey_eq w (by rw [hu'])]
 unfold MapF at h
 obtain ⟨h1,h2⟩:=h
 have ex : ∀ (i : Nat) (e : MapEntry),ents[i]? = some e → ∃ x,es[i]? = some x:=fun i e he=>⟨es[i]'(by have:=lt_of_get he; omega),List.getElem?_eq_getElem _⟩
 have heqv : ∀ (i : Nat) (x : V × V) (e : MapEntry),es[i]? = some x → ents[i]? = some e → (e.key = kv ↔ x.1 = .agg xs):=fun i x e hx he =>
  keyV_eq (hes i x e hx he).1 hkey (h1 x (List.mem_of_getElem? hx)) hk
 have hkv:=hkey.aggV hxs
 have hask : ∀ e ∈ ents,∃ r,(Op.equal kt kv e.key).run C.P w = .ok r w ∧ (r = true ↔ kv = e.key):=by
  intro e he
  obtain ⟨i,hi⟩:=List.mem_iff_getElem?.1 he
  obtain ⟨y,hy⟩:=ex i e hi
  have hky:=h1 y (List.mem_of_getElem? hy)
  have hry:=(hes i y e hy hi).1
  rcases keyV_form hky with ⟨k0,n,e1,e2⟩ | ⟨e1,b,e2⟩ | ⟨e1,s,e2⟩ | ⟨ks',ys,e1,e2,hys⟩ <;> cases e1
  have hiff:=heqv i y e hy hi
  rw [e2] at hry hiff
  have hey:=hry.aggV hys
  rw [hey] at hry hiff ⊢
  rw [hkv] at hkey hiff ⊢
  obtain ⟨r,hr,hr2⟩:=eqFields_ints hC 9998 hkey hry fields.toList 0 ks hks hnames (by simpa using hxs) (by simpa using hys)
  refine ⟨r,?_,?_⟩
  ·have:=run_equalIn_struct w 9999 kt (valL xs).toArray (valL ys).toArray (P:=C.P) (by rw [fieldsOf_eq hu']; exact hu') (hK.eqok heq).2
   rw [Op.equal]
   rw [show Op.maxDepth = 9999 + 1 from rfl,this,fieldsOf_eq hu',hr]
  ·rw [hr2]
   simp only [List.drop_zero]
   constructor
   ·intro e; rw [e]
   ·intro e; have:=hiff.1 e.symm; cases this; rfl
 rcases run_findAsking (C:=C) (w:=w) ents 0 hask with ⟨f1,f2⟩ | ⟨j,e,f1,f2,f3,f4⟩
 ·right
  refine ⟨f1,?_,f2⟩
  rcases h2 with ⟨i,v,hi,hj,hk'⟩ | ⟨hno,hk'⟩
  ·have hil : i < ents.length:=by have:=lt_of_get hi; omega
   exact absurd ((heqv i _ _ hi (List.getElem?_eq_getElem hil)).2 rfl) (f2 _ (List.getElem_mem _))
  ·exact hk'
 ·left
  rcases h2 with ⟨i,v,hi,hj,hk'⟩ | ⟨hno,hk'⟩
  ·have hil : i < ents.length:=by have:=lt_of_get hi; omega
   have hie:=(heqv i _ _ hi (List.getElem?_eq_getElem hil)).2 rfl
   have : i = j:=by
    rcases Nat.lt_trichotomy i j with h | h | h
    ·exact absurd hie (f4 i _ h (List.getElem?_eq_getElem hil))
    ·exact h
    ·obtain ⟨y,hy⟩:=ex j e f2
     exact absurd ((heqv j y e hy f2).1 f3) (hj j y h hy)
   subst this
   exact ⟨i,v,e,hi,f2,f3,hk',by simpa using f1⟩
  ·obtain ⟨y,hy⟩:=ex j e f2
   exact absurd ((heqv j y e hy f2).1 f3) (hno y (List.mem_of_getElem? hy))
theorem run_stays {tk : TK} {key : V} {kv : Value} (hx : RV g w L key kv) (h : keyV tk key = true) : (Instr.keyThatStays kv kv).run C.P w = .ok kv w:=by
 rcases keyV_form h with ⟨k0,n,rfl,rfl⟩ | ⟨rfl,b,rfl⟩ | ⟨rfl,s,rfl⟩ | ⟨ks,xs,rfl,rfl,hxs⟩
 ·cases hx with | d _ _ hd=>cases hd; simp [Instr.keyThatStays,Instr.sameBits]
 ·cases hx with | d _ _ hd=>cases hd; simp [Instr.keyThatStays,Instr.sameBits]
 ·cases hx with | d _ _ hd =>
  cases hd
  have : (s == s) = true:=(MapKept.bytes_beq s s).2 rfl
  simp [Instr.keyThatStays,Instr.sameBits,this]
 ·rw [hx.aggV hxs]
  have : Instr.sameBits 10000 (.agg (valL xs).toArray) (.agg (valL xs).toArray) = true:=by
   have:=valL_same 9999 (xs:=xs)
   simp only [Instr.sameBits,beq_self_eq_true,Bool.true_and]
   exact this
  simp [Instr.keyThatStays,this]
theorem dense_empty : DenseM #[] 0:=⟨MapKept.stamped_empty 0,rfl,fun i e h=>by simp at h⟩
theorem dense_modify {es : Array MapEntry} {clock : Nat} (h : DenseM es clock) (i : Nat) (f : MapEntry → MapEntry) (hb : ∀ e ∈ es.toList,(f e).born = e.born) (hk : ∀ e ∈ es.toList,es[i]? = some e → (f e).key = e.key) : DenseM (es.modify i f) clock:=by
 refine ⟨MapKept.stamped_modify h.1 i f hb hk,by rw [Array.size_modify]; exact h.2.1,fun j e he=>?_⟩
 rw [Array.getElem?_modify] at he
 split at he
 ·cases hx : es[j]? with
  | none=>rw [hx] at he; cases he
  | some x =>
   rw [hx] at he
   cases he
   rw [hb x (Array.mem_toList_iff.2 (Array.mem_of_getElem? hx))]
   exact h.2.2 j x hx
 ·exact h.2.2 j e he
theorem dense_push {es : Array MapEntry} {clock : Nat} (h : DenseM es clock) {key val : Value} (hk : ∀ x ∈ es.toList,x.key ≠ key) : DenseM (es.push { key,val,born:=clock }) (clock + 1):=by
 refine ⟨MapKept.stamped_push h.1 hk,by rw [Array.size_push,h.2.1],fun j e he=>?_⟩
 rw [Array.getElem?_push] at he
 split at he
 ·rename_i hj
  cases he
  rw [hj]; exact h.2.1
 ·exact h.2.2 j e he
theorem dense_find {es : Array MapEntry} {clock : Nat} (h : DenseM es clock) {i : Nat} (hi : i < es.size) : es.findIdx? (fun e=>(e.born : Int) == (i : Int)) = some i:=by
 rw [Array.findIdx?_eq_some_iff_getElem]
 refine ⟨hi,?_,fun j hj=>?_⟩
 ·have:=h.2.2 i es[i] (Array.getElem?_eq_getElem hi)
  rw [this]; simp
 ·have hj' : j < es.size:=by omega
  have:=h.2.2 j es[j] (Array.getElem?_eq_getElem hj')
  rw [this]
  simp; omega
def zeroV (ti : TI) : V:=ofConst ti.zv
def vLookup (C : Ctx) (t : TypeId) (m key : V) (ok : Bool) (L : List Blk) (k : V → Prop) : Prop :=
 match C.tt t with
 | some ti=>match ti.k with
  | .map kt et=>match C.tt kt,C.tt et with
   | some ki,some ei=>bif keyV (keyTK C ki) key then
     match m with
     | .map b=>match L[b]? with
      | some (.map es)=>MapF (keyTK C ki) es key fun r=>match r with
       | some (_,v)=>k (bif ok then .tup [v,.d (.bool true)] else v)
       | none=>k (bif ok then .tup [zeroV ei,.d (.bool false)] else zeroV ei)
      | _=>False
     | .d .nilmap=>k (bif ok then .tup [zeroV ei,.d (.bool false)] else zeroV ei)
     | _=>False
    else False
   | _,_=>False
  | _=>False
 | none=>False
def vMapUpdate (C : Ctx) (t : TypeId) (m key v : V) (L : List Blk) (k : List Blk → Prop) : Prop :=
 match C.tt t with
 | some ti=>match ti.k with
  | .map kt _=>match C.tt kt with
   | some ki=>bif keyV (keyTK C ki) key then
     match m with
     | .map b=>match L[b]? with
      | some (.map es)=>MapF (keyTK C ki) es key fun r=>match r with
       | some (i,_)=>k (L.set b (.map (es.set i (key,v))))
       | none=>k (L.set b (.map (es ++ [(key,v)])))
      | _=>False
     | _=>False
    else False
   | none=>False
  | _=>False
 | none=>False
def vMapEntry (C : Ctx) (t : TypeId) (m key : V) (L : List Blk) (k : V → List Blk → Prop) : Prop :=
 match C.tt t with
 | some ti=>match ti.k with
  | .map kt et=>match C.tt kt,C.tt et with
   | some ki,some ei=>bif keyV (keyTK C ki) key then
     match m with
     | .map b=>match L[b]? with
      | some (.map es)=>MapF (keyTK C ki) es key fun r=>match r with
       | some (i,v)=>k (.tup [v,.d (.int .i64 i)]) (L.set b (.map (es.set i (key,v))))
       | none=>k (.tup [zeroV ei,.d (.int .i64 es.length)]) (L.set b (.map (es ++ [(key,zeroV ei)])))
      | _=>False
     | _=>False
    else False
   | _,_=>False
  | _=>False
 | none=>False
def vEntryStore (m s x : V) (L : List Blk) (k : List Blk → Prop) : Prop :=
 match m with
 | .map b=>match L[b]? with
  | some (.map es)=>match s with
   | .d (.int _ n)=>IdxN es.length n fun i=>GetE es i fun kv=>k (L.set b (.map (es.set i (kv.1,x))))
   | _=>False
  | _=>False
 | _=>False
theorem RV.tup2 {x y : V} {v u : Value} (hx : RV g w L x v) (hy : RV g w L y u) : RV g w L (.tup [x,y]) (.tuple #[v,u]):=by
 refine .tup _ _ rfl fun j z s hz hs=>?_
 match j with
 | 0=>simp at hz hs; subst hz hs; exact hx
 | 1=>simp at hz hs; subst hz hs; exact hy
 | j + 2=>simp at hz
theorem TIok.map {t : TypeId} {ti : TI} (h : TIok C.P t ti) {kt et : TypeId} (hk : ti.k = .map kt et) : C.P.underlying t = some (.map kt et):=by
 obtain ⟨u,hu,hku⟩:=h.und
 rw [hk] at hku
 cases u <;> first | exact hku.elim | skip
 obtain ⟨rfl,rfl⟩:=hku
 exact hu
theorem vLookup_ok (hC : C.OK) (hg : Good g w L) {t : TypeId} {m key : V} {ok : Bool} {mv kv : Value} (hm : RV g w L m mv) (hkey : RV g w L key kv) {k : V → Prop} (h : vLookup C t m key ok L k) :
  ∃ r X,(Instr.lookup t mv kv ok).run C.P w = .ok r w ∧ k X ∧ RV g w L X r:=by
 unfold vLookup at h
 cases ht : C.tt t with
 | none=>simp only [ht] at h
 | some ti =>
 simp only [ht] at h
 have hT:=hC t ti ht
 cases hk : ti.k
 all_goals first | (simp only [hk] at h; done) | skip
 rename_i kt et
 simp only [hk] at h
 have hmt:=hT.map hk
 cases hkt : C.tt kt with
 | none=>simp only [hkt] at h
 | some ki =>
 cases het : C.tt et with
 | none=>simp only [hkt,het] at h
 | some ei =>
 simp only [hkt,het] at h
 have hK:=hC kt ki hkt
 have hE:=hC et ei het
 obtain ⟨u,hu,hku⟩:=hK.und
 cases hkv : keyV (keyTK C ki) key with
 | false=>simp only [hkv,cond_false] at h
 | true =>
 simp only [hkv,cond_true] at h
 have hz : RV g w L (zeroV ei) ei.zv:=ofConst_ok g w L ei.zv
 have hck : ∀ e,(Instr.checkKey e 10000 kt kv).run C.P w = .ok () w:=run_check hC hkt hkey hkv
 split at h
 ·rename_i b
  split at h
  ·rename_i es hL
   obtain ⟨r,ents,clock,hmr,hh,hsz,hst,hrec⟩:=hg.blk b _ hL
   cases hm with
   | mapX _ a hL'=>rw [hL] at hL'; cases hL'
   | map _ r' es' hL' hm' =>
   rw [hmr] at hm'; cases hm'
   have hfound:=find_ok hC hkt (ents:=ents.toList) (by simpa using hsz) (fun i x e hx he=>hrec i x e hx (by simpa using he)) hkey hkv h
   rcases hfound with ⟨i,v,e,hi,he,hek,hk',hf⟩ | ⟨hf,hk',hne⟩
   ·have hv:=(hrec i _ e hi (by simpa using he)).2
    cases ok with
    | true=>exact ⟨_,_,by simp [Instr.lookup,run_underlying hmt,MapKept.run_getObj_map hh,hck,hf,Result.andThen],hk',hv.tup2 (.d _ _ (.bool true))⟩
    | false=>exact ⟨_,_,by simp [Instr.lookup,run_underlying hmt,MapKept.run_getObj_map hh,hck,hf,Result.andThen],hk',hv⟩
   ·cases ok with
    | true=>exact ⟨_,_,by simp [Instr.lookup,run_underlying hmt,MapKept.run_getObj_map hh,hck,hf,Result.andThen,hE.run_zero],hk',hz.tup2 (.d _ _ (.bool false))⟩
    | false=>exact ⟨_,_,by simp [Instr.lookup,run_underlying hmt,MapKept.run_getObj_map hh,hck,hf,Result.andThen,hE.run_zero],hk',hz⟩
  ·exact h.elim
 ·cases hm with | d _ _ hd =>
  cases hd
  have hf : (Instr.findKey kt kv ([] : List MapEntry)).run C.P w = .ok none w:=by simp [Instr.findKey,run_underlying hu,Instr.findNow]
  cases ok with
  | true=>exact ⟨_,_,by simp [Instr.lookup,run_underlying hmt,hck,hf,Result.andThen,hE.run_zero],h,hz.tup2 (.d _ _ (.bool false))⟩
  | false=>exact ⟨_,_,by simp [Instr.lookup,run_underlying hmt,hck,hf,Result.andThen,hE.run_zero],h,hz⟩
 ·exact h.elim
theorem map_step (hg : Good g w L) {b r : Nat} {es es' : List (V × V)} {ents ents' : Array MapEntry} {clock clock' : Nat} (hL : L[b]? = some (.map es)) (hm : g.m b = some r) (hh : w.heap[r]? = some (.map ents clock)) (hlen : ents'.size = es'.length) (hst : DenseM ents' clock')
  (hrec : ∀ (i : Nat) (x : V × V) (e : MapEntry),es'[i]? = some x → ents'[i]? = some e → RV g w L x.1 e.key ∧ RV g w L x.2 e.val) :
  Good g { w with heap:=w.heap.setIfInBounds r (.map ents' clock') } (L.set b (.map es')) ∧ Prog L.length g w L g { w with heap:=w.heap.setIfInBounds r (.map ents' clock') } (L.set b (.map es')):=by
 have hbl:=lt_of_get hL
 have S : Step g w L b (.map es') g { w with heap:=w.heap.setIfInBounds r (.map ents' clock') }:=by
  refine ⟨hg,⟨_,hL,by simp⟩,by rw [hL]; simp,⟨rfl,rfl,rfl⟩,by simp,rfl,fun _ _=>rfl,fun _ _=>rfl,fun q o ho hne=>?_,fun r hr=>.inl hr,?_⟩
  ·have : q ≠ r:=fun e=>hne (by rw [e]; exact hm)
   rw [(MapKept.heap_set hh).2 q this]; exact ho
  ·exact ⟨fun cs e=>(by rw [hL] at e; cases e),fun gen sz els e=>(by rw [hL] at e; cases e),fun es0 _=>.inr ⟨_,List.getElem?_set_self hbl,rfl⟩,fun l e=>(by rw [hL] at e; cases e),fun e=>(by rw [hL] at e; cases e)⟩
 refine ⟨S.good' ⟨r,ents',clock',hm,(MapKept.heap_set hh).1,hlen,hst,fun i x e hx he=>?_⟩,S.prog⟩
 obtain ⟨h1,h2⟩:=hrec i x e hx he
 exact ⟨S.mono h1,S.mono h2⟩
theorem vMapUpdate_ok (hC : C.OK) (hg : Good g w L) {t : TypeId} {m key x : V} {mv kv xv : Value} (hm : RV g w L m mv) (hkey : RV g w L key kv) (hx : RV g w L x xv) {k : List Blk → Prop} (h : vMapUpdate C t m key x L k) :
  ∃ w' L',(Instr.mapUpdate t mv kv xv).run C.P w = .ok () w' ∧ k L' ∧ Good g w' L' ∧ Prog L.length g w L g w' L':=by
 unfold vMapUpdate at h
 cases ht : C.tt t with
 | none=>simp only [ht] at h
 | some ti =>
 simp only [ht] at h
 have hT:=hC t ti ht
 cases hk : ti.k
 all_goals first | (simp only [hk] at h; done) | skip
 rename_i kt et
 simp only [hk] at h
 have hmt:=hT.map hk
 cases hkt : C.tt kt with
 | none=>simp only [hkt] at h
 | some ki =>
 simp only [hkt] at h
 have hK:=hC kt ki hkt
 obtain ⟨u,hu,hku⟩:=hK.und
 cases hkv : keyV (keyTK C ki) key with
 | false=>simp only [hkv,cond_false] at h
 | true =>
 simp only [hkv,cond_true] at h
 have hck : ∀ e,(Instr.checkKey e 10000 kt kv).run C.P w = .ok () w:=run_check hC hkt hkey hkv
 split at h
 ·rename_i b
  split at h
  ·rename_i es hL
   obtain ⟨r,ents,clock,hmr,hh,hsz,hst,hrec⟩:=hg.blk b _ hL
   cases hm with
   | mapX _ a hL'=>rw [hL] at hL'; cases hL'
   | map _ r' es' hL' hm' =>
   rw [hmr] at hm'; cases hm'
   have hfound:=find_ok hC hkt (ents:=ents.toList) (by simpa using hsz) (fun i x e hx he=>hrec i x e hx (by simpa using he)) hkey hkv h
   rcases hfound with ⟨i,v,e,hi,he,hek,hk',hf⟩ | ⟨hf,hk',hne⟩
   ·have he' : ents[i]? = some e:=by simpa using he
    have hks : (Instr.keyThatStays (((ents[i]?).map (·.key)).getD kv) kv).run C.P w = .ok kv w:=by
     rw [he']; simp only [Option.map_some,Option.getD_some,hek]; exact run_stays hkey hkv
    obtain ⟨h1,h2⟩:=map_step (ents':=ents.modify i fun e=>{ e with key:=kv,val:=xv }) (es':=es.set i (key,x)) (clock':=clock) hg hL hmr hh (by simp [hsz]) (dense_modify hst i _ (fun _ _=>rfl) (fun e' _ h=>by rw [he'] at h; cases h; exact hek.symm)) (fun j y f hy hf'=>by
     by_cases ej : i = j
     ·subst ej
      rw [List.getElem?_set_self (lt_of_get hi)] at hy
      cases hy
      rw [Array.getElem?_modify,if_pos rfl,he'] at hf'
      cases hf'
      exact ⟨hkey,hx⟩
     ·rw [List.getElem?_set_ne ej] at hy
      rw [Array.getElem?_modify,if_neg ej] at hf'
      exact hrec j y f hy hf')
    exact ⟨_,_,by simp [Instr.mapUpdate,run_underlying hmt,MapKept.run_getObj_map hh,hck,hf,hks,MapKept.run_setObj_map _ hh,Result.andThen],hk',h1,h2⟩
   ·obtain ⟨h1,h2⟩:=map_step (ents':=ents.push { key:=kv,val:=xv,born:=clock }) (es':=es ++ [(key,x)]) (clock':=clock + 1) hg hL hmr hh (by simp [hsz]) (dense_push hst hne) (fun j y f hy hf'=>by
     rcases Nat.lt_or_ge j es.length with hj | hj
     ·rw [List.getElem?_append_left hj] at hy
      rw [Array.getElem?_push,if_neg (by omega)] at hf'
      exact hrec j y f hy hf'
     ·rw [List.getElem?_append_right hj] at hy
      have : j = es.length:=by
       have:=lt_of_get hy
       simp at this; omega
      subst this
      simp at hy
      subst hy
      rw [Array.getElem?_push,if_pos hsz.symm] at hf'
      cases hf'
      exact ⟨hkey,hx⟩)
    exact ⟨_,_,by simp [Instr.mapUpdate,run_underlying hmt,MapKept.run_getObj_map hh,hck,hf,MapKept.run_setObj_map _ hh,Result.andThen],hk',h1,h2⟩
  ·exact h.elim
 ·exact h.elim
theorem vMapEntry_ok (hC : C.OK) (hg : Good g w L) {t : TypeId} {m key : V} {mv kv : Value} (hm : RV g w L m mv) (hkey : RV g w L key kv) {k : V → List Blk → Prop} (h : vMapEntry C t m key L k) :
  ∃ rv w' X L',(Instr.mapEntry t mv kv).run C.P w = .ok rv w' ∧ k X L' ∧ RV g w' L' X rv ∧ Good g w' L' ∧ Prog L.length g w L g w' L':=by
 unfold vMapEntry at h
 cases ht : C.tt t with
 | none=>simp only [ht] at h
 | some ti =>
 simp only [ht] at h
 have hT:=hC t ti ht
 cases hk : ti.k
 all_goals first | (simp only [hk] at h; done) | skip
 rename_i kt et
 simp only [hk] at h
 have hmt:=hT.map hk
 cases hkt : C.tt kt with
 | none=>simp only [hkt] at h
 | some ki =>
 cases het : C.tt et with
 | none=>simp only [hkt,het] at h
 | some ei =>
 simp only [hkt,het] at h
 have hK:=hC kt ki hkt
 have hE:=hC et ei het
 obtain ⟨u,hu,hku⟩:=hK.und
 cases hkv : keyV (keyTK C ki) key with
 | false=>simp only [hkv,cond_false] at h
 | true =>
 simp only [hkv,cond_true] at h
 have hz : RV g w L (zeroV ei) ei.zv:=ofConst_ok g w L ei.zv
 have hck : ∀ e,(Instr.checkKey e 10000 kt kv).run C.P w = .ok () w:=run_check hC hkt hkey hkv
 split at h
 ·rename_i b
  split at h
  ·rename_i es hL
   obtain ⟨r,ents,clock,hmr,hh,hsz,hst,hrec⟩:=hg.blk b _ hL
   cases hm with
   | mapX _ a hL'=>rw [hL] at hL'; cases hL'
   | map _ r' es' hL' hm' =>
   rw [hmr] at hm'; cases hm'
   have hfound:=find_ok hC hkt (ents:=ents.toList) (by simpa using hsz) (fun i x e hx he=>hrec i x e hx (by simpa using he)) hkey hkv h
   rcases hfound with ⟨i,v,e,hi,he,hek,hk',hf⟩ | ⟨hf,hk',hne⟩
   ·have he' : ents[i]? = some e:=by simpa using he
    have hks : (Instr.keyThatStays e.key kv).run C.P w = .ok kv w:=by
     rw [hek]; exact run_stays hkey hkv
    have hv:=(hrec i _ e hi he').2
    have hbn:=hst.2.2 i e he'
    obtain ⟨h1,h2⟩:=map_step (ents':=ents.modify i fun e=>{ e with key:=kv }) (es':=es.set i (key,v)) (clock':=clock) hg hL hmr hh (by simp [hsz]) (dense_modify hst i _ (fun _ _=>rfl) (fun e' _ h=>by rw [he'] at h; cases h; exact hek.symm)) (fun j y f hy hf'=>by
     by_cases ej : i = j
     ·subst ej
      rw [List.getElem?_set_self (lt_of_get hi)] at hy
      cases hy
      rw [Array.getElem?_modify,if_pos rfl,he'] at hf'
      cases hf'
      exact ⟨hkey,hv⟩
     ·rw [List.getElem?_set_ne ej] at hy
      rw [Array.getElem?_modify,if_neg ej] at hf'
      exact hrec j y f hy hf')
    refine ⟨.tuple #[e.val,goInt i],_,_,_,?_,hk',(h2.mono _ _ hv.bel hv).tup2 (.d _ _ (.int .i64 i)),h1,h2⟩
    simp [Instr.mapEntry,run_underlying hmt,MapKept.run_getObj_map hh,hck,hf,hks,MapKept.run_setObj_map _ hh,Result.andThen,he',hbn]
   ·obtain ⟨h1,h2⟩:=map_step (ents':=ents.push { key:=kv,val:=ei.zv,born:=clock }) (es':=es ++ [(key,zeroV ei)]) (clock':=clock + 1) hg hL hmr hh (by simp [hsz]) (dense_push hst hne) (fun j y f hy hf'=>by
     rcases Nat.lt_or_ge j es.length with hj | hj
     ·rw [List.getElem?_append_left hj] at hy
      rw [Array.getElem?_push,if_neg (by omega)] at hf'
      exact hrec j y f hy hf'
     ·rw [List.getElem?_append_right hj] at hy
      have : j = es.length:=by
       have:=lt_of_get hy
       simp at this; omega
      subst this
      simp at hy
      subst hy
      rw [Array.getElem?_push,if_pos hsz.symm] at hf'
      cases hf'
      exact ⟨hkey,hz⟩)
    have hcl : clock = es.length:=by rw [hst.2.1,hsz]
    refine ⟨.tuple #[ei.zv,goInt clock],_,_,_,?_,hk',(h2.mono _ _ hz.bel hz).tup2 (by rw [hcl]; exact .d _ _ (.int .i64 _)),h1,h2⟩
    simp [Instr.mapEntry,run_underlying hmt,MapKept.run_getObj_map hh,hck,hf,MapKept.run_setObj_map _ hh,Result.andThen,hE.run_zero]
  ·exact h.elim
 ·exact h.elim
theorem vEntryStore_ok (hg : Good g w L) {t : TypeId} {m s x : V} {mv sv xv : Value} (hm : RV g w L m mv) (hs : RV g w L s sv) (hx : RV g w L x xv) {k : List Blk → Prop} (h : vEntryStore m s x L k) :
  ∃ w' L',(Instr.entryStore t mv sv xv).run C.P w = .ok () w' ∧ k L' ∧ Good g w' L' ∧ Prog L.length g w L g w' L':=by
 unfold vEntryStore at h
 split at h
 ·rename_i b
  split at h
  ·rename_i es hL
   obtain ⟨r,ents,clock,hmr,hh,hsz,hst,hrec⟩:=hg.blk b _ hL
   cases hm with
   | mapX _ a hL'=>rw [hL] at hL'; cases hL'
   | map _ r' es' hL' hm' =>
   rw [hmr] at hm'; cases hm'
   split at h
   ·rename_i kk n
    unfold IdxN at h
    obtain ⟨i,hn,hi,h⟩:=h
    unfold GetE at h
    obtain ⟨kv,hkv,h⟩:=h
    cases hs with | d _ _ hd =>
    cases hd
    subst hn
    have hie : i < ents.size:=by omega
    have he' : ents[i]? = some ents[i]:=Array.getElem?_eq_getElem hie
    have hr:=hrec i kv ents[i] hkv he'
    obtain ⟨h1,h2⟩:=map_step (ents':=ents.modify i fun e=>{ e with val:=xv }) (es':=es.set i (kv.1,x)) (clock':=clock) hg hL hmr hh (by simp [hsz]) (dense_modify hst i _ (fun _ _=>rfl) (fun e' _ h=>rfl)) (fun j y f hy hf'=>by
     by_cases ej : i = j
     ·subst ej
      rw [List.getElem?_set_self hi] at hy
      cases hy
      rw [Array.getElem?_modify,if_pos rfl,he'] at hf'
      cases hf'
      exact ⟨hr.1,hx⟩
     ·rw [List.getElem?_set_ne ej] at hy
      rw [Array.getElem?_modify,if_neg ej] at hf'
      exact hrec j y f hy hf')
    refine ⟨_,_,?_,h,h1,h2⟩
    simp [Instr.entryStore,MapKept.run_getObj_map hh,asInt,asIntOf,dense_find hst hie,MapKept.run_setObj_map _ hh,Result.andThen]
   ·exact h.elim
  ·exact h.elim
 ·exact h.elim
theorem makeMap_ok (hg : Good g w L) : Good (g.add L.length (some w.heap.size) 0) (w.alloc (.map #[] 0)) (L ++ [.map []]) ∧ Prog L.length g w L (g.add L.length (some w.heap.size) 0) (w.alloc (.map #[] 0)) (L ++ [.map []]) ∧
  RV (g.add L.length (some w.heap.size) 0) (w.alloc (.map #[] 0)) (L ++ [.map []]) (.map L.length) (.map (some w.heap.size)):=by
 refine ⟨alloc_good hg _ _ (fun q h=>by cases h; rfl) 0 ⟨w.heap.size,#[],0,by simp [Gh.add],(MapKept.heap_alloc w _).1,rfl,dense_empty,fun i x e hx=>by simp at hx⟩,alloc_prog hg _ _ _ (fun q h=>by cases h; rfl) 0,?_⟩
 exact .map _ _ [] (by simp) (by simp [Gh.add])
end
end Go.Tidy
/-
 The base layer: interface values; the bytes of strings.
-/
namespace Go.Tidy
section
variable {C : Ctx} {g : Gh} {w : World} {L : List Blk}
def dOf : V → Option D
 | .d x=>some x
 | .nil=>some (.sl [])
 | .tt=>some (.bool true)
 | .ff=>some (.bool false)
 | _=>none
theorem dOf_ok {x : V} {d : D} {v : Value} (h : dOf x = some d) (hx : RV g w L x v) : RD g.I w d v:=by
 unfold dOf at h
 split at h
 ·cases h; cases hx; assumption
 ·cases h; cases hx; exact .slNil none 0
 ·cases h; cases hx; exact .bool _
 ·cases h; cases hx; exact .bool _
 ·cases h
def dsOf : List V → Option (List D)
 | []=>some []
 | x :: r=>match dOf x with
  | some d=>match dsOf r with
   | some ds=>some (d :: ds)
   | none=>none
  | none=>none
theorem dsOf_get : ∀ {cs : List V} {ds : List D},dsOf cs = some ds → cs.length = ds.length ∧ ∀ (j : Nat) (d : D),ds[j]? = some d → ∃ x,cs[j]? = some x ∧ dOf x = some d
 | [],ds,h=>by cases h; exact ⟨rfl,fun j d h=>by simp at h⟩
 | x :: r,ds,h=>by
  unfold dsOf at h
  split at h
  ·rename_i d hd
   split at h
   ·rename_i ds' hds
    cases h
    obtain ⟨h1,h2⟩:=dsOf_get hds
    refine ⟨by simp [h1],fun j y hj=>?_⟩
    cases j with
    | zero=>simp at hj; subst hj; exact ⟨x,rfl,hd⟩
    | succ j=>simpa using h2 j y (by simpa using hj)
   ·cases h
  ·cases h
def isConc : TK → Bool
 | .int _ | .bool | .str | .sl _ | .map _ _ | .struct _ | .arr _ _ | .ptr _ | .func=>true
 | _=>false
theorem conc_und {P : Program} {t : TypeId} {ti : TI} (hT : TIok P t ti) (h : isConc ti.k = true) : ∃ u,P.underlying t = some u ∧ ∀ ms,u ≠ .interface ms:=by
 obtain ⟨u,hu,hk⟩:=hT.und
 refine ⟨u,hu,fun ms e=>?_⟩
 subst e
 revert hk h
 cases ti.k <;> simp [isConc,kindOK]
def vMakeIface (C : Ctx) (t : TypeId) (x : V) (k : V → Prop) : Prop :=
 match C.tt t with
 | none=>False
 | some ti=>bif isConc ti.k then match x with
   | .agg cs=>match dsOf cs with
    | some ds=>k (.d (.iface t true ds))
    | none=>k (.iface t (.agg cs))
   | x=>match dOf x with
    | some d=>k (.d (.iface t false [d]))
    | none=>k (.iface t x)
  else False
theorem run_makeIface {P : Program} {t : TypeId} {ti : TI} (hT : TIok P t ti) (h : isConc ti.k = true) (v : Value) (w : World) : (Instr.makeInterface t v).run P w = .ok (.iface t v) w:=by
 obtain ⟨u,hu,hn⟩:=conc_und hT h
 unfold Instr.makeInterface
 rw [Sem.run_bind,run_underlying hu,Result.andThen_ok]
 cases u <;> first | rfl | exact absurd rfl (hn _)
theorem vMakeIface_ok (hC : C.OK) {t : TypeId} {x : V} {v : Value} (hx : RV g w L x v) {k : V → Prop} (h : vMakeIface C t x k) : ∃ r X,(Instr.makeInterface t v).run C.P w = .ok r w ∧ k X ∧ RV g w L X r:=by
 unfold vMakeIface at h
 cases ht : C.tt t with
 | none=>simp [ht] at h
 | some ti =>
 simp only [ht] at h
 have hT:=hC t ti ht
 cases hk : isConc ti.k with
 | false=>simp [hk] at h
 | true =>
 simp only [hk,cond_true] at h
 refine ⟨.iface t v,?_⟩
 have hrun:=run_makeIface hT hk v w
 split at h
 ·rename_i cs
  split at h
  ·rename_i ds hds
   refine ⟨_,hrun,h,.d _ _ ?_⟩
   cases hx with | agg _ vs hlen hone hrec =>
   obtain ⟨h1,h2⟩:=dsOf_get hds
   refine .ifaceA t ds vs (by omega) fun j d v hd hv=>?_
   obtain ⟨x,hx1,hx2⟩:=h2 j d hd
   exact dOf_ok hx2 (hrec j x v hx1 hv)
  ·exact ⟨_,hrun,h,.iface t _ v hx⟩
 ·split at h
  ·rename_i d hd
   exact ⟨_,hrun,h,.d _ _ (.ifaceL t d v (dOf_ok hd hx))⟩
  ·exact ⟨_,hrun,h,.iface t _ v hx⟩
def unI : Bool → List D → V
 | true,ds=>.agg (ds.map .d)
 | false,[x]=>.d x
 | _,_=>.poison
theorem unI_ok {t : TypeId} {b : Bool} {ds : List D} {v : Value} (h : RD g.I w (.iface t b ds) v) : ∃ u,v = .iface t u ∧ RV g w L (unI b ds) u:=by
 cases h with
 | ifaceA _ _ vs hlen hrec =>
  refine ⟨_,rfl,.agg _ vs (by simp [hlen]) (fun j u hu=>?_) (fun j x u hx hu=>?_)⟩
  ·have hj : j < ds.length:=by have:=(Array.getElem?_eq_some_iff.1 hu).1; omega
   exact (hrec j _ u (List.getElem?_eq_getElem hj) hu).one
  ·rw [List.getElem?_map] at hx
   cases e : ds[j]? with
   | none=>rw [e] at hx; cases hx
   | some d=>rw [e] at hx; cases hx; exact .d _ _ (hrec j d u e hu)
 | ifaceL _ x u hr=>exact ⟨_,rfl,.d _ _ hr⟩
def vHold (ok : Bool) (y : V) (k : V → Prop) : Prop:=match ok with
 | true=>k (.tup [y,.d (.bool true)])
 | false=>k y
def vFail (ok : Bool) (k : V → Prop) : Prop:=match ok with
 | true=>k (.tup [.poison,.d (.bool false)])
 | false=>False
def vTypeAssert (C : Ctx) (x : V) (t : TypeId) (ok : Bool) (k : V → Prop) : Prop :=
 match C.tt t with
 | none=>False
 | some ti=>bif isConc ti.k then match x with
   | .d (.iface t' b ds)=>match Nat.beq t' t with
    | true=>vHold ok (unI b ds) k
    | false=>vFail ok k
   | .iface t' y=>match Nat.beq t' t with
    | true=>vHold ok y k
    | false=>vFail ok k
   | .d .niliface=>vFail ok k
   | _=>False
  else False
theorem vTypeAssert_ok (hC : C.OK) {t xt : TypeId} {x : V} {v : Value} {ok : Bool} (hx : RV g w L x v) {k : V → Prop} (h : vTypeAssert C x t ok k) : ∃ r X,(Instr.typeAssert v xt t ok).run C.P w = .ok r w ∧ k X ∧ RV g w L X r:=by
 unfold vTypeAssert at h
 cases ht : C.tt t with
 | none=>simp [ht] at h
 | some ti =>
 simp only [ht] at h
 have hT:=hC t ti ht
 cases hk : isConc ti.k with
 | false=>simp [hk] at h
 | true =>
 simp only [hk,cond_true] at h
 obtain ⟨u,hu,hn⟩:=conc_und hT hk
 have pair : ∀ (y : V) (a : Value) (b : Bool),RV g w L y a → RV g w L (.tup [y,.d (.bool b)]) (.tuple #[a,.bool b]):=fun y a b hy =>
  .tup _ _ rfl fun j x v hx hv=>by
   match j,hx,hv with
   | 0,hx,hv=>cases hx; cases hv; exact hy
   | 1,hx,hv=>cases hx; cases hv; exact .d _ _ (.bool _)
   | j + 2,hx,_=>simp at hx
 have hold : ∀ (y : V) (a : Value),RV g w L y a → vHold ok y k → ∃ r X,(Instr.typeAssert (.iface t a) xt t ok).run C.P w = .ok r w ∧ k X ∧ RV g w L X r:=by
  intro y a hy h
  have hrun : (Instr.typeAssert (.iface t a) xt t ok).run C.P w = .ok (if ok then .tuple #[a,.bool true] else a) w:=by
   unfold Instr.typeAssert
   simp only []
   rw [Sem.run_bind,run_underlying hu,Result.andThen_ok]
   cases u <;> first | (simp; done) | exact absurd rfl (hn _)
  cases ok with
  | true=>exact ⟨_,_,hrun,h,pair y a true hy⟩
  | false=>exact ⟨_,_,hrun,h,hy⟩
 have fail : ∀ (a : Value),(∀ u,(∃ t',a = .iface t' u ∧ t' ≠ t) ∨ a = .nilIface → True) → ((∃ t' u,a = .iface t' u ∧ t' ≠ t) ∨ a = .nilIface) → vFail ok k → ∃ r X,(Instr.typeAssert a xt t ok).run C.P w = .ok r w ∧ k X ∧ RV g w L X r:=by
  intro a _ ha h
  cases ok with
  | false=>exact h.elim
  | true =>
   refine ⟨.tuple #[ti.zv,.bool false],_,?_,h,pair _ _ _ (.poison _)⟩
   unfold Instr.typeAssert
   simp only []
   rw [Sem.run_bind,run_underlying hu,Result.andThen_ok]
   rcases ha with ⟨t',b,rfl,hne⟩ | rfl
   ·cases u <;> first | (simp [hne,hT.run_zero]; done) | exact absurd rfl (hn _)
   ·cases u <;> first | (simp [hT.run_zero]; done) | exact absurd rfl (hn _)
 split at h
 ·rename_i t' b ds
  cases hx with | d _ _ hd =>
  obtain ⟨a,rfl,ha⟩:=unI_ok (L:=L) hd
  cases hb : Nat.beq t' t with
  | true =>
   simp only [hb] at h
   have:=Nat.eq_of_beq_eq_true hb
   subst this
   exact hold _ a ha h
  | false =>
   simp only [hb] at h
   exact fail _ (fun _ _=>trivial) (.inl ⟨_,_,rfl,fun e=>by subst e; simp at hb⟩) h
 ·rename_i t' y
  cases hx with | iface _ _ a ha =>
  cases hb : Nat.beq t' t with
  | true =>
   simp only [hb] at h
   have:=Nat.eq_of_beq_eq_true hb
   subst this
   exact hold _ a ha h
  | false =>
   simp only [hb] at h
   exact fail _ (fun _ _=>trivial) (.inl ⟨_,_,rfl,fun e=>by subst e; simp at hb⟩) h
 ·cases hx with | d _ _ hd =>
  cases hd
  exact fail _ (fun _ _=>trivial) (.inr rfl) h
 ·exact h.elim
def MethOK (P : Program) (t : TypeId) (name : String) (f : FuncId) : Prop:=∀ (v : Value) (w : World),(method (P.types.size + Made.depth) t v name).run P w = .ok (f,v) w
@[irreducible] def MethP (C : Ctx) (t : TypeId) (name : String) (k : FuncId → Prop) : Prop:=∃ f,MethOK C.P t name f ∧ k f
theorem MethP.intro {t : TypeId} {name : String} {k : FuncId → Prop} (f : FuncId) (h : MethOK C.P t name f) (hk : k f) : MethP C t name k:=by unfold MethP; exact ⟨f,h,hk⟩
def byteAt (s : ByteArray) (j : Nat) : Int:=((s.data.getD j 0).toNat : Int)
def vIndex (C : Ctx) (t : TypeId) (x i : V) (k : V → Prop) : Prop :=
 match C.tt t with
 | none=>False
 | some ti=>match ti.k with
  | .str=>match x,i with
   | .d (.str s),.d (.int _ n)=>IdxN s.size n fun j=>k (.d (.int .u8 (byteAt s j)))
   | _,_=>False
  | .arr m e=>match C.tt e with
   | some ei=>match x,i with
    | .agg cs,.d (.int _ n)=>IdxN m n fun j=>match cut ei cs (j * ei.sz) with
     | some y=>k y
     | none=>False
    | _,_=>False
   | none=>False
  | _=>False
theorem vIndex_ok (hC : C.OK) {t : TypeId} {x i : V} {v u : Value} (hx : RV g w L x v) (hi : RV g w L i u) {k : V → Prop} (h : vIndex C t x i k) : ∃ r X,(Instr.index t v u).run C.P w = .ok r w ∧ k X ∧ RV g w L X r:=by
 unfold vIndex at h
 cases ht : C.tt t with
 | none=>simp [ht] at h
 | some ti =>
 simp only [ht] at h
 have hT:=hC t ti ht
 split at h
 ·rename_i hk
  split at h
  ·rename_i s kk n
   cases hx with | d _ _ hx=>cases hx; cases hi with | d _ _ hi =>
   cases hi
   unfold IdxN at h
   obtain ⟨j,hj,hlt,hkj⟩:=h
   subst hj
   have hs : s[j]? = some (s.data.getD j 0):=by
    have h1 : s[j]? = some s[j]:=getElem?_pos s j hlt
    rw [h1]
    have h2 : s[j] = s.data[j]'hlt:=rfl
    rw [h2]
    have hlt' : j < s.data.size:=hlt
    simp [Array.getD]
    intro hh
    exact absurd hlt (Nat.not_lt.2 hh)
   refine ⟨_,_,?_,hkj,.d _ _ (.int _ _)⟩
   simp only [Instr.index,asIntOf,Sem.run_bind,Sem.run_pure,Result.andThen_ok,run_underlying (hT.strK hk)]
   simp only [Int.toNat_natCast,hs,byteAt,Int.natCast_nonneg,if_true]
   rfl
  ·exact h.elim
 ·rename_i m e hk
  split at h
  rotate_left
  ·exact h.elim
  rename_i ei he
  have hE:=hC e ei he
  split at h
  rotate_left
  ·exact h.elim
  rename_i cs kk n
  cases hi with | d _ _ hi =>
  cases hi
  unfold IdxN at h
  obtain ⟨j,hj,hlt,h⟩:=h
  subst hj
  split at h
  rotate_left
  ·exact h.elim
  rename_i y hy
  have hx0:=hx
  cases hx with | agg _ vs hl ho hr =>
  obtain ⟨r,h1,h2⟩:=part_ok hE hx0 hy
  refine ⟨r,_,?_,h,h2⟩
  simp only [Instr.index,asIntOf,Sem.run_bind,Sem.run_pure,Result.andThen_ok,run_underlying (hT.array hk)]
  simp [hE.run_sizeOf,h1,hlt]
 ·exact h.elim
@[irreducible] def MakeP (n m : Int) (k : Nat → Prop) : Prop:=∃ a b : Nat,n = a ∧ m = b ∧ a ≤ b ∧ b ≤ 4294967296 ∧ k a
theorem MakeP.intro {n m : Int} {k : Nat → Prop} (a b : Nat) (h1 : n = a) (h2 : m = b) (h3 : a ≤ b) (h4 : b ≤ 4294967296) (hk : k a) : MakeP n m k:=by unfold MakeP; exact ⟨a,b,h1,h2,h3,h4,hk⟩
def vMakeSlice (C : Ctx) (t : TypeId) (x y : V) (L : List Blk) (k : V → List Blk → Prop) : Prop :=
 match C.tt t with
 | some ti=>match ti.k with
  | .sl e=>match C.tt e with
   | some ei=>bif zokB ei && Nat.beq ei.zv.cells.size ei.sz && Nat.blt 0 ei.sz && Nat.ble ei.bytes 4096 then
     match x,y with
     | .d (.int _ n),.d (.int _ m)=>MakeP n m fun a=>k (.own L.length 0 0 a) (L ++ [.row 0 ei.sz (List.replicate a (Go.Tidy.zeroCells ei))])
     | _,_=>False
    else False
   | none=>False
  | _=>False
 | none=>False
theorem made_get {z : Array Value} {n j : Nat} {u : Value} (hz : 0 < z.size) (h : (madeCells z n).toList[j]? = some u) : z[j % z.size]? = some u:=by
 have hj : j < n:=by have:=lt_of_get h; simpa [madeCells] using this
 have hm:=Nat.mod_lt j hz
 rw [Array.getElem?_eq_getElem hm]
 unfold madeCells at h
 simp only [Array.toList_map,Array.toList_range,List.getElem?_map,List.getElem?_range hj,Option.map_some,Option.some.injEq] at h
 rw [getElem!_pos z (j % z.size) hm] at h
 rw [h]
theorem vMakeSlice_ok (hC : C.OK) (hg : Good g w L) {t : TypeId} {x y : V} {v u : Value} (hx : RV g w L x v) (hy : RV g w L y u) {k : V → List Blk → Prop} (h : vMakeSlice C t x y L k) :
  ∃ r w' X L' g',(Instr.makeSlice t v u).run C.P w = .ok r w' ∧ k X L' ∧ RV g' w' L' X r ∧ Good g' w' L' ∧ Prog L.length g w L g' w' L':=by
 unfold vMakeSlice at h
 cases ht : C.tt t with
 | none=>simp only [ht] at h
 | some ti =>
 simp only [ht] at h
 split at h
 ·rename_i e hk
  cases he : C.tt e with
  | none=>simp only [he] at h
  | some ei =>
  simp only [he] at h
  have hE:=hC e ei he
  cases hc : (zokB ei && Nat.beq ei.zv.cells.size ei.sz && Nat.blt 0 ei.sz && Nat.ble ei.bytes 4096) with
  | false=>simp only [hc,cond_false] at h
  | true =>
  simp only [hc,cond_true] at h
  rw [Bool.and_eq_true,Bool.and_eq_true,Bool.and_eq_true] at hc
  obtain ⟨⟨⟨c0,c1⟩,c2⟩,c3⟩:=hc
  have c1:=Nat.eq_of_beq_eq_true c1
  have c2 : 0 < ei.sz:=by simpa [Nat.blt_eq] using c2
  have c3:=Nat.le_of_ble_eq_true c3
  split at h
  ·rename_i k1 n k2 m
   unfold MakeP at h
   obtain ⟨a,b,rfl,rfl,hab,hb,h⟩:=h
   obtain ⟨hl,hone,hrec⟩:=zeroCells_ok g w L c0
   have hv : v = .int k1 a:=by cases hx with | d _ _ hd=>cases hd; rfl
   have hu : u = .int k2 b:=by cases hy with | d _ _ hd=>cases hd; rfl
   subst hv hu
   obtain ⟨i,hi,hs,hby,hz⟩:=hE.infos
   have hels : ∀ e ∈ List.replicate a (Go.Tidy.zeroCells ei),e.length = ei.sz:=fun e he=>by rw [List.eq_of_mem_replicate he,hl,c1]
   have hle : a * ei.sz ≤ b * ei.sz:=Nat.mul_le_mul_right _ hab
   obtain ⟨g',r1,r2,r3⟩:=newRow_ok hg e c2 hels (vs:=(madeCells ei.zv.cells (b * ei.sz)).toList.take (a * ei.sz)) (spare:=(madeCells ei.zv.cells (b * ei.sz)).toList.drop (a * ei.sz)) (by
    refine ⟨?_,fun j u hu=>?_,fun j y u hy hu=>?_⟩
    ·rw [flatten_len hels,List.length_replicate,List.length_take,Array.length_toList,size_madeCells,Nat.min_eq_left hle]
    ·rw [List.getElem?_take] at hu
     split at hu
     ·exact hone _ u (made_get (by rw [c1]; exact c2) hu)
     ·cases hu
    ·rw [List.getElem?_take] at hu
     split at hu
     ·rename_i hj
      have hu:=made_get (by rw [c1]; exact c2) hu
      rw [c1] at hu
      have hj2 : j / ei.sz < a:=(Nat.div_lt_iff_lt_mul c2).2 hj
      have e1:=flatten_get hels (i:=j / ei.sz) (j:=j % ei.sz) (Nat.mod_lt _ c2)
      rw [Nat.mul_comm,Nat.div_add_mod] at e1
      rw [e1,List.getElem?_replicate,if_pos hj2] at hy
      exact hrec _ y u hy hu
     ·cases hu) (fun j u hu=>by
    rw [List.getElem?_drop] at hu
    exact hone _ u (made_get (by rw [c1]; exact c2) hu)) b (by
    rw [List.length_take,List.length_drop,Array.length_toList,size_madeCells,Nat.min_eq_left hle]; omega) (by rw [List.length_replicate]; exact ⟨hab,by omega⟩)
   rw [List.length_replicate,List.take_append_drop,Array.toArray_toList] at r1
   rw [List.take_append_drop,Array.toArray_toList] at r2 r3
   refine ⟨_,_,_,_,g',?_,h,r1,r2,r3⟩
   have hrun:=run_make (P:=C.P) w t e i ei.zv ((hC t ti ht).slice hk) hi hz k1 k2 a b (by omega) (by omega) (by
    rw [hby]
    have : ei.bytes * b ≤ 4096 * 4294967296:=Nat.mul_le_mul c3 hb
    have h2 : ((ei.bytes * b : Nat) : Int) ≤ 281474976710656:=by omega
    rwa [Int.natCast_mul] at h2) (by omega)
   rw [hs,Int.toNat_natCast,Int.toNat_natCast] at hrun
   exact hrun
  ·exact h.elim
 ·exact h.elim
end
end Go.Tidy
/-
 The base layer: blocks that speak of few others; blocks that are dropped.
-/
namespace Go.Tidy
theorem look_cons (fr : List (Nat × V)) (d i : Nat) (v : V) : look ((d,v) :: fr) i = if d = i then v else look fr i:=by
 simp only [look]
 by_cases h : d = i
 ·subst h; simp
 ·have : Nat.beq d i = false:=by
   cases hb : Nat.beq d i with
   | false=>rfl
   | true=>exact absurd (Nat.eq_of_beq_eq_true hb) h
  simp [this,h]
def belF (n : Nat) : List (Nat × V) → Bool
 | []=>true
 | p :: r=>p.2.bel n && belF n r
def belM (n : Nat) : List (V × V) → Bool
 | []=>true
 | p :: r=>p.1.bel n && p.2.bel n && belM n r
def belR (n : Nat) : List (List V) → Bool
 | []=>true
 | p :: r=>V.belL n p && belR n r
def Blk.bel (n : Nat) : Blk → Bool
 | .cells cs=>V.belL n cs
 | .row _ _ els=>belR n els
 | .map es=>belM n es
 | .loop l=>belF n l.fr && decide (l.df < n)
 | .defr=>true
 | .dead=>true
def belB (n : Nat) : List Blk → Bool
 | []=>true
 | k :: r=>k.bel n && belB n r
theorem belF_look {n : Nat} : ∀ {fr : List (Nat × V)},belF n fr = true → ∀ i,(look fr i).bel n = true
 | [],_,i=>rfl
 | (d,v) :: r,h,i=>by
  simp only [belF,Bool.and_eq_true] at h
  rw [look_cons]
  split
  ·exact h.1
  ·exact belF_look h.2 i
theorem belM_get {n : Nat} : ∀ {es : List (V × V)},belM n es = true → ∀ {i : Nat} {x : V × V},es[i]? = some x → x.1.bel n = true ∧ x.2.bel n = true
 | [],_,i,x,h=>by simp at h
 | p :: r,h,0,x,hx=>by simp only [belM,Bool.and_eq_true] at h; simp at hx; exact hx ▸ h.1
 | p :: r,h,i + 1,x,hx=>by simp only [belM,Bool.and_eq_true] at h; exact belM_get h.2 (by simpa using hx)
theorem belR_get {n : Nat} : ∀ {els : List (List V)},belR n els = true → ∀ {i j : Nat} {x : V},(els[i]?).bind (fun e=>e[j]?) = some x → x.bel n = true
 | [],_,i,j,x,h=>by simp at h
 | p :: r,h,0,j,x,hx=>by simp only [belR,Bool.and_eq_true] at h; exact V.belL_get h.1 (by simpa using hx)
 | p :: r,h,i + 1,j,x,hx=>by simp only [belR,Bool.and_eq_true] at h; exact belR_get h.2 (by simpa using hx)
theorem belB_get {n : Nat} : ∀ {L : List Blk},belB n L = true → ∀ {i : Nat} {k : Blk},L[i]? = some k → k.bel n = true
 | [],_,i,k,h=>by simp at h
 | p :: r,h,0,k,hx=>by simp only [belB,Bool.and_eq_true] at h; simp at hx; exact hx ▸ h.1
 | p :: r,h,i + 1,k,hx=>by simp only [belB,Bool.and_eq_true] at h; exact belB_get h.2 (by simpa using hx)
section
variable {C : Ctx} {g : Gh} {w : World} {L : List Blk} {r : Option Nat}
theorem RB.mono_bel {g g' : Gh} {w w' : World} {L L' : List Blk} {b n : Nat} {k : Blk} (hb : k.bel n = true) (hmono : ∀ (x : V) (v : Value),x.bel n = true → RV g w L x v → RV g' w' L' x v)
  (hm : g'.m b = g.m b) (hcap : g'.cap b = g.cap b) (hheap : ∀ r o,g.m b = some r → w.heap[r]? = some o → w'.heap[r]? = some o)
  (hdf : ∀ l,k = .loop l → g'.m l.df = g.m l.df ∧ (L[l.df]? = some .defr → L'[l.df]? = some .defr)) (h : RB g w L b k) : RB g' w' L' b k:=by
 cases k with
 | cells cs =>
  obtain ⟨r,cur,T,h1,h2,h3,h4,h5⟩:=h
  exact ⟨r,cur,T,hm.trans h1,hheap r _ h1 h2,h3,h4,fun i x v hx hv=>hmono x v (V.belL_get hb hx) (h5 i x v hx hv)⟩
 | row gen sz els =>
  obtain ⟨h0,h1,⟨h2,h3⟩ | ⟨r,cur,T,h2,h3,h4,h5,h6,h7⟩⟩:=h
  ·exact ⟨h0,h1,.inl ⟨hm.trans h2,h3⟩⟩
  ·exact ⟨h0,h1,.inr ⟨r,cur,T,hm.trans h2,hheap r _ h2 h3,by rw [hcap]; exact h4,h5,h6,fun i j x v hx hv=>hmono x v (belR_get hb hx) (h7 i j x v hx hv)⟩⟩
 | map es =>
  obtain ⟨r,ents,clock,h1,h2,h3,hst,h4⟩:=h
  exact ⟨r,ents,clock,hm.trans h1,hheap r _ h1 h2,h3,hst,fun i x e hx he=>⟨hmono _ _ (belM_get hb hx).1 (h4 i x e hx he).1,hmono _ _ (belM_get hb hx).2 (h4 i x e hx he).2⟩⟩
 | loop l =>
  simp only [Blk.bel,Bool.and_eq_true] at hb
  obtain ⟨r,rec,h1,h2,h3,h4,h5,h6,h7,h8,h9,h10,h11⟩:=h
  exact ⟨r,rec,hm.trans h1,hheap r _ h1 h2,h3,h4,h5,h6,h7,h8,fun i=>hmono _ _ (belF_look hb.1 i) (h9 i),(hdf l rfl).1.trans h10,(hdf l rfl).2 h11.1,h11.2⟩
 | defr =>
  obtain ⟨r,h1,h2⟩:=h
  exact ⟨r,hm.trans h1,hheap r _ h1 h2⟩
 | dead=>trivial
theorem take_get {n b : Nat} (hb : b < n) : (L.take n)[b]? = L[b]?:=by rw [List.getElem?_take,if_pos hb]
theorem take_live {n b : Nat} (h : live (L.take n) b) : b < n ∧ live L b:=by
 obtain ⟨k,hk,hd⟩:=h
 rw [List.getElem?_take] at hk
 split at hk
 ·exact ⟨by assumption,k,hk,hd⟩
 ·cases hk
theorem drop_good (hg : Good g w L) {n : Nat} (hB : belB n (L.take n) = true) (I' : Nat → Prop) (hI : ∀ q,g.I q → I' q) (hI' : ∀ q,I' q → g.I q ∨ ∃ b,n ≤ b ∧ live L b ∧ g.m b = some q) :
  (∀ (x : V) (v : Value),x.bel n = true → RV g w L x v → RV { g with I:=I' } w (L.take n) x v) ∧ Good { g with I:=I' } w (L.take n):=by
 have hmono : ∀ (x : V) (v : Value),x.bel n = true → RV g w L x v → RV { g with I:=I' } w (L.take n) x v:=fun x v hx h =>
  RV.mono (g:=g) (g':={ g with I:=I' }) (L:=L) (L':=L.take n) hI (fun a v _ h=>h) (fun b hb=>Keep.same (take_get hb) rfl rfl) hx h
 refine ⟨hmono,?_,?_,?_,?_,hg.gl.mono hI (fun a v _ h=>h)⟩
 ·intro b b' q h1 h2 hm1 hm2
  exact hg.inj b b' q (take_live h1).2 (take_live h2).2 hm1 hm2
 ·rintro q ⟨b,h1,hm⟩ hq
  obtain ⟨hbn,hl⟩:=take_live h1
  rcases hI' q hq with h | ⟨b',hb',hl',hm'⟩
  ·exact hg.dis q ⟨b,hl,hm⟩ h
  ·have:=hg.inj b b' q hl hl' hm hm'; omega
 ·intro q hq
  rcases hI' q hq with h | ⟨b',hb',hl',hm'⟩
  ·exact hg.lt q h
  ·exact hg.owned_lt ⟨b',hl',hm'⟩
 ·intro b k hk
  have hkb:=belB_get hB hk
  rw [List.getElem?_take] at hk
  split at hk
  ·refine RB.mono_bel hkb hmono rfl rfl (fun _ _ _ h=>h) (fun l hl=>⟨rfl,fun h=>?_⟩) (hg.blk b k hk)
   subst hl
   simp only [Blk.bel,Bool.and_eq_true,decide_eq_true_eq] at hkb
   rw [take_get hkb.2]; exact h
  ·cases hk
theorem drop_prog (hg : Good g w L) {n k : Nat} (hk : k ≤ n) (hB : belB n (L.take n) = true) (hn : n ≤ L.length) (I' : Nat → Prop) (hI : ∀ q,g.I q → I' q) (hI' : ∀ q,I' q → g.I q ∨ ∃ b,n ≤ b ∧ live L b ∧ g.m b = some q) :
  Prog k g w L { g with I:=I' } w (L.take n):=by
 obtain ⟨hmono,hgood⟩:=drop_good hg hB I' hI hI'
 refine ⟨⟨rfl,rfl,rfl⟩,Nat.le_refl _,fun _ _ h _=>h,?_,?_,hI,fun x v hx h=>hmono x v (V.bel_le hk x hx) h,fun b q hb hL hm=>⟨by rw [take_get (by omega)]; exact hL,hm⟩,fun _=>by simp; omega⟩
 ·rintro q ⟨b,h1,hm⟩ _
  exact ⟨b,(take_live h1).2,hm⟩
 ·intro q hq
  rcases hI' q hq with h | ⟨b',hb',hl',hm'⟩
  ·exact .inl h
  ·exact .inr (.inr ⟨b',hl',hm'⟩)
end
end Go.Tidy
/-
 The base layer: slicing,length,calls; one operation.
-/
namespace Go.Tidy
section
variable {C : Ctx} {g : Gh} {w : World} {L : List Blk}
def isB (o : Option V) (dflt n : Nat) : Prop :=
 match o with
 | none=>n = dflt
 | some (.d (.int _ a))=>a = n
 | _=>False
@[irreducible] def SliceP (n : Nat) (lo hi : Option V) (k : Nat → Nat → Prop) : Prop:=∃ l h : Nat,isB lo 0 l ∧ isB hi n h ∧ l ≤ h ∧ h ≤ n ∧ k l h
theorem SliceP.intro {n : Nat} {lo hi : Option V} {k : Nat → Nat → Prop} (l h : Nat) (h1 : isB lo 0 l) (h2 : isB hi n h) (h3 : l ≤ h) (h4 : h ≤ n) (hk : k l h) : SliceP n lo hi k:=by
 unfold SliceP; exact ⟨l,h,h1,h2,h3,h4,hk⟩
def chunks (sz : Nat) (cs : List D) (n : Nat) : List (List D):=(List.range n).map fun i=>(cs.drop (i * sz)).take sz
theorem chunks_get {sz n i : Nat} {cs : List D} (h : i < n) : (chunks sz cs n)[i]? = some ((cs.drop (i * sz)).take sz):=by
 unfold chunks
 rw [List.getElem?_map,List.getElem?_eq_getElem (by rw [List.length_range]; exact h),List.getElem_range]; rfl
theorem chunks_len (sz n : Nat) (cs : List D) : (chunks sz cs n).length = n:=by unfold chunks; simp
theorem chunk_len {sz n i : Nat} {cs : List D} (hl : cs.length = n * sz) (h : i < n) : ((cs.drop (i * sz)).take sz).length = sz:=by
 have : (i + 1) * sz ≤ n * sz:=Nat.mul_le_mul_right sz h
 rw [Nat.add_mul,Nat.one_mul] at this
 rw [List.length_take,List.length_drop]; omega
def vSlice (C : Ctx) (t : TypeId) (x : V) (lo hi mx : Option V) (L : List Blk) (k : V → Prop) : Prop :=
 match mx with
 | some _=>False
 | none=>match C.tt t with
  | some ti=>match ti.k with
   | .sl e=>match C.tt e with
    | some ei=>match x with
     | .d (.sl els)=>Need (∀ e ∈ els,e.length = ei.sz) (SliceP els.length lo hi fun l h=>k (.d (.sl ((els.drop l).take (h - l)))))
     | .own b gen o len=>match L[b]? with
      | some (.row gen' sz _)=>bif Nat.beq gen gen' && Nat.beq sz ei.sz then SliceP len lo hi fun l h=>k (.own b gen (o + l) (h - l)) else False
      | _=>False
     | .nil=>SliceP 0 lo hi fun _ _=>k .nil
     | _=>False
    | none=>False
   | .str=>match x with
    | .d (.str s)=>SliceP s.size lo hi fun l h=>k (.d (.str (s.extract l h)))
    | _=>False
   | .arr n e=>match C.tt e with
    | some ei=>match x with
     | .d (.rptr cs)=>bif Nat.beq cs.length (n * ei.sz) then SliceP n lo hi fun l h=>k (.d (.sl (((chunks ei.sz cs n).drop l).take (h - l)))) else False
     | _=>False
    | none=>False
   | _=>False
  | none=>False
def RO (g : Gh) (w : World) (L : List Blk) : Option V → Option Value → Prop
 | none,none=>True
 | some x,some v=>RV g w L x v
 | _,_=>False
theorem run_bound {P : Program} {o : Option V} {p : Option Value} (h : RO g w L o p) {d n y : Nat} (hb : isB o d n) (hn : n ≤ y) (code : BoundsCode) {v : Value} (hp : p = some v) : (Instr.sliceBound v y code).run P w = .ok n w:=by
 subst hp
 cases o with
 | none=>exact h.elim
 | some x =>
  unfold isB at hb
  split at hb
  ·simp_all
  ·rename_i kk a heq
   simp only [Option.some.injEq] at heq
   subst heq hb
   have h' : RV g w L (.d (.int kk n)) v:=h
   cases h' with | d _ _ hd =>
   cases hd
   simp [Instr.sliceBound,asIntOf]
   intro hh; omega
  ·exact hb.elim
theorem run_bounds {P : Program} {lo hi : Option V} {plo phi : Option Value} (hlo : RO g w L lo plo) (hhi : RO g w L hi phi) {len cap l h : Nat} (h1 : isB lo 0 l) (h2 : isB hi len h) (h3 : l ≤ h) (h4 : h ≤ len) (h5 : len ≤ cap) (b : Bool) :
  (Instr.sliceBounds b len cap plo phi none).run P w = .ok (l,h,cap) w:=by
 unfold Instr.sliceBounds
 cases phi with
 | none =>
  cases hi with
  | some x=>exact hhi.elim
  | none =>
  have e : h = len:=h2
  subst e
  cases plo with
  | none =>
   cases lo with
   | some x=>exact hlo.elim
   | none =>
   have e : l = 0:=h1
   subst e
   simp
  | some v =>
   have:=run_bound (P:=P) hlo h1 h3 .sliceB rfl
   simp [this]
 | some u =>
  have hu:=fun code=>run_bound (P:=P) hhi h2 (show h ≤ cap by omega) code (v:=u) rfl
  cases plo with
  | none =>
   cases lo with
   | some x=>exact hlo.elim
   | none =>
   have e : l = 0:=h1
   subst e
   cases b <;> simp [hu]
  | some v =>
   have:=run_bound (P:=P) hlo h1 h3 .sliceB rfl
   cases b <;> simp [hu,this]
theorem vSlice_ok (hC : C.OK) (_hg : Good g w L) {t : TypeId} {x : V} {lo hi mx : Option V} {v : Value} {plo phi pmx : Option Value} (hx : RV g w L x v) (hlo : RO g w L lo plo) (hhi : RO g w L hi phi) (hmx : RO g w L mx pmx)
  {k : V → Prop} (h : vSlice C t x lo hi mx L k) : ∃ r X,(Instr.sliceAt t v plo phi pmx).run C.P w = .ok r w ∧ k X ∧ RV g w L X r:=by
 unfold vSlice at h
 cases mx with
 | some _=>exact h.elim
 | none =>
 cases pmx with
 | some _=>exact hmx.elim
 | none =>
 simp only at h
 cases ht : C.tt t with
 | none=>simp [ht] at h
 | some ti =>
 simp only [ht] at h
 have hT:=hC t ti ht
 split at h
 ·rename_i e hk
  cases he : C.tt e with
  | none=>simp [he] at h
  | some ei =>
  simp only [he] at h
  have hE:=hC e ei he
  have hsl:=hT.slice hk
  have hrun : ∀ (a : Option Addr) (len cap l hh : Nat),isB lo 0 l → isB hi len hh → l ≤ hh → hh ≤ len → len ≤ cap → (Instr.sliceAt t (.slice a len cap) plo phi none).run C.P w = .ok (.slice (if cap = l then a else a.map (·.add (l * ei.sz))) (hh - l) (cap - l)) w:=by
   intro a len cap l hh h1 h2 h3 h4 h5
   have:=run_bounds (P:=C.P) (w:=w) hlo hhi h1 h2 h3 h4 h5 true
   simp [Instr.sliceAt,Instr.slice,run_underlying hsl,this,hE.run_sizeOf]
  split at h
  ·rename_i els
   obtain ⟨hlen,h⟩:=h.out
   unfold SliceP at h
   obtain ⟨l,hh,h1,h2,h3,h4,h⟩:=h
   cases hx with | d _ _ hd =>
   cases hd with
   | slNil a c =>
    simp only [List.length_nil,Nat.le_zero] at h4 h2
    subst h4
    have : l = 0:=by omega
    subst this
    exact ⟨_,_,hrun a 0 c 0 0 h1 h2 (Nat.le_refl _) (Nat.le_refl _) (Nat.zero_le _),h,.d _ _ (by simpa using RD.slNil _ _)⟩
   | sl _ ad c sz cs hsz hcell hI hlc hrec =>
    refine ⟨_,_,hrun (some ad) els.length c l hh h1 h2 h3 h4 hlc,h,.d _ _ ?_⟩
    rcases Nat.eq_zero_or_pos (hh - l) with h0 | hpos
    ·rw [h0]
     simp only [List.take_zero]
     exact .slNil _ _
    ·have hne : c ≠ l:=by omega
     rw [if_neg hne]
     have hpos2 : 0 < els.length:=by omega
     have hszz : sz = ei.sz:=by
      have:=hsz els[0] (List.getElem_mem hpos2)
      rw [← this]; exact hlen _ (List.getElem_mem hpos2)
     have hlen2 : ((els.drop l).take (hh - l)).length = hh - l:=by simp; omega
     have:=RD.sl (I:=g.I) (w:=w) ((els.drop l).take (hh - l)) (ad.add (l * ei.sz)) (c - l) sz (fun i j=>cs (l + i) j) (fun e he=>hsz e (List.mem_of_mem_drop (List.mem_of_mem_take he)))
      (fun i j hi hj=>by
       rw [hlen2] at hi
       rw [add_add,← hszz,← Nat.add_assoc,← Nat.add_mul]
       exact hcell (l + i) j (by omega) hj) (by rw [add_block]; exact hI) (by rw [hlen2]; omega)
      (fun i j x hx=>by
       refine hrec (l + i) j x ?_
       rw [List.getElem?_take] at hx
       split at hx
       ·rw [List.getElem?_drop] at hx; exact hx
       ·cases hx)
     rw [hlen2] at this
     exact this
  ·rename_i b gen o len
   split at h
   ·rename_i gen' sz els hL
    cases hle : (Nat.beq gen gen' && Nat.beq sz ei.sz) with
    | false=>simp only [hle,cond_false] at h
    | true =>
    simp only [hle,cond_true] at h
    rw [Bool.and_eq_true] at hle
    have e1:=Nat.eq_of_beq_eq_true hle.1
    have e2:=Nat.eq_of_beq_eq_true hle.2
    subst e1 e2
    unfold SliceP at h
    obtain ⟨l,hh,h1,h2,h3,h4,h⟩:=h
    cases hx with
    | ownX _ _ _ _ a c hL'=>rw [hL] at hL'; cases hL'
    | ownO _ _ gen2 _ _ _ _ a c hL' hg'=>rw [hL] at hL'; cases hL'; omega
    | ownN _ _ _ _ hL' hm' =>
     have e1 : l = 0:=by omega
     have e2 : hh = 0:=by omega
     subst e1 e2
     exact ⟨_,_,hrun _ 0 0 0 0 h1 h2 (Nat.le_refl _) (Nat.le_refl _) (Nat.le_refl _),h,by simpa using RV.ownN b gen _ _ hL hm'⟩
    | own _ _ _ _ sz' r oo c els' hL' hm' ho hc hlc hle2 =>
     rw [hL] at hL'; cases hL'
     refine ⟨_,_,hrun _ len c l hh h1 h2 h3 h4 hlc.1,h,?_⟩
     have e3 : (o + l + (c - l)) * ei.sz = (o + c) * ei.sz:=by congr 1; omega
     by_cases hne : c = l
     ·rw [if_pos hne]
      exact .own b gen _ _ ei.sz r oo (c - l) els hL hm' (.inl (by omega)) (by rw [e3]; exact hc) (by omega) (by omega)
     ·rw [if_neg hne]
      have ho' : oo = o * ei.sz:=by
       rcases ho with h0 | h0
       ·omega
       ·exact h0
      subst ho'
      simp only [Option.map_some,Addr.add_lit]
      exact .own b gen _ _ ei.sz r _ (c - l) els hL hm' (.inr (by rw [Nat.add_mul])) (by rw [e3]; exact hc) (by omega) (by omega)
   ·exact h.elim
  ·unfold SliceP at h
   obtain ⟨l,hh,h1,h2,h3,h4,h⟩:=h
   have e1 : l = 0:=by omega
   have e2 : hh = 0:=by omega
   subst e1 e2
   cases hx with
   | nil=>exact ⟨_,_,hrun none 0 0 0 0 h1 h2 (Nat.le_refl _) (Nat.le_refl _) (Nat.le_refl _),h,by simpa using RV.nil⟩
  ·exact h.elim
 ·rename_i hk
  split at h
  ·rename_i s
   unfold SliceP at h
   obtain ⟨l,hh,h1,h2,h3,h4,h⟩:=h
   cases hx with | d _ _ hd =>
   cases hd
   have:=run_bounds (P:=C.P) (w:=w) hlo hhi h1 h2 h3 h4 (Nat.le_refl _) false
   exact ⟨_,_,by simp [Instr.sliceAt,Instr.slice,run_underlying (hT.strK hk),this],h,.d _ _ (.str _)⟩
  ·exact h.elim
 ·rename_i n e hk
  cases he : C.tt e with
  | none=>simp [he] at h
  | some ei =>
  simp only [he] at h
  have hE:=hC e ei he
  split at h
  ·rename_i cs
   cases hle : Nat.beq cs.length (n * ei.sz) with
   | false=>simp [hle] at h
   | true =>
   simp only [hle,cond_true] at h
   have hln:=Nat.eq_of_beq_eq_true hle
   unfold SliceP at h
   obtain ⟨l,hh,h1,h2,h3,h4,h⟩:=h
   cases hx with | d _ _ hd =>
   cases hd with | rptr _ ad cv hcell hI hrec =>
   have hb:=run_bounds (P:=C.P) (w:=w) hlo hhi h1 h2 h3 h4 (Nat.le_refl _) false
   refine ⟨.slice (some (if n = l then ad else ad.add (l * ei.sz))) (hh - l) (n - l),_,by simp [Instr.sliceAt,run_underlying (hT.array hk),Instr.sureAddr,hb,hE.run_sizeOf],h,.d _ _ ?_⟩
   rcases Nat.eq_zero_or_pos (hh - l) with h0 | hpos
   ·rw [h0]
    simp only [List.take_zero]
    exact .slNil _ _
   ·have hne : n ≠ l:=by omega
    rw [if_neg hne]
    have hlen2 : (((chunks ei.sz cs n).drop l).take (hh - l)).length = hh - l:=by rw [List.length_take,List.length_drop,chunks_len]; omega
    have hget : ∀ i e,(((chunks ei.sz cs n).drop l).take (hh - l))[i]? = some e → i < hh - l ∧ e = (cs.drop ((l + i) * ei.sz)).take ei.sz:=fun i e he=>by
     have hi : i < hh - l:=by have:=lt_of_get he; omega
     rw [List.getElem?_take,if_pos hi,List.getElem?_drop,chunks_get (by omega)] at he
     cases he; exact ⟨hi,rfl⟩
    have hin : ∀ i j,i < hh - l → j < ei.sz → (l + i) * ei.sz + j < cs.length:=fun i j hi hj=>by
     have : (l + i + 1) * ei.sz ≤ n * ei.sz:=Nat.mul_le_mul_right _ (by omega)
     rw [Nat.add_mul,Nat.one_mul] at this
     omega
    have:=RD.sl (I:=g.I) (w:=w) (((chunks ei.sz cs n).drop l).take (hh - l)) (ad.add (l * ei.sz)) (n - l) ei.sz (fun i j=>cv ((l + i) * ei.sz + j))
     (fun e he=>by
      obtain ⟨i,hi⟩:=List.mem_iff_getElem?.1 he
      obtain ⟨hi2,rfl⟩:=hget i e hi
      exact chunk_len hln (by omega))
     (fun i j hi hj=>by
      rw [hlen2] at hi
      rw [add_add,← Nat.add_assoc,← Nat.add_mul]
      exact hcell _ (hin i j hi hj)) (by rw [add_block]; exact hI) (by rw [hlen2]; omega)
     (fun i j x hx=>by
      cases hc : (((chunks ei.sz cs n).drop l).take (hh - l))[i]? with
      | none=>rw [hc] at hx; cases hx
      | some e =>
       rw [hc] at hx
       obtain ⟨hi2,rfl⟩:=hget i e hc
       simp only [Option.bind_some] at hx
       have hj : j < ei.sz:=by have:=lt_of_get hx; rw [List.length_take] at this; omega
       rw [List.getElem?_take,if_pos hj,List.getElem?_drop] at hx
       exact hrec _ x hx)
    rw [hlen2] at this
    exact this
  ·exact h.elim
 ·exact h.elim
def vSlice3 (C : Ctx) (t : TypeId) (x : V) (lo hi : Option V) (mx : V) (L : List Blk) (k : V → List Blk → Prop) : Prop :=
 match C.tt t with
 | some ti=>match ti.k with
  | .sl e=>match C.tt e with
   | some ei=>bif Nat.blt 0 ei.sz then Need (isB lo 0 0 ∧ isB hi 1 0 ∧ isB (some mx) 1 0) (match x with
     | .nil=>k (.own L.length 0 0 0) (L ++ [.row 0 ei.sz []])
     | .d (.sl _)=>k (.own L.length 0 0 0) (L ++ [.row 0 ei.sz []])
     | .own ..=>k (.own L.length 0 0 0) (L ++ [.row 0 ei.sz []])
     | _=>False) else False
   | none=>False
  | _=>False
 | none=>False
theorem vSlice3_ok (hC : C.OK) (hg : Good g w L) {t : TypeId} {x mx : V} {lo hi : Option V} {v vm : Value} {plo phi : Option Value} (hx : RV g w L x v) (hlo : RO g w L lo plo) (hhi : RO g w L hi phi) (hmx : RV g w L mx vm)
  {k : V → List Blk → Prop} (h : vSlice3 C t x lo hi mx L k) : ∃ r X L' g',(Instr.sliceAt t v plo phi (some vm)).run C.P w = .ok r w ∧ k X L' ∧ RV g' w L' X r ∧ Good g' w L' ∧ Prog L.length g w L g' w L':=by
 unfold vSlice3 at h
 cases ht : C.tt t with
 | none=>simp [ht] at h
 | some ti =>
 simp only [ht] at h
 have hT:=hC t ti ht
 split at h
 ·rename_i e hk
  cases he : C.tt e with
  | none=>simp [he] at h
  | some ei =>
  simp only [he] at h
  have hE:=hC e ei he
  have hsl:=hT.slice hk
  cases hz : Nat.blt 0 ei.sz with
  | false=>simp [hz] at h
  | true =>
  simp only [hz,cond_true] at h
  have hz : 0 < ei.sz:=by simpa [Nat.blt_eq] using hz
  obtain ⟨⟨h1,h2,h3⟩,hk3⟩:=h.out
  clear h
  have hmx : RO g w L (some mx) (some vm):=hmx
  have hrun : ∀ (a : Option Addr) (len cap : Nat),(Instr.sliceAt t (.slice a len cap) plo phi (some vm)).run C.P w = .ok (.slice a 0 0) w:=by
   intro a len cap
   have b3:=fun code=>run_bound (P:=C.P) (w:=w) (p:=some vm) hmx h3 (Nat.zero_le cap) code rfl
   have hb : (Instr.sliceBounds true len cap plo phi (some vm)).run C.P w = .ok (0,0,0) w:=by
    unfold Instr.sliceBounds
    cases phi with
    | none =>
     cases hi with
     | some x=>exact hhi.elim
     | none=>exact absurd h2 (by simp [isB])
    | some u =>
     have b2:=fun code=>run_bound (P:=C.P) hhi h2 (Nat.le_refl 0) code (v:=u) rfl
     cases plo with
     | none=>simp [b3,b2]
     | some v =>
      have b1:=fun code=>run_bound (P:=C.P) hlo h1 (Nat.le_refl 0) code (v:=v) rfl
      simp [b3,b2,b1]
   simp [Instr.sliceAt,Instr.slice,run_underlying hsl,hb,hE.run_sizeOf]
  have fin : ∀ (a : Option Addr) (len cap : Nat),v = .slice a len cap → k (.own L.length 0 0 0) (L ++ [.row 0 ei.sz []]) → ∃ r X L' g',(Instr.sliceAt t v plo phi (some vm)).run C.P w = .ok r w ∧ k X L' ∧ RV g' w L' X r ∧ Good g' w L' ∧ Prog L.length g w L g' w L':=by
   rintro a len cap rfl hk
   exact ⟨_,_,_,g.add L.length none 0,hrun a len cap,hk,.ownN _ _ ei.sz [] (by simp) (by simp [Gh.add]),
    add_good hg (Ext.refl w) none (fun q h=>by cases h) 0 ⟨hz,by simp,.inl ⟨by simp [Gh.add],rfl⟩⟩,add_prog hg (Ext.refl w) _ none (fun q h=>by cases h) 0⟩
  split at hk3
  ·cases hx with | nil=>exact fin _ _ _ rfl hk3
  ·cases hx with | d _ _ hd=>cases hd with
    | slNil a c=>exact fin _ _ _ rfl hk3
    | sl _ ad c=>exact fin _ _ _ rfl hk3
  ·cases hx with
   | own=>exact fin _ _ _ rfl hk3
   | ownN=>exact fin _ _ _ rfl hk3
   | ownO=>exact fin _ _ _ rfl hk3
   | ownX=>exact fin _ _ _ rfl hk3
  ·exact hk3.elim
 ·exact h.elim
def vSlice4 (C : Ctx) (t : TypeId) (x : V) (lo hi : Option V) (mx : V) (L : List Blk) (k : V → List Blk → Prop) : Prop :=
 match C.tt t with
 | some ti=>match ti.k with
  | .sl e=>match C.tt e with
   | some ei=>match x with
    | .d (.sl els)=>Need (∀ e ∈ els,e.length = ei.sz) (Need (hi.isSome = true) (SliceP els.length lo hi fun l h=>Need (isB (some mx) 0 h) (k (.clp ((els.drop l).take (h - l))) L)))
    | .own b gen _ len=>match L[b]? with
     | some (.row gen' sz _)=>bif Nat.beq gen gen' && Nat.beq sz ei.sz then Need (hi.isSome = true ∧ isB (some mx) 0 len) (SliceP len lo hi fun _ _=>k .poison L) else False
     | _=>False
    | .nil=>Need (hi.isSome = true ∧ isB (some mx) 0 0) (SliceP 0 lo hi fun _ _=>k .nil L)
    | _=>False
   | none=>False
  | _=>False
 | none=>False
theorem run_bounds4 {P : Program} {lo hi : Option V} {mx : V} {plo phi : Option Value} {vm : Value} (hlo : RO g w L lo plo) (hhi : RO g w L hi phi) (hmx : RV g w L mx vm) {len cap l h m : Nat} (h0 : hi.isSome = true) (h1 : isB lo 0 l) (h2 : isB hi len h) (hm : isB (some mx) 0 m) (h3 : l ≤ h) (h4 : h ≤ m) (h5 : m ≤ cap) :
  (Instr.sliceBounds true len cap plo phi (some vm)).run P w = .ok (l,h,m) w:=by
 have hmx : RO g w L (some mx) (some vm):=hmx
 have b3:=fun code=>run_bound (P:=P) (w:=w) (p:=some vm) hmx hm h5 code rfl
 unfold Instr.sliceBounds
 cases phi with
 | none =>
  cases hi with
  | some x=>exact hhi.elim
  | none=>cases h0
 | some u =>
  have b2:=fun code=>run_bound (P:=P) hhi h2 h4 code (v:=u) rfl
  cases plo with
  | none =>
   cases lo with
   | some x=>exact hlo.elim
   | none =>
   have e : l = 0:=h1
   subst e
   simp [b3,b2]
  | some v =>
   have b1:=fun code=>run_bound (P:=P) hlo h1 h3 code (v:=v) rfl
   simp [b3,b2,b1]
theorem vSlice4_ok (hC : C.OK) (_hg : Good g w L) {t : TypeId} {x mx : V} {lo hi : Option V} {v vm : Value} {plo phi : Option Value} (hx : RV g w L x v) (hlo : RO g w L lo plo) (hhi : RO g w L hi phi) (hmx : RV g w L mx vm)
  {k : V → List Blk → Prop} (h : vSlice4 C t x lo hi mx L k) : ∃ r X,(Instr.sliceAt t v plo phi (some vm)).run C.P w = .ok r w ∧ k X L ∧ RV g w L X r:=by
 unfold vSlice4 at h
 cases ht : C.tt t with
 | none=>simp [ht] at h
 | some ti =>
 simp only [ht] at h
 have hT:=hC t ti ht
 split at h
 ·rename_i e hk
  cases he : C.tt e with
  | none=>simp [he] at h
  | some ei =>
  simp only [he] at h
  have hE:=hC e ei he
  have hsl:=hT.slice hk
  have hrun : ∀ (a : Option Addr) (len cap l hh m : Nat),hi.isSome = true → isB lo 0 l → isB hi len hh → isB (some mx) 0 m → l ≤ hh → hh ≤ m → m ≤ cap → (Instr.sliceAt t (.slice a len cap) plo phi (some vm)).run C.P w = .ok (.slice (if m = l then a else a.map (·.add (l * ei.sz))) (hh - l) (m - l)) w:=by
   intro a len cap l hh m h0 h1 h2 hm h3 h4 h5
   have:=run_bounds4 (P:=C.P) (w:=w) hlo hhi hmx h0 h1 h2 hm h3 h4 h5
   simp [Instr.sliceAt,Instr.slice,run_underlying hsl,this,hE.run_sizeOf]
  split at h
  ·rename_i els
   obtain ⟨hlen,h⟩:=h.out
   obtain ⟨h0,h⟩:=h.out
   unfold SliceP at h
   obtain ⟨l,hh,h1,h2,h3,h4,h⟩:=h
   obtain ⟨hm,h⟩:=h.out
   have hl2 : ((els.drop l).take (hh - l)).length = hh - l:=by simp; omega
   have fin : ∀ a : Option Addr,RD g.I w (.sl ((els.drop l).take (hh - l))) (.slice a (hh - l) (hh - l)) → RV g w L (.clp ((els.drop l).take (hh - l))) (.slice a (hh - l) (hh - l)):=fun a ha=>by
    have:=RV.clp (g:=g) (w:=w) (L:=L) ((els.drop l).take (hh - l)) a (by rw [hl2]; exact ha)
    rw [hl2] at this; exact this
   cases hx with | d _ _ hd =>
   cases hd with
   | slNil a c =>
    simp only [List.length_nil,Nat.le_zero] at h4 h2
    subst h4
    have : l = 0:=by omega
    subst this
    exact ⟨_,_,hrun a 0 c 0 0 0 h0 h1 h2 hm (Nat.le_refl _) (Nat.le_refl _) (Nat.zero_le _),h,fin _ (by simpa using RD.slNil _ _)⟩
   | sl _ ad c sz cs hsz hcell hI hlc hrec =>
    refine ⟨_,_,hrun (some ad) els.length c l hh hh h0 h1 h2 hm h3 (Nat.le_refl _) (Nat.le_trans h4 hlc),h,fin _ ?_⟩
    rcases Nat.eq_zero_or_pos (hh - l) with h0 | hpos
    ·rw [h0]
     simp only [List.take_zero]
     exact .slNil _ _
    ·have hne : hh ≠ l:=by omega
     rw [if_neg hne]
     have hpos2 : 0 < els.length:=by omega
     have hszz : sz = ei.sz:=by
      have:=hsz els[0] (List.getElem_mem hpos2)
      rw [← this]; exact hlen _ (List.getElem_mem hpos2)
     have:=RD.sl (I:=g.I) (w:=w) ((els.drop l).take (hh - l)) (ad.add (l * ei.sz)) (hh - l) sz (fun i j=>cs (l + i) j) (fun e he=>hsz e (List.mem_of_mem_drop (List.mem_of_mem_take he)))
      (fun i j hi hj=>by
       rw [hl2] at hi
       rw [add_add,← hszz,← Nat.add_assoc,← Nat.add_mul]
       exact hcell (l + i) j (by omega) hj) (by rw [add_block]; exact hI) (by rw [hl2]; exact Nat.le_refl _)
      (fun i j x hx=>by
       refine hrec (l + i) j x ?_
       rw [List.getElem?_take] at hx
       split at hx
       ·rw [List.getElem?_drop] at hx; exact hx
       ·cases hx)
     rw [hl2] at this
     exact this
  ·rename_i b gen o len
   split at h
   ·rename_i gen' sz els hL
    cases hle : (Nat.beq gen gen' && Nat.beq sz ei.sz) with
    | false=>simp only [hle,cond_false] at h
    | true =>
    simp only [hle,cond_true] at h
    rw [Bool.and_eq_true] at hle
    have e1:=Nat.eq_of_beq_eq_true hle.1
    have e2:=Nat.eq_of_beq_eq_true hle.2
    subst e1 e2
    obtain ⟨⟨h0,hm⟩,h'⟩:=h.out
    clear h
    unfold SliceP at h'
    obtain ⟨l,hh,h1,h2,h3,h4,hkk⟩:=h'
    cases hx with
    | ownX _ _ _ _ a c hL'=>rw [hL] at hL'; cases hL'
    | ownO _ _ gen2 _ _ _ _ a c hL' hg'=>rw [hL] at hL'; cases hL'; omega
    | ownN _ _ _ _ hL' hm' =>
     exact ⟨_,_,hrun _ 0 0 l hh 0 h0 h1 h2 hm h3 h4 (Nat.le_refl _),hkk,.poison _⟩
    | own _ _ _ _ sz' r oo c els' hL' hm' ho hc hlc hle2 =>
     exact ⟨_,_,hrun _ len c l hh len h0 h1 h2 hm h3 h4 hlc.1,hkk,.poison _⟩
   ·exact h.elim
  ·obtain ⟨⟨h0,hm⟩,h'⟩:=h.out
   unfold SliceP at h'
   obtain ⟨l,hh,h1,h2,h3,h4,hkk⟩:=h'
   have e1 : l = 0:=by omega
   have e2 : hh = 0:=by omega
   subst e1 e2
   cases hx with
   | nil=>exact ⟨_,_,hrun none 0 0 0 0 0 h0 h1 h2 hm (Nat.le_refl _) (Nat.le_refl _) (Nat.le_refl _),hkk,by simpa using RV.nil⟩
  ·exact h.elim
 ·exact h.elim
def isCst : Option Operand → Bool
 | some (.const _)=>true
 | _=>false
def vSliceM (C : Ctx) (t : TypeId) (x : V) (lo hi mx : Option V) (c : Bool) (L : List Blk) (k : V → List Blk → Prop) : Prop :=
 match mx with
 | none=>vSlice C t x lo hi none L fun x=>k x L
 | some m=>bif c then vSlice3 C t x lo hi m L k else vSlice4 C t x lo hi m L k
@[irreducible] def NilP (n : Nat) (k : Bool → Prop) : Prop:=(n = 0 → k true) ∧ k false
theorem NilP.intro {n : Nat} {k : Bool → Prop} (h1 : n = 0 → k true) (h2 : k false) : NilP n k:=by unfold NilP; exact ⟨h1,h2⟩
theorem NilP.no {n : Nat} {k : Bool → Prop} (h1 : n ≠ 0) (h2 : k false) : NilP n k:=NilP.intro (fun h=>absurd h h1) h2
def vNilQ (x : V) (L : List Blk) (k : Bool → Prop) : Prop :=
 match x with
 | .nil=>k true
 | .d (.sl els)=>NilP els.length k
 | .own b gen _ len=>match L[b]? with
  | some (.row gen' _ _)=>bif Nat.beq gen gen' then NilP len k else False
  | _=>False
 | _=>False
def vNilSl (C : Ctx) (op : BinOp) (t : TypeId) (x : V) (L : List Blk) (k : V → Prop) : Prop :=
 match C.tt t with
 | some ti=>match ti.k with
  | .sl _=>match op with
   | .eql=>vNilQ x L fun b=>k (.d (.bool b))
   | .neq=>vNilQ x L fun b=>k (.d (.bool (!b)))
   | _=>False
  | _=>False
 | none=>False
def isNilSl : Operand → Bool
 | .const (.slice none 0 0)=>true
 | _=>false
theorem isNilSl_eq {y : Operand} (h : isNilSl y = true) : y = .const (.slice none 0 0):=by
 unfold isNilSl at h
 split at h
 ·rfl
 ·cases h
theorem vNilQ_ok {x : V} {v : Value} (hx : RV g w L x v) {k : Bool → Prop} (h : vNilQ x L k) : ∃ a n c,v = .slice a n c ∧ k a.isNone:=by
 have nilp : ∀ {n : Nat} {a : Option Addr},NilP n k → (n ≠ 0 → a.isNone = false) → k a.isNone:=by
  intro n a hn ha
  unfold NilP at hn
  cases e : a.isNone with
  | false=>exact hn.2
  | true =>
   refine hn.1 (Classical.byContradiction fun h0=>?_)
   rw [ha h0] at e; cases e
 unfold vNilQ at h
 split at h
 ·cases hx with | nil=>exact ⟨_,_,_,rfl,h⟩
 ·cases hx with | d _ _ hd=>cases hd with
   | slNil a c=>exact ⟨_,_,_,rfl,nilp h fun h0=>absurd rfl h0⟩
   | sl _ ad c=>exact ⟨_,_,_,rfl,nilp h fun _=>rfl⟩
 ·rename_i b gen lo len
  split at h
  ·rename_i gen' sz els hL
   cases hle : Nat.beq gen gen' with
   | false=>simp [hle] at h
   | true =>
   simp only [hle,cond_true] at h
   have e1:=Nat.eq_of_beq_eq_true hle
   subst e1
   cases hx with
   | ownX _ _ _ _ a c hL'=>rw [hL] at hL'; cases hL'
   | ownO _ _ gen2 _ _ _ _ a c hL' hg'=>rw [hL] at hL'; cases hL'; omega
   | ownN _ _ _ _ hL' hm'=>exact ⟨_,_,_,rfl,nilp h fun h0=>absurd rfl h0⟩
   | own=>exact ⟨_,_,_,rfl,nilp h fun _=>rfl⟩
  ·exact h.elim
 ·exact h.elim
theorem vNilSl_ok (hC : C.OK) {op : BinOp} {t : TypeId} {x : V} {v : Value} (hx : RV g w L x v) (ox oy : Operand) {c : V → Prop} (h : vNilSl C op t x L c) :
  ∃ r X,(do eqGuard op t ox oy v (.slice none 0 0); binOp op t v (.slice none 0 0) : Sem Value).run C.P w = .ok r w ∧ c X ∧ RV g w L X r:=by
 unfold vNilSl at h
 cases ht : C.tt t with
 | none=>simp [ht] at h
 | some ti =>
 simp only [ht] at h
 have hT:=hC t ti ht
 split at h
 ·rename_i e hk
  have hsl:=hT.slice hk
  have key0 : ∀ (d : Nat) (a : Option Addr) (n c : Nat),(Op.equalIn (d + 1) t (.slice a n c) (.slice none 0 0)).run C.P w = .ok a.isNone w:=by
   intro d a n c
   rw [Op.equalIn]
   cases a <;> simp [run_underlying hsl]
  have key : ∀ (a : Option Addr) (n c : Nat),(Op.equal t (.slice a n c) (.slice none 0 0)).run C.P w = .ok a.isNone w:=fun a n c=>key0 9999 a n c
  split at h
  ·obtain ⟨a,n,c',rfl,hk⟩:=vNilQ_ok hx h
   exact ⟨_,_,by simp [eqGuard,binOp,key],hk,.d _ _ (.bool _)⟩
  ·obtain ⟨a,n,c',rfl,hk⟩:=vNilQ_ok hx h
   exact ⟨_,_,by simp [eqGuard,binOp,key],hk,.d _ _ (.bool _)⟩
  ·exact h.elim
 ·exact h.elim
def vLen (C : Ctx) (t : TypeId) (x : V) (k : V → Prop) : Prop :=
 match C.tt t with
 | some ti=>match ti.k,x with
  | .sl _,.nil=>k (.d (.int .i64 0))
  | .sl _,.d (.sl els)=>k (.d (.int .i64 els.length))
  | .sl _,.own _ _ _ len=>k (.d (.int .i64 len))
  | .str,.d (.str s)=>k (.d (.int .i64 s.size))
  | _,_=>False
 | none=>False
theorem RV.own_len {b gen lo len : Nat} {v : Value} (h : RV g w L (.own b gen lo len) v) : ∃ a c,v = .slice a len c:=by
 cases h with
 | own=>exact ⟨_,_,rfl⟩
 | ownN=>exact ⟨_,_,rfl⟩
 | ownO=>exact ⟨_,_,rfl⟩
 | ownX=>exact ⟨_,_,rfl⟩
def vLenL (C : Ctx) (t : TypeId) (x : V) (_L : List Blk) (k : V → Prop) : Prop:=vLen C t x k
theorem vLen_ok (hC : C.OK) {t ty : TypeId} {x : V} {v : Value} (hx : RV g w L x v) (hx' : ∀ b gen lo len,x = .own b gen lo len → ∃ a c,v = .slice a len c) {k : V → Prop} (h : vLen C t x k) :
  ∃ r X,(Builtin.len_ #[t] ty #[v]).run C.P w = .ok r w ∧ k X ∧ RV g w L X r:=by
 have hi : ∀ n : Int,RV g w L (.d (.int .i64 n)) (.int .i64 n):=fun n=>.d _ _ (.int _ _)
 unfold vLen at h
 cases ht : C.tt t with
 | none=>simp [ht] at h
 | some ti =>
 simp only [ht] at h
 have hT:=hC t ti ht
 split at h
 ·rename_i e hk
  cases hx with | nil =>
  exact ⟨_,_,by simp [Builtin.len_,run_underlying (hT.slice hk),goInt],h,hi _⟩
 ·rename_i e els hk
  cases hx with | d _ _ hd =>
  cases hd with
  | slNil a c=>exact ⟨.int .i64 0,_,by simp [Builtin.len_,run_underlying (hT.slice hk),goInt],h,by simpa using hi 0⟩
  | sl _ ad c sz cs=>exact ⟨_,_,by simp [Builtin.len_,run_underlying (hT.slice hk),goInt],h,hi _⟩
 ·rename_i e b gen lo len hk
  obtain ⟨a,c,rfl⟩:=hx' _ _ _ _ rfl
  exact ⟨_,_,by simp [Builtin.len_,run_underlying (hT.slice hk),goInt],h,hi _⟩
 ·rename_i s hk
  cases hx with | d _ _ hd =>
  cases hd
  exact ⟨_,_,by simp [Builtin.len_,run_underlying (hT.strK hk),goInt],h,hi _⟩
 ·exact h.elim
theorem vLenL_ok (hC : C.OK) {t ty : TypeId} {x : V} {v : Value} (hx : RV g w L x v) {k : V → Prop} (h : vLenL C t x L k) :
  ∃ r X,(Builtin.len_ #[t] ty #[v]).run C.P w = .ok r w ∧ k X ∧ RV g w L X r:=by
 unfold vLenL at h
 exact vLen_ok hC hx (fun b' gen2 lo' len' e=>by subst e; exact hx.own_len) h
def bytesV (s : List UInt8) : List (List V):=s.map fun b=>[.d (.int .u8 b.toNat)]
@[irreducible] def BytesP (els : List (List V)) (k : ByteArray → Prop) : Prop:=∃ s : List UInt8,els = bytesV s ∧ k ⟨s.toArray⟩
theorem BytesP.intro {els : List (List V)} {k : ByteArray → Prop} (s : List UInt8) (h : els = bytesV s) (hk : k ⟨s.toArray⟩) : BytesP els k:=by unfold BytesP; exact ⟨s,h,hk⟩
theorem bytesV_inj : ∀ {s s' : List UInt8},bytesV s = bytesV s' → s = s'
 | [],[],_=>rfl
 | [],b :: s,h=>by cases h
 | b :: s,[],h=>by cases h
 | b :: s,c :: s',h=>by
  simp only [bytesV,List.map_cons,List.cons.injEq,V.d.injEq,D.int.injEq,true_and,and_true] at h
  obtain ⟨h1,h2⟩:=h
  have e : b = c:=UInt8.toNat_inj.1 (by omega)
  rw [e,bytesV_inj (s:=s) (s':=s') h2]
def isSlT (C : Ctx) (s : TypeId) : Bool:=match C.tt s with
 | some ti=>match ti.k with | .sl _=>true | _=>false
 | none=>false
def vBytes (C : Ctx) (s t : TypeId) (x : V) (L : List Blk) (k : V → Prop) : Prop :=
 match C.tt s with
 | some si=>match si.k with
  | .sl e=>match C.tt t with
   | some ti=>match ti.k with
    | .str=>match C.tt e with
     | some ei=>match ei.k with
      | .int .u8=>vSrc L 1 x fun els=>BytesP els fun s=>k (.d (.str s))
      | _=>False
     | none=>False
    | _=>False
   | none=>False
  | _=>False
 | none=>False
def vConvL (C : Ctx) (s t : TypeId) (x : V) (L : List Blk) (k : V → Prop) : Prop:=bif isSlT C s then vBytes C s t x L k else vConv C s t x k
theorem bytes_RL : ∀ (s : List UInt8) (vs : List Value),RL g w L (bytesV s).flatten vs → vs = s.map fun b=>Value.int .u8 b.toNat
 | [],vs,h=>by
  have:=h.1
  simp [bytesV] at this
  exact List.length_eq_zero_iff.1 this.symm
 | b :: s,vs,h=>by
  have h1:=h.1
  cases vs with
  | nil=>simp [bytesV] at h1
  | cons v vs =>
   have h0:=h.2.2 0 (.d (.int .u8 b.toNat)) v rfl rfl
   cases h0 with | d _ _ h0 =>
   cases h0
   rw [List.map_cons,← bytes_RL s vs ⟨by simpa [bytesV] using h1,fun j u hu=>h.2.1 (j + 1) u (by simpa using hu),fun j y u hy hu=>h.2.2 (j + 1) y u (by simpa [bytesV] using hy) (by simpa using hu)⟩]
theorem run_bytes {ad : Addr} {len c : Nat} {l : List UInt8} (h : (loadCells ad len).run C.P w = .ok (l.map fun b=>Value.int .u8 b.toNat).toArray w) : (Conv.bytesToString (.slice (some ad) len c)).run C.P w = .ok (.string ⟨l.toArray⟩) w:=by
 unfold Conv.bytesToString
 simp only [Sem.run_bind,h,Result.andThen_ok]
 rw [← Array.forIn_toList]
 have e : (⟨l.toArray⟩ : ByteArray) = ⟨(ByteArray.empty.data.toList ++ l).toArray⟩:=rfl
 rw [e]
 clear e h
 generalize ByteArray.empty = s
 induction l generalizing s with
 | nil=>simp
 | cons b l ih =>
  rw [List.map_cons,List.forIn_cons]
  have:=ih (s.push b)
  simp at this ⊢
  rw [this]
theorem vBytes_ok (hC : C.OK) (hg : Good g w L) {s t : TypeId} {x : V} {v : Value} (hx : RV g w L x v) {k : V → Prop} (h : vBytes C s t x L k) : ∃ r X,(convert s t v).run C.P w = .ok r w ∧ k X ∧ RV g w L X r:=by
 unfold vBytes at h
 split at h
 rotate_left
 ·exact h.elim
 rename_i si hs
 split at h
 rotate_left
 ·exact h.elim
 rename_i e hk
 split at h
 rotate_left
 ·exact h.elim
 rename_i ti ht
 split at h
 rotate_left
 ·exact h.elim
 rename_i hk'
 split at h
 rotate_left
 ·exact h.elim
 rename_i ei he
 split at h
 rotate_left
 ·exact h.elim
 rename_i hke
 have u1:=(hC s si hs).slice hk
 have u2:=(hC t ti ht).strK hk'
 have u3:=(hC e ei he).intK hke
 obtain ⟨els,⟨_,a,c,vs,rfl,hc,hRL,hl,hpos⟩,h⟩:=vSrc_ok hg (by decide) hx h
 unfold BytesP at h
 obtain ⟨l,rfl,h⟩:=h
 have hvs:=bytes_RL l vs hRL
 subst hvs
 refine ⟨_,_,?_,h,.d _ _ (.str _)⟩
 have hconv : (convert s t (.slice a (bytesV l).length c)).run C.P w = (Conv.bytesToString (.slice a (bytesV l).length c)).run C.P w:=by
  simp [convert,run_underlying u1,run_underlying u2,run_underlying u3]
 rw [hconv]
 cases a with
 | none =>
  have h0 : (bytesV l).length = 0:=by
   rcases Nat.eq_zero_or_pos (bytesV l).length with h | h
   ·exact h
   ·obtain ⟨ad,h1,_⟩:=hpos h; cases h1
  have : l = []:=by simpa [bytesV] using h0
  subst this
  simp [Conv.bytesToString]; rfl
 | some ad =>
  refine run_bytes ?_
  rcases Nat.eq_zero_or_pos (bytesV l).length with h | h
  ·have : l = []:=by simpa [bytesV] using h
   subst this
   exact run_loadCells_list w ad [] (by simp)
  ·obtain ⟨ad',h1,_,h3⟩:=hpos h
   cases h1
   have:=run_loadCells_list (P:=C.P) w ad _ h3
   simpa [bytesV] using this
theorem vConvL_ok (hC : C.OK) (hg : Good g w L) {s t : TypeId} {x : V} {v : Value} (hx : RV g w L x v) {k : V → Prop} (h : vConvL C s t x L k) : ∃ r X,(convert s t v).run C.P w = .ok r w ∧ k X ∧ RV g w L X r:=by
 unfold vConvL at h
 cases hb : isSlT C s with
 | true=>rw [hb] at h; exact vBytes_ok hC hg hx h
 | false=>rw [hb] at h; exact vConv_ok hC hx h
def RVs (g : Gh) (w : World) (L : List Blk) (xs : List V) (vs : Array Value) : Prop :=
 xs.length = vs.size ∧ ∀ (j : Nat) (x : V) (v : Value),xs[j]? = some x → vs[j]? = some v → RV g w L x v
structure PanS (C : Ctx) (k : Nat) (g : Gh) (w : World) (L : List Blk) (v : Value) (X : V) (L' : List Blk) (g' : Gh) (w' : World) : Prop where
 pan : C.pan X L'
 hpn : C.pn ≤ k
 rv : RV g' w' L' X v
 good : Good g' w' L'
 prog : Prog C.pn g w L g' w' L'
 df : ∀ b q,b < k → L[b]? = some .defr → g.m b = some q → w'.heap[q]? = some (.deferred (some [])) ∧ ¬ g'.I q ∧ ¬ owned g' L' q
def PanO (C : Ctx) (g : Gh) (w : World) (L : List Blk) (e : Ending) (w' : World) : Prop:=∃ v X L' g',e = .panicked [{ v,recovered:=false }] ∧ PanS C L.length g w L v X L' g' w'
theorem PanS.later {C : Ctx} {k : Nat} {g g1 : Gh} {w w1 w' : World} {L L1 L' : List Blk} {v : Value} {X : V} {g' : Gh} (hk : k ≤ L.length) (hp : Prog k g w L g1 w1 L1) (h : PanS C k g1 w1 L1 v X L' g' w') : PanS C k g w L v X L' g' w' :=
 ⟨h.pan,h.hpn,h.rv,h.good,(hp.le h.hpn hk).trans h.prog,fun b q hbk hb hm =>
  let ⟨h1,h2⟩:=hp.defr b q hbk hb hm
  h.df b q hbk h1 h2⟩
theorem PanS.less {C : Ctx} {k k' : Nat} {g : Gh} {w w' : World} {L L' : List Blk} {v : Value} {X : V} {g' : Gh} (hk : k' ≤ k) (hn : C.pn ≤ k') (h : PanS C k g w L v X L' g' w') : PanS C k' g w L v X L' g' w' :=
 ⟨h.pan,hn,h.rv,h.good,h.prog,fun b q hbk=>h.df b q (by omega)⟩
@[irreducible] def CallP (C : Ctx) (f : FuncId) (args : List V) (L : List Blk) (k : V → List Blk → Prop) : Prop :=
 (∃ fn, C.P.funcs[f]? = some fn ∧ fn.body.isSome = true ∧ (fn.name == "runtime.NumGoroutine") = false) ∧
 ∀ (g : Gh) (w : World) (vs : Array Value),Good g w L → RVs g w L args vs →
  Calls C.P f vs w fun e w'=>(∃ v X L' g',e = .returned v ∧ k X L' ∧ RV g' w' L' X v ∧ Good g' w' L' ∧ Prog L.length g w L g' w' L') ∨ PanO C g w L e w'
theorem CallP.mono {f : FuncId} {args : List V} {k k' : V → List Blk → Prop} (h : CallP C f args L k) (hk : ∀ X L',k X L' → k' X L') : CallP C f args L k':=by
 unfold CallP at h ⊢
 refine ⟨h.1,fun g w vs hg hv=>(h.2 g w vs hg hv).mono ?_⟩
 rintro e w' (⟨v,X,L',g',he,hX,hr,hgood,hp⟩ | h)
 ·exact .inl ⟨v,X,L',g',he,hk _ _ hX,hr,hgood,hp⟩
 ·exact .inr h
class Quiet (C : Ctx) : Prop where
 q : ∀ X L,¬ C.pan X L
theorem PanO.no {C : Ctx} [hq : Quiet C] {g : Gh} {w : World} {L : List Blk} {e : Ending} {w' : World} (h : PanO C g w L e w') : False:=by
 obtain ⟨_,X,L',_,_,hs⟩:=h
 exact hq.q X L' hs.pan
theorem CallP_q {C : Ctx} [Quiet C] {f : FuncId} {args : List V} {L : List Blk} {k : V → List Blk → Prop} : CallP C f args L k = ((∃ fn, C.P.funcs[f]? = some fn ∧ fn.body.isSome = true ∧ (fn.name == "runtime.NumGoroutine") = false) ∧
  ∀ (g : Gh) (w : World) (vs : Array Value),Good g w L → RVs g w L args vs →
   Calls C.P f vs w fun e w'=>∃ v X L' g',e = .returned v ∧ k X L' ∧ RV g' w' L' X v ∧ Good g' w' L' ∧ Prog L.length g w L g' w' L'):=by
 unfold CallP
 refine propext (and_congr_right fun _=>forall_congr' fun g=>forall_congr' fun w=>forall_congr' fun vs=>imp_congr_right fun _=>imp_congr_right fun _=>?_)
 exact ⟨fun h=>h.mono fun e w' h=>h.resolve_right PanO.no,fun h=>h.mono fun e w' h=>.inl h⟩
def Ctx.wp (C : Ctx) (pn : Nat) (pan : V → List Blk → Prop) : Ctx:={ P:=C.P,tt:=C.tt,pn,pan }
theorem CallP.up {C : Ctx} [Quiet C] {pn : Nat} {pan : V → List Blk → Prop} {f : FuncId} {args : List V} {L : List Blk} {k : V → List Blk → Prop} (h : CallP C f args L k) : CallP (C.wp pn pan) f args L k:=by
 rw [CallP_q] at h
 unfold CallP
 exact ⟨h.1,fun g w vs hg hv=>(h.2 g w vs hg hv).mono fun e w' h=>.inl h⟩
structure TSL where
 fr : List (Nat × V)
 L : List Blk
@[irreducible] def YieldP (C : Ctx) (b : Nat) (args : List V) (L : List Blk) (k : V → List Blk → Prop) : Prop :=
 ∀ (g : Gh) (w : World) (vs : Array Value) (l : Nat),Good g w L → RVs g w L args vs → RV g w L (.yld b) (.func (.yield l) #[] #[]) →
  ∃ f tmps assign body,(Instr.yield l vs).run C.P w = .ok (.round l f tmps assign body) w ∧
   RoundIn Fence.wide 0 C.P l f tmps assign body w fun e w'=>(∃ v X L' g',e = .returned v ∧ k X L' ∧ RV g' w' L' X v ∧ Good g' w' L' ∧ Prog L.length g w L g' w' L') ∨ PanO C g w L e w'
theorem YieldP_q {C : Ctx} [Quiet C] {b : Nat} {args : List V} {L : List Blk} {k : V → List Blk → Prop} : YieldP C b args L k = ∀ (g : Gh) (w : World) (vs : Array Value) (l : Nat),Good g w L → RVs g w L args vs → RV g w L (.yld b) (.func (.yield l) #[] #[]) →
  ∃ f tmps assign body,(Instr.yield l vs).run C.P w = .ok (.round l f tmps assign body) w ∧
   RoundIn Fence.wide 0 C.P l f tmps assign body w fun e w'=>∃ v X L' g',e = .returned v ∧ k X L' ∧ RV g' w' L' X v ∧ Good g' w' L' ∧ Prog L.length g w L g' w' L':=by
 unfold YieldP
 refine propext (forall_congr' fun g=>forall_congr' fun w=>forall_congr' fun vs=>forall_congr' fun l=>imp_congr_right fun _=>imp_congr_right fun _=>imp_congr_right fun _=>?_)
 constructor
 ·rintro ⟨f,tmps,assign,body,h1,h2⟩
  exact ⟨f,tmps,assign,body,h1,h2.mono fun e w' h=>h.resolve_right PanO.no⟩
 ·rintro ⟨f,tmps,assign,body,h1,h2⟩
  exact ⟨f,tmps,assign,body,h1,h2.mono fun e w' h=>.inl h⟩
def vCallF (C : Ctx) (f : V) (args : List V) (L : List Blk) (k : V → List Blk → Prop) : Prop :=
 match f with
 | .fn f caps=>CallP C f (args ++ caps) L k
 | .d (.fn f caps)=>CallP C f (args ++ caps.map .d) L k
 | _=>False
def vCallV (C : Ctx) (f : V) (args : List V) (L : List Blk) (k : V → List Blk → Prop) : Prop :=
 match f with
 | .yld b=>YieldP C b args L k
 | f=>vCallF C f args L k
def vInvoke (C : Ctx) (x : V) (name : String) (args : List V) (L : List Blk) (k : V → List Blk → Prop) : Prop :=
 match x with
 | .d (.iface t b ds)=>MethP C t name fun f=>CallP C f (unI b ds :: args) L k
 | .iface t y=>MethP C t name fun f=>CallP C f (y :: args) L k
 | _=>False
def noDefr (n : Nat) (L : List Blk) : Bool:=(L.take n).all fun k=>match k with | .defr=>false | _=>true
def vPanic (C : Ctx) (x : V) (L : List Blk) : Prop :=
 match x with
 | .iface t y=>Need (C.pn ≤ L.length ∧ belB C.pn (L.take C.pn) = true ∧ noDefr C.pn L = true ∧ y.bel C.pn = true) (C.pan (.iface t y) (L.take C.pn))
 | .d (.iface t b ds)=>Need (C.pn ≤ L.length ∧ belB C.pn (L.take C.pn) = true ∧ noDefr C.pn L = true) (C.pan (.d (.iface t b ds)) (L.take C.pn))
 | _=>False
def vOp (C : Ctx) (o : Oper) (fr : List (Nat × V)) (L : List Blk) (k : V → List Blk → Prop) : Prop :=
 match o.op with
 | .move x=>k (evB fr x) L
 | .assign x=>k (evB fr x) L
 | .pick c a b =>
  match evB fr c with
  | .tt=>k (evB fr a) L
  | .ff=>k (evB fr b) L
  | .d (.bool t)=>Br t fun t=>match t with | true=>k (evB fr a) L | false=>k (evB fr b) L
  | _=>False
 | .alloc t=>vAlloc C t L k
 | .box _ x=>vBox (ev fr x) L k
 | .build t ps=>vBuild C t (ps.toList.map fun p=>(p.1,ev fr p.2)) fun x=>k x L
 | .buildSlice t len ps=>vBuildSlice C t len (ps.toList.map fun p=>(p.1,ev fr p.2)) L k
 | .load t a=>vLoad C t (ev fr a) L fun x=>k x L
 | .store t a x=>vStore C t (ev fr a) (ev fr x) L fun L'=>k .poison L'
 | .nilCheck x =>
  match ev fr x with
  | .ptr b off=>k (.ptr b off) L
  | .eptr b gen i off=>k (.eptr b gen i off) L
  | .d (.rptr cs)=>k (.d (.rptr cs)) L
  | .fn f caps=>k (.fn f caps) L
  | .d (.fn f caps)=>k (.d (.fn f caps)) L
  | .yld b=>k (.yld b) L
  | _=>False
 | .binOp op t x y _=>match isNilSl y with
  | false=>vBin C op t (ev fr x) (ev fr y) fun x=>k x L
  | true=>vNilSl C op t (ev fr x) L fun x=>k x L
 | .unOp op _ x=>vUn op (evB fr x) fun x=>k x L
 | .convert s t x=>vConvL C s t (ev fr x) L fun x=>k x L
 | .fieldAddr s x f=>vFieldAddr C s (ev fr x) f fun x=>k x L
 | .field s x f=>match C.tt s,ev fr x with
  | some si,.agg cs=>match si.k with
   | .struct fs=>match fs[f]? with
    | some (off,ft)=>match C.tt ft with
     | some fi=>match cut fi cs off with | some x=>k x L | none=>False
     | none=>False
    | none=>False
   | _=>False
  | _,_=>False
 | .indexAddr t x i=>vIndexAddr C t (ev fr x) (ev fr i) (fun x=>k x L) L
 | .extract x i =>
  match ev fr x with
  | .tup vs=>match vs[i]? with | some v=>k v L | none=>False
  | _=>False
 | .slice t x lo hi mx=>vSliceM C t (ev fr x) (lo.map (ev fr)) (hi.map (ev fr)) (mx.map (ev fr)) (isCst mx) L k
 | .makeFunc (.func f) first caps=>bif first.isEmpty then k (.fn f (caps.toList.map (ev fr))) L else False
 | .makeMap _ none=>k (.map L.length) (L ++ [.map []])
 | .makeSlice t x y=>vMakeSlice C t (ev fr x) (ev fr y) L k
 | .lookup t x i ok=>vLookup C t (ev fr x) (ev fr i) ok L fun x=>k x L
 | .mapUpdate t m x v=>vMapUpdate C t (ev fr m) (ev fr x) (ev fr v) L fun L'=>k .poison L'
 | .insert t m x v=>vMapUpdate C t (ev fr m) (ev fr x) (ev fr v) L fun L'=>k .poison L'
 | .mapEntry t m x=>vMapEntry C t (ev fr m) (ev fr x) L k
 | .entryStore _ m s v=>vEntryStore (ev fr m) (ev fr s) (ev fr v) L fun L'=>k .poison L'
 | .makeInterface t x=>vMakeIface C t (ev fr x) fun x=>k x L
 | .typeAssert x _ t ok=>vTypeAssert C (ev fr x) t ok fun x=>k x L
 | .index t x i=>vIndex C t (ev fr x) (ev fr i) fun x=>k x L
 | .call c =>
  match c.callee with
  | .value f=>vCallV C (ev fr f) (c.args.toList.map (ev fr)) L k
  | .builtin .len=>match c.args.toList,c.argTypes.toList with
   | [x],[t]=>vLenL C t (ev fr x) L fun x=>k x L
   | _,_=>False
  | .builtin .append=>match c.args.toList,c.argTypes.toList with
   | [s,x],[t,t']=>bif Nat.beq t t' then vAppend C t (ev fr s) (ev fr x) L k else False
   | _,_=>False
  | .builtin .clear=>match c.args.toList,c.argTypes.toList with
   | [s],[t]=>vClear C t (ev fr s) L fun L'=>k (.tup []) L'
   | _,_=>False
  | .builtin .min=>match c.args.toList with
   | [x,y]=>vMin (ev fr x) (ev fr y) fun x=>k x L
   | _=>False
  | .builtin .max=>match c.args.toList with
   | [x,y]=>vMax (ev fr x) (ev fr y) fun x=>k x L
   | _=>False
  | .invoke x name=>vInvoke C (ev fr x) name (c.args.toList.map (ev fr)) L k
  | _=>False
 | .panic x=>vPanic C (ev fr x) L
 | _=>False
abbrev Fx (r : Option Nat) : Fence:={ Fence.wide with round:=r }
variable {r : Option Nat} {a : Act} {o : Oper} {next : Act → World → Prop} {Q : Exit → Act → World → Prop}
theorem about_any (P : Program) (o : Oper) (a : Act) (w : World) : ∀ f,o.about P w a.eval = some f → (Fx r).fn f:=fun _ _=>trivial
theorem wpIn_val {P : Program} {v : Value} {w' : World} (hd : ∀ c,o.op ≠ .defer c) (h : (execOp a.eval o).run P w = .ok (.value v) w') (hn : next (a.put o.dst v) w') : Oper.wpIn (Fx r) 0 P o a w next Q:=by
 refine ⟨about_any P o a w,?_⟩
 rw [Oper.semAt_eq _ _ _ hd,h]
 exact hn
theorem wpIn_skip {P : Program} {w' : World} (hd : ∀ c,o.op ≠ .defer c) (h : (execOp a.eval o).run P w = .ok .skip w') (hn : next (a.put o.dst undef) w') : Oper.wpIn (Fx r) 0 P o a w next Q:=by
 refine ⟨about_any P o a w,?_⟩
 rw [Oper.semAt_eq _ _ _ hd,h]
 exact hn
theorem wpIn_enter {P : Program} {f : FuncId} {args : Array Value} {w' : World} (hd : ∀ c,o.op ≠ .defer c) (h : (execOp a.eval o).run P w = .ok (.enter f args) w')
  (hc : Calls P f args w' fun e w''=>(∃ v,e = .returned v ∧ next (a.put o.dst v) w'') ∨ ∃ ch,e = .panicked ch ∧ Q (.panic ch) a w'') : Oper.wpIn (Fx r) 0 P o a w next Q:=by
 refine ⟨about_any P o a w,?_⟩
 rw [Oper.semAt_eq _ _ _ hd,h]
 refine ⟨fun h=>by simp [Fence.wide] at h,?_⟩
 have h2 : CallsIn Fence.wide 0 P f args w' fun e w''=>(∃ v,e = .returned v ∧ next (a.put o.dst v) w'') ∨ ∃ ch,e = .panicked ch ∧ Q (.panic ch) a w'':=callsIn_wide.2 hc
 have h3:=h2.mono (R':=fun
  | .returned v,w''=>next (a.put o.dst v) w''
  | .panicked chain,w''=>Q (.panic chain) a w''
  | .outgrown,_=>LetsOut Q) (by rintro e w'' (⟨v,rfl,hv⟩ | ⟨ch,rfl,hv⟩) <;> exact hv)
 exact h3
theorem wpIn_round {P : Program} {l f : Nat} {tmps : Array Value} {assign body : Code} {w' : World} (hd : ∀ c,o.op ≠ .defer c) (h : (execOp a.eval o).run P w = .ok (.round l f tmps assign body) w')
  (hc : RoundIn Fence.wide 0 P l f tmps assign body w' fun e w''=>(∃ v,e = .returned v ∧ next (a.put o.dst v) w'') ∨ ∃ ch,e = .panicked ch ∧ Q (.panic ch) a w'') : Oper.wpIn (Fx r) 0 P o a w next Q:=by
 refine ⟨about_any P o a w,?_⟩
 rw [Oper.semAt_eq _ _ _ hd,h]
 refine ⟨fun h=>by simp [Fence.wide] at h,?_⟩
 have h3:=hc.mono (R':=fun
  | .returned v,w''=>next (a.put o.dst v) w''
  | .panicked chain,w''=>Q (.panic chain) a w''
  | .outgrown,_=>LetsOut Q) (by rintro e w'' (⟨v,rfl,hv⟩ | ⟨ch,rfl,hv⟩) <;> exact hv)
 exact h3
theorem RVs.of {fr : List (Nat × V)} (hgl : GlobOK g.I w) (h : ∀ i,RV g w L (look fr i) (a.tmps.getD i undef)) (xs : Array Operand) : RVs g w L (xs.toList.map (ev fr)) (xs.map a.eval):=by
 refine ⟨by simp,fun j x v hx hv=>?_⟩
 rw [List.getElem?_map] at hx
 rw [Array.getElem?_map] at hv
 cases e : xs[j]? with
 | none=>rw [e] at hv; cases hv
 | some p =>
  rw [e] at hv
  rw [show xs.toList[j]? = some p by simpa using e] at hx
  cases hx; cases hv
  exact ev_ok hgl h p
theorem RVs.append {xs ys : List V} {vs us : Array Value} (h : RVs g w L xs vs) (h' : RVs g w L ys us) : RVs g w L (xs ++ ys) (vs ++ us):=by
 refine ⟨by simp [h.1,h'.1],fun j x v hx hv=>?_⟩
 rcases Nat.lt_or_ge j vs.size with hj | hj
 ·rw [List.getElem?_append_left (by rw [h.1]; exact hj)] at hx
  rw [Array.getElem?_append_left hj] at hv
  exact h.2 j x v hx hv
 ·rw [List.getElem?_append_right (by rw [h.1]; exact hj)] at hx
  rw [Array.getElem?_append_right hj] at hv
  rw [h.1] at hx
  exact h'.2 _ x v hx hv
theorem vCallF_ok {f : V} {args : List V} {u : Value} {vs : Array Value} (hf : RV g w L f u) (ha : RVs g w L args vs) (hg : Good g w L) {k : V → List Blk → Prop} (h : vCallF C f args L k) :
  ∃ (f : FuncId) (us : Array Value),u = .func (.func f) #[] us ∧ (callFunc f (vs ++ us)).run C.P w = .ok (.enter f (vs ++ us)) w ∧
   Calls C.P f (vs ++ us) w fun e w'=>(∃ v X L' g',e = .returned v ∧ k X L' ∧ RV g' w' L' X v ∧ Good g' w' L' ∧ Prog L.length g w L g' w' L') ∨ PanO C g w L e w':=by
 have fin : ∀ (f : FuncId) (caps : List V) (us : Array Value),RVs g w L caps us → CallP C f (args ++ caps) L k → (callFunc f (vs ++ us)).run C.P w = .ok (.enter f (vs ++ us)) w ∧
   Calls C.P f (vs ++ us) w fun e w'=>(∃ v X L' g',e = .returned v ∧ k X L' ∧ RV g' w' L' X v ∧ Good g' w' L' ∧ Prog L.length g w L g' w' L') ∨ PanO C g w L e w':=by
  intro f caps us hcaps hcall
  unfold CallP at hcall
  obtain ⟨⟨fn,h1,h2,h3⟩,h4⟩:=hcall
  refine ⟨?_,h4 g w (vs ++ us) hg (ha.append hcaps)⟩
  have h2' : fn.body ≠ none:=by intro hb; rw [hb] at h2; cases h2
  have h3' : fn.name ≠ "runtime.NumGoroutine" := by simpa using h3
  simp [callFunc,h1,h2',h3']
 unfold vCallF at h
 split at h
 ·rename_i f caps
  cases hf with | fn _ _ us hlen hrec =>
  obtain ⟨h1,h2⟩:=fin f caps us ⟨hlen,hrec⟩ h
  exact ⟨f,us,rfl,h1,h2⟩
 ·rename_i f caps
  cases hf with | d _ _ hd =>
  cases hd with | fn _ _ us hlen hrec =>
  obtain ⟨h1,h2⟩:=fin f (caps.map .d) us ⟨by simpa using hlen,fun j x v hx hv=>by
   rw [List.getElem?_map] at hx
   cases e : caps[j]? with
   | none=>rw [e] at hx; cases hx
   | some y=>rw [e] at hx; cases hx; exact .d _ _ (hrec j y v e hv)⟩ h
  exact ⟨f,us,rfl,h1,h2⟩
 ·exact h.elim
theorem vCallV_ok {f : V} {args : List V} {u : Value} {vs : Array Value} {c : Call} (hf : RV g w L f u) (ha : RVs g w L args vs) (hg : Good g w L) {k : V → List Blk → Prop} (h : vCallV C f args L k)
  (ho : o.op = .call c) {fo : Operand} (hc : c.callee = .value fo) (hfo : a.eval fo = u) (has : c.args.map a.eval = vs)
  (hnext : ∀ v X L' g' w',k X L' → RV g' w' L' X v → Good g' w' L' → Prog L.length g w L g' w' L' → next (a.put o.dst v) w') (hP : ∀ v X L' g' w',PanS C L.length g w L v X L' g' w' → Q (.panic [{ v,recovered:=false }]) a w') : Oper.wpIn (Fx r) 0 C.P o a w next Q:=by
 unfold vCallV at h
 split at h
 ·rename_i b
  unfold YieldP at h
  have hu : ∃ l,u = .func (.yield l) #[] #[]:=by cases hf <;> exact ⟨_,rfl⟩
  obtain ⟨l,rfl⟩:=hu
  obtain ⟨f,tmps,assign,body,h1,h2⟩:=h g w vs l hg ha hf
  refine wpIn_round (w':=w) (fun c=>by rw [ho]; simp) ?_ (h2.mono ?_)
  ·simp only [execOp,ho,resolve,hc,hfo,Deferred.ofValue,has,Sem.run_bind,Sem.run_pure,Result.andThen_ok,invoke]
   simpa using h1
  ·rintro e w' (⟨v,X,L',g',rfl,hX,hr,hgood,hp⟩ | ⟨v,X,L',g',rfl,hS⟩)
   ·exact .inl ⟨v,rfl,hnext v X L' g' w' hX hr hgood hp⟩
   ·exact .inr ⟨_,rfl,hP v X L' g' w' hS⟩
 ·obtain ⟨f,us,rfl,h1,h2⟩:=vCallF_ok hf ha hg h
  refine wpIn_enter (f:=f) (args:=vs ++ us) (w':=w) (fun c=>by rw [ho]; simp) ?_ (h2.mono ?_)
  ·simp only [execOp,ho,resolve,hc,hfo,Deferred.ofValue,has,Sem.run_bind,Sem.run_pure,Result.andThen_ok,invoke]
   simpa using h1
  ·rintro e w' (⟨v,X,L',g',rfl,hX,hr,hgood,hp⟩ | ⟨v,X,L',g',rfl,hS⟩)
   ·exact .inl ⟨v,rfl,hnext v X L' g' w' hX hr hgood hp⟩
   ·exact .inr ⟨_,rfl,hP v X L' g' w' hS⟩
theorem vInvoke_ok {x : V} {name : String} {args : List V} {u : Value} {vs : Array Value} {c : Call} (hx : RV g w L x u) (ha : RVs g w L args vs) (hg : Good g w L) {k : V → List Blk → Prop} (h : vInvoke C x name args L k)
  (ho : o.op = .call c) {xo : Operand} (hc : c.callee = .invoke xo name) (hxo : a.eval xo = u) (has : c.args.map a.eval = vs)
  (hnext : ∀ v X L' g' w',k X L' → RV g' w' L' X v → Good g' w' L' → Prog L.length g w L g' w' L' → next (a.put o.dst v) w') (hP : ∀ v X L' g' w',PanS C L.length g w L v X L' g' w' → Q (.panic [{ v,recovered:=false }]) a w') : Oper.wpIn (Fx r) 0 C.P o a w next Q:=by
 have fin : ∀ (t : TypeId) (y : V) (q : Value),u = .iface t q → RV g w L y q → (MethP C t name fun f=>CallP C f (y :: args) L k) → Oper.wpIn (Fx r) 0 C.P o a w next Q:=by
  rintro t y q rfl hy hm
  unfold MethP at hm
  obtain ⟨f,hf,hcall⟩:=hm
  unfold CallP at hcall
  obtain ⟨⟨fn,h1,h2,h3⟩,h4⟩:=hcall
  have hvs : RVs g w L (y :: args) (#[q] ++ vs):=RVs.append (xs:=[y]) (us:=vs) ⟨rfl,fun j x v hx hv=>by
   match j,hx,hv with
   | 0,hx,hv=>cases hx; cases hv; exact hy
   | j + 1,hx,_=>simp at hx⟩ ha
  have h2' : fn.body ≠ none:=by intro hb; rw [hb] at h2; cases h2
  have h3' : fn.name ≠ "runtime.NumGoroutine" := by simpa using h3
  have hcf : (callFunc f (#[q] ++ vs)).run C.P w = .ok (.enter f (#[q] ++ vs)) w:=by simp [callFunc,h1,h2',h3']
  refine wpIn_enter (f:=f) (args:=#[q] ++ vs) (w':=w) (fun c=>by rw [ho]; simp) ?_ ((h4 g w (#[q] ++ vs) hg hvs).mono ?_)
  ·have he : (#[Value.iface t q] ++ vs).extract 1 (#[Value.iface t q] ++ vs).size = vs:=by
    rw [Array.extract_append]; simp
   have h0 : (#[Value.iface t q] ++ vs)[0]? = some (Value.iface t q):=by rw [Array.getElem?_append_left (Nat.zero_lt_one)]; rfl
   simp only [execOp,ho,resolve,hc,hxo,has,Sem.run_bind,Sem.run_pure,Result.andThen_ok,invoke,h0,he,callMethod]
   have:=hf q w
   simp [this,hcf]
  ·rintro e w' (⟨v,X,L',g',rfl,hX,hr,hgood,hp⟩ | ⟨v,X,L',g',rfl,hS⟩)
   ·exact .inl ⟨v,rfl,hnext v X L' g' w' hX hr hgood hp⟩
   ·exact .inr ⟨_,rfl,hP v X L' g' w' hS⟩
 unfold vInvoke at h
 split at h
 ·cases hx with | d _ _ hd =>
  obtain ⟨q,rfl,hq⟩:=unI_ok (L:=L) hd
  exact fin _ _ q rfl hq h
 ·cases hx with | iface _ _ q hq=>exact fin _ _ q rfl hq h
 ·exact h.elim
theorem vPanic_ok {x : V} {u : Value} (hg : Good g w L) (hx : RV g w L x u) (h : vPanic C x L) : ∃ v X g',(Instr.panic u).run C.P w = .halt (.panic v) w ∧ PanS C L.length g w L v X (L.take C.pn) g' w:=by
 have fin : ∀ (t : TypeId) (q : Value) (y : V),u = .iface t q → y.bel C.pn = true → RV g w L y u → C.pn ≤ L.length → belB C.pn (L.take C.pn) = true → noDefr C.pn L = true → C.pan y (L.take C.pn) → ∃ v X g',(Instr.panic u).run C.P w = .halt (.panic v) w ∧ PanS C L.length g w L v X (L.take C.pn) g' w:=by
  rintro t q y rfl hb hy hn hB hd hp
  obtain ⟨hm,hgood⟩:=drop_good hg hB g.I (fun _ h=>h) (fun _ h=>.inl h)
  refine ⟨.iface t q,y,_,by simp [Instr.panic],hp,hn,hm _ _ hb hy,hgood,drop_prog hg (Nat.le_refl _) hB hn g.I (fun _ h=>h) (fun _ h=>.inl h),fun b q _ hb hm=>?_⟩
  obtain ⟨q',h1,h2⟩:=hg.blk b _ hb
  rw [hm] at h1; cases h1
  refine ⟨h2,fun hI=>hg.dis q ⟨b,⟨_,hb,by simp⟩,hm⟩ hI,?_⟩
  rintro ⟨b',hl,hm'⟩
  obtain ⟨hlt,hl'⟩:=take_live hl
  have:=hg.inj b b' q ⟨_,hb,by simp⟩ hl' hm hm'
  subst this
  unfold noDefr at hd
  have:=List.all_eq_true.1 hd .defr (List.mem_of_getElem? (i:=b) (by rw [take_get hlt]; exact hb))
  simp at this
 unfold vPanic at h
 split at h
 ·rename_i t y
  obtain ⟨⟨h1,h2,h3,h4⟩,h5⟩:=h.out
  cases hx with
  | iface _ _ q hq=>exact fin t q (.iface t y) rfl (by simpa [V.bel] using h4) (.iface t y q hq) h1 h2 h3 h5
 ·rename_i t b ds
  obtain ⟨⟨h1,h2,h3⟩,h5⟩:=h.out
  cases hx with
  | d _ _ hd =>
   obtain ⟨q,rfl,hq⟩:=unI_ok (L:=L) hd
   exact fin t q (.d (.iface t b ds)) rfl rfl (.d _ _ hd) h1 h2 h3 h5
 ·exact h.elim
theorem wpIn_panic {P : Program} {v : Value} {w' : World} (hd : ∀ c,o.op ≠ .defer c) (h : (execOp a.eval o).run P w = .halt (.panic v) w') (hn : Q (.panic [{ v,recovered:=false }]) a w') : Oper.wpIn (Fx r) 0 P o a w next Q:=by
 refine ⟨about_any P o a w,?_⟩
 rw [Oper.semAt_eq _ _ _ hd,h]
 exact hn
theorem parts_ok {fr : List (Nat × V)} (hgl : GlobOK g.I w) (h : ∀ i,RV g w L (look fr i) (a.tmps.getD i undef)) (ps : Array (Nat × Operand)) :
  ((ps.toList.map fun p=>(p.1,ev fr p.2)).map (·.1) = ((ps.map fun p=>(p.1,a.eval p.2)).toList.map (·.1))) ∧
  ∀ (j : Nat) (p : Nat × V) (q : Nat × Value),(ps.toList.map fun p=>(p.1,ev fr p.2))[j]? = some p → (ps.map fun p=>(p.1,a.eval p.2)).toList[j]? = some q → RV g w L p.2 q.2:=by
 refine ⟨by simp,fun j p q hp hq=>?_⟩
 rw [List.getElem?_map] at hp
 rw [Array.toList_map,List.getElem?_map] at hq
 cases e : ps.toList[j]? with
 | none=>rw [e] at hp; cases hp
 | some x=>rw [e] at hp hq; cases hp; cases hq; exact ev_ok hgl h x.2
theorem vOp_ok (hC : C.OK) {fr : List (Nat × V)} (hfr : ∀ i,RV g w L (look fr i) (a.tmps.getD i undef)) (hg : Good g w L) {k : V → List Blk → Prop} (h : vOp C o fr L k)
  (hnext : ∀ v X L' g' w',k X L' → RV g' w' L' X v → Good g' w' L' → Prog L.length g w L g' w' L' → next (a.put o.dst v) w') (hP : ∀ v X L' g' w',PanS C L.length g w L v X L' g' w' → Q (.panic [{ v,recovered:=false }]) a w') : Oper.wpIn (Fx r) 0 C.P o a w next Q:=by
 have E:=fun x=>ev_ok hg.gl hfr x
 have EB:=fun x=>evB_ok hg.gl hfr x
 have pure1 : ∀ {v X},(∀ c,o.op ≠ .defer c) → (execOp a.eval o).run C.P w = .ok (.value v) w → k X L → RV g w L X v → Oper.wpIn (Fx r) 0 C.P o a w next Q :=
  fun hd hrun hk hv=>wpIn_val hd hrun (hnext _ _ _ _ _ hk hv hg (Prog.refl _ _ _ _))
 have opt : ∀ x : Option Operand,RO g w L (x.map (ev fr)) (x.map a.eval):=fun x=>by
  cases x with
  | none=>trivial
  | some x=>exact E x
 unfold vOp at h
 split at h
 ·rename_i x ho
  exact pure1 (by simp [ho]) (by simp [execOp,ho]) h (EB x)
 ·rename_i x ho
  exact pure1 (by simp [ho]) (by simp [execOp,ho]) h (EB x)
 ·rename_i c x y ho
  have hcv:=evB_ok hg.gl hfr c
  have fin : ∀ t : Bool,a.eval c = .bool t → (match t with | true=>k (evB fr x) L | false=>k (evB fr y) L) → Oper.wpIn (Fx r) 0 C.P o a w next Q:=by
   intro t hb h
   cases t with
   | true=>exact pure1 (by simp [ho]) (by simp [execOp,ho,hb,asBool]) h (EB x)
   | false=>exact pure1 (by simp [ho]) (by simp [execOp,ho,hb,asBool]) h (EB y)
  split at h
  ·rename_i hc
   rw [hc] at hcv
   exact fin true (by generalize a.eval c = v at hcv; cases hcv; rfl) h
  ·rename_i hc
   rw [hc] at hcv
   exact fin false (by generalize a.eval c = v at hcv; cases hcv; rfl) h
  ·rename_i t hc
   rw [hc] at hcv
   exact fin t hcv.bool_of h.out
  ·exact h.elim
 ·rename_i t ho
  obtain ⟨rv,w',X,L',g',h1,h2,h3,h4,h5⟩:=vAlloc_ok hC hg h
  exact wpIn_val (by simp [ho]) (by simp [execOp,ho,h1]) (hnext _ _ _ _ _ h2 h3 h4 h5)
 ·rename_i t x ho
  obtain ⟨rv,w',X,L',g',h1,h2,h3,h4,h5⟩:=vBox_ok (C:=C) hg t (E x) h
  exact wpIn_val (by simp [ho]) (by simp [execOp,ho,h1]) (hnext _ _ _ _ _ h2 h3 h4 h5)
 ·rename_i t ps ho
  obtain ⟨p1,p2⟩:=parts_ok hg.gl hfr ps
  obtain ⟨rv,X,h1,h2,h3⟩:=vBuild_ok hC p1 p2 h
  exact pure1 (by simp [ho]) (by simp [execOp,ho,h1]) h2 h3
 ·rename_i t len ps ho
  obtain ⟨p1,p2⟩:=parts_ok hg.gl hfr ps
  obtain ⟨rv,w',X,L',g',h1,h2,h3,h4,h5⟩:=vBuildSlice_ok hC hg p1 p2 h
  exact wpIn_val (by simp [ho]) (by simp [execOp,ho,h1]) (hnext _ _ _ _ _ h2 h3 h4 h5)
 ·rename_i t x ho
  obtain ⟨rv,X,h1,h2,h3⟩:=vLoad_ok hC hg (E x) h
  exact pure1 (by simp [ho]) (by simp [execOp,ho,h1]) h2 h3
 ·rename_i t x y ho
  obtain ⟨w',L',h1,h2,_,h3,h4⟩:=vStore_ok hC hg (E x) (E y) h
  exact wpIn_skip (by simp [ho]) (by simp [execOp,ho,h1]) (hnext undef _ _ _ _ h2 (.poison _) h3 h4)
 ·rename_i x ho
  have hx:=E x
  have nc : ∀ v,(∀ n,v ≠ .pointer none ∧ v ≠ .nilIface ∧ v ≠ .nilFunc ∧ ∀ p q,v ≠ .func (.method n) p q) → a.eval x = v → (execOp a.eval o).run C.P w = .ok (.value v) w:=by
   intro v hv he
   simp only [execOp,ho,he]
   split
   ·exact absurd rfl (hv "").1
   ·exact absurd rfl (hv "").2.1
   ·exact absurd rfl (hv "").2.2.1
   ·rename_i n p q
    exact absurd rfl ((hv n).2.2.2 p q)
   ·rfl
  have go : ∀ X,ev fr x = X → (∀ v,RV g w L X v → ∀ n,v ≠ .pointer none ∧ v ≠ .nilIface ∧ v ≠ .nilFunc ∧ ∀ p q,v ≠ .func (.method n) p q) → k X L → Oper.wpIn (Fx r) 0 C.P o a w next Q:=fun X he hn hk=>by
   rw [he] at hx
   exact pure1 (by simp [ho]) (nc _ (hn _ hx) rfl) hk hx
  split at h
  ·rename_i he
   exact go _ he (fun v hv n=>by cases hv <;> simp) h
  ·rename_i he
   exact go _ he (fun v hv n=>by cases hv <;> simp) h
  ·rename_i he
   exact go _ he (fun v hv n=>by cases hv with | d _ _ hd=>cases hd; simp) h
  ·rename_i he
   exact go _ he (fun v hv n=>by cases hv <;> simp) h
  ·rename_i he
   exact go _ he (fun v hv n=>by cases hv with | d _ _ hd=>cases hd; simp) h
  ·rename_i he
   exact go _ he (fun v hv n=>by cases hv <;> simp) h
  ·exact h.elim
 ·rename_i op t x y yt ho
  split at h
  ·obtain ⟨rv,X,h1,h2,h3⟩:=vBin_ok hC (E x) (E y) x y h
   exact pure1 (by simp [ho]) (by simp only [execOp,ho]; rw [Sem.run_bind,h1]; rfl) h2 h3
  ·rename_i hn
   have hy:=isNilSl_eq hn
   subst hy
   obtain ⟨rv,X,h1,h2,h3⟩:=vNilSl_ok hC (E x) x (.const (.slice none 0 0)) h
   have h1 : (do eqGuard op t x (.const (.slice none 0 0)) (a.eval x) (a.eval (.const (.slice none 0 0))); binOp op t (a.eval x) (a.eval (.const (.slice none 0 0))) : Sem Value).run C.P w = .ok rv w:=h1
   exact pure1 (by simp [ho]) (by simp only [execOp,ho]; rw [Sem.run_bind,h1]; rfl) h2 h3
 ·rename_i op t x ho
  obtain ⟨rv,X,h1,h2,h3⟩:=vUn_ok (EB x) h
  exact pure1 (by simp [ho]) (by simp only [execOp,ho]; rw [Sem.run_bind,h1]; rfl) h2 h3
 ·rename_i s t x ho
  obtain ⟨rv,X,h1,h2,h3⟩:=vConvL_ok hC hg (E x) h
  exact pure1 (by simp [ho]) (by simp only [execOp,ho]; rw [Sem.run_bind,h1]; rfl) h2 h3
 ·rename_i s x f ho
  obtain ⟨rv,X,h1,h2,h3⟩:=vFieldAddr_ok hC (E x) h
  exact pure1 (by simp [ho]) (by simp only [execOp,ho]; rw [Sem.run_bind,h1]; rfl) h2 h3
 ·rename_i s x f ho
  split at h
  ·rename_i si cs hs hx
   split at h
   ·rename_i fs hk
    split at h
    ·rename_i off ft hf
     split at h
     ·rename_i fi hft
      split at h
      ·rename_i X hcut
       have hxv:=E x
       rw [hx] at hxv
       obtain ⟨fields,hu,hfs,_⟩:=(hC s si hs).struct hk
       obtain ⟨fld,f1,f2,f3⟩:=field_get hfs hf
       subst f2 f3
       generalize hv : a.eval x = v at hxv
       have hxv':=hxv
       cases hxv' with | agg _ vs _ _ _ =>
       obtain ⟨rv,h1,h2⟩:=part_ok (hC _ fi hft) hxv hcut
       exact pure1 (by simp [ho]) (by simp [execOp,ho,hv,Instr.field,run_underlying hu,f1,asAgg,h1]) h h2
      ·exact h.elim
     ·exact h.elim
    ·exact h.elim
   ·exact h.elim
  ·exact h.elim
 ·rename_i t x i ho
  obtain ⟨rv,X,h1,h2,h3⟩:=vIndexAddr_ok hC hg (E x) (E i) h
  exact pure1 (by simp [ho]) (by simp only [execOp,ho]; rw [Sem.run_bind,h1]; rfl) h2 h3
 ·rename_i x i ho
  split at h
  ·rename_i vs hx
   split at h
   ·rename_i X hX
    have hxv:=E x
    rw [hx] at hxv
    generalize hv : a.eval x = v at hxv
    cases hxv with | tup _ us hlen hrec =>
    have hlt:=lt_of_get hX
    have hu : us[i]? = some (us[i]'(by omega)):=Array.getElem?_eq_getElem _
    exact pure1 (by simp [ho]) (by simp only [execOp,ho,hv,Instr.extract,hu,Sem.run_bind]; rfl) h (hrec i X _ hX hu)
   ·exact h.elim
  ·exact h.elim
 ·rename_i t x lo hi mx ho
  cases mx with
  | none =>
   obtain ⟨rv,X,h1,h2,h3⟩:=vSlice_ok hC hg (E x) (opt lo) (opt hi) (opt none) (show vSlice C t (ev fr x) (lo.map (ev fr)) (hi.map (ev fr)) none L fun x=>k x L from h)
   exact pure1 (by simp [ho]) (by simp only [execOp,ho]; rw [Sem.run_bind,h1]; rfl) h2 h3
  | some m =>
   cases hcs : isCst (some m) with
   | true =>
    obtain ⟨rv,X,L',g',h1,h2,h3,h4,h5⟩:=vSlice3_ok hC hg (E x) (opt lo) (opt hi) (E m) (show vSlice3 C t (ev fr x) (lo.map (ev fr)) (hi.map (ev fr)) (ev fr m) L k by
     have h' : (bif isCst (some m) then vSlice3 C t (ev fr x) (lo.map (ev fr)) (hi.map (ev fr)) (ev fr m) L k else vSlice4 C t (ev fr x) (lo.map (ev fr)) (hi.map (ev fr)) (ev fr m) L k):=h
     rw [hcs] at h'; exact h')
    exact wpIn_val (by simp [ho]) (by simp only [execOp,ho,Option.map_some]; rw [Sem.run_bind,h1]; rfl) (hnext _ _ _ _ _ h2 h3 h4 h5)
   | false =>
    obtain ⟨rv,X,h1,h2,h3⟩:=vSlice4_ok hC hg (E x) (opt lo) (opt hi) (E m) (show vSlice4 C t (ev fr x) (lo.map (ev fr)) (hi.map (ev fr)) (ev fr m) L k by
     have h' : (bif isCst (some m) then vSlice3 C t (ev fr x) (lo.map (ev fr)) (hi.map (ev fr)) (ev fr m) L k else vSlice4 C t (ev fr x) (lo.map (ev fr)) (hi.map (ev fr)) (ev fr m) L k):=h
     rw [hcs] at h'; exact h')
    exact pure1 (by simp [ho]) (by simp only [execOp,ho,Option.map_some]; rw [Sem.run_bind,h1]; rfl) h2 h3
 ·rename_i f first caps ho
  cases hf : first.isEmpty with
  | false=>simp [hf] at h
  | true =>
  simp only [hf,cond_true] at h
  have hfe : first = #[]:=by simpa using hf
  subst hfe
  have:=RVs.of (a:=a) (g:=g) (w:=w) (L:=L) hg.gl hfr caps
  exact pure1 (by simp [ho]) (by simp [execOp,ho,Instr.makeFunc]) h (.fn _ _ _ this.1 this.2)
 ·rename_i t ho
  obtain ⟨h1,h2,h3⟩:=makeMap_ok hg
  exact wpIn_val (by simp [ho]) (by simp [execOp,ho,Instr.makeMap,newObj]; rfl) (hnext _ _ _ _ _ h h3 h1 h2)
 ·rename_i t x y ho
  obtain ⟨rv,w',X,L',g',h1,h2,h3,h4,h5⟩:=vMakeSlice_ok hC hg (E x) (E y) h
  exact wpIn_val (by simp [ho]) (by simp only [execOp,ho]; rw [Sem.run_bind,h1]; rfl) (hnext _ _ _ _ _ h2 h3 h4 h5)
 ·rename_i t x i ok ho
  obtain ⟨rv,X,h1,h2,h3⟩:=vLookup_ok hC hg (E x) (E i) h
  exact pure1 (by simp [ho]) (by simp only [execOp,ho]; rw [Sem.run_bind,h1]; rfl) h2 h3
 ·rename_i t m x v ho
  obtain ⟨w',L',h1,h2,h3,h4⟩:=vMapUpdate_ok hC hg (E m) (E x) (E v) h
  exact wpIn_skip (by simp [ho]) (by simp [execOp,ho,h1]) (hnext undef _ _ _ _ h2 (.poison _) h3 h4)
 ·rename_i t m x v ho
  obtain ⟨w',L',h1,h2,h3,h4⟩:=vMapUpdate_ok hC hg (E m) (E x) (E v) h
  exact wpIn_skip (by simp [ho]) (by simp [execOp,ho,h1]) (hnext undef _ _ _ _ h2 (.poison _) h3 h4)
 ·rename_i t m x ho
  obtain ⟨rv,w',X,L',h1,h2,h3,h4,h5⟩:=vMapEntry_ok hC hg (E m) (E x) h
  exact wpIn_val (by simp [ho]) (by simp only [execOp,ho]; rw [Sem.run_bind,h1]; rfl) (hnext _ _ _ _ _ h2 h3 h4 h5)
 ·rename_i t m s v ho
  obtain ⟨w',L',h1,h2,h3,h4⟩:=vEntryStore_ok (C:=C) (t:=t) hg (E m) (E s) (E v) h
  exact wpIn_skip (by simp [ho]) (by simp [execOp,ho,h1]) (hnext undef _ _ _ _ h2 (.poison _) h3 h4)
 ·rename_i t x ho
  obtain ⟨rv,X,h1,h2,h3⟩:=vMakeIface_ok hC (E x) h
  exact pure1 (by simp [ho]) (by simp only [execOp,ho]; rw [Sem.run_bind,h1]; rfl) h2 h3
 ·rename_i x xt t ok ho
  obtain ⟨rv,X,h1,h2,h3⟩:=vTypeAssert_ok (xt:=xt) hC (E x) h
  exact pure1 (by simp [ho]) (by simp only [execOp,ho]; rw [Sem.run_bind,h1]; rfl) h2 h3
 ·rename_i t x i ho
  obtain ⟨rv,X,h1,h2,h3⟩:=vIndex_ok hC (E x) (E i) h
  exact pure1 (by simp [ho]) (by simp only [execOp,ho]; rw [Sem.run_bind,h1]; rfl) h2 h3
 ·rename_i c ho
  split at h
  ·rename_i f hc
   exact vCallV_ok (E f) (RVs.of hg.gl hfr c.args) hg h ho hc rfl rfl hnext hP
  ·rename_i hc
   split at h
   ·rename_i x t hxs hts
    obtain ⟨rv,X,h1,h2,h3⟩:=vLenL_ok (ty:=o.type) hC (E x) h
    have e1 : c.args = #[x]:=by apply Array.ext'; rw [hxs]
    have e2 : c.argTypes = #[t]:=by apply Array.ext'; rw [hts]
    exact pure1 (by simp [ho]) (by simp [execOp,ho,resolve,hc,e1,e2,invoke,builtin,h1]) h2 h3
   ·exact h.elim
  ·rename_i hc
   split at h
   ·rename_i s x t t' hxs hts
    cases htt : Nat.beq t t' with
    | false=>simp [htt] at h
    | true =>
    simp only [htt,cond_true] at h
    have:=Nat.eq_of_beq_eq_true htt
    subst this
    obtain ⟨rv,w',X,L',g',h1,h2,h3,h4,h5⟩:=vAppend_ok (ty:=o.type) hC hg (E s) (E x) h
    have e1 : c.args = #[s,x]:=by apply Array.ext'; rw [hxs]
    have e2 : c.argTypes = #[t,t]:=by apply Array.ext'; rw [hts]
    exact wpIn_val (by simp [ho]) (by simp [execOp,ho,resolve,hc,e1,e2,invoke,builtin,h1]) (hnext _ _ _ _ _ h2 h3 h4 h5)
   ·exact h.elim
  ·rename_i hc
   split at h
   ·rename_i s t hxs hts
    obtain ⟨w',L',h1,h2,h3,h4⟩:=vClear_ok (ty:=o.type) hC hg (E s) h
    have e1 : c.args = #[s]:=by apply Array.ext'; rw [hxs]
    have e2 : c.argTypes = #[t]:=by apply Array.ext'; rw [hts]
    exact wpIn_val (by simp [ho]) (by simp [execOp,ho,resolve,hc,e1,e2,invoke,builtin,h1]) (hnext _ _ _ _ _ h2 (.tup [] #[] rfl (fun j x v hx=>by simp at hx)) h3 h4)
   ·exact h.elim
  ·rename_i hc
   split at h
   ·rename_i x y hxs
    obtain ⟨rv,X,h1,h2,h3⟩:=vMin_ok (C:=C) (E x) (E y) c.argTypes o.type h
    have e1 : c.args = #[x,y]:=by apply Array.ext'; rw [hxs]
    exact pure1 (by simp [ho]) (by simp [execOp,ho,resolve,hc,e1,invoke,builtin,h1]) h2 h3
   ·exact h.elim
  ·rename_i hc
   split at h
   ·rename_i x y hxs
    obtain ⟨rv,X,h1,h2,h3⟩:=vMax_ok (C:=C) (E x) (E y) c.argTypes o.type h
    have e1 : c.args = #[x,y]:=by apply Array.ext'; rw [hxs]
    exact pure1 (by simp [ho]) (by simp [execOp,ho,resolve,hc,e1,invoke,builtin,h1]) h2 h3
   ·exact h.elim
  ·rename_i x name hc
   exact vInvoke_ok (E x) (RVs.of hg.gl hfr c.args) hg h ho hc rfl rfl hnext hP
  ·exact h.elim
 ·rename_i x ho
  obtain ⟨v,X,g',hv,hS⟩:=vPanic_ok hg (E x) h
  exact wpIn_panic (by simp [ho]) (by simp [execOp,ho,hv]) (hP v X _ g' w hS)
 ·exact h.elim
end
end Go.Tidy
namespace Go.Tidy
def forceV : List V → (List V → Prop) → Prop
 | [],K=>K []
 | x :: r,K=>V.force x fun x=>forceV r fun r=>K (x :: r)
theorem forceV_eq : ∀ (l : List V) (K : List V → Prop),forceV l K = K l
 | [],K=>rfl
 | x :: r,K=>by simp only [forceV,V.force_eq,forceV_eq r]
def forceP : List (Nat × V) → (List (Nat × V) → Prop) → Prop
 | [],K=>K []
 | p :: r,K=>V.force p.2 fun x=>forceP r fun r=>K ((p.1,x) :: r)
theorem forceP_eq : ∀ (l : List (Nat × V)) (K : List (Nat × V) → Prop),forceP l K = K l
 | [],K=>rfl
 | p :: r,K=>by simp only [forceP,V.force_eq,forceP_eq r]
def vOpF (C : Ctx) (o : Oper) (fr : List (Nat × V)) (L : List Blk) (k : V → List Blk → Prop) : Prop :=
 match o.op with
 | .box _ x=>V.force (ev fr x) fun x=>vBox x L k
 | .build t ps=>forceP (ps.toList.map fun p=>(p.1,ev fr p.2)) fun ps=>vBuild C t ps fun x=>k x L
 | .buildSlice t len ps=>forceP (ps.toList.map fun p=>(p.1,ev fr p.2)) fun ps=>vBuildSlice C t len ps L k
 | .store t a x=>V.head (ev fr a) fun a=>V.force (ev fr x) fun x=>vStore C t a x L fun L'=>k .poison L'
 | .makeFunc (.func f) first caps=>forceV (caps.toList.map (ev fr)) fun cs=>bif first.isEmpty then k (.fn f cs) L else False
 | .insert t m x v=>V.head (ev fr m) fun m=>V.force (ev fr x) fun x=>V.force (ev fr v) fun v=>vMapUpdate C t m x v L fun L'=>k .poison L'
 | .mapUpdate t m x v=>V.head (ev fr m) fun m=>V.force (ev fr x) fun x=>V.force (ev fr v) fun v=>vMapUpdate C t m x v L fun L'=>k .poison L'
 | .lookup t x i ok=>V.head (ev fr x) fun x=>V.force (ev fr i) fun i=>vLookup C t x i ok L fun x=>k x L
 | .call c=>match c.callee with
  | .value f=>V.force (ev fr f) fun f=>forceV (c.args.toList.map (ev fr)) fun args=>vCallV C f args L k
  | _=>vOp C o fr L k
 | _=>vOp C o fr L k
theorem vOpF_eq (C : Ctx) (o : Oper) (fr : List (Nat × V)) (L : List Blk) (k : V → List Blk → Prop) : vOpF C o fr L k = vOp C o fr L k:=by
 unfold vOpF
 split
 ·rename_i h; simp only [V.force_eq,vOp,h]
 ·rename_i h; simp only [forceP_eq,vOp,h]
 ·rename_i h; simp only [forceP_eq,vOp,h]
 ·rename_i h; simp only [V.force_eq,V.head_eq,vOp,h]
 ·rename_i h; simp only [forceV_eq,vOp,h]
 ·rename_i h; simp only [V.force_eq,V.head_eq,vOp,h]
 ·rename_i h; simp only [V.force_eq,V.head_eq,vOp,h]
 ·rename_i h; simp only [V.force_eq,V.head_eq,vOp,h]
 ·rename_i c h
  split
  ·rename_i f hc; simp only [V.force_eq,forceV_eq,vOp,h,hc]
  ·rfl
 ·rfl
def dstAt (all : List Oper) (j : Nat) : Option Nat:=match all[j]? with | some o=>o.dst | none=>none
def vPut (n : Nat) (dst : Option Tmp) (fr : List (Nat × V)) (v : V) (K : List (Nat × V) → Prop) : Prop :=
 match dst with
 | none=>K fr
 | some d=>bif Nat.blt d n then V.force v fun v=>K ((d,v) :: fr) else False
def vcOp1 (C : Ctx) (n : Nat) (all : List Oper) (o : Oper) (fr : List (Nat × V)) (L : List Blk) (K : List (Nat × V) → List Blk → Prop) : Prop :=
 match o.guard with
 | none=>vOpF C o fr L fun v L'=>vPut n o.dst fr v fun fr'=>K fr' L'
 | some (j,want) =>
  match dstAt all j with
  | none=>False
  | some d=>match look fr d with
   | .tt=>match want with
    | true=>vOpF C o fr L fun v L'=>vPut n o.dst fr v fun fr'=>K fr' L'
    | false=>vPut n o.dst fr (.tup []) fun fr'=>K fr' L
   | .ff=>match want with
    | false=>vOpF C o fr L fun v L'=>vPut n o.dst fr v fun fr'=>K fr' L'
    | true=>vPut n o.dst fr (.tup []) fun fr'=>K fr' L
   | .d (.bool t)=>Br t fun b=>match b,want with
    | true,true=>vOpF C o ((d,.tt) :: fr) L fun v L'=>vPut n o.dst ((d,.tt) :: fr) v fun fr'=>K fr' L'
    | false,false=>vOpF C o ((d,.ff) :: fr) L fun v L'=>vPut n o.dst ((d,.ff) :: fr) v fun fr'=>K fr' L'
    | true,false=>vPut n o.dst ((d,.tt) :: fr) (.tup []) fun fr'=>K fr' L
    | false,true=>vPut n o.dst ((d,.ff) :: fr) (.tup []) fun fr'=>K fr' L
   | .tup []=>vPut n o.dst fr (.tup []) fun fr'=>K fr' L
   | _=>False
def vcOps (C : Ctx) (n : Nat) (all : List Oper) : List Oper → List (Nat × V) → List Blk → (List (Nat × V) → List Blk → Prop) → Prop
 | [],fr,L,K=>K fr L
 | o :: rest,fr,L,K=>vcOp1 C n all o fr L fun fr' L'=>vcOps C n all rest fr' L' K
def VLe (x y : V) : Prop:=∀ (g : Gh) (w : World) (L : List Blk) (v : Value),RV g w L x v → RV g w L y v
def FrLe (fr fr' : List (Nat × V)) : Prop:=∀ i,VLe (look fr i) (look fr' i)
def vOpsC (C : Ctx) (n : Nat) (all : List Oper) : List Oper → List (Nat × V) → List Blk → (List (Nat × V) → List Blk → Prop) → Prop
 | [],fr,L,K=>∃ fr1,FrLe fr fr1 ∧ K fr1 L
 | o :: rest,fr,L,K=>∃ fr1,FrLe fr fr1 ∧ vcOp1 C n all o fr1 L fun fr' L'=>vOpsC C n all rest fr' L' K
theorem FrLe.refl (fr : List (Nat × V)) : FrLe fr fr:=fun _ _ _ _ _ h=>h
section
variable {C : Ctx} {g : Gh} {w : World} {L : List Blk} {r : Option Nat}
theorem frame_put {fr : List (Nat × V)} {a : Act} {n : Nat} (hn : a.tmps.size = n) (h : ∀ i,RV g w L (look fr i) (a.tmps.getD i undef)) {dst : Option Tmp} {x : V} {v : Value} (hx : RV g w L x v) {K : List (Nat × V) → Prop} (hp : vPut n dst fr x K) :
  ∃ fr',K fr' ∧ (a.put dst v).tmps.size = n ∧ (a.put dst v).defers = a.defers ∧ ∀ i,RV g w L (look fr' i) ((a.put dst v).tmps.getD i undef):=by
 unfold vPut at hp
 simp only [V.force_eq] at hp
 cases dst with
 | none=>exact ⟨fr,hp,hn,rfl,h⟩
 | some d =>
  simp only at hp
  cases hb : Nat.blt d n with
  | false=>simp [hb] at hp
  | true =>
   simp only [hb,cond_true] at hp
   have hd : d < n:=by simpa [Nat.blt_eq] using hb
   refine ⟨_,hp,by simp [Act.put,hn],rfl,fun i=>?_⟩
   rw [look_cons]
   simp only [Act.put]
   by_cases e : d = i
   ·subst e
    rw [if_pos rfl]
    simp [Array.getD,hn,hd]
    exact hx
   ·rw [if_neg e]
    have : (a.tmps.setIfInBounds d v).getD i undef = a.tmps.getD i undef:=by
     simp only [Array.getD_eq_getD_getElem?,Array.getElem?_setIfInBounds_ne e]
    rw [this]
    exact h i
theorem frame_set {fr : List (Nat × V)} {a : Act} (h : ∀ i,RV g w L (look fr i) (a.tmps.getD i undef)) {d : Nat} {x : V} (hx : RV g w L x (a.tmps.getD d undef)) : ∀ i,RV g w L (look ((d,x) :: fr) i) (a.tmps.getD i undef):=by
 intro i
 rw [look_cons]
 by_cases e : d = i
 ·subst e; rw [if_pos rfl]; exact hx
 ·rw [if_neg e]; exact h i
theorem frame_mono {g' : Gh} {w' : World} {L' : List Blk} {fr : List (Nat × V)} {a : Act} (h : ∀ i,RV g w L (look fr i) (a.tmps.getD i undef)) (hp : Prog L.length g w L g' w' L') : ∀ i,RV g' w' L' (look fr i) (a.tmps.getD i undef) :=
 fun i=>hp.mono _ _ (h i).bel (h i)
structure At (n : Nat) (g : Gh) (fr : List (Nat × V)) (L : List Blk) (a : Act) (w : World) : Prop where
 n : a.tmps.size = n
 fr : ∀ i,RV g w L (look fr i) (a.tmps.getD i undef)
 good : Good g w L
theorem vcOp1_ok (hC : C.OK) {n : Nat} {ops : Array Oper} {Q : Exit → Act → World → Prop} (i : Nat) (l : List Nat) (fr : List (Nat × V)) (g : Gh) (a : Act) (w : World) (o : Oper) (ho : ops[i]? = some o)
  (K : List (Nat × V) → List Blk → Prop) (h : vcOp1 C n ops.toList o fr L K) (hat : At n g fr L a w)
  (hQ : ∀ fr' L' g' a' w',K fr' L' → At n g' fr' L' a' w' → a'.defers = a.defers → Prog L.length g w L g' w' L' → wpOpsIn (Fx r) 0 C.P ops Q l a' w') (hP : ∀ v X L2 g2 a2 w2,a2.defers = a.defers → PanS C L.length g w L v X L2 g2 w2 → Q (.panic [{ v,recovered:=false }]) a2 w2) : wpOpsIn (Fx r) 0 C.P ops Q (i :: l) a w:=by
 simp only [wpOpsIn,ho]
 simp only [vcOp1,vOpF_eq] at h
 have step : ∀ (fr : List (Nat × V)),At n g fr L a w → (vOp C o fr L fun v L'=>vPut n o.dst fr v fun fr'=>K fr' L') → Oper.wpIn (Fx r) 0 C.P o a w (wpOpsIn (Fx r) 0 C.P ops Q l) Q:=by
  intro fr hat h
  refine vOp_ok hC hat.fr hat.good h ?_ (fun v X L2 g2 w2 hS=>hP v X L2 g2 a w2 rfl hS)
  intro v X L' g' w' hk hv hg hp
  obtain ⟨fr',hk',hn',hd',hfr'⟩:=frame_put hat.n (frame_mono hat.fr hp) hv hk
  exact hQ fr' L' g' _ w' hk' ⟨hn',hfr',hg⟩ hd' hp
 cases hgd : o.guard with
 | none =>
  simp only [hgd] at h
  have hw : Region.wanted o (yielded ops a.tmps) = true:=by simp [Region.wanted,hgd]
  rw [if_pos hw]
  exact step fr hat h
 | some jw =>
  obtain ⟨j,want⟩:=jw
  simp only [hgd] at h
  cases hd : dstAt ops.toList j with
  | none=>simp [hd] at h
  | some d =>
  simp only [hd] at h
  have hyv : ∀ t,a.tmps.getD d undef = .bool t → yielded ops a.tmps j = some t:=by
   intro t hval
   unfold dstAt at hd
   unfold yielded
   cases e : ops[j]? with
   | none=>rw [show ops.toList[j]? = none by simpa using e] at hd; simp at hd
   | some oj =>
    rw [show ops.toList[j]? = some oj by simpa using e] at hd
    simp only at hd
    simp only [Option.bind_some,hd]
    have : a.tmps[d]? = some (.bool t):=by
     rw [Array.getD_eq_getD_getElem?] at hval
     cases e2 : a.tmps[d]? with
     | none=>rw [e2] at hval; simp [undef] at hval
     | some u=>rw [e2] at hval; simp at hval; rw [hval]
    rw [this]
  have wants : ∀ t,a.tmps.getD d undef = .bool t → Region.wanted o (yielded ops a.tmps) = (t == want):=fun t ht=>by
   simp [Region.wanted,hgd,hyv t ht]
  have skip : ∀ (fr : List (Nat × V)),At n g fr L a w → (vPut n o.dst fr (.tup []) fun fr'=>K fr' L) →
    (∀ f,o.about C.P w a.eval = some f → Fence.wide.fn f) ∧ wpOpsIn (Fx r) 0 C.P ops Q l (a.put o.dst undef) w:=by
   intro fr hat h
   refine ⟨fun f _=>trivial,?_⟩
   obtain ⟨fr',hk',hn',hd',hfr'⟩:=frame_put hat.n hat.fr (.tup [] #[] rfl (fun j x v hx=>by simp at hx)) h
   exact hQ fr' L g _ w hk' ⟨hn',hfr',hat.good⟩ hd' (Prog.refl _ _ _ _)
  have hv:=hat.fr d
  have yes : Region.wanted o (yielded ops a.tmps) = true → ∀ (fr : List (Nat × V)),At n g fr L a w → (vOp C o fr L fun v L'=>vPut n o.dst fr v fun fr'=>K fr' L') → _ :=
   fun hw fr hat h=>(by rw [if_pos hw]; exact step fr hat h : (if Region.wanted o (yielded ops a.tmps) = true then Oper.wpIn (Fx r) 0 C.P o a w (wpOpsIn (Fx r) 0 C.P ops Q l) Q else (∀ (f : FuncId),Oper.about C.P w a.eval o = some f → Fence.wide.fn f) ∧ wpOpsIn (Fx r) 0 C.P ops Q l (a.put o.dst undef) w))
  have no : Region.wanted o (yielded ops a.tmps) = false → ∀ (fr : List (Nat × V)),At n g fr L a w → (vPut n o.dst fr (.tup []) fun fr'=>K fr' L) → _ :=
   fun hw fr hat h=>(by rw [if_neg (by rw [hw]; simp)]; exact skip fr hat h : (if Region.wanted o (yielded ops a.tmps) = true then Oper.wpIn (Fx r) 0 C.P o a w (wpOpsIn (Fx r) 0 C.P ops Q l) Q else (∀ (f : FuncId),Oper.about C.P w a.eval o = some f → Fence.wide.fn f) ∧ wpOpsIn (Fx r) 0 C.P ops Q l (a.put o.dst undef) w))
  split at h
  ·rename_i hl
   rw [hl] at hv
   have hw:=wants true (by generalize a.tmps.getD d undef = v at hv; cases hv; rfl)
   cases want with
   | true=>exact yes (by rw [hw]; rfl) fr hat h
   | false=>exact no (by rw [hw]; rfl) fr hat h
  ·rename_i hl
   rw [hl] at hv
   have hw:=wants false (by generalize a.tmps.getD d undef = v at hv; cases hv; rfl)
   cases want with
   | true=>exact no (by rw [hw]; rfl) fr hat h
   | false=>exact yes (by rw [hw]; rfl) fr hat h
  ·rename_i t hl
   rw [hl] at hv
   have hval:=hv.bool_of
   have hw:=wants t hval
   have h:=h.out
   cases t with
   | true =>
    have hat' : At n g ((d,.tt) :: fr) L a w:=⟨hat.n,frame_set hat.fr (by rw [hval]; exact .tt),hat.good⟩
    cases want with
    | true=>exact yes (by rw [hw]; rfl) _ hat' h
    | false=>exact no (by rw [hw]; rfl) _ hat' h
   | false =>
    have hat' : At n g ((d,.ff) :: fr) L a w:=⟨hat.n,frame_set hat.fr (by rw [hval]; exact .ff),hat.good⟩
    cases want with
    | true=>exact no (by rw [hw]; rfl) _ hat' h
    | false=>exact yes (by rw [hw]; rfl) _ hat' h
  ·rename_i hl
   rw [hl] at hv
   have hval : ∀ t,a.tmps.getD d undef ≠ .bool t:=fun t e=>by rw [e] at hv; cases hv
   have hy0 : yielded ops a.tmps j = none:=by
    unfold dstAt at hd
    unfold yielded
    cases e : ops[j]? with
    | none=>rfl
    | some oj =>
     rw [show ops.toList[j]? = some oj by simpa using e] at hd
     simp only at hd
     simp only [Option.bind_some,hd]
     split
     ·rename_i b e2
      exact absurd (by rw [Array.getD_eq_getD_getElem?,e2]; rfl) (hval b)
     ·rfl
   exact no (by simp [Region.wanted,hgd,hy0]) fr hat h
  ·exact h.elim
theorem vcOps_ok (hC : C.OK) {n : Nat} {ops : Array Oper} {Q : Exit → Act → World → Prop} : ∀ (l : List Nat) (fr : List (Nat × V)) (L : List Blk) (g : Gh) (a : Act) (w : World) (K : List (Nat × V) → List Blk → Prop),
  vcOps C n ops.toList (l.filterMap fun i=>ops[i]?) fr L K → At n g fr L a w → C.pn ≤ L.length →
  (∀ fr' L' g' a' w',K fr' L' → At n g' fr' L' a' w' → a'.defers = a.defers → Prog L.length g w L g' w' L' → Q .normal a' w') → (∀ v X L2 g2 a2 w2,a2.defers = a.defers → PanS C L.length g w L v X L2 g2 w2 → Q (.panic [{ v,recovered:=false }]) a2 w2) → wpOpsIn (Fx r) 0 C.P ops Q l a w
 | [],fr,L,g,a,w,K,h,hat,hpn,hQ,hP=>hQ fr L g a w (by simpa [vcOps] using h) hat rfl (Prog.refl _ _ _ _)
 | i :: l,fr,L,g,a,w,K,h,hat,hpn,hQ,hP=>by
  cases ho : ops[i]? with
  | none =>
   simp only [List.filterMap_cons,ho] at h
   simp only [wpOpsIn,ho]
   exact vcOps_ok hC l fr L g a w K h hat hpn hQ hP
  | some o =>
   simp only [List.filterMap_cons,ho] at h
   refine vcOp1_ok hC i l fr g a w o ho _ h hat ?_ hP
   intro fr' L' g' a' w' hk hat' hd' hp
   refine vcOps_ok hC l fr' L' g' a' w' K hk hat' (Nat.le_trans hpn (hp.len (Nat.le_refl _))) ?_ (fun v X L2 g2 a2 w2 hd2 hS=>hP v X L2 g2 a2 w2 (hd2.trans hd') ((hS.less (hp.len (Nat.le_refl _)) hpn).later (Nat.le_refl _) hp))
   intro fr2 L2 g2 a2 w2 hK2 hat2 hd2 hp2
   exact hQ fr2 L2 g2 a2 w2 hK2 hat2 (hd2.trans hd') (hp.trans (hp2.le (hp.len (Nat.le_refl _)) (Nat.le_refl _)))
theorem vOpsC_ok (hC : C.OK) {n : Nat} {ops : Array Oper} {Q : Exit → Act → World → Prop} : ∀ (l : List Nat) (fr : List (Nat × V)) (L : List Blk) (g : Gh) (a : Act) (w : World) (K : List (Nat × V) → List Blk → Prop),
  vOpsC C n ops.toList (l.filterMap fun i=>ops[i]?) fr L K → At n g fr L a w → C.pn ≤ L.length →
  (∀ fr' L' g' a' w',K fr' L' → At n g' fr' L' a' w' → a'.defers = a.defers → Prog L.length g w L g' w' L' → Q .normal a' w') → (∀ v X L2 g2 a2 w2,a2.defers = a.defers → PanS C L.length g w L v X L2 g2 w2 → Q (.panic [{ v,recovered:=false }]) a2 w2) → wpOpsIn (Fx r) 0 C.P ops Q l a w
 | [],fr,L,g,a,w,K,h,hat,hpn,hQ,hP=>by
  obtain ⟨fr1,hle,hk⟩:=h
  exact hQ fr1 L g a w hk ⟨hat.n,fun i=>hle i _ _ _ _ (hat.fr i),hat.good⟩ rfl (Prog.refl _ _ _ _)
 | i :: l,fr,L,g,a,w,K,h,hat,hpn,hQ,hP=>by
  cases ho : ops[i]? with
  | none =>
   simp only [List.filterMap_cons,ho] at h
   simp only [wpOpsIn,ho]
   exact vOpsC_ok hC l fr L g a w K h hat hpn hQ hP
  | some o =>
   simp only [List.filterMap_cons,ho] at h
   obtain ⟨fr1,hle,h⟩:=h
   refine vcOp1_ok hC i l fr1 g a w o ho _ h ⟨hat.n,fun i=>hle i _ _ _ _ (hat.fr i),hat.good⟩ ?_ hP
   intro fr' L' g' a' w' hk hat' hd' hp
   refine vOpsC_ok hC l fr' L' g' a' w' K hk hat' (Nat.le_trans hpn (hp.len (Nat.le_refl _))) ?_ (fun v X L2 g2 a2 w2 hd2 hS=>hP v X L2 g2 a2 w2 (hd2.trans hd') ((hS.less (hp.len (Nat.le_refl _)) hpn).later (Nat.le_refl _) hp))
   intro fr2 L2 g2 a2 w2 hK2 hat2 hd2 hp2
   exact hQ fr2 L2 g2 a2 w2 hK2 hat2 (hd2.trans hd') (hp.trans (hp2.le (hp.len (Nat.le_refl _)) (Nat.le_refl _)))
theorem fm_congr {α β : Type} {f f' : α → Option β} : ∀ {l : List α},(∀ x ∈ l,f x = f' x) → l.filterMap f = l.filterMap f'
 | [],_=>rfl
 | a :: l,h=>by
  simp only [List.filterMap_cons,h a (by simp)]
  rw [fm_congr (l:=l) fun x hx=>h x (by simp [hx])]
theorem range_ops (ops : Array Oper) : ((List.range ops.size).filterMap fun i=>ops[i]?) = ops.toList:=by
 apply List.ext_getElem?
 intro i
 have : ((List.range ops.size).filterMap fun i=>ops[i]?) = (List.range ops.size).map fun i=>ops[i]?.getD default:=by
  rw [← List.filterMap_eq_map]
  apply fm_congr
  intro x hx
  have hx' : x < ops.size:=by simpa using hx
  simp [Array.getElem?_eq_getElem hx']
 rw [this,List.getElem?_map]
 rcases Nat.lt_or_ge i ops.size with h | h
 ·rw [List.getElem?_range h]; simp [Array.getElem?_eq_getElem h]
 ·rw [List.getElem?_eq_none (by simpa using h),List.getElem?_eq_none (by simpa using h)]; rfl
@[irreducible] def DrawP (C : Ctx) (n : Nat) (ops : Array Oper) (fr : List (Nat × V)) (L : List Blk) (K : List (Nat × V) → List Blk → Prop) : Prop :=
 ∀ t,vOpsC C n ops.toList ((Region.schedule (C.P.follows .mixedOrders) ops t).filterMap fun i=>ops[i]?) fr L K
def Weak (k : Nat) (σ σ' : TS) : Prop:=∀ (r : Option Nat) (g : Gh) (a : Act) (w : World),St k r g σ a w → ∃ g',St k r g' σ' a w ∧ Prog k g w σ.L g' w σ'.L
@[irreducible] def LoopP (k : Nat) (body : TS → (Exit → TS → Prop) → Prop) (σ : TS) (Q : Exit → TS → Prop) : Prop :=
 ∃ (ι : Type) (s : ι → TS) (lt : ι → ι → Prop) (i0 : ι),WellFounded lt ∧ Weak k σ (s i0) ∧ ∀ i,body (s i) fun e σ'=>match e with
  | .normal=>∃ j,lt j i ∧ Weak k σ' (s j)
  | e=>Q e σ'
theorem LoopP.intro {k : Nat} {body : TS → (Exit → TS → Prop) → Prop} {σ : TS} {Q : Exit → TS → Prop} {ι : Type} (s : ι → TS) (μ : ι → Nat) (i0 : ι) (h0 : Weak k σ (s i0))
  (h : ∀ i,body (s i) fun e σ'=>match e with
   | .normal=>∃ j,μ j < μ i ∧ Weak k σ' (s j)
   | e=>Q e σ') : LoopP k body σ Q:=by unfold LoopP; exact ⟨ι,s,fun j i=>μ j < μ i,i0,(measure μ).wf,h0,h⟩
def pendExit : Code → Option Exit
 | .ret=>some .ret
 | .exit id=>some (.exit id)
 | _=>none
def vRange (C : Ctx) (f : Operand) (ps : Array Tmp) (assign body : Code) (σ : TS) (Q : Exit → TS → Prop) : Prop :=
 match σ.ro with
 | none =>
  vCallF C (ev σ.fr f) [.yld (σ.L.length + 1)] (σ.L ++ [.defr,.loop ⟨.ready,none,σ.fr,σ.n,ps.toList,assign,body,σ.L.length⟩]) fun _ L' =>
   match L'[σ.L.length + 1]?,L'[σ.L.length]? with
   | some (.loop l),some .defr=>match l.st,l.pend with
    | .busy,_=>False
    | _,none=>Q .normal { σ with L:=L'.set (σ.L.length + 1) .dead,df:=σ.L.length :: σ.df }
    | _,some c=>match pendExit c with | some e=>Q e { σ with L:=L'.set (σ.L.length + 1) .dead,df:=σ.L.length :: σ.df } | none=>False
   | _,_=>False
 | some lb=>match σ.L[lb]? with
  | some (.loop r0) =>
   vCallF C (ev σ.fr f) [.yld σ.L.length] (σ.L ++ [.loop ⟨.ready,none,σ.fr,σ.n,ps.toList,assign,body,r0.df⟩]) fun _ L' =>
    match L'[σ.L.length]? with
    | some (.loop l)=>match l.st,l.pend with
     | .busy,_=>False
     | _,none=>Q .normal { σ with L:=L'.set σ.L.length .dead }
     | _,some c=>match pendExit c with | some e=>Q e { σ with L:=L'.set σ.L.length .dead } | none=>False
    | _=>False
  | _=>False
@[irreducible] def CutP (k : Nat) (f : (Exit → TS → Prop) → Prop) (Q : Exit → TS → Prop) : Prop :=
 ∃ (ι : Type) (s : ι → TS),f (fun e σ'=>match e with | .normal=>∃ i,Weak k σ' (s i) | e=>Q e σ') ∧ ∀ i,Q .normal (s i)
theorem CutP.intro {k : Nat} {f : (Exit → TS → Prop) → Prop} {Q : Exit → TS → Prop} {ι : Type} (s : ι → TS) (h : f (fun e σ'=>match e with | .normal=>∃ i,Weak k σ' (s i) | e=>Q e σ')) (hq : ∀ i,Q .normal (s i)) : CutP k f Q:=by
 unfold CutP; exact ⟨ι,s,h,hq⟩
def cutIf (b : Bool) (k : Nat) (f : (Exit → TS → Prop) → Prop) (Q : Exit → TS → Prop) : Prop :=
 match b with
 | false=>f Q
 | true=>CutP k f Q
def vc (C : Ctx) (cut : Code → Bool) (k : Nat) : Code → TS → (Exit → TS → Prop) → Prop
 | .skip,σ,Q=>Q .normal σ
 | .label _,σ,Q=>Q .normal σ
 | .region id ops false,σ,Q=>cutIf (cut (.region id ops false)) k (fun Q=>vcOps C σ.n ops.toList ops.toList σ.fr σ.L fun fr L=>Q .normal { σ with fr:=fr,L:=L }) Q
 | .region id ops true,σ,Q=>cutIf (cut (.region id ops true)) k (fun Q=>DrawP C σ.n ops σ.fr σ.L fun fr L=>Q .normal { σ with fr:=fr,L:=L }) Q
 | .seq a b,σ,Q=>cutIf (cut (.seq a b)) k (fun Q=>vc C cut k a σ fun e σ'=>match e with | .normal=>vc C cut k b σ' Q | e=>Q e σ') Q
 | .cond c x y,σ,Q=>cutIf (cut (.cond c x y)) k (fun Q=>match evB σ.fr c with
  | .tt=>vc C cut k x σ Q
  | .ff=>vc C cut k y σ Q
  | .d (.bool t)=>Br t fun b=>match b with | true=>vc C cut k x σ Q | false=>vc C cut k y σ Q
  | _=>False) Q
 | .block id c,σ,Q=>cutIf (cut (.block id c)) k (fun Q=>vc C cut k c σ fun e σ'=>match e with | .exit id'=>(match Nat.beq id' id with | true=>Q .normal σ' | false=>Q (.exit id') σ') | e=>Q e σ') Q
 | .loop c,σ,Q=>LoopP k (vc C cut k c) σ Q
 | .rangeFunc f ps assign body,σ,Q=>vRange C f ps assign body σ Q
 | .exit id,σ,Q=>Q (.exit id) σ
 | .scope c,σ,Q=>cutIf (cut (.scope c)) k (fun Q=>vc C cut k c σ fun e σ'=>match e with | .goto _=>False | e=>Q e σ') Q
 | .ret,σ,Q=>Q .ret σ
 | _,_,_=>False
def IdleD (a : Act) (g : Gh) (w : World) (L : List Blk) : Prop:=∀ d ∈ a.defers,∃ q,d = { target:=.collected q,args:=#[] } ∧ w.heap[q]? = some (.deferred (some [])) ∧ ¬ g.I q ∧ ¬ owned g L q
def NewD (a : Act) (w : World) (a' : Act) : Prop:=(∀ d ∈ a'.defers,d ∈ a.defers ∨ ∃ q,d = { target:=.collected q,args:=#[] } ∧ w.heap.size ≤ q) ∧ (a.defers.Nodup → a'.defers.Nodup)
theorem NewD.same {a a' : Act} {w : World} (h : a'.defers = a.defers) : NewD a w a':=⟨fun _ hd=>.inl (h ▸ hd),fun hn=>h ▸ hn⟩
theorem NewD.trans {a a1 a2 : Act} {w w1 : World} (hs : w.heap.size ≤ w1.heap.size) (h : NewD a w a1) (h' : NewD a1 w1 a2) : NewD a w a2:=by
 refine ⟨fun d hd=>?_,fun hn=>h'.2 (h.2 hn)⟩
 rcases h'.1 d hd with h1 | ⟨q,h1,h2⟩
 ·exact h.1 d h1
 ·exact .inr ⟨q,h1,Nat.le_trans hs h2⟩
def PostP (C : Ctx) (k : Nat) (g : Gh) (w : World) (L : List Blk) (e : Exit) (a' : Act) (w' : World) : Prop :=
 ∃ v X L' g',e = .panic [{ v,recovered:=false }] ∧ PanS C k g w L v X L' g' w' ∧ IdleD a' g' w' L'
def Post (C : Ctx) (k : Nat) (r : Option Nat) (Q : Exit → TS → Prop) (g : Gh) (w : World) (L : List Blk) (a : Act) (e : Exit) (a' : Act) (w' : World) : Prop :=
 ((∃ σ' g',Q e σ' ∧ St k r g' σ' a' w' ∧ Prog k g w L g' w' σ'.L) ∨ PostP C k g w L e a' w') ∧ NewD a w a' ∧ w.heap.size ≤ w'.heap.size
theorem Post.later {k : Nat} {Q : Exit → TS → Prop} {g g1 : Gh} {w w1 : World} {L L1 : List Blk} {a a1 : Act} (hk : k ≤ L.length) (hp : Prog k g w L g1 w1 L1) (hn : NewD a w a1) {e : Exit} {a' : Act} {w' : World} (h : Post C k r Q g1 w1 L1 a1 e a' w') : Post C k r Q g w L a e a' w':=by
 obtain ⟨h,hn',hs⟩:=h
 refine ⟨?_,hn.trans hp.size hn',Nat.le_trans hp.size hs⟩
 rcases h with ⟨σ',g',hq,hs,hp'⟩ | ⟨v,X,L',g',he,hS,hi⟩
 ·exact .inl ⟨σ',g',hq,hs,hp.trans hp'⟩
 ·exact .inr ⟨v,X,L',g',he,hS.later hk hp,hi⟩
theorem Post.of {k : Nat} {Q : Exit → TS → Prop} {g g' : Gh} {w w' : World} {L : List Blk} {a a' : Act} {e : Exit} {σ' : TS} (hd : a'.defers = a.defers) (hq : Q e σ') (hs : St k r g' σ' a' w') (hp : Prog k g w L g' w' σ'.L) : Post C k r Q g w L a e a' w' :=
 ⟨.inl ⟨σ',g',hq,hs,hp⟩,.same hd,hp.size⟩
theorem St.pan {k : Nat} {σ : TS} {a a' : Act} {Q : Exit → TS → Prop} (h : St k r g σ a w) (hn : C.pn ≤ k) (hd : a'.defers = a.defers) {v : Value} {X : V} {L' : List Blk} {g' : Gh} {w' : World} (hS : PanS C σ.L.length g w σ.L v X L' g' w') :
  Post C k r Q g w σ.L a (.panic [{ v,recovered:=false }]) a' w':=by
 refine ⟨.inr ⟨v,X,L',g',rfl,hS.less h.k hn,fun d hd'=>?_⟩,.same hd,hS.prog.size⟩
 rw [hd] at hd'
 obtain ⟨i,hi,hid⟩:=List.getElem_of_mem hd'
 have hid : a.defers[i]? = some d:=by rw [List.getElem?_eq_getElem hi,hid]
 have hb : ∃ b,σ.df[i]? = some b:=⟨_,List.getElem?_eq_getElem (by rw [← h.df]; exact hi)⟩
 obtain ⟨b,hb⟩:=hb
 obtain ⟨q,h1,h2,h3⟩:=h.dfs i b d hb hid
 exact ⟨q,h2,hS.df b q (lt_of_get h3) h3 h1⟩
theorem St.at {k : Nat} {σ : TS} {a : Act} (h : St k r g σ a w) : At σ.n g σ.fr σ.L a w:=⟨h.n,h.fr,h.good⟩
theorem St.of_at {k : Nat} {σ : TS} {a : Act} (h : St k r g σ a w) {fr' : List (Nat × V)} {L' : List Blk} {g' : Gh} {a' : Act} {w' : World} (hat : At σ.n g' fr' L' a' w') (hd : a'.defers = a.defers) (hp : Prog σ.L.length g w σ.L g' w' L') :
  St k r g' { σ with fr:=fr',L:=L' } a' w':=by
 refine ⟨hat.n,hat.fr,hat.good,Nat.le_trans h.k (hp.len (Nat.le_refl _)),by rw [hd]; exact h.df,fun i b d hb hdi=>?_,fun lb hlb=>?_,h.ro'⟩
 ·rw [hd] at hdi
  obtain ⟨q,h1,h2,h3⟩:=h.dfs i b d hb hdi
  obtain ⟨h4,h5⟩:=hp.defr b q (lt_of_get h3) h3 h1
  exact ⟨q,h5,h2,h4⟩
 ·obtain ⟨l,h1,h2⟩:=h.ro lb hlb
  exact ⟨l,h1,hp.mono _ _ h2.bel h2⟩
end
end Go.Tidy
/-
 The base layer: code in a frame whose function the program has.
-/
namespace Go.Tidy
theorem fenced_Fx {r : Option Nat} (P : Program) (m : Machine) : m.fenced P (Fx r):=by
 intro g _
 refine ⟨fun h=>?_,Or.inl trivial,fun _ _=>trivial,fun _ h=>?_⟩
 ·simp [Fence.wide] at h
 ·simp [Fence.wide] at h
theorem room_Fx {r : Option Nat} (n : Nat) : (Fx r).room n:=fun _ h=>by simp [Fence.wide] at h
def wpV (r : Option Nat) (P : Program) (c : Code) (Q : Exit → Act → World → Prop) (a : Act) (w : World) : Prop :=
 ∀ (b : Frame) (k : List Item) (cs : List Frame),b.roundOf = r → (∃ fn,P.funcs[b.fn]? = some fn) →
  ∃ e a' w',Q e a' w' ∧ ArrivesIn (Machine.fenced P (Fx r)) P (lone (b.atR a (.code c :: k)) cs w) b k cs e a' w'
section
variable {r : Option Nat} {P : Program} {Q : Exit → Act → World → Prop} {a : Act} {w : World}
theorem wpV.of {c : Code} (h : c.wpIn (Fx r) 0 P Q a w) : wpV r P c Q a w:=fun b k cs hro _=>h b k cs hro trivial (room_Fx _)
theorem wpV_mono {c : Code} {Q' : Exit → Act → World → Prop} (h : wpV r P c Q a w) (hq : ∀ e a w,Q e a w → Q' e a w) : wpV r P c Q' a w :=
 fun b k cs hro hb=>(h b k cs hro hb).elim fun e h=>h.elim fun a' h=>h.elim fun w' h=>⟨e,a',w',hq _ _ _ h.1,h.2⟩
theorem wpV_seq {x y : Code} (h : wpV r P x (Exit.then (wpV r P y Q) Q) a w) : wpV r P (.seq x y) Q a w:=by
 intro b k cs hro hb
 obtain ⟨e,a1,w1,hq,hs⟩:=h b (.code y :: k) cs hro hb
 have s0:=StepsIn.one (fenced_Fx (r:=r) P _) (stepR_seq (P:=P) (b:=b) (a:=a) (k:=k) (cs:=cs) (w:=w) (x:=x) (y:=y))
 by_cases he : e = .normal
 ·subst he
  obtain ⟨e2,a2,w2,hq2,hs2⟩:=hq b k cs hro hb
  exact ⟨e2,a2,w2,hq2,.of_steps (s0.trans hs) hs2⟩
 ·refine ⟨e,a1,w1,?_,.of_steps s0 (.pass (x:=.code y) rfl (fun _ _=>.inl he) hs)⟩
  cases e <;> first | exact hq | exact absurd rfl he
theorem wpV_cond {c : Operand} {x y : Code} {t : Bool} (hc : a.eval c = .bool t) (h : wpV r P (if t then x else y) Q a w) : wpV r P (.cond c x y) Q a w:=fun b k cs hro hb=>by
 obtain ⟨e,a',w',hq,hs⟩:=h b k cs hro hb
 exact ⟨e,a',w',hq,.of_steps (.one (fenced_Fx P _) (stepR_cond hc)) hs⟩
theorem wpV_block {id : Nat} {c : Code} (h : wpV r P c (Exit.inBlock id Q) a w) : wpV r P (.block id c) Q a w:=by
 intro b k cs hro hb
 obtain ⟨e,a1,w1,hq,hs⟩:=h b (.inBlock id :: k) cs hro hb
 have s0:=StepsIn.one (fenced_Fx (r:=r) P _) (stepR_block (P:=P) (b:=b) (a:=a) (k:=k) (cs:=cs) (w:=w) (id:=id) (c:=c))
 cases e with
 | normal=>exact ⟨.normal,a1,w1,hq,s0.trans (StepsIn.trans hs (.one (fenced_Fx P _) stepR_inBlock))⟩
 | exit id' =>
  by_cases hid : id' = id
  ·subst hid
   simp only [Exit.inBlock,if_true] at hq
   exact ⟨.normal,a1,w1,hq,s0.trans (hs.1 k (by simp [exitTo]))⟩
  ·simp only [Exit.inBlock,hid,if_false] at hq
   have hx : exitTo id' (.inBlock id :: k) = exitTo id' k:=by
    have : (id == id') = false:=by simpa using fun h=>hid h.symm
    simp [exitTo,this]
   refine ⟨.exit id',a1,w1,hq,⟨fun k' hk=>s0.trans (hs.1 k' (hx.trans hk)),fun hr hk=>?_⟩⟩
   obtain ⟨k1,h1,h2⟩:=hs.2 hr (hx.trans hk)
   exact ⟨k1,h1,s0.trans h2⟩
 | goto l =>
  have hx : gotoIn l (.inBlock id :: k) = gotoIn l k:=by simp [gotoIn]
  refine ⟨.goto l,a1,w1,hq,⟨fun k' hk=>s0.trans (hs.1 k' (hx.trans hk)),fun hr hk=>?_⟩⟩
  obtain ⟨k1,h1,h2⟩:=hs.2 hr (hx.trans hk)
  exact ⟨k1,h1,s0.trans h2⟩
 | ret=>exact ⟨_,a1,w1,hq,.of_steps s0 hs⟩
 | panic ch=>exact ⟨_,a1,w1,hq,.of_steps s0 hs⟩
 | outgrown=>exact ⟨_,a1,w1,hq,.of_steps s0 hs⟩
theorem wpV_loopG {r : Option Nat} {P : Program} {Q : Exit → Act → World → Prop} {c : Code} {ι : Type} (I : ι → Act → World → Prop) (lt : ι → ι → Prop) (wf : WellFounded lt) {i0 : ι} {a : Act} {w : World} (h₀ : I i0 a w)
  (round : ∀ i a w,I i a w → wpV r P c (Exit.then (fun a' w'=>∃ j,lt j i ∧ I j a' w') Q) a w) : wpV r P (Code.loop c) Q a w:=by
 intro b k cs hro hb
 have key : ∀ i a w,I i a w →
   ∃ e a' w',Q e a' w' ∧ ArrivesIn (Machine.fenced P (Fx r)) P (lone (b.atR a (.code c :: .inLoop c :: k)) cs w) b k cs e a' w':=by
  intro i
  induction i using wf.induction with
  | _ i ih =>
   intro a w hI
   obtain ⟨e,a₁,w₁,hq,harr⟩:=round i a w hI b (.inLoop c :: k) cs hro hb
   cases e with
   | normal =>
    obtain ⟨j,hlt,hI₁⟩:=hq
    obtain ⟨e₂,a₂,w₂,hq₂,harr₂⟩:=ih j hlt a₁ w₁ hI₁
    exact ⟨e₂,a₂,w₂,hq₂,.of_steps (StepsIn.trans harr (.one (fenced_Fx P _) stepR_inLoop)) harr₂⟩
   | exit id=>exact ⟨_,a₁,w₁,hq,.pass (x:=.inLoop c) rfl (fun _ _=>.inl (by simp)) harr⟩
   | goto l=>exact ⟨_,a₁,w₁,hq,.pass (x:=.inLoop c) rfl (fun _ _=>.inl (by simp)) harr⟩
   | ret=>exact ⟨_,a₁,w₁,hq,.pass (x:=.inLoop c) rfl (fun _ _=>.inl (by simp)) harr⟩
   | panic ch=>exact ⟨_,a₁,w₁,hq,.pass (x:=.inLoop c) rfl (fun _ _=>.inl (by simp)) harr⟩
   | outgrown=>exact ⟨_,a₁,w₁,hq,.pass (x:=.inLoop c) rfl (fun _ _=>.inl (by simp)) harr⟩
 obtain ⟨e,a',w',hq,harr⟩:=key i0 a w h₀
 exact ⟨e,a',w',hq,.of_steps (.one (fenced_Fx P _) stepR_loop) harr⟩
theorem stepR_scope {P : Program} {b : Frame} {a : Act} {k : List Item} {cs : List Frame} {w : World} {c : Code} : step P (lone (b.atR a (.code (.scope c) :: k)) cs w) = .next (lone (b.atR a (.code c :: .inScope c :: k)) cs w) :=
 step_lone_go (by simp [stepG,stepG.exec,Frame.atR])
theorem stepR_inScope {P : Program} {b : Frame} {a : Act} {k : List Item} {cs : List Frame} {w : World} {c : Code} : step P (lone (b.atR a (.inScope c :: k)) cs w) = .next (lone (b.atR a k) cs w) :=
 step_lone_go (by simp [stepG,stepG.exec,Frame.atR])
theorem wpV_scopeG {r : Option Nat} {P : Program} {Q : Exit → Act → World → Prop} {c : Code} {a : Act} {w : World} (h : wpV r P c (fun e a w=>match e with | .goto _=>False | e=>Q e a w) a w) : wpV r P (Code.scope c) Q a w:=by
 intro b k cs hro hb
 have h0 : (lone (b.atR a (.code (.scope c) :: k)) cs w).fenced P (Fx r):=fenced_Fx P _
 obtain ⟨e,a₁,w₁,hq,harr⟩:=h b (.inScope c :: k) cs hro hb
 cases e with
 | normal=>exact ⟨.normal,a₁,w₁,hq,.head h0 stepR_scope (StepsIn.trans harr (.one (fenced_Fx P _) stepR_inScope))⟩
 | exit id =>
  have hx : exitTo id (.inScope c :: k) = exitTo id k:=by simp [exitTo]
  exact ⟨_,a₁,w₁,hq,fun k' hk=>.head h0 stepR_scope (harr.1 k' (by rw [hx]; exact hk)),fun hr' hk=>let ⟨k₁,h1,h2⟩:=harr.2 hr' (by rw [hx]; exact hk); ⟨k₁,h1,.head h0 stepR_scope h2⟩⟩
 | goto l=>exact hq.elim
 | ret=>exact ⟨_,a₁,w₁,hq,.of_steps (.one h0 stepR_scope) harr⟩
 | panic ch=>exact ⟨_,a₁,w₁,hq,.of_steps (.one h0 stepR_scope) harr⟩
 | outgrown=>exact ⟨_,a₁,w₁,hq,.of_steps (.one h0 stepR_scope) harr⟩
theorem wpV_rangeFunc {g : Operand} {ps : Array Tmp} {assign body : Code}
  (h : ∀ fn,(∃ F,P.funcs[fn]? = some F) → ∃ (l : Nat) (mark : List Deferred) (w1 : World) (d : Deferred) (w1' : World) (f : FuncId) (args : Array Value) (w2 : World),
   (Instr.enterLoop fn a.tmps ps assign body r).run P w = .ok (l,mark) w1 ∧
   (resolve a.eval (rangeCall g l) 0).run P w1 = .ok d w1' ∧
   (invoke d.target d.args).run P w1' = .ok (.enter f args) w2 ∧
   Calls P f args w2 (rangePost (Fx r) 0 P l Q { a with defers:=mark ++ a.defers })) :
  wpV r P (.rangeFunc g ps assign body) Q a w:=by
 intro b k cs hro hb
 obtain ⟨l,mark,w1,d,w1',f,args,w2,he,hres,hinv,hcall⟩:=h b.fn hb
 rw [← hro] at he
 have s0 : StepsIn (Machine.fenced P (Fx r)) P _ _:=.one (fenced_Fx P _) (stepR_rangeFunc (P:=P) (b:=b) (a:=a) (k:=k) (cs:=cs) (w:=w) he hres hinv)
 obtain ⟨e,w3,fr,hR,hs,hfn,hleave⟩:=((callsIn_wide (n:=0)).2 hcall).2 (b.atR { a with defers:=mark ++ a.defers } (.inRangeFunc l :: k) :: cs) (room_wide _)
 cases e with
 | outgrown =>
  obtain ⟨a0,w0,hq⟩:=hR
  exact ⟨.outgrown,a0,w0,hq,.inr (Outgrown.of_steps s0.steps hs)⟩
 | returned v =>
  obtain ⟨jump,w4,hend,hj⟩:=hR
  have hs' : StepsIn (Machine.fenced P (Fx r)) P _ _:=hs
  have s1:=s0.trans (hs'.trans (.one (fenced_Fx P _) (step_leave_returned hleave)))
  rw [finish_atR_inRangeFunc l v] at s1
  have s2:=s1.trans (.one (fenced_Fx P _) (stepR_endRangeFunc hend))
  cases jump with
  | none=>exact ⟨.normal,_,w4,hj,s2⟩
  | some c =>
   obtain ⟨e',a2,w5,hq,harr⟩:=hj b k cs hro trivial (room_Fx _)
   exact ⟨e',a2,w5,hq,.of_steps s2 harr⟩
 | panicked chain =>
  have hs' : StepsIn (Machine.fenced P (Fx r)) P _ _:=hs
  have s1:=s0.trans (hs'.trans (.one (fenced_Fx P _) (step_leave_panicked hleave)))
  rw [Frame.raise_atR] at s1
  exact ⟨.panic chain,_,w3,hR,_,s1⟩
end
end Go.Tidy
/-
 The base layer: what the executor says of a piece of code holds of it.
-/
namespace Go.Tidy
section
variable {C : Ctx} {g : Gh} {w : World} {L : List Blk} {r : Option Nat}
theorem putObj_ext {w : World} {q : Nat} {o : Obj} : ∀ (p : Nat) (o' : Obj),w.heap[p]? = some o' → some q ≠ some p → (w.putObj q o).heap[p]? = some o':=fun p o' h hne=>by
 rw [World.putObj_heap_other (fun e=>hne (by rw [e]))]; exact h
theorem kill_step (hg : Good g w L) {b q : Nat} {k0 : Blk} (hL : L[b]? = some k0) (h0 : k0 ≠ .dead) (h1 : k0 ≠ .defr) (hm : g.m b = some q) (o : Obj) : Step g w L b .dead g (w.putObj q o):=by
 have hbl:=lt_of_get hL
 refine ⟨hg,⟨_,hL,h0⟩,by rw [hL]; exact fun e=>h1 (by cases e; rfl),⟨rfl,rfl,rfl⟩,by simp,rfl,fun _ _=>rfl,fun _ _=>rfl,fun p o' hp hne=>putObj_ext p o' hp (by rw [← hm]; exact hne),fun r hr=>.inl hr,?_⟩
 have hd : (L.set b .dead)[b]? = some .dead:=List.getElem?_set_self hbl
 exact ⟨fun _ _=>.inl hd,fun _ _ _ _=>.inl hd,fun _ _=>.inl hd,fun _ _=>.inl hd,fun _=>hd⟩
theorem RB.loop_of (hg : Good g w L) {b : Nat} {l : LoopR} (hL : L[b]? = some (.loop l)) : ∃ q rec,g.m b = some q ∧ w.heap[q]? = some (.loop rec) ∧ rec.state = l.st ∧ rec.pending = l.pend:=by
 obtain ⟨q,rec,h1,h2,h3,h4,_⟩:=hg.blk b _ hL
 exact ⟨q,rec,h1,h2,h3,h4⟩
theorem loopRec_ok {g' : Gh} {w' : World} {L' : List Blk} {fr : List (Nat × V)} {n : Nat} {a : Act} {fn : FuncId} {ps : Array Tmp} {assign body : Code} {b q df dq : Nat} (hn : a.tmps.size = n)
  (hfr : ∀ i,RV g' w' L' (look fr i) (a.tmps.getD i undef)) (hm : g'.m b = some q) (hd : g'.m df = some dq) (hdL : L'[df]? = some .defr) (hv : validF fn)
  (hh : w'.heap[q]? = some (.loop { state:=.ready,pending:=none,fn,tmps:=a.tmps,params:=ps,assign,body,defers:=dq })) :
  RB g' w' L' b (.loop ⟨.ready,none,fr,n,ps.toList,assign,body,df⟩) :=
 ⟨q,_,hm,hh,rfl,rfl,by simp,rfl,rfl,hn,hfr,hd,hdL,hv⟩
theorem pend_wp {e : Exit} {c : Code} (hc : pendExit c = some e) {n : Nat} {P : Program} {R : Exit → Act → World → Prop} {a : Act} {w : World} (h : R e a w) : c.wpIn (Fx r) n P R a w:=by
 unfold pendExit at hc
 split at hc
 ·cases hc; exact wpIn_ret h
 ·cases hc; exact wpIn_exit h
 ·cases hc
theorem vRange_ok (hC : C.OK) {k : Nat} (hpn : C.pn ≤ k) {f : Operand} {ps : Array Tmp} {assign body : Code} {σ : TS} {Q : Exit → TS → Prop} {a : Act} (h : vRange C f ps assign body σ Q) (hs : St k r g σ a w) :
  wpV r C.P (Code.rangeFunc f ps assign body) (Post C k r Q g w σ.L a) a w:=by
 refine wpV_rangeFunc fun fn hfn=>?_
 replace hfn : validF fn:=hfn.elim fun F hF=>hC.fs fn F hF
 unfold vRange at h
 cases hro : σ.ro with
 | none =>
  simp only [hro] at h
  have hr:=hs.ro' hro
  subst hr
  -- the block for deferred calls
  have hE1 : Ext w (w.alloc (.deferred (some []))):=Ext.alloc w _
  have hg1:=add_good (k':=.defr) hs.good hE1 (some w.heap.size) (fun q h=>by cases h; exact Nat.le_refl _) 0 ⟨w.heap.size,by simp [Gh.add],heap_alloc_new w _⟩
  have hp1:=add_prog hs.good hE1 .defr (some w.heap.size) (fun q h=>by cases h; exact Nat.le_refl _) 0
  have hfr1:=frame_mono hs.fr hp1
  generalize hg1e : g.add σ.L.length (some w.heap.size) 0 = g1 at hg1 hp1 hfr1
  generalize hw1e : w.alloc (.deferred (some [])) = w1 at hE1 hg1 hp1 hfr1
  have hm1 : g1.m σ.L.length = some w.heap.size:=by rw [← hg1e]; simp [Gh.add]
  have hsz1 : w1.heap.size = w.heap.size + 1:=by rw [← hw1e]; simp
  have hlen1 : (σ.L ++ [Blk.defr]).length = σ.L.length + 1:=by simp
  -- the record
  have hE2 : Ext w1 (w1.alloc (.loop { state:=.ready,pending:=none,fn,tmps:=a.tmps,params:=ps,assign,body,defers:=w.heap.size })):=Ext.alloc w1 _
  have hp2:=add_prog hg1 hE2 (.loop ⟨.ready,none,σ.fr,σ.n,ps.toList,assign,body,σ.L.length⟩) (some w1.heap.size) (fun q h=>by cases h; exact Nat.le_refl _) 0
  have hfr2:=frame_mono hfr1 hp2
  have hg2:=add_good (k':=.loop ⟨.ready,none,σ.fr,σ.n,ps.toList,assign,body,σ.L.length⟩) hg1 hE2 (some w1.heap.size) (fun q h=>by cases h; exact Nat.le_refl _) 0
   (loopRec_ok (fn:=fn) (q:=w1.heap.size) (dq:=w.heap.size) hs.n hfr2 (by simp [Gh.add]) (by simp only [Gh.add]; rw [if_neg (by rw [hlen1]; omega)]; exact hm1)
    (by rw [List.getElem?_append_left (by rw [hlen1]; omega)]; simp) hfn (heap_alloc_new w1 _))
  have hm2 : (g1.add (σ.L ++ [Blk.defr]).length (some w1.heap.size) 0).m (σ.L.length + 1) = some w1.heap.size:=by simp [Gh.add]
  have hmd2 : (g1.add (σ.L ++ [Blk.defr]).length (some w1.heap.size) 0).m σ.L.length = some w.heap.size:=by simp only [Gh.add]; rw [if_neg (by rw [hlen1]; omega)]; exact hm1
  rw [show σ.L ++ [Blk.defr] ++ [Blk.loop ⟨.ready,none,σ.fr,σ.n,ps.toList,assign,body,σ.L.length⟩] = σ.L ++ [.defr,.loop ⟨.ready,none,σ.fr,σ.n,ps.toList,assign,body,σ.L.length⟩] by simp] at hg2 hp2 hfr2
  generalize g1.add (σ.L ++ [Blk.defr]).length (some w1.heap.size) 0 = g2 at hg2 hp2 hfr2 hm2 hmd2
  have hw2e : (w1.alloc (.loop { state:=.ready,pending:=none,fn,tmps:=a.tmps,params:=ps,assign,body,defers:=w.heap.size })).heap[w1.heap.size]? = some (.loop { state:=.ready,pending:=none,fn,tmps:=a.tmps,params:=ps,assign,body,defers:=w.heap.size }):=heap_alloc_new w1 _
  have henter : (Instr.enterLoop fn a.tmps ps assign body none).run C.P w = .ok (w1.heap.size,[{ target:=.collected w.heap.size,args:=#[] }]) (w1.alloc (.loop { state:=.ready,pending:=none,fn,tmps:=a.tmps,params:=ps,assign,body,defers:=w.heap.size })):=by
   rw [hsz1,← hw1e]; exact run_enterLoop_outer _ _ _ _ _
  generalize hw2 : w1.alloc (.loop { state:=.ready,pending:=none,fn,tmps:=a.tmps,params:=ps,assign,body,defers:=w.heap.size }) = w2 at hg2 hp2 hfr2 hw2e henter
  have hpp : Prog σ.L.length g w σ.L g2 w2 (σ.L ++ [.defr,.loop ⟨.ready,none,σ.fr,σ.n,ps.toList,assign,body,σ.L.length⟩]):=hp1.trans (hp2.le (by rw [hlen1]; omega) (Nat.le_refl _))
  have hL2 : (σ.L ++ [Blk.defr,.loop ⟨.ready,none,σ.fr,σ.n,ps.toList,assign,body,σ.L.length⟩])[σ.L.length + 1]? = some (.loop ⟨.ready,none,σ.fr,σ.n,ps.toList,assign,body,σ.L.length⟩):=by
   rw [List.getElem?_append_right (by omega)]; simp
  have hLd2 : (σ.L ++ [Blk.defr,.loop ⟨.ready,none,σ.fr,σ.n,ps.toList,assign,body,σ.L.length⟩])[σ.L.length]? = some .defr:=by
   rw [List.getElem?_append_right (by omega)]; simp
  have newD : NewD a w { a with defers:=[{ target:=.collected w.heap.size,args:=#[] }] ++ a.defers }:=by
   refine ⟨fun d hd=>?_,fun hn=>List.nodup_cons.2 ⟨fun hd=>?_,hn⟩⟩
   ·rcases List.mem_append.1 hd with hd | hd
    ·rw [List.mem_singleton.1 hd]; exact .inr ⟨_,rfl,Nat.le_refl _⟩
    ·exact .inl hd
   ·have hd : ({ target:=.collected w.heap.size,args:=#[] } : Deferred) ∈ a.defers:=hd
    obtain ⟨i,hi,hid⟩:=List.getElem_of_mem hd
    have hid : a.defers[i]? = some { target:=.collected w.heap.size,args:=#[] }:=by rw [List.getElem?_eq_getElem hi,hid]
    obtain ⟨b,hb⟩ : ∃ b,σ.df[i]? = some b:=⟨_,List.getElem?_eq_getElem (by rw [← hs.df]; exact hi)⟩
    obtain ⟨q,h1,h2,h3⟩:=hs.dfs i b _ hb hid
    have hq:=hs.good.owned_lt ⟨b,⟨_,h3,by simp⟩,h1⟩
    cases h2
    omega
  obtain ⟨gf,us,hu,hcf,hcall⟩:=vCallF_ok (ev_ok hg2.gl hfr2 f) (args:=[.yld (σ.L.length + 1)]) (vs:=#[.func (.yield w1.heap.size) #[] #[]])
   ⟨rfl,fun j x v hx hv=>by
    cases j with
    | zero=>simp at hx hv; subst hx hv; exact .yld _ _ _ hL2 hm2
    | succ j=>simp at hx⟩ hg2 h
  refine ⟨w1.heap.size,[{ target:=.collected w.heap.size,args:=#[] }],w2,{ target:=.fn (.func gf) us,args:=#[.func (.yield w1.heap.size) #[] #[]] },w2,gf,#[.func (.yield w1.heap.size) #[] #[]] ++ us,w2,henter,?_,?_,?_⟩
  ·simp only [resolve,hu,Deferred.ofValue,Sem.run_pure]
   simp [Act.eval]
  ·simp only [invoke]; exact hcf
  ·refine Calls.mono hcall ?_
   rintro e w3 (⟨v,X,L3,g3,rfl,hK,hX,hg3,hp3⟩ | ⟨v,X,L3,g3,rfl,hS⟩)
   rotate_left
   ·have hS':=hS.less (show k ≤ _ by have:=hs.k; simp; omega) hpn
    refine ⟨.inr ⟨v,X,L3,g3,rfl,hS'.later hs.k (hpp.le hs.k (Nat.le_refl _)),fun d hd=>?_⟩,newD,Nat.le_trans hpp.size hS.prog.size⟩
    rcases List.mem_append.1 hd with hd | hd
    ·rw [List.mem_singleton.1 hd]
     exact ⟨w.heap.size,rfl,hS.df σ.L.length _ (by simp) hLd2 hmd2⟩
    ·obtain ⟨i,hi,hid⟩:=List.getElem_of_mem hd
     have hid : a.defers[i]? = some d:=by rw [List.getElem?_eq_getElem hi,hid]
     obtain ⟨b,hb⟩ : ∃ b,σ.df[i]? = some b:=⟨_,List.getElem?_eq_getElem (by rw [← hs.df]; exact hi)⟩
     obtain ⟨q,h1,h2,h3⟩:=hs.dfs i b d hb hid
     obtain ⟨h4,h5⟩:=hpp.defr b q (lt_of_get h3) h3 h1
     exact ⟨q,h2,hS.df b q (by have:=lt_of_get h3; simp; omega) h4 h5⟩
   have hp3':=hpp.trans (hp3.le (by simp) (Nat.le_refl _))
   split at hK
   ·rename_i l hl hd
    obtain ⟨q,rec,h1,h2,h3,h4⟩:=RB.loop_of hg3 hl
    -- the real record is where it was
    have hyl:=hp3.mono (.yld (σ.L.length + 1)) _ (by simp [V.bel]) (RV.yld (g:=g2) (w:=w2) _ _ _ hL2 hm2)
    have hq : q = w1.heap.size:=by
     generalize hvv : Value.func (.yield w1.heap.size) #[] #[] = vv at hyl
     cases hyl with
     | yld _ r' _ hL' hm'=>rw [h1] at hm'; cases hm'; cases hvv; rfl
     | yldX _ r' hL'=>rw [hl] at hL'; cases hL'
    subst hq
    obtain ⟨hdL,hdm⟩:=hp3.defr σ.L.length w.heap.size (by simp) hLd2 hmd2
    have S:=kill_step hg3 hl (by simp) (by simp) h1 (.loop { rec with state:=.exhausted })
    have hst3 : ∀ (hb : rec.state ≠ .busy) ,St k none g3 { σ with L:=L3.set (σ.L.length + 1) .dead,df:=σ.L.length :: σ.df } { a with defers:=[{ target:=.collected w.heap.size,args:=#[] }] ++ a.defers } (w3.putObj w1.heap.size (.loop { rec with state:=.exhausted })):=by
     intro _
     have hpk:=hp3'.trans (S.prog.le (by have:=hp3'.len (Nat.le_refl _); omega) (Nat.le_refl _))
     refine ⟨hs.n,fun i=>hpk.mono _ _ (hs.fr i).bel (hs.fr i),S.good' trivial,?_,by simp [hs.df],?_,fun lb hlb=>(by rw [hro] at hlb; cases hlb),fun _=>rfl⟩
     ·have:=hp3'.len (Nat.le_refl _); have:=hs.k; simp; omega
     ·intro i b d hb hdi
      cases i with
      | zero =>
       simp at hb hdi
       subst hb hdi
       refine ⟨_,hdm,rfl,?_⟩
       rw [List.getElem?_set_ne (by omega)]; exact hdL
      | succ i =>
       simp at hb hdi
       obtain ⟨q,d1,d2,d3⟩:=hs.dfs i b d hb hdi
       obtain ⟨d4,d5⟩:=hpk.defr b q (lt_of_get d3) d3 d1
       exact ⟨q,d5,d2,d4⟩
    have hpk : Prog k g w σ.L g3 (w3.putObj w1.heap.size (.loop { rec with state:=.exhausted })) (L3.set (σ.L.length + 1) .dead) :=
     (hp3'.trans (S.prog.le (by have:=hp3'.len (Nat.le_refl _); omega) (Nat.le_refl _))).le hs.k (Nat.le_refl _)
    have hbu : l.st ≠ .busy:=by intro e; rw [e] at hK; simp at hK
    have hb' : rec.state ≠ .busy:=by rw [h3]; exact hbu
    cases hpd : l.pend with
    | none =>
     have hK' : Q .normal { σ with L:=L3.set (σ.L.length + 1) .dead,df:=σ.L.length :: σ.df }:=by
      rw [hro]
      cases hst : l.st <;> simp only [hst,hpd] at hK <;> first | exact hK | exact absurd hst hbu
     exact ⟨none,_,by rw [run_endLoop h2 hb',h4,hpd],.inl ⟨_,g3,hK',hst3 hb',hpk⟩,newD,hpk.size⟩
    | some c =>
     have hK' : ∃ ex,pendExit c = some ex ∧ Q ex { σ with L:=L3.set (σ.L.length + 1) .dead,df:=σ.L.length :: σ.df }:=by
      rw [hro]
      cases hex : pendExit c with
      | none=>cases hst : l.st <;> simp only [hst,hpd,hex] at hK
      | some ex=>cases hst : l.st <;> simp only [hst,hpd,hex] at hK <;> first | exact ⟨ex,rfl,hK⟩ | exact absurd hst hbu
     obtain ⟨ex,hex,hK'⟩:=hK'
     exact ⟨some c,_,by rw [run_endLoop h2 hb',h4,hpd],pend_wp hex ⟨.inl ⟨_,g3,hK',hst3 hb',hpk⟩,newD,hpk.size⟩⟩
   ·exact hK.elim
 | some lb =>
  simp only [hro] at h
  split at h
  ·rename_i r0 hlb
   obtain ⟨l0,rfl,hyl0⟩:=hs.ro lb hro
   obtain ⟨q0,rec0,n1,n2,_,_,_,_,_,_,_,n10,n11,_⟩:=hs.good.blk lb _ hlb
   have hq0 : q0 = l0:=by
    generalize hvv : Value.func (.yield l0) #[] #[] = vv at hyl0
    cases hyl0 with
    | yld _ r' _ hL' hm'=>rw [n1] at hm'; cases hm'; cases hvv; rfl
    | yldX _ r' hL'=>rw [hlb] at hL'; cases hL'
   subst hq0
   have hE2 : Ext w (w.alloc (.loop { state:=.ready,pending:=none,fn,tmps:=a.tmps,params:=ps,assign,body,defers:=rec0.defers })):=Ext.alloc w _
   have hp2:=add_prog hs.good hE2 (.loop ⟨.ready,none,σ.fr,σ.n,ps.toList,assign,body,r0.df⟩) (some w.heap.size) (fun q h=>by cases h; exact Nat.le_refl _) 0
   have hfr2:=frame_mono hs.fr hp2
   obtain ⟨hdf1,hdf2⟩:=hp2.defr r0.df rec0.defers (lt_of_get n11) n11 n10
   have hg2:=add_good (k':=.loop ⟨.ready,none,σ.fr,σ.n,ps.toList,assign,body,r0.df⟩) hs.good hE2 (some w.heap.size) (fun q h=>by cases h; exact Nat.le_refl _) 0
    (loopRec_ok (fn:=fn) (q:=w.heap.size) (dq:=rec0.defers) hs.n hfr2 (by simp [Gh.add]) hdf2 hdf1 hfn (heap_alloc_new w _))
   have hm2 : (g.add σ.L.length (some w.heap.size) 0).m σ.L.length = some w.heap.size:=by simp [Gh.add]
   generalize g.add σ.L.length (some w.heap.size) 0 = g2 at hg2 hp2 hfr2 hm2 hdf2
   have henter : (Instr.enterLoop fn a.tmps ps assign body (some q0)).run C.P w = .ok (w.heap.size,[]) (w.alloc (.loop { state:=.ready,pending:=none,fn,tmps:=a.tmps,params:=ps,assign,body,defers:=rec0.defers })):=run_enterLoop_inner n2 _ _ _ _ _
   generalize hw2 : w.alloc (.loop { state:=.ready,pending:=none,fn,tmps:=a.tmps,params:=ps,assign,body,defers:=rec0.defers }) = w2 at hg2 hp2 hfr2 henter
   have hL2 : (σ.L ++ [Blk.loop ⟨.ready,none,σ.fr,σ.n,ps.toList,assign,body,r0.df⟩])[σ.L.length]? = some (.loop ⟨.ready,none,σ.fr,σ.n,ps.toList,assign,body,r0.df⟩):=by simp
   obtain ⟨gf,us,hu,hcf,hcall⟩:=vCallF_ok (ev_ok hg2.gl hfr2 f) (args:=[.yld σ.L.length]) (vs:=#[.func (.yield w.heap.size) #[] #[]])
    ⟨rfl,fun j x v hx hv=>by
     cases j with
     | zero=>simp at hx hv; subst hx hv; exact .yld _ _ _ hL2 hm2
     | succ j=>simp at hx⟩ hg2 h
   refine ⟨w.heap.size,[],w2,{ target:=.fn (.func gf) us,args:=#[.func (.yield w.heap.size) #[] #[]] },w2,gf,#[.func (.yield w.heap.size) #[] #[]] ++ us,w2,henter,?_,?_,?_⟩
   ·simp only [resolve,hu,Deferred.ofValue,Sem.run_pure]
    simp [Act.eval]
   ·simp only [invoke]; exact hcf
   ·refine Calls.mono hcall ?_
    rintro e w3 (⟨v,X,L3,g3,rfl,hK,hX,hg3,hp3⟩ | ⟨v,X,L3,g3,rfl,hS⟩)
    rotate_left
    ·have hS' : PanS C σ.L.length g2 w2 _ v X L3 g3 w3:=hS.less (by simp) (Nat.le_trans hpn hs.k)
     exact hs.pan hpn (a':={ a with defers:=[] ++ a.defers }) rfl (hS'.later (Nat.le_refl _) hp2)
    have hp3':=hp2.trans (hp3.le (by simp) (Nat.le_refl _))
    split at hK
    ·rename_i l hl
     obtain ⟨q,rec,h1,h2,h3,h4⟩:=RB.loop_of hg3 hl
     have hyl:=hp3.mono (.yld σ.L.length) _ (by simp [V.bel]) (RV.yld (g:=g2) (w:=w2) _ _ _ hL2 hm2)
     have hq : q = w.heap.size:=by
      generalize hvv : Value.func (.yield w.heap.size) #[] #[] = vv at hyl
      cases hyl with
      | yld _ r' _ hL' hm'=>rw [h1] at hm'; cases hm'; cases hvv; rfl
      | yldX _ r' hL'=>rw [hl] at hL'; cases hL'
     subst hq
     have S:=kill_step hg3 hl (by simp) (by simp) h1 (.loop { rec with state:=.exhausted })
     have hpk0:=hp3'.trans (S.prog.le (by have:=hp3'.len (Nat.le_refl _); omega) (Nat.le_refl _))
     have hst3 : St k (some q0) g3 { σ with L:=L3.set σ.L.length .dead } { a with defers:=[] ++ a.defers } (w3.putObj w.heap.size (.loop { rec with state:=.exhausted })):=by
      refine ⟨hs.n,fun i=>hpk0.mono _ _ (hs.fr i).bel (hs.fr i),S.good' trivial,?_,hs.df,?_,?_,hs.ro'⟩
      ·have:=hp3'.len (Nat.le_refl _); have:=hs.k; simp; omega
      ·intro i b d hb hdi
       obtain ⟨q,d1,d2,d3⟩:=hs.dfs i b d hb hdi
       obtain ⟨d4,d5⟩:=hpk0.defr b q (lt_of_get d3) d3 d1
       exact ⟨q,d5,d2,d4⟩
      ·intro lb' hlb'
       obtain ⟨l,y1,y2⟩:=hs.ro lb' hlb'
       exact ⟨l,y1,hpk0.mono _ _ y2.bel y2⟩
     have hpk : Prog k g w σ.L g3 (w3.putObj w.heap.size (.loop { rec with state:=.exhausted })) (L3.set σ.L.length .dead):=hpk0.le hs.k (Nat.le_refl _)
     have hbu : l.st ≠ .busy:=by intro e; rw [e] at hK; simp at hK
     have hb' : rec.state ≠ .busy:=by rw [h3]; exact hbu
     cases hpd : l.pend with
     | none =>
      have hK' : Q .normal { σ with L:=L3.set σ.L.length .dead }:=by
       rw [hro]
       cases hst : l.st <;> simp only [hst,hpd] at hK <;> first | exact hK | exact absurd hst hbu
      exact ⟨none,_,by rw [run_endLoop h2 hb',h4,hpd],Post.of rfl hK' hst3 hpk⟩
     | some c =>
      have hK' : ∃ ex,pendExit c = some ex ∧ Q ex { σ with L:=L3.set σ.L.length .dead }:=by
       rw [hro]
       cases hex : pendExit c with
       | none=>cases hst : l.st <;> simp only [hst,hpd,hex] at hK
       | some ex=>cases hst : l.st <;> simp only [hst,hpd,hex] at hK <;> first | exact ⟨ex,rfl,hK⟩ | exact absurd hst hbu
      obtain ⟨ex,hex,hK'⟩:=hK'
      exact ⟨some c,_,by rw [run_endLoop h2 hb',h4,hpd],pend_wp hex (Post.of rfl hK' hst3 hpk)⟩
    ·exact hK.elim
  ·exact h.elim
theorem cutIf_ok {k : Nat} {b : Bool} {f : (Exit → TS → Prop) → Prop} {Q : Exit → TS → Prop} {c : Code} {g : Gh} {w : World} {L : List Blk} {a : Act} (core : ∀ Q,f Q → wpV r C.P c (Post C k r Q g w L a) a w) (h : cutIf b k f Q) :
  wpV r C.P c (Post C k r Q g w L a) a w:=by
 unfold cutIf at h
 split at h
 ·exact core Q h
 ·unfold CutP at h
  obtain ⟨ι,s,h1,h2⟩:=h
  refine wpV_mono (core _ h1) ?_
  rintro e a' w' ⟨⟨σ',g',hq,hs,hp⟩ | hpp,hn,hsz⟩
  rotate_left
  ·obtain ⟨v,X,L',g',rfl,hS,hi⟩:=hpp
   exact ⟨.inr ⟨v,X,L',g',rfl,hS,hi⟩,hn,hsz⟩
  cases e with
  | normal =>
   obtain ⟨i,hw⟩:=hq
   obtain ⟨g2,hs2,hp2⟩:=hw r g' a' w' hs
   exact ⟨.inl ⟨s i,g2,h2 i,hs2,hp.trans hp2⟩,hn,hsz⟩
  | exit id=>exact ⟨.inl ⟨σ',g',hq,hs,hp⟩,hn,hsz⟩
  | goto l=>exact ⟨.inl ⟨σ',g',hq,hs,hp⟩,hn,hsz⟩
  | ret=>exact ⟨.inl ⟨σ',g',hq,hs,hp⟩,hn,hsz⟩
  | panic ch=>exact ⟨.inl ⟨σ',g',hq,hs,hp⟩,hn,hsz⟩
  | outgrown=>exact ⟨.inl ⟨σ',g',hq,hs,hp⟩,hn,hsz⟩
theorem vc_ok (hC : C.OK) {cut : Code → Bool} {k : Nat} (hpn : C.pn ≤ k) : ∀ (c : Code) (σ : TS) (Q : Exit → TS → Prop) (g : Gh) (a : Act) (w : World),vc C cut k c σ Q → St k r g σ a w → wpV r C.P c (Post C k r Q g w σ.L a) a w:=by
 intro c
 induction c with
 | skip=>exact fun σ Q g a w h hs=>wpV.of (Go.wpIn_skip (Post.of rfl h hs (Prog.refl _ _ _ _)))
 | label l=>exact fun σ Q g a w h hs=>wpV.of (wpIn_label (Post.of rfl h hs (Prog.refl _ _ _ _)))
 | region id ops draw =>
  intro σ Q g a w h hs
  cases draw with
  | false =>
   simp only [vc] at h
   refine cutIf_ok (fun Q h=>?_) h
   refine wpV.of (wpIn_region (vcOps_ok hC (List.range ops.size) σ.fr σ.L g a w _ (by rw [range_ops]; exact h) hs.at (Nat.le_trans hpn hs.k) ?_ (fun v X L2 g2 a2 w2 hd hS=>hs.pan hpn hd hS)))
   intro fr' L' g' a' w' hK hat hd hp
   exact Post.of hd hK (hs.of_at hat hd hp) (hp.le hs.k (Nat.le_refl _))
  | true =>
   simp only [vc] at h
   refine cutIf_ok (fun Q h=>?_) h
   unfold DrawP at h
   refine wpV.of (wpIn_region_draw fun t=>?_)
   have hE : Ext w { w with drawn:=w.drawn + 1 }:=⟨⟨rfl,rfl,rfl⟩,Nat.le_refl _,fun _ _ h=>h⟩
   have hcell : ∀ a : Addr,World.cell? { w with drawn:=w.drawn + 1 } a = w.cell? a:=fun a=>rfl
   have hmono : ∀ (x : V) (v : Value),RV g w σ.L x v → RV g { w with drawn:=w.drawn + 1 } σ.L x v:=fun x v hx=>RV.mono (g:=g) (g':=g) (w:=w) (w':={ w with drawn:=w.drawn + 1 }) (L:=σ.L) (L':=σ.L) (k:=σ.L.length) (fun _ h=>h) (fun a v _ h=>h) (fun b _=>Keep.refl g σ.L b) hx.bel hx
   have hg2 : Good g { w with drawn:=w.drawn + 1 } σ.L:=⟨hs.good.inj,hs.good.dis,hs.good.lt,fun b k hb=>RB.mono' hmono rfl rfl (fun _ _ _ h=>h) (fun l _=>⟨rfl,fun h=>h⟩) (hs.good.blk b k hb),GlobOK.mono (w:=w) (w':={ w with drawn:=w.drawn + 1 }) (fun _ h=>h) (fun a v _ h=>h) hs.good.gl⟩
   have hp0 : Prog σ.L.length g w σ.L g { w with drawn:=w.drawn + 1 } σ.L:=⟨⟨rfl,rfl,rfl⟩,Nat.le_refl _,fun _ _ h _=>h,fun _ h _=>h,fun _ h=>.inl h,fun _ h=>h,fun x v _ h=>hmono x v h,fun _ _ _ h h'=>⟨h,h'⟩,fun h=>h⟩
   refine vOpsC_ok hC _ σ.fr σ.L g a _ _ (h t) ⟨hs.n,fun i=>hmono _ _ (hs.fr i),hg2⟩ (Nat.le_trans hpn hs.k) ?_ (fun v X L2 g2 a2 w2 hd hS=>hs.pan hpn hd (hS.later (Nat.le_refl _) hp0))
   intro fr' L' g' a' w' hK hat hd hp
   have hp':=hp0.trans hp
   exact Post.of hd hK (hs.of_at hat hd hp') (hp'.le hs.k (Nat.le_refl _))
 | seq x y ihx ihy =>
  intro σ Q g a w h hs
  simp only [vc] at h
  refine cutIf_ok (fun Q h=>?_) h
  refine wpV_seq (wpV_mono (ihx σ _ g a w h hs) ?_)
  rintro e a1 w1 ⟨⟨σ1,g1,hq,hs1,hp1⟩ | hpp,hn,hsz⟩
  rotate_left
  ·obtain ⟨v,X,L',g',rfl,hS,hi⟩:=hpp
   exact ⟨.inr ⟨v,X,L',g',rfl,hS,hi⟩,hn,hsz⟩
  cases e with
  | normal=>exact wpV_mono (ihy σ1 Q g1 a1 w1 hq hs1) fun e a' w' hpost=>Post.later hs.k hp1 hn hpost
  | exit id=>exact ⟨.inl ⟨σ1,g1,hq,hs1,hp1⟩,hn,hsz⟩
  | goto l=>exact ⟨.inl ⟨σ1,g1,hq,hs1,hp1⟩,hn,hsz⟩
  | ret=>exact ⟨.inl ⟨σ1,g1,hq,hs1,hp1⟩,hn,hsz⟩
  | panic ch=>exact ⟨.inl ⟨σ1,g1,hq,hs1,hp1⟩,hn,hsz⟩
  | outgrown=>exact ⟨.inl ⟨σ1,g1,hq,hs1,hp1⟩,hn,hsz⟩
 | cond c x y ihx ihy =>
  intro σ Q g a w h hs
  simp only [vc] at h
  refine cutIf_ok (fun Q h=>?_) h
  have hcv:=evB_ok hs.good.gl hs.fr c
  have fin : ∀ t : Bool,a.eval c = .bool t → (match t with | true=>vc C cut k x σ Q | false=>vc C cut k y σ Q) → wpV r C.P (Code.cond c x y) (Post C k r Q g w σ.L a) a w:=by
   intro t hb h
   refine wpV_cond hb ?_
   cases t with
   | true=>exact ihx σ Q g a w h hs
   | false=>exact ihy σ Q g a w h hs
  split at h
  ·rename_i hc
   rw [hc] at hcv
   exact fin true (by generalize a.eval c = v at hcv; cases hcv; rfl) h
  ·rename_i hc
   rw [hc] at hcv
   exact fin false (by generalize a.eval c = v at hcv; cases hcv; rfl) h
  ·rename_i t hc
   rw [hc] at hcv
   exact fin t hcv.bool_of h.out
  ·exact h.elim
 | block id c ih =>
  intro σ Q g a w h hs
  simp only [vc] at h
  refine cutIf_ok (fun Q h=>?_) h
  refine wpV_block (wpV_mono (ih σ _ g a w h hs) ?_)
  rintro e a1 w1 ⟨⟨σ1,g1,hq,hs1,hp1⟩ | hpp,hn,hsz⟩
  rotate_left
  ·obtain ⟨v,X,L',g',rfl,hS,hi⟩:=hpp
   exact ⟨.inr ⟨v,X,L',g',rfl,hS,hi⟩,hn,hsz⟩
  cases e with
  | normal=>exact ⟨.inl ⟨σ1,g1,hq,hs1,hp1⟩,hn,hsz⟩
  | exit id' =>
   simp only [Exit.inBlock]
   cases hb : Nat.beq id' id with
   | true =>
    simp only [hb] at hq
    rw [if_pos (Nat.eq_of_beq_eq_true hb)]
    exact ⟨.inl ⟨σ1,g1,hq,hs1,hp1⟩,hn,hsz⟩
   | false =>
    simp only [hb] at hq
    rw [if_neg (fun e=>by rw [e] at hb; simp at hb)]
    exact ⟨.inl ⟨σ1,g1,hq,hs1,hp1⟩,hn,hsz⟩
  | goto l=>exact ⟨.inl ⟨σ1,g1,hq,hs1,hp1⟩,hn,hsz⟩
  | ret=>exact ⟨.inl ⟨σ1,g1,hq,hs1,hp1⟩,hn,hsz⟩
  | panic ch=>exact ⟨.inl ⟨σ1,g1,hq,hs1,hp1⟩,hn,hsz⟩
  | outgrown=>exact ⟨.inl ⟨σ1,g1,hq,hs1,hp1⟩,hn,hsz⟩
 | loop c ih =>
  intro σ Q g a w h hs
  simp only [vc] at h
  unfold LoopP at h
  obtain ⟨ι,s,lt,i0,wf,hw0,hround⟩:=h
  obtain ⟨g0,hs0,hp0⟩:=hw0 r g a w hs
  refine wpV_loopG (fun i a1 w1=>∃ g1,St k r g1 (s i) a1 w1 ∧ Prog k g w σ.L g1 w1 (s i).L ∧ NewD a w a1) lt wf (i0:=i0) ⟨g0,hs0,hp0,.same rfl⟩ ?_
  rintro i a1 w1 ⟨g1,hs1,hp1,hn1⟩
  refine wpV_mono (ih (s i) _ g1 a1 w1 (hround i) hs1) ?_
  rintro e a2 w2 ⟨⟨σ2,g2,hq,hs2,hp2⟩ | hpp,hn,hsz⟩
  rotate_left
  ·obtain ⟨v,X,L',g',rfl,hS,hi⟩:=hpp
   exact Post.later hs.k hp1 hn1 ⟨.inr ⟨v,X,L',g',rfl,hS,hi⟩,hn,hsz⟩
  cases e with
  | normal =>
   obtain ⟨j,hlt,hw⟩:=hq
   obtain ⟨g3,hs3,hp3⟩:=hw r g2 a2 w2 hs2
   exact ⟨j,hlt,g3,hs3,hp1.trans (hp2.trans hp3),hn1.trans hp1.size hn⟩
  | exit id=>exact ⟨.inl ⟨σ2,g2,hq,hs2,hp1.trans hp2⟩,hn1.trans hp1.size hn,Nat.le_trans hp1.size hsz⟩
  | goto l=>exact ⟨.inl ⟨σ2,g2,hq,hs2,hp1.trans hp2⟩,hn1.trans hp1.size hn,Nat.le_trans hp1.size hsz⟩
  | ret=>exact ⟨.inl ⟨σ2,g2,hq,hs2,hp1.trans hp2⟩,hn1.trans hp1.size hn,Nat.le_trans hp1.size hsz⟩
  | panic ch=>exact ⟨.inl ⟨σ2,g2,hq,hs2,hp1.trans hp2⟩,hn1.trans hp1.size hn,Nat.le_trans hp1.size hsz⟩
  | outgrown=>exact ⟨.inl ⟨σ2,g2,hq,hs2,hp1.trans hp2⟩,hn1.trans hp1.size hn,Nat.le_trans hp1.size hsz⟩
 | rangeFunc f ps assign body _ _ =>
  intro σ Q g a w h hs
  simp only [vc] at h
  exact vRange_ok hC hpn h hs
 | exit id=>exact fun σ Q g a w h hs=>wpV.of (wpIn_exit (Post.of rfl h hs (Prog.refl _ _ _ _)))
 | scope c ih =>
  intro σ Q g a w h hs
  simp only [vc] at h
  refine cutIf_ok (fun Q h=>?_) h
  refine wpV_scopeG (wpV_mono (ih σ _ g a w h hs) ?_)
  rintro e a1 w1 ⟨⟨σ1,g1,hq,hs1,hp1⟩ | hpp,hn,hsz⟩
  rotate_left
  ·obtain ⟨v,X,L',g',rfl,hS,hi⟩:=hpp
   exact ⟨.inr ⟨v,X,L',g',rfl,hS,hi⟩,hn,hsz⟩
  cases e with
  | goto l=>exact hq
  | normal=>exact ⟨.inl ⟨σ1,g1,hq,hs1,hp1⟩,hn,hsz⟩
  | exit id=>exact ⟨.inl ⟨σ1,g1,hq,hs1,hp1⟩,hn,hsz⟩
  | ret=>exact ⟨.inl ⟨σ1,g1,hq,hs1,hp1⟩,hn,hsz⟩
  | panic ch=>exact ⟨.inl ⟨σ1,g1,hq,hs1,hp1⟩,hn,hsz⟩
  | outgrown=>exact ⟨.inl ⟨σ1,g1,hq,hs1,hp1⟩,hn,hsz⟩
 | goto l=>intro σ Q g a w h hs; simp [vc] at h
 | ret=>exact fun σ Q g a w h hs=>wpV.of (wpIn_ret (Post.of rfl h hs (Prog.refl _ _ _ _)))
 | refuse s=>intro σ Q g a w h hs; simp [vc] at h
end
end Go.Tidy
/-
 The base layer: forgetting,dropping blocks,making data of what is the activation's own; the entry of a function; rounds.
-/
namespace Go.Tidy
section
variable {C : Ctx} {g : Gh} {w : World} {L : List Blk} {r : Option Nat}
def SubF (fr : List (Nat × V)) : List (Nat × V) → Prop
 | []=>True
 | p :: q=>norm (look fr p.1) = norm p.2 ∧ SubF fr q
theorem norm_eq {g : Gh} {w : World} {L : List Blk} {x y : V} {v : Value} (h : norm x = norm y) (hx : RV g w L x v) : RV g w L y v:=by
 have hy : RV g w L (norm y) v:=h ▸ norm_ok hx
 unfold norm at hy
 split at hy
 ·rw [hy.bool_of]; exact .tt
 ·rw [hy.bool_of]; exact .ff
 ·exact hy
theorem SubF.look {fr : List (Nat × V)} : ∀ {fr' : List (Nat × V)},SubF fr fr' → ∀ i,look fr' i = .poison ∨ norm (look fr i) = norm (look fr' i)
 | [],_,i=>.inl rfl
 | (d,v) :: q,h,i=>by
  rw [look_cons]
  split
  ·rename_i e; subst e; exact .inr h.1
  ·exact SubF.look h.2 i
theorem Weak.refl (k : Nat) (σ : TS) : Weak k σ σ:=fun _r g _a _w h=>⟨g,h,Prog.refl _ _ _ _⟩
theorem Weak.trans {k : Nat} {σ σ' σ'' : TS} (h : Weak k σ σ') (h' : Weak k σ' σ'') : Weak k σ σ'':=fun r g a w hs=>by
 obtain ⟨g1,hs1,hp1⟩:=h r g a w hs
 obtain ⟨g2,hs2,hp2⟩:=h' r g1 a w hs1
 exact ⟨g2,hs2,hp1.trans hp2⟩
theorem Weak.fd {k n : Nat} {σ : TS} {fr' : List (Nat × V)} {L' : List Blk} (hfr : SubF σ.fr fr') (hL : σ.L.take n = L') (hk : k ≤ n) (hn : n ≤ σ.L.length) (hf : belF n fr' = true) (hB : belB n L' = true)
  (hdf : σ.df.all (fun b=>decide (b < n)) = true) (hro : (match σ.ro with | some b=>decide (b < n) | none=>true) = true) : Weak k σ { σ with fr:=fr',L:=L' }:=by
 intro r g a w hs
 subst hL
 obtain ⟨hmono,hgood⟩:=drop_good hs.good hB g.I (fun _ h=>h) (fun _ h=>.inl h)
 refine ⟨{ g with I:=g.I },⟨hs.n,fun i=>?_,hgood,by simp; omega,hs.df,fun i b d hb hd=>?_,fun lb hlb=>?_,hs.ro'⟩,drop_prog hs.good hk hB hn g.I (fun _ h=>h) (fun _ h=>.inl h)⟩
 ·have hb:=belF_look hf i
  rcases hfr.look i with h | h
  ·show RV _ _ _ (look fr' i) _
   rw [h]; exact .poison _
  ·exact hmono _ _ hb (norm_eq h (hs.fr i))
 ·obtain ⟨q,h1,h2,h3⟩:=hs.dfs i b d hb hd
  have : b < n:=by
   rw [List.all_eq_true] at hdf
   exact of_decide_eq_true (hdf b (List.mem_of_getElem? hb))
  exact ⟨q,h1,h2,by show (σ.L.take n)[b]? = _; rw [take_get this]; exact h3⟩
 ·have hlb' : σ.ro = some lb:=hlb
  obtain ⟨l,h1,h2⟩:=hs.ro lb hlb'
  rw [hlb'] at hro
  exact ⟨l,h1,hmono _ _ (by simpa [V.bel] using hro) h2⟩
theorem Weak.forget {k : Nat} {σ : TS} {fr' : List (Nat × V)} (hfr : SubF σ.fr fr') : Weak k σ { σ with fr:=fr' }:=by
 intro r g a w hs
 refine ⟨g,⟨hs.n,fun i=>?_,hs.good,hs.k,hs.df,hs.dfs,hs.ro,hs.ro'⟩,Prog.refl _ _ _ _⟩
 rcases hfr.look i with h | h
 ·show RV _ _ _ (look fr' i) _
  rw [h]; exact .poison _
 ·exact norm_eq h (hs.fr i)
theorem St.prog {k : Nat} {g g' : Gh} {σ : TS} {a : Act} {w : World} {L' : List Blk} (hs : St k r g σ a w) (hp : Prog σ.L.length g w σ.L g' w L') (hg : Good g' w L') : St k r g' { σ with L:=L' } a w :=
 hs.of_at (a':=a) (fr':=σ.fr) ⟨hs.n,frame_mono hs.fr hp,hg⟩ rfl hp
theorem Weak.nilOwn {k : Nat} {σ : TS} (d sz : Nat) (hd : look σ.fr d = .nil) (hsz : 0 < sz) : Weak k σ { σ with fr:=(d,.own σ.L.length 0 0 0) :: σ.fr,L:=σ.L ++ [.row 0 sz []] }:=by
 intro r g a w hs
 have hp:=add_prog hs.good (Ext.refl w) (.row 0 sz []) none (fun q h=>by cases h) 0
 have hg:=add_good (k':=.row 0 sz []) hs.good (Ext.refl w) none (fun q h=>by cases h) 0 ⟨hsz,by simp,.inl ⟨by simp [Gh.add],rfl⟩⟩
 have hs':=hs.prog hp hg
 refine ⟨_,⟨hs'.n,frame_set hs'.fr ?_,hs'.good,hs'.k,hs'.df,hs'.dfs,hs'.ro,hs'.ro'⟩,hp.le hs.k (Nat.le_refl _)⟩
 have hv:=hs.fr d
 rw [hd] at hv
 generalize a.tmps.getD d undef = v at hv
 cases hv with
 | nil=>exact .ownN _ _ sz [] (by simp) (by simp [Gh.add])
inductive Cv (S : Nat → Prop) (L : List Blk) : V → D → Prop
 | d (x : D) : Cv S L (.d x) x
 | nil : Cv S L .nil (.sl [])
 | tt : Cv S L .tt (.bool true)
 | ff : Cv S L .ff (.bool false)
 | clp (els : List (List D)) : Cv S L (.clp els) (.sl els)
 | own (b gen lo len sz : Nat) (els : List (List V)) (ds : List (List D)) (hb : S b) (hL : L[b]? = some (.row gen sz els)) (hlen : ((els.drop lo).take len).length = ds.length) (hl : len = ds.length)
   (hrow : ∀ e ∈ ds,e.length = sz)
   (hrec : ∀ (i j : Nat) (x : V) (y : D),(((els.drop lo).take len)[i]?).bind (fun e=>e[j]?) = some x → (ds[i]?).bind (fun e=>e[j]?) = some y → Cv S L x y) : Cv S L (.own b gen lo len) (.sl ds)
 | ptr (b off : Nat) (cs : List V) (ds : List D) (hb : S b) (hL : L[b]? = some (.cells cs)) (hlen : (cs.drop off).length = ds.length)
   (hrec : ∀ (j : Nat) (x : V) (y : D),(cs.drop off)[j]? = some x → ds[j]? = some y → Cv S L x y) : Cv S L (.ptr b off) (.rptr ds)
 | fn (f : FuncId) (caps : List V) (ds : List D) (hlen : caps.length = ds.length) (hrec : ∀ (j : Nat) (x : V) (y : D),caps[j]? = some x → ds[j]? = some y → Cv S L x y) : Cv S L (.fn f caps) (.fn f ds)
theorem Cv.row {S : Nat → Prop} {b gen lo len sz : Nat} {els : List (List V)} (ds : List (List D)) (hb : S b) (hL : L[b]? = some (.row gen sz els)) (he : (els.drop lo).take len = ds.map (·.map .d)) (hl : len = ds.length)
  (hrow : ∀ e ∈ ds,e.length = sz) : Cv S L (.own b gen lo len) (.sl ds):=by
 refine .own b gen lo len sz els ds hb hL (by rw [he]; simp) hl hrow (fun i j x y hx hy=>?_)
 rw [he,List.getElem?_map] at hx
 cases e : ds[i]? with
 | none=>rw [e] at hy; cases hy
 | some d =>
  rw [e] at hx hy
  simp only [Option.map_some,Option.bind_some,List.getElem?_map] at hx hy
  rw [hy] at hx
  cases hx
  exact .d y
theorem Cv.rd {S : Nat → Prop} (hg : Good g w L) {I' : Nat → Prop} (hI : ∀ q,g.I q → I' q) (hI' : ∀ b q,S b → live L b → g.m b = some q → I' q) {x : V} {y : D} (h : Cv S L x y) : ∀ {v : Value},RV g w L x v → RD I' w y v:=by
 induction h with
 | d x=>intro v hv; cases hv with | d _ _ hd=>exact hd.mono hI (fun _ _ _ h=>h)
 | nil=>intro v hv; cases hv; exact .slNil _ _
 | tt=>intro v hv; cases hv; exact .bool _
 | ff=>intro v hv; cases hv; exact .bool _
 | clp els=>intro v hv; cases hv with | clp _ a hd=>exact hd.mono hI (fun _ _ _ h=>h)
 | own b gen lo len sz els ds hb hL hlen hl hrow hrec ih =>
  intro v hv
  obtain ⟨hsz0,hels,hr⟩:=hg.blk b _ hL
  cases hv with
  | ownX _ _ _ _ a c hL'=>rw [hL] at hL'; cases hL'
  | ownO _ _ gen2 _ _ _ _ a c hL' hg'=>rw [hL] at hL'; cases hL'; omega
  | ownN _ _ _ _ hL' hm' =>
   have : ds = []:=List.eq_nil_of_length_eq_zero hl.symm
   subst this
   exact .slNil _ _
  | own _ _ _ _ sz' r o c els' hL' hm ho hcap hlc hle =>
   rw [hL] at hL'; cases hL'
   rcases hr with ⟨hm',_⟩ | ⟨r',cur,T,hm',hh,hcapg,hbig,hone,hrc⟩
   ·rw [hm] at hm'; cases hm'
   rw [hm] at hm'; cases hm'
   subst hl
   rcases Nat.eq_zero_or_pos ds.length with h0 | hpos
   ·have : ds = []:=List.eq_nil_of_length_eq_zero h0
    subst this
    exact .slNil _ _
   ·have ho' : o = lo * sz:=by rcases ho with h0 | h0 <;> omega
    subst ho'
    have hcell : ∀ i j,i < ds.length → j < sz → ∃ u,cur[lo * sz + (i * sz + j)]? = some u:=by
     intro i j hi hj
     have : lo * sz + (i * sz + j) < cur.size:=by
      have h1:=Nat.mul_le_mul_right sz (show lo + i + 1 ≤ els.length by omega)
      rw [Nat.succ_mul,Nat.add_mul] at h1; omega
     exact ⟨_,Array.getElem?_eq_getElem this⟩
    refine .sl ds ⟨r,lo * sz,none⟩ c sz (fun i j=>(cur[lo * sz + (i * sz + j)]?).getD undef) hrow (fun i j hi hj=>?_) (hI' b r hb ⟨_,hL,by simp⟩ hm) hlc.1 (fun i j y hy=>?_)
    ·obtain ⟨u,hu⟩:=hcell i j hi hj
     rw [Addr.add_lit,cell_row hh,hu]; rfl
    ·have hi : i < ds.length:=by
      rcases Nat.lt_or_ge i ds.length with h' | h'
      ·exact h'
      ·rw [List.getElem?_eq_none h'] at hy; cases hy
     have hj : j < sz:=by
      cases e : ds[i]? with
      | none=>rw [e] at hy; cases hy
      | some d=>rw [e] at hy; have:=lt_of_get (L:=d) (by simpa using hy); have:=hrow d (List.mem_of_getElem? e); omega
     obtain ⟨u,hu⟩:=hcell i j hi hj
     rw [hu]
     have hi2 : lo + i < els.length:=by omega
     have hel:=hels _ (List.getElem_mem hi2)
     have hx : (((els.drop lo).take ds.length)[i]?).bind (fun e=>e[j]?) = some ((els[lo + i])[j]'(by omega)):=by
      rw [List.getElem?_take,if_pos hi,List.getElem?_drop,List.getElem?_eq_getElem hi2]
      simp
     refine ih i j _ y hx hy (hrc (lo + i) j _ u ?_ ?_)
     ·rw [List.getElem?_eq_getElem hi2]; simp
     ·rw [Nat.add_mul,Nat.add_assoc]; exact hu
 | ptr b off cs ds hb hL hlen hrec ih =>
  intro v hv
  obtain ⟨r,cur,T,hm,hh,hsz,hone,hrc⟩:=hg.blk b _ hL
  cases hv with
  | ptrX _ _ a hL'=>rw [hL] at hL'; cases hL'
  | ptr _ _ r' cs' hL' hm' =>
   rw [hm] at hm'; cases hm'
   simp at hlen
   refine .rptr ds ⟨r,off,none⟩ (fun j=>(cur[off + j]?).getD undef) (fun j hj=>?_) (hI' b r hb ⟨_,hL,by simp⟩ hm) (fun j y hy=>?_)
   ·rw [Addr.add_lit,cell_row hh,Array.getElem?_eq_getElem (by omega)]; rfl
   ·have hj:=lt_of_get hy
    rw [Array.getElem?_eq_getElem (show off + j < cur.size by omega)]
    have hx : (cs.drop off)[j]? = some (cs[off + j]'(by omega)):=by
     rw [List.getElem?_drop,List.getElem?_eq_getElem]
    exact ih j _ y hx hy (hrc (off + j) _ _ (by rw [← List.getElem?_drop]; exact hx) (Array.getElem?_eq_getElem _))
 | fn f caps ds hlen hrec ih =>
  intro v hv
  cases hv with
  | fn _ _ vs hl hr=>exact .fn f ds vs (by omega) (fun j y u hy hu=>by
    have hj:=lt_of_get hy
    have hx : caps[j]? = some (caps[j]'(by omega)):=List.getElem?_eq_getElem _
    exact ih j _ y hx hy (hr j _ u hx hu))
inductive Cw (S : Nat → Prop) (L : List Blk) : V → V → Prop
 | d {x : V} {y : D} (h : Cv S L x y) : Cw S L x (.d y)
 | agg (cs : List V) (ds : List D) (hlen : cs.length = ds.length) (h : ∀ (j : Nat) (x : V) (y : D),cs[j]? = some x → ds[j]? = some y → Cv S L x y) : Cw S L (.agg cs) (.agg (ds.map .d))
 | tup (cs : List V) (ds : List V) (hlen : cs.length = ds.length) (h : ∀ (j : Nat) (x y : V),cs[j]? = some x → ds[j]? = some y → Cw S L x y) : Cw S L (.tup cs) (.tup ds)
theorem Cw.rv {S : Nat → Prop} (hg : Good g w L) {g' : Gh} {L' : List Blk} (hI : ∀ q,g.I q → g'.I q) (hI' : ∀ b q,S b → live L b → g.m b = some q → g'.I q) {x y : V} (h : Cw S L x y) : ∀ {v : Value},RV g w L x v → RV g' w L' y v:=by
 induction h with
 | d h=>intro v hv; exact .d _ _ (h.rd hg hI hI' hv)
 | agg cs ds hlen h =>
  intro v hv
  cases hv with
  | agg _ vs hl ho hr =>
   refine .agg _ vs (by simp; omega) ho (fun j y u hy hu=>?_)
   rw [List.getElem?_map] at hy
   cases e : ds[j]? with
   | none=>rw [e] at hy; cases hy
   | some d =>
    rw [e] at hy; cases hy
    have hj:=lt_of_get e
    have hx : cs[j]? = some (cs[j]'(by omega)):=List.getElem?_eq_getElem _
    exact .d _ _ ((h j _ d hx e).rd hg hI hI' (hr j _ u hx hu))
 | tup cs ds hlen h ih =>
  intro v hv
  cases hv with
  | tup _ vs hl hr =>
   refine .tup ds vs (by omega) (fun j y u hy hu=>?_)
   have hj:=lt_of_get hy
   have hx : cs[j]? = some (cs[j]'(by omega)):=List.getElem?_eq_getElem _
   exact ih j _ y hx hy (hr j _ u hx hu)
def RetW (k : Nat) (X : V) (L : List Blk) (X' : V) (L' : List Blk) : Prop :=
 ∀ (g : Gh) (w : World) (v : Value),Good g w L → k ≤ L.length → RV g w L X v → ∃ g',Good g' w L' ∧ RV g' w L' X' v ∧ Prog k g w L g' w L'
@[irreducible] def FinP (k0 : Nat) (X : V) (L : List Blk) (k : V → List Blk → Prop) : Prop:=∃ X' L',RetW k0 X L X' L' ∧ k X' L'
theorem FinP.same {k0 : Nat} {X : V} {k : V → List Blk → Prop} (h : k X L) : FinP k0 X L k:=by
 unfold FinP; exact ⟨X,L,fun g w v hg _ hv=>⟨g,hg,hv,Prog.refl _ _ _ _⟩,h⟩
theorem FinP.drop {k0 n : Nat} {X : V} {L' : List Blk} {k : V → List Blk → Prop} (hL : L.take n = L') (hk : k0 ≤ n) (hX : X.bel n = true) (hB : belB n L' = true) (h : k X L') : FinP k0 X L k:=by
 unfold FinP
 subst hL
 refine ⟨X,L.take n,fun g w v hg hk0 hv=>?_,h⟩
 rcases Nat.lt_or_ge L.length n with hlt | hn
 ·rw [List.take_of_length_le (by omega)]
  exact ⟨g,hg,hv,Prog.refl _ _ _ _⟩
 ·obtain ⟨hmono,hgood⟩:=drop_good hg hB g.I (fun _ h=>h) (fun _ h=>.inl h)
  exact ⟨_,hgood,hmono _ _ hX hv,drop_prog hg hk hB hn g.I (fun _ h=>h) (fun _ h=>.inl h)⟩
theorem FinP.data {k0 : Nat} {X Y : V} {L' : List Blk} {k : V → List Blk → Prop} (hc : Cw (k0 ≤ ·) L X Y) (hL : L.take k0 = L') (hB : belB k0 L' = true) (h : k Y L') : FinP k0 X L k:=by
 unfold FinP
 subst hL
 refine ⟨Y,L.take k0,fun g w v hg hk0 hv=>?_,h⟩
 have hI : ∀ q,g.I q → (g.I q ∨ ∃ b,k0 ≤ b ∧ live L b ∧ g.m b = some q):=fun q h=>.inl h
 obtain ⟨hmono,hgood⟩:=drop_good hg hB (fun q=>g.I q ∨ ∃ b,k0 ≤ b ∧ live L b ∧ g.m b = some q) hI (fun _ h=>h)
 exact ⟨_,hgood,hc.rv hg (g':={ g with I:=fun q=>g.I q ∨ ∃ b,k0 ≤ b ∧ live L b ∧ g.m b = some q }) hI (fun b q h1 h2 h3=>.inr ⟨b,h1,h2,h3⟩) hv,
  drop_prog hg (Nat.le_refl _) hB hk0 _ hI (fun _ h=>h)⟩
end
end Go.Tidy
/-
 The base layer: the entry of a function; rounds.
-/
namespace Go.Tidy
def initFr : Nat → List V → List (Nat × V)
 | _,[]=>[]
 | i,x :: r=>(i,x) :: initFr (i + 1) r
def vResults (C : Ctx) (fr : List (Nat × V)) (L : List Blk) : List ResultVar → (List V → Prop) → Prop
 | [],k=>k []
 | .tmp t :: r,k=>vResults C fr L r fun xs=>k (norm (look fr t) :: xs)
 | .cell a t :: r,k=>vLoad C t (look fr a) L fun x=>vResults C fr L r fun xs=>k (x :: xs)
def resV : List V → V
 | [x]=>x
 | xs=>.tup xs
def killAll (df : List Nat) (L : List Blk) : List Blk:=df.foldl (fun L b=>L.set b .dead) L
def vRet (C : Ctx) (k0 : Nat) (rs : List ResultVar) (σ : TS) (k : V → List Blk → Prop) : Prop :=
 vResults C σ.fr (killAll σ.df σ.L) rs fun xs=>FinP k0 (resV xs) (killAll σ.df σ.L) k
section
variable {C : Ctx} {g : Gh} {w : World} {L : List Blk} {r : Option Nat}
theorem look_init : ∀ (xs : List V) (n i : Nat),look (initFr n xs) i = if n ≤ i then (xs[i - n]?).getD .poison else .poison
 | [],n,i=>by simp [initFr,look]
 | x :: xs,n,i=>by
  simp only [initFr]
  rw [look_cons,look_init xs (n + 1) i]
  by_cases h : n = i
  ·subst h; simp
  ·rw [if_neg h]
   by_cases h2 : n ≤ i
   ·rw [if_pos h2,if_pos (by omega)]
    have : i - n = (i - (n + 1)) + 1:=by omega
    rw [this]; simp
   ·rw [if_neg h2,if_neg (by omega)]
theorem init_frame {xs : List V} {vs : Array Value} (h : RVs g w L xs vs) (n : Nat) : ∀ i,RV g w L (look (initFr 0 xs) i) ((vs ++ Array.replicate (n - vs.size) undef).getD i undef):=by
 intro i
 rw [look_init]
 simp only [Nat.zero_le,if_true,Nat.sub_zero]
 cases e : xs[i]? with
 | none=>exact .poison _
 | some x =>
  have hi:=lt_of_get e
  have hv : vs[i]? = some (vs[i]'(by rw [← h.1]; exact hi)):=Array.getElem?_eq_getElem _
  have : (vs ++ Array.replicate (n - vs.size) undef).getD i undef = vs[i]'(by rw [← h.1]; exact hi):=by
   rw [Array.getD_eq_getD_getElem?,Array.getElem?_append_left (by rw [← h.1]; exact hi),hv]; rfl
  rw [this]
  exact h.2 i x _ e hv
def resOne (tmps : Array Value) : ResultVar → Sem Value:=fun
 | .tmp t=>pure (tmps.getD t undef)
 | .cell a t=>do loadVar t (← asAddr (tmps.getD a undef))
theorem results_eq (fn : Func) (tmps : Array Value) : results fn tmps = (do
 let vs ← fn.results.mapM (resOne tmps)
 pure (if h : vs.size = 1 then vs[0] else .tuple vs)):=rfl
theorem vResults_ok (hC : C.OK) {fr : List (Nat × V)} {tmps : Array Value} (hfr : ∀ i,RV g w L (look fr i) (tmps.getD i undef)) (hg : Good g w L) : ∀ (rs : List ResultVar) (k : List V → Prop),vResults C fr L rs k →
  ∃ vs xs,(rs.mapM (resOne tmps)).run C.P w = .ok vs w ∧ k xs ∧ xs.length = vs.length ∧ ∀ (j : Nat) (x : V) (v : Value),xs[j]? = some x → vs[j]? = some v → RV g w L x v
 | [],k,h=>⟨[],[],by simp,by simpa [vResults] using h,rfl,fun j x v h _=>by simp at h⟩
 | .tmp t :: rs,k,h=>by
  simp only [vResults] at h
  obtain ⟨vs,xs,h1,h2,h3,h4⟩:=vResults_ok hC hfr hg rs _ h
  refine ⟨tmps.getD t undef :: vs,norm (look fr t) :: xs,?_,h2,by simp [h3],fun j x v hx hv=>?_⟩
  ·rw [List.mapM_cons]
   simp only [resOne,Sem.run_bind,Sem.run_pure,Result.andThen_ok]
   rw [show (rs.mapM (resOne tmps)).run C.P w = _ from h1]
   rfl
  ·cases j with
   | zero=>simp only [List.getElem?_cons_zero,Option.some.injEq] at hx hv; subst hx hv; exact norm_ok (hfr t)
   | succ j=>exact h4 j x v (by simpa using hx) (by simpa using hv)
 | .cell a t :: rs,k,h=>by
  simp only [vResults] at h
  obtain ⟨rv,X,hr,hk,hX⟩:=vLoad_ok hC hg (hfr a) h
  obtain ⟨vs,xs,h1,h2,h3,h4⟩:=vResults_ok hC hfr hg rs _ hk
  have hr' : (resOne tmps (.cell a t)).run C.P w = .ok rv w:=by
   unfold Instr.loadAt Instr.sureAddr at hr
   cases hv : tmps.getD a undef <;> rw [hv] at hr
   case pointer p=>cases p with
    | none=>simp at hr
    | some p=>simpa [resOne,hv,asAddr] using hr
   all_goals simp at hr
  refine ⟨rv :: vs,X :: xs,?_,h2,by simp [h3],fun j x v hx hv=>?_⟩
  ·rw [List.mapM_cons]
   rw [Sem.run_bind,hr']
   simp only [Sem.run_bind,Sem.run_pure,Result.andThen_ok]
   rw [show (rs.mapM (resOne tmps)).run C.P w = _ from h1]
   rfl
  ·cases j with
   | zero=>simp only [List.getElem?_cons_zero,Option.some.injEq] at hx hv; subst hx hv; exact hX
   | succ j=>exact h4 j x v (by simpa using hx) (by simpa using hv)
theorem results_ok (hC : C.OK) {fn : Func} {fr : List (Nat × V)} {tmps : Array Value} (hfr : ∀ i,RV g w L (look fr i) (tmps.getD i undef)) (hg : Good g w L) {k : List V → Prop} (h : vResults C fr L fn.results.toList k) :
  ∃ v xs,(results fn tmps).run C.P w = .ok v w ∧ k xs ∧ RV g w L (resV xs) v:=by
 obtain ⟨vs,xs,h1,h2,h3,h4⟩:=vResults_ok hC hfr hg _ k h
 have hrun : (results fn tmps).run C.P w = .ok (if h : vs.toArray.size = 1 then vs.toArray[0] else .tuple vs.toArray) w:=by
  rw [results_eq,Array.mapM_eq_mapM_toList]
  simp only [Sem.run_bind,Sem.run_map,h1,Result.andThen_ok,Sem.run_pure]
 refine ⟨_,xs,hrun,h2,?_⟩
 match xs,vs,h3,h4 with
 | [],[],_,_=>exact .tup [] #[] rfl (fun j x v h _=>by simp at h)
 | [x],[v],_,h4=>simpa [resV] using h4 0 x v rfl rfl
 | x :: y :: xs,v :: u :: vs,h3,h4 =>
  have e : (if h : (v :: u :: vs).toArray.size = 1 then (v :: u :: vs).toArray[0] else Value.tuple (v :: u :: vs).toArray) = .tuple (v :: u :: vs).toArray:=by
   rw [dif_neg (by simp)]
  rw [e]
  exact .tup _ _ (by simpa using h3) (fun j x v hx hv=>h4 j x v hx (by simpa using hv))
theorem marks_ok (hC : C.OK) {k0 : Nat} {fn : Func} {tmps : Array Value} {n : Nat} {R : Ending → World → Prop} {fr : List (Nat × V)} : ∀ (df : List Nat) (ds : List Deferred) (g : Gh) (w : World) (L : List Blk),ds.length = df.length →
  (∀ (i b : Nat) (d : Deferred),df[i]? = some b → ds[i]? = some d → ∃ q,g.m b = some q ∧ d = { target:=.collected q,args:=#[] } ∧ L[b]? = some .defr) → df.Nodup → (∀ b ∈ df,k0 ≤ b) →
  (∀ i,RV g w L (look fr i) (tmps.getD i undef)) → Good g w L → k0 ≤ L.length →
  (∀ (b : Nat) (l : LoopR),L[b]? = some (Blk.loop l) → l.df ∉ df) →
  (∀ g' w',(∀ i,RV g' w' (killAll df L) (look fr i) (tmps.getD i undef)) → Good g' w' (killAll df L) → Prog k0 g w L g' w' (killAll df L) → ∃ v,(results fn tmps).run C.P w' = .ok v w' ∧ R (.returned v) w') →
  LeavesInM Fence.wide n C.P fn tmps R ds .returning w
 | [],[],g,w,L,_,_,_,_,hfr,hg,_,_,hfin=>by
  have:=hfin g w hfr hg (Prog.refl _ _ _ _)
  simpa [LeavesInM,LeavesIn,killAll] using this
 | [],d :: ds,_,_,_,h,_,_,_,_,_,_,_,_=>by simp at h
 | b :: df,[],_,_,_,h,_,_,_,_,_,_,_,_=>by simp at h
 | b :: df,d :: ds,g,w,L,hlen,hds,hnd,hk,hfr,hg,hkl,hlp,hfin=>by
  obtain ⟨q,h1,h2,h3⟩:=hds 0 b d rfl rfl
  subst h2
  obtain ⟨q',h4,h5⟩:=hg.blk b _ h3
  rw [h1] at h4; cases h4
  rw [List.nodup_cons] at hnd
  refine ⟨by simp,.inl ⟨q,_,rfl,run_takeDeferred h5,?_⟩⟩
  have hbl:=lt_of_get h3
  have hkb:=hk b (by simp)
  -- the block for deferred calls is shut
  have hdead : (L.set b .dead)[b]? = some .dead:=List.getElem?_set_self hbl
  have hother : ∀ b',b' ≠ b → (L.set b .dead)[b']? = L[b']?:=fun b' e=>List.getElem?_set_ne (Ne.symm e)
  have hown : owned g L q:=⟨b,⟨_,h3,by simp⟩,h1⟩
  have hcell : ∀ (a : Addr) (v : Value),g.I a.block → w.cell? a = some v → (w.putObj q (.deferred none)).cell? a = some v:=fun a v hI hc=>by
   rw [World.cell?_of_block (w:=w)]
   ·exact hc
   ·exact World.putObj_heap_other (fun e=>hg.dis q hown (e ▸ hI))
  have hkeep : ∀ b',Keep g L g (L.set b .dead) b':=fun b'=>by
   by_cases e : b' = b
   ·subst e
    exact ⟨fun cs' e=>(by rw [h3] at e; cases e),fun gen1 sz1 els1 e=>(by rw [h3] at e; cases e),fun es e=>(by rw [h3] at e; cases e),fun l e=>(by rw [h3] at e; cases e),fun e=>(by rw [h3] at e; cases e)⟩
   ·exact Keep.same (hother b' e) rfl rfl
  have hmono : ∀ (x : V) (v : Value),RV g w L x v → RV g (w.putObj q (.deferred none)) (L.set b .dead) x v:=fun x v hx =>
   RV.mono (g:=g) (g':=g) (fun _ h=>h) hcell (fun b' _=>hkeep b') hx.bel hx
  have hlive : ∀ b',live (L.set b .dead) b' → b' ≠ b ∧ live L b':=by
   rintro b' ⟨k,hk,hd⟩
   have : b' ≠ b:=fun e=>by rw [e,hdead] at hk; cases hk; exact hd rfl
   exact ⟨this,k,by rw [← hother b' this]; exact hk,hd⟩
  have hg' : Good g (w.putObj q (.deferred none)) (L.set b .dead):=by
   refine ⟨fun b1 b2 r l1 l2=>hg.inj b1 b2 r (hlive b1 l1).2 (hlive b2 l2).2,?_,fun r hr=>by simpa using hg.lt r hr,?_,hg.gl.mono (fun _ h=>h) hcell⟩
   ·rintro r ⟨b1,l1,hm1⟩; exact hg.dis r ⟨b1,(hlive b1 l1).2,hm1⟩
   ·intro b1 k hk1
    by_cases e : b1 = b
    ·subst e; rw [hdead] at hk1; cases hk1; trivial
    ·rw [hother b1 e] at hk1
     by_cases hd : k = .dead
     ·subst hd; trivial
     ·refine RB.mono' hmono rfl rfl (fun r o hm1 ho=>?_) (fun l hl=>?_) (hg.blk b1 k hk1)
      ·rw [World.putObj_heap_other (fun e2=>e (hg.inj b1 b r ⟨k,hk1,hd⟩ ⟨_,h3,by simp⟩ hm1 (by rw [e2]; exact h1)))]; exact ho
      ·subst hl
       have hne : l.df ≠ b:=fun e2=>hlp b1 l hk1 (by rw [e2]; simp)
       exact ⟨rfl,fun h=>by rw [hother _ hne]; exact h⟩
  have hp : Prog k0 g w L g (w.putObj q (.deferred none)) (L.set b .dead):=by
   refine ⟨⟨rfl,rfl,rfl⟩,by simp,fun r o ho hn=>?_,fun r ⟨b1,l1,hm1⟩ _=>⟨b1,(hlive b1 l1).2,hm1⟩,fun r h=>.inl h,fun r h=>h,fun x v _ hx=>hmono x v hx,fun b1 r hb1 hL1 hm1=>⟨?_,hm1⟩,fun _=>by simpa using hkl⟩
   ·rw [World.putObj_heap_other (fun e=>hn (by rw [e]; exact hown))]; exact ho
   ·rw [hother b1 (by omega)]; exact hL1
  refine marks_ok hC df ds g _ (L.set b .dead) (by simpa using hlen) (fun i b' d hb' hd'=>?_) hnd.2 (fun b' hb'=>hk b' (by simp [hb'])) (fun i=>hmono _ _ (hfr i)) hg' (by simpa using hkl) (fun b1 l hl=>?_) (fun g' w' f1 f2 f3=>hfin g' w' f1 f2 (hp.trans f3))
  ·obtain ⟨q2,e1,e2,e3⟩:=hds (i + 1) b' d (by simpa using hb') (by simpa using hd')
   have : b' ≠ b:=fun e=>hnd.1 (by rw [← e]; exact List.mem_of_getElem? hb')
   exact ⟨q2,e1,e2,by rw [hother b' this]; exact e3⟩
  ·by_cases e : b1 = b
   ·subst e; rw [hdead] at hl; cases hl
   ·rw [hother b1 e] at hl
    exact fun hmem=>hlp b1 l hl (by simp [hmem])
theorem marks_pan {k0 : Nat} {fn : Func} {tmps : Array Value} {n : Nat} {R : Ending → World → Prop} {chain : List PanicEntry} {v : Value} {X : V} {g0 : Gh} {w0 : World} {L0 L' : List Blk} {g' : Gh} : ∀ (ds : List Deferred) (w : World),ds.Nodup →
  (∀ d ∈ ds,∃ q,d = { target:=.collected q,args:=#[] } ∧ w.heap[q]? = some (.deferred (some [])) ∧ ¬ g'.I q ∧ ¬ owned g' L' q ∧ w0.heap.size ≤ q) → Good g0 w0 L0 → PanS C k0 g0 w0 L0 v X L' g' w →
  (∀ w',PanS C k0 g0 w0 L0 v X L' g' w' → R (.panicked chain) w') → LeavesInM Fence.wide n C.P fn tmps R ds (.panicking chain) w
 | [],w,_,_,_,hS,hfin=>by simpa [LeavesInM,LeavesIn] using hfin w hS
 | d :: ds,w,hnd,hd,hg0,hS,hfin=>by
  obtain ⟨q,rfl,h1,h2,h3,h4⟩:=hd d (by simp)
  rw [List.nodup_cons] at hnd
  refine ⟨by simp,.inl ⟨q,_,rfl,run_takeDeferred h1,?_⟩⟩
  have hcell : ∀ (a : Addr) (v : Value),g'.I a.block → w.cell? a = some v → (w.putObj q (.deferred none)).cell? a = some v:=fun a v hI hc=>by
   rw [World.cell?_of_block (w:=w)]
   ·exact hc
   ·exact World.putObj_heap_other (fun e=>h2 (e ▸ hI))
  have hmono : ∀ (x : V) (v : Value),RV g' w L' x v → RV g' (w.putObj q (.deferred none)) L' x v:=fun x v hx =>
   RV.mono (g:=g') (g':=g') (fun _ h=>h) hcell (fun b' _=>Keep.refl _ _ _) hx.bel hx
  have hgood : Good g' (w.putObj q (.deferred none)) L':=by
   refine ⟨hS.good.inj,hS.good.dis,fun r hr=>by simpa using hS.good.lt r hr,fun b k hb=>?_,hS.good.gl.mono (fun _ h=>h) hcell⟩
   by_cases hdead : k = .dead
   ·subst hdead; trivial
   ·refine RB.mono' hmono rfl rfl (fun r o hm ho=>?_) (fun l _=>⟨rfl,fun h=>h⟩) (hS.good.blk b k hb)
    rw [World.putObj_heap_other (fun e=>h3 ⟨b,⟨k,hb,hdead⟩,by rw [← e]; exact hm⟩)]; exact ho
  have hprog : Prog C.pn g0 w0 L0 g' (w.putObj q (.deferred none)) L':=by
   refine ⟨hS.prog.env,by simpa using hS.prog.size,fun r o ho hn=>?_,hS.prog.own,hS.prog.imm,hS.prog.immk,fun x v hb hx=>hmono _ _ (hS.prog.mono x v hb hx),hS.prog.defr,hS.prog.len⟩
   have hr:=(Array.getElem?_eq_some_iff.1 ho).1
   rw [World.putObj_heap_other (fun e=>by omega)]
   exact hS.prog.kept r o ho hn
  refine marks_pan ds _ hnd.2 (fun d hd'=>?_) hg0 ⟨hS.pan,hS.hpn,hmono _ _ hS.rv,hgood,hprog,fun b p hb hL hm=>?_⟩ hfin
  ·obtain ⟨p,e1,e2,e3,e4,e5⟩:=hd d (by simp [hd'])
   refine ⟨p,e1,?_,e3,e4,e5⟩
   rw [World.putObj_heap_other (fun e=>hnd.1 (by rw [← e,← e1]; exact hd'))]; exact e2
  ·obtain ⟨e1,e2⟩:=hS.df b p hb hL hm
   refine ⟨?_,e2⟩
   have hp:=hg0.owned_lt ⟨b,⟨_,hL,by simp⟩,hm⟩
   rw [World.putObj_heap_other (fun e=>by omega)]; exact e1
def noLoop (L : List Blk) : Bool:=L.all fun k=>match k with | .loop _=>false | _=>true
def vEnd (C : Ctx) (k0 : Nat) (rs : List ResultVar) (k : V → List Blk → Prop) (e : Exit) (σ : TS) : Prop :=
 match e with
 | .normal | .ret=>match σ.df with
  | []=>vRet C k0 rs σ k
  | _=>bif noLoop σ.L && σ.df.all (fun b=>decide (k0 ≤ b)) && decide σ.df.Nodup then vRet C k0 rs σ k else False
 | _=>False
theorem calls_of_wpV {P : Program} {f : FuncId} {fn : Func} {c : Code} {args : Array Value} {R : Ending → World → Prop} (hf : P.funcs[f]? = some fn) (hb : fn.body = some c)
  (h : wpV none P c (bodyPostM Fence.wide 0 P fn R) { tmps:=args ++ Array.replicate (fn.ntmps - args.size) undef,defers:=[] } w) : Calls P f args w R:=by
 intro cs
 obtain ⟨b,hbd⟩ : ∃ b : Frame,b = { (default : Frame) with fn:=f,kind:=.normal,roundOf:=none }:=⟨_,rfl⟩
 have hbf : b.fn = f:=by rw [hbd]
 have hbk : b.kind = .normal:=by rw [hbd]
 have hbr : b.roundOf = none:=by rw [hbd]
 have henter : Frame.enter P f args .normal = b.atR { tmps:=args ++ Array.replicate (fn.ntmps - args.size) undef,defers:=[] } [.code c]:=by
  rw [hbd]; simp [Frame.enter,Frame.atR,hf,hb]
 obtain ⟨e,a',w',hq,hs⟩:=h b [] cs hbr ⟨fn,by rw [hbf]; exact hf⟩
 rw [← henter] at hs
 have go : ∀ (u : FrameMode) (todo : List Item),StepsIn (Machine.fenced P (Fx none)) P (lone (Frame.enter P f args .normal) cs w) (lone { b.atR a' todo with mode:=u } cs w') → LeavesInM Fence.wide 0 P fn a'.tmps R a'.defers u w' →
   ∃ e w' fr,R e w' ∧ Comes P (lone (Frame.enter P f args .normal) cs w) (lone fr cs w') e ∧ fr.fn = f ∧ fr.leaving P w' e:=by
  intro u todo s hl
  obtain ⟨e2,w2,fr2,hR,hs2,hfn,hlv⟩:=leaves_stepsInM a'.defers u w' { b.atR a' todo with mode:=u } cs rfl rfl rfl (by simpa [Frame.atR,hbf] using hf) (by simpa [Frame.atR] using hbk) trivial (room_wide _) hl
  exact ⟨e2,w2,fr2,hR,Comes.of_steps s.steps hs2.comes,hfn.trans (by simpa [Frame.atR] using hbf),hlv⟩
 cases e with
 | normal=>exact go .returning [] (StepsIn.trans hs (.one (fenced_Fx P _) (stepR_end hbr))) hq
 | ret=>obtain ⟨todo,s⟩:=hs.1 hbr; exact go .returning todo s hq
 | panic ch=>obtain ⟨todo,s⟩:=hs; exact go (.panicking ch) todo s hq
 | exit id=>exact hq.elim
 | goto l=>exact hq.elim
 | outgrown=>exact ⟨.outgrown,w',b,hq,hs.resolve_left (by rw [hbk]; simp),hbf,trivial⟩
theorem callP_cut (cut : Code → Bool) {f : FuncId} {fn : Func} {c : Code} {args : List V} {k : V → List Blk → Prop} (hC : C.OK) (hf : C.P.funcs[f]? = some fn) (hb : fn.body = some c) (hname : (fn.name == "runtime.NumGoroutine") = false) {n : Nat} (hn : fn.ntmps = n) (ha : args.length ≤ n)
  {rs : List ResultVar} (hr : fn.results.toList = rs) (h : vc C cut L.length c ⟨initFr 0 args,n,L,[],none⟩ (vEnd C L.length rs k)) (hpn : C.pn ≤ L.length:=by exact Nat.zero_le _) : CallP C f args L k:=by
 unfold CallP
 refine ⟨⟨fn,hf,by rw [hb]; rfl,hname⟩,fun g w vs hg hv=>?_⟩
 refine calls_of_wpV hf hb ?_
 have hs : St L.length none g ⟨initFr 0 args,n,L,[],none⟩ { tmps:=vs ++ Array.replicate (fn.ntmps - vs.size) undef,defers:=[] } w:=by
  refine ⟨?_,by rw [hn]; exact init_frame hv n,hg,Nat.le_refl _,rfl,fun i b d hb _=>(by simp at hb),fun lb h=>(by cases h),fun _=>rfl⟩
  have:=hv.1
  simp [hn]; omega
 have hwp:=vc_ok (r:=none) hC hpn c _ _ g _ w h hs
 refine wpV_mono hwp ?_
 rintro e a' w' ⟨⟨σ',g',hq,hs',hp⟩ | ⟨v,X,L',g',rfl,hS,hi⟩,hnew,-⟩
 rotate_left
 ·refine marks_pan a'.defers w' (hnew.2 List.nodup_nil) (fun d hd=>?_) hg hS (fun w2 hS2=>.inr ⟨v,X,L',g',rfl,hS2⟩)
  obtain ⟨q,h1,h2,h3,h4⟩:=hi d hd
  refine ⟨q,h1,h2,h3,h4,?_⟩
  rcases hnew.1 d hd with h5 | ⟨q',h5,h6⟩
  ·simp at h5
  ·rw [h1] at h5; cases h5; exact h6
 have fin : (e = .normal ∨ e = .ret) → LeavesInM Fence.wide 0 C.P fn a'.tmps (fun e w'=>(∃ v X L' g',e = .returned v ∧ k X L' ∧ RV g' w' L' X v ∧ Good g' w' L' ∧ Prog L.length g w L g' w' L') ∨ PanO C g w L e w') a'.defers .returning w':=by
  intro he
  have key : vRet C L.length rs σ' k ∧ (σ'.df = [] ∨ noLoop σ'.L = true ∧ σ'.df.all (fun b=>decide (L.length ≤ b)) = true ∧ σ'.df.Nodup):=by
   have hq' : match σ'.df with
    | []=>vRet C L.length rs σ' k
    | _=>bif noLoop σ'.L && σ'.df.all (fun b=>decide (L.length ≤ b)) && decide σ'.df.Nodup then vRet C L.length rs σ' k else False:=by
    rcases he with rfl | rfl <;> exact hq
   cases hd : σ'.df with
   | nil=>rw [hd] at hq'; exact ⟨hq',.inl rfl⟩
   | cons b df =>
    rw [hd] at hq'
    simp only at hq'
    cases hc : (noLoop σ'.L && (b :: df).all (fun b=>decide (L.length ≤ b)) && decide (b :: df).Nodup) with
    | false=>rw [hc] at hq'; exact hq'.elim
    | true =>
     rw [hc] at hq'
     rw [Bool.and_eq_true,Bool.and_eq_true] at hc
     exact ⟨hq',.inr ⟨hc.1.1,hc.1.2,of_decide_eq_true hc.2⟩⟩
  obtain ⟨hret,hdfc⟩:=key
  refine marks_ok hC (k0:=L.length) σ'.df a'.defers g' w' σ'.L hs'.df hs'.dfs ?_ ?_ hs'.fr hs'.good hs'.k ?_ ?_
  ·rcases hdfc with h | h
   ·rw [h]; exact List.nodup_nil
   ·exact h.2.2
  ·rcases hdfc with h | h
   ·rw [h]; simp
   ·intro b hb
    have:=h.2.1
    rw [List.all_eq_true] at this
    exact of_decide_eq_true (this b hb)
  ·rcases hdfc with h | h
   ·intro b l _; rw [h]; simp
   ·intro b l hl
    have:=h.1
    unfold noLoop at this
    rw [List.all_eq_true] at this
    have:=this _ (List.mem_of_getElem? hl)
    simp at this
  ·intro g2 w2 f1 f2 f3
   unfold vRet at hret
   rw [← hr] at hret
   obtain ⟨v,xs,r1,r2,r3⟩:=results_ok hC f1 f2 hret
   unfold FinP at r2
   obtain ⟨X',L',hW,hk⟩:=r2
   have hlen:=(hp.trans f3).len (Nat.le_refl _)
   obtain ⟨g3,t1,t2,t3⟩:=hW g2 w2 v f2 hlen r3
   exact ⟨v,r1,.inl ⟨v,X',L',g3,rfl,hk,t2,t1,(hp.trans f3).trans t3⟩⟩
 cases e with
 | normal=>exact fin (.inl rfl)
 | ret=>exact fin (.inr rfl)
 | exit id=>exact hq.elim
 | goto l=>exact hq.elim
 | panic ch=>exact hq.elim
 | outgrown=>exact hq.elim
theorem callP_of {f : FuncId} {fn : Func} {c : Code} {args : List V} {k : V → List Blk → Prop} (hC : C.OK) (hf : C.P.funcs[f]? = some fn) (hb : fn.body = some c) (hname : (fn.name == "runtime.NumGoroutine") = false) {n : Nat} (hn : fn.ntmps = n) (ha : args.length ≤ n)
  {rs : List ResultVar} (hr : fn.results.toList = rs) (h : vc C (fun _=>false) L.length c ⟨initFr 0 args,n,L,[],none⟩ (vEnd C L.length rs k)) (hpn : C.pn ≤ L.length:=by exact Nat.zero_le _) : CallP C f args L k:=callP_cut _ hC hf hb hname hn ha hr h hpn
end
end Go.Tidy
/-
 The base layer: a call's contract under the empty memory holds under every memory.
-/
namespace Go.Tidy
mutual
def V.sh (n : Nat) : V → V
 | .own b g lo len=>.own (b + n) g lo len
 | .ptr b off=>.ptr (b + n) off
 | .eptr b g i off=>.eptr (b + n) g i off
 | .map b=>.map (b + n)
 | .yld b=>.yld (b + n)
 | .fn f caps=>.fn f (V.shL n caps)
 | .iface t x=>.iface t (V.sh n x)
 | .agg cs=>.agg (V.shL n cs)
 | .tup cs=>.tup (V.shL n cs)
 | .poison=>.poison
 | .tt=>.tt
 | .ff=>.ff
 | .d x=>.d x
 | .nil=>.nil
 | .glob k=>.glob k
 | .clp els=>.clp els
def V.shL (n : Nat) : List V → List V
 | []=>[]
 | x :: r=>V.sh n x :: V.shL n r
end
def shF (n : Nat) : List (Nat × V) → List (Nat × V)
 | []=>[]
 | p :: r=>(p.1,p.2.sh n) :: shF n r
def shM (n : Nat) : List (V × V) → List (V × V)
 | []=>[]
 | p :: r=>(p.1.sh n,p.2.sh n) :: shM n r
def shR (n : Nat) : List (List V) → List (List V)
 | []=>[]
 | p :: r=>V.shL n p :: shR n r
def Blk.sh (n : Nat) : Blk → Blk
 | .cells cs=>.cells (V.shL n cs)
 | .row g sz els=>.row g sz (shR n els)
 | .map es=>.map (shM n es)
 | .loop l=>.loop { l with fr:=shF n l.fr,df:=l.df + n }
 | .defr=>.defr
 | .dead=>.dead
def shB (n : Nat) : List Blk → List Blk
 | []=>[]
 | p :: r=>p.sh n :: shB n r
theorem V.shL_get (n : Nat) : ∀ (cs : List V) (j : Nat),(V.shL n cs)[j]? = (cs[j]?).map (V.sh n)
 | [],j=>by simp [V.shL]
 | x :: r,0=>by simp [V.shL]
 | x :: r,j + 1=>by simp [V.shL,V.shL_get n r j]
theorem V.shL_len (n : Nat) : ∀ (cs : List V),(V.shL n cs).length = cs.length
 | []=>rfl
 | x :: r=>by simp [V.shL,V.shL_len n r]
theorem shB_get (n : Nat) : ∀ (cs : List Blk) (j : Nat),(shB n cs)[j]? = (cs[j]?).map (Blk.sh n)
 | [],j=>by simp [shB]
 | x :: r,0=>by simp [shB]
 | x :: r,j + 1=>by simp [shB,shB_get n r j]
theorem shM_get (n : Nat) : ∀ (cs : List (V × V)) (j : Nat),(shM n cs)[j]? = (cs[j]?).map fun p=>(p.1.sh n,p.2.sh n)
 | [],j=>by simp [shM]
 | x :: r,0=>by simp [shM]
 | x :: r,j + 1=>by simp [shM,shM_get n r j]
theorem shM_len (n : Nat) : ∀ (cs : List (V × V)),(shM n cs).length = cs.length
 | []=>rfl
 | x :: r=>by simp [shM,shM_len n r]
theorem shR_get (n : Nat) : ∀ (cs : List (List V)) (j : Nat),(shR n cs)[j]? = (cs[j]?).map (V.shL n)
 | [],j=>by simp [shR]
 | x :: r,0=>by simp [shR]
 | x :: r,j + 1=>by simp [shR,shR_get n r j]
theorem shR_len (n : Nat) : ∀ (cs : List (List V)),(shR n cs).length = cs.length
 | []=>rfl
 | x :: r=>by simp [shR,shR_len n r]
theorem shF_look (n : Nat) : ∀ (fr : List (Nat × V)) (i : Nat),look (shF n fr) i = (look fr i).sh n
 | [],i=>by simp [shF,look,V.sh]
 | p :: r,i=>by
  simp only [shF,look]
  cases Nat.beq p.1 i
  ·simpa using shF_look n r i
  ·rfl
def Gh.join (g : Gh) (n : Nat) (g1 : Gh) : Gh :=
 { I:=g1.I,m:=fun b=>if b < n then g.m b else g1.m (b - n),cap:=fun b=>if b < n then g.cap b else g1.cap (b - n) }
section
variable {C : Ctx} {g g1 : Gh} {w : World} {L L1 : List Blk}
theorem join_m (b : Nat) : (g.join L.length g1).m (b + L.length) = g1.m b:=by
 simp only [Gh.join,Nat.add_sub_cancel,if_neg (Nat.not_lt.2 (Nat.le_add_left L.length b))]
theorem join_cap (b : Nat) : (g.join L.length g1).cap (b + L.length) = g1.cap b:=by
 simp only [Gh.join,Nat.add_sub_cancel,if_neg (Nat.not_lt.2 (Nat.le_add_left L.length b))]
theorem join_get {k : Blk} {b : Nat} (h : L1[b]? = some k) : (L ++ shB L.length L1)[b + L.length]? = some (k.sh L.length):=by
 rw [List.getElem?_append_right (by omega),Nat.add_sub_cancel,shB_get,h]; rfl
theorem RV.sh {x : V} {v : Value} (h : RV g1 w L1 x v) : RV (g.join L.length g1) w (L ++ shB L.length L1) (x.sh L.length) v:=by
 induction h with
 | poison v=>exact .poison v
 | tt=>exact .tt
 | ff=>exact .ff
 | d x v h=>exact .d x v h
 | nil=>exact .nil
 | ptr b off r cs hL hm=>exact .ptr _ off r _ (join_get hL) ((join_m b).trans hm)
 | ptrX b off a hL=>exact .ptrX _ off a (join_get hL)
 | own b gen lo len sz r o c els hL hm ho hcap hlc hle =>
  exact .own _ gen lo len sz r o c _ (join_get hL) ((join_m b).trans hm) ho (by rw [join_cap]; exact hcap) hlc (by rw [shR_len]; exact hle)
 | ownN b gen sz els hL hm=>exact .ownN _ gen sz _ (join_get hL) ((join_m b).trans hm)
 | ownO b gen gen1 sz lo len els a c hL hg0=>exact .ownO _ gen gen1 sz lo len _ _ _ (join_get hL) hg0
 | ownX b gen lo len a c hL=>exact .ownX _ gen lo len a c (join_get hL)
 | eptr b gen i off sz r els hL hm=>exact .eptr _ gen i off sz r _ (join_get hL) ((join_m b).trans hm)
 | eptrO b gen gen1 sz i off els a hL hg0=>exact .eptrO _ gen gen1 sz i off _ _ (join_get hL) hg0
 | eptrX b gen i off a hL=>exact .eptrX _ gen i off a (join_get hL)
 | map b r es hL hm=>exact .map _ r _ (join_get hL) ((join_m b).trans hm)
 | mapX b a hL=>exact .mapX _ a (join_get hL)
 | yld b r l hL hm=>exact .yld _ r _ (join_get hL) ((join_m b).trans hm)
 | yldX b r hL=>exact .yldX _ r (join_get hL)
 | fn f caps vs hlen _ ih =>
  refine .fn f _ vs (by rw [V.shL_len]; exact hlen) fun j x v h1 h2=>?_
  rw [V.shL_get] at h1
  cases e : caps[j]? with
  | none=>rw [e] at h1; cases h1
  | some y=>rw [e] at h1; cases h1; exact ih j y v e h2
 | iface t x v _ ih=>exact .iface t _ v ih
 | agg cs vs hlen hone _ ih =>
  refine .agg _ vs (by rw [V.shL_len]; exact hlen) hone fun j x v h1 h2=>?_
  rw [V.shL_get] at h1
  cases e : cs[j]? with
  | none=>rw [e] at h1; cases h1
  | some y=>rw [e] at h1; cases h1; exact ih j y v e h2
 | tup cs vs hlen _ ih =>
  refine .tup _ vs (by rw [V.shL_len]; exact hlen) fun j x v h1 h2=>?_
  rw [V.shL_get] at h1
  cases e : cs[j]? with
  | none=>rw [e] at h1; cases h1
  | some y=>rw [e] at h1; cases h1; exact ih j y v e h2
 | glob k=>exact .glob k
 | clp els a h=>exact .clp els a h
theorem RB.sh {b : Nat} {k : Blk} (h : RB g1 w L1 b k) : RB (g.join L.length g1) w (L ++ shB L.length L1) (b + L.length) (k.sh L.length):=by
 cases k with
 | cells cs =>
  obtain ⟨r,cur,T,h1,h2,h3,h4,h5⟩:=h
  refine ⟨r,cur,T,(join_m b).trans h1,h2,by rw [V.shL_len]; exact h3,h4,fun i x v hx hv=>?_⟩
  rw [V.shL_get] at hx
  cases e : cs[i]? with
  | none=>rw [e] at hx; cases hx
  | some y=>rw [e] at hx; cases hx; exact (h5 i y v e hv).sh
 | row gen sz els =>
  obtain ⟨h0,h1,hh⟩:=h
  refine ⟨h0,fun e he=>?_,?_⟩
  ·obtain ⟨i,hi⟩:=List.mem_iff_getElem?.1 he
   rw [shR_get] at hi
   cases e1 : els[i]? with
   | none=>rw [e1] at hi; cases hi
   | some y=>rw [e1] at hi; cases hi; rw [V.shL_len]; exact h1 y (List.mem_of_getElem? e1)
  ·rcases hh with ⟨h2,h3⟩ | ⟨r,cur,T,h2,h3,h4,h5,h6,h7⟩
   ·exact .inl ⟨(join_m b).trans h2,by rw [h3]; rfl⟩
   ·refine .inr ⟨r,cur,T,(join_m b).trans h2,h3,by rw [join_cap]; exact h4,by rw [shR_len]; exact h5,h6,fun i j x v hx hv=>?_⟩
    rw [shR_get] at hx
    cases e1 : els[i]? with
    | none=>rw [e1] at hx; cases hx
    | some y =>
     rw [e1] at hx
     simp only [Option.map_some,Option.bind_some] at hx
     rw [V.shL_get] at hx
     cases e2 : y[j]? with
     | none=>rw [e2] at hx; cases hx
     | some z=>rw [e2] at hx; cases hx; exact (h7 i j z v (by rw [e1]; exact e2) hv).sh
 | map es =>
  obtain ⟨r,ents,clock,h1,h2,h3,hst,h4⟩:=h
  refine ⟨r,ents,clock,(join_m b).trans h1,h2,by rw [shM_len]; exact h3,hst,fun i x e hx he=>?_⟩
  rw [shM_get] at hx
  cases e1 : es[i]? with
  | none=>rw [e1] at hx; cases hx
  | some y=>rw [e1] at hx; cases hx; exact ⟨(h4 i y e e1 he).1.sh,(h4 i y e e1 he).2.sh⟩
 | loop l =>
  obtain ⟨r,rec,h1,h2,h3,h4,h5,h6,h7,h8,h9,h10,h11⟩:=h
  exact ⟨r,rec,(join_m b).trans h1,h2,h3,h4,h5,h6,h7,h8,fun i=>by rw [show (LoopR.fr _) = shF L.length l.fr from rfl,shF_look]; exact (h9 i).sh,(join_m _).trans h10,join_get h11.1,h11.2⟩
 | defr =>
  obtain ⟨r,h1,h2⟩:=h
  exact ⟨r,(join_m b).trans h1,h2⟩
 | dead=>trivial
theorem join_live {b : Nat} (h : live (L ++ shB L.length L1) b) : (b < L.length ∧ live L b) ∨ ∃ c,b = c + L.length ∧ live L1 c:=by
 obtain ⟨k,hk,hd⟩:=h
 rcases Nat.lt_or_ge b L.length with hb | hb
 ·rw [List.getElem?_append_left hb] at hk
  exact .inl ⟨hb,k,hk,hd⟩
 ·rw [List.getElem?_append_right hb,shB_get] at hk
  refine .inr ⟨b - L.length,by omega,?_⟩
  cases e : L1[b - L.length]? with
  | none=>rw [e] at hk; cases hk
  | some y =>
   rw [e] at hk; cases hk
   refine ⟨y,e,fun hy=>hd ?_⟩
   subst hy; rfl
theorem join_old {b : Nat} (hb : b < L.length) : (g.join L.length g1).m b = g.m b:=by simp [Gh.join,hb]
theorem frame_ok {w0 : World} (hg : Good g w0 L) (hg1 : Good g1 w L1) (hp : Prog 0 { I:=g.I,m:=fun _=>none,cap:=fun _=>0 } w0 [] g1 w L1) :
  Good (g.join L.length g1) w (L ++ shB L.length L1) ∧ Prog L.length g w0 L (g.join L.length g1) w (L ++ shB L.length L1):=by
 have no : ∀ (g' : Gh) q,¬ owned g' ([] : List Blk) q:=fun g' q ⟨b,⟨k,hk,_⟩,_⟩=>by simp at hk
 have heap : ∀ (q : Nat) (o : Obj),w0.heap[q]? = some o → w.heap[q]? = some o:=fun q o h=>hp.kept q o h (no _ q)
 have new : ∀ q,owned g1 L1 q → w0.heap.size ≤ q:=fun q ho=>Nat.le_of_not_lt fun hl=>no _ q (hp.own q ho hl)
 have cells : ∀ (a : Addr) (v : Value),g.I a.block → w0.cell? a = some v → w.cell? a = some v:=by
  intro a v hI hc
  have hlt:=hg.lt _ hI
  have hh:=heap a.block (w0.heap[a.block]) (Array.getElem?_eq_getElem hlt)
  rw [World.cell?_of_block (w:=w0) (w':=w) (by rw [hh,Array.getElem?_eq_getElem hlt])]
  exact hc
 have mono : ∀ (x : V) (v : Value),RV g w0 L x v → RV (g.join L.length g1) w (L ++ shB L.length L1) x v:=fun x v h =>
  RV.mono (g:=g) (g':=g.join L.length g1) (fun q hq=>hp.immk q hq) cells (fun b hb=>Keep.same (List.getElem?_append_left hb) (join_old hb) (by simp [Gh.join,hb])) h.bel h
 have imm : ∀ q,g1.I q → g.I q ∨ w0.heap.size ≤ q:=fun q hq=>by
  rcases hp.imm q hq with h | h | h
  ·exact .inl h
  ·exact .inr h
  ·exact absurd h (no _ q)
 refine ⟨⟨?_,?_,?_,?_,hg1.gl⟩,?_⟩
 ·intro b b' q h1 h2 hm1 hm2
  rcases join_live h1 with ⟨hb,hl⟩ | ⟨c,rfl,hl⟩ <;> rcases join_live h2 with ⟨hb',hl'⟩ | ⟨c',rfl,hl'⟩
  ·rw [join_old hb] at hm1; rw [join_old hb'] at hm2
   exact hg.inj b b' q hl hl' hm1 hm2
  ·rw [join_old hb] at hm1; rw [join_m] at hm2
   have:=hg.owned_lt ⟨b,hl,hm1⟩
   have:=new q ⟨c',hl',hm2⟩
   omega
  ·rw [join_old hb'] at hm2; rw [join_m] at hm1
   have:=hg.owned_lt ⟨b',hl',hm2⟩
   have:=new q ⟨c,hl,hm1⟩
   omega
  ·rw [join_m] at hm1 hm2
   rw [hg1.inj c c' q hl hl' hm1 hm2]
 ·rintro q ⟨b,hl,hm⟩ hq
  rcases join_live hl with ⟨hb,hl⟩ | ⟨c,rfl,hl'⟩
  ·rw [join_old hb] at hm
   rcases imm q hq with h | h
   ·exact hg.dis q ⟨b,hl,hm⟩ h
   ·have:=hg.owned_lt ⟨b,hl,hm⟩; omega
  ·rw [join_m] at hm
   exact hg1.dis q ⟨c,hl',hm⟩ hq
 ·exact fun q hq=>hg1.lt q hq
 ·intro b k hk
  rcases Nat.lt_or_ge b L.length with hb | hb
  ·rw [List.getElem?_append_left hb] at hk
   refine RB.mono' mono (join_old hb) (by simp [Gh.join,hb]) (fun q o _ ho=>heap q o ho) (fun l hl=>?_) (hg.blk b k hk)
   subst hl
   obtain ⟨_,_,_,_,_,_,_,_,_,_,_,_,hdf,_⟩:=hg.blk b _ hk
   have:=lt_of_get hdf
   exact ⟨join_old this,fun h=>by rw [List.getElem?_append_left this]; exact h⟩
  ·rw [List.getElem?_append_right hb,shB_get] at hk
   cases e : L1[b - L.length]? with
   | none=>rw [e] at hk; cases hk
   | some y =>
    rw [e] at hk; cases hk
    have:=(hg1.blk _ y e).sh (g:=g) (L:=L)
    rwa [Nat.sub_add_cancel hb] at this
 ·refine ⟨hp.env,hp.size,fun q o h _=>heap q o h,?_,fun q hq=>(imm q hq).imp_right .inl,hp.immk,fun x v _ h=>mono x v h,?_,fun _=>by simp⟩
  ·rintro q ⟨b,hl,hm⟩ hlt
   rcases join_live hl with ⟨hb,hl⟩ | ⟨c,rfl,hl'⟩
   ·rw [join_old hb] at hm; exact ⟨b,hl,hm⟩
   ·rw [join_m] at hm
    have:=new q ⟨c,hl',hm⟩; omega
  ·intro b q hb hL hm
   exact ⟨by rw [List.getElem?_append_left hb]; exact hL,by rw [join_old hb]; exact hm⟩
theorem CallP.frame {f : FuncId} {args : List V} {q k : V → List Blk → Prop} (h : CallP C f args [] q) (ha : V.belL 0 args = true)
  (hk : ∀ X L',q X L' → k (X.sh L.length) (L ++ shB L.length L')) : CallP C f args L k:=by
 have no : ∀ (g' : Gh) q,¬ owned g' ([] : List Blk) q:=fun g' q ⟨b,⟨k,hk,_⟩,_⟩=>by simp at hk
 unfold CallP at h ⊢
 refine ⟨h.1,fun g w vs hg hv=>(h.2 { I:=g.I,m:=fun _=>none,cap:=fun _=>0 } w vs ⟨?_,?_,?_,?_,hg.gl⟩ ?_).mono ?_⟩
 ·rintro b b' r ⟨k,hk,_⟩; simp at hk
 ·rintro r ⟨b,⟨k,hk,_⟩,_⟩; simp at hk
 ·exact hg.lt
 ·intro b k hk; simp at hk
 ·refine ⟨hv.1,fun j x v hx hvj=>?_⟩
  exact RV.mono (g:=g) (g':={ I:=g.I,m:=fun _=>none,cap:=fun _=>0 }) (L:=L) (k:=0) (fun r h=>h) (fun a v _ h=>h) (fun b hb=>absurd hb (Nat.not_lt_zero _)) (V.belL_get ha hx) (hv.2 j x v hx hvj)
 ·rintro e w' (⟨v,X,L1,g1,he,hX,hr,hg1,hp⟩ | ⟨v,X,L1,g1,he,hS⟩)
  ·obtain ⟨h1,h2⟩:=frame_ok hg hg1 hp
   exact .inl ⟨v,_,_,_,he,hk X L1 hX,hr.sh,h1,h2⟩
  ·have hn : C.pn = 0:=Nat.le_zero.1 hS.hpn
   have hp:=hS.prog
   rw [hn] at hp
   have imm : ∀ r,g1.I r → g.I r ∨ w.heap.size ≤ r:=fun r hr=>by
    rcases hp.imm r hr with h | h | h
    ·exact .inl h
    ·exact .inr h
    ·exact absurd h (no _ _)
   refine .inr ⟨v,X,L1,g1,he,hS.pan,by omega,hS.rv,hS.good,?_,fun b q hb hL hm=>?_⟩
   ·rw [hn]
    refine ⟨hp.env,hp.size,fun r o ho _=>hp.kept r o ho (no _ _),fun r hr hs=>absurd (hp.own r hr hs) (no _ _),fun r hr=>(imm r hr).imp_right .inl,hp.immk,fun x v hb hx=>hp.mono x v hb ?_,fun b r hb=>absurd hb (Nat.not_lt_zero _),fun _=>Nat.zero_le _⟩
    exact RV.mono (g:=g) (g':={ I:=g.I,m:=fun _=>none,cap:=fun _=>0 }) (L:=L) (k:=0) (fun r h=>h) (fun a v _ h=>h) (fun b hb=>absurd hb (Nat.not_lt_zero _)) hb hx
   ·have hlive : live L b:=⟨_,hL,by simp⟩
    have hlt:=hg.owned_lt ⟨b,hlive,hm⟩
    obtain ⟨q',h1,h2⟩:=hg.blk b _ hL
    rw [hm] at h1; cases h1
    refine ⟨hp.kept q _ h2 (no _ _),fun hI=>?_,fun ho=>no _ _ (hp.own q ho hlt)⟩
    rcases imm q hI with h3 | h3
    ·exact hg.dis q ⟨b,hlive,hm⟩ h3
    ·omega
end
end Go.Tidy
