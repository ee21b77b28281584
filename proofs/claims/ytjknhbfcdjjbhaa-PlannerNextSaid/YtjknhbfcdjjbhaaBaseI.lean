import Derived.Test.YtjknhbfcdjjbhaaBaseH
import Derived.SizedLaws
/-
  The base layer: a law's statement out of its call's contract, where the arguments' lengths count.
-/
namespace Go.Tidy
def slW : Nat := 1
theorem slW_pos : 1 ≤ slW := by decide
inductive Dsm (n : Nat) : D → Prop
  | bool (b : Bool) : Dsm n (.bool b)
  | int (k : IntKind) (v : Int) : Dsm n (.int k v)
  | str (s : ByteArray) (h : s.size ≤ n) : Dsm n (.str s)
  | sl (els : List (List D)) (h : els.length * slW ≤ n) (he : ∀ e ∈ els, ∀ x ∈ e, Dsm n x) : Dsm n (.sl els)
theorem Dsm.slI {n : Nat} {els : List (List D)} (h : Dsm n (.sl els)) : els.length ≤ n ∧ ∀ e ∈ els, ∀ x ∈ e, Dsm n x := by cases h with | sl _ h he => exact ⟨Nat.le_trans (Nat.le_mul_of_pos_right _ slW_pos) h, he⟩
theorem Dsm.slL {n : Nat} {els : List (List D)} (h : Dsm n (.sl els)) : els.length * slW ≤ n := by cases h with | sl _ h he => exact h
theorem Dsm.strI {n : Nat} {s : ByteArray} (h : Dsm n (.str s)) : s.size ≤ n := by cases h with | str _ h => exact h
def bytesB (P : Program) (l : List TypeId) : Bool := l.all fun t => match P.underlying t with
  | some (.slice e) => Nat.ble slW (P.bytesOf e)
  | _ => true
section
variable {H : Type} {enc : TypeId × Value → H} {P : Program} {w : World} {T : TypeId → Prop}
theorem weightsAll_mem {e : TypeId} : ∀ {l : List (DataW H)} {d : DataW H} {m : Nat}, d ∈ l → m ∈ d.weights P e → m ∈ DataW.weightsAll P e l
  | x :: l, d, m, hd, hm => by
    simp only [DataW.weightsAll, List.mem_append]
    rcases List.mem_cons.1 hd with rfl | hd
    · exact .inl hm
    · exact .inr (weightsAll_mem hd hm)
theorem fields_rdB (cs : List Value) : ∀ (fl : List Field) (o : Nat), (∀ (j : Nat) f, fl[j]? = some f → f.offset = o + ((fl.take j).map fun f => P.cellsOf f.type).sum) → (cs.drop o).length = (fl.map fun f => P.cellsOf f.type).sum →
    (∀ f ∈ fl, ∃ ys, RDL w ys ((cs.drop f.offset).take (P.cellsOf f.type)) ∧ TyI P f.type ys ∧ ∀ y ∈ ys, Dsm reachBytes y) →
    ∃ xs, RDL w xs (cs.drop o) ∧ (∀ f ∈ fl, o ≤ f.offset ∧ TyI P f.type ((xs.drop (f.offset - o)).take (P.cellsOf f.type))) ∧ ∀ y ∈ xs, Dsm reachBytes y
  | [], o, _, hl, _ => by
    have : cs.drop o = [] := List.eq_nil_of_length_eq_zero (by simpa using hl)
    rw [this]
    exact ⟨[], ⟨rfl, fun j x v hx => by simp at hx⟩, fun f hf => (by simp at hf), fun y hy => by simp at hy⟩
  | f :: fl, o, ho, hl, hf => by
    have h0 : f.offset = o := by simpa using ho 0 f rfl
    obtain ⟨ys, hy1, hy2, hy3⟩ := hf f (by simp)
    simp only [List.map_cons, List.sum_cons] at hl
    have hlen : ((cs.drop o).take (P.cellsOf f.type)).length = P.cellsOf f.type := by rw [List.length_take]; omega
    rw [h0] at hy1
    have hyl : ys.length = P.cellsOf f.type := hy1.1.trans hlen
    obtain ⟨xs, hx1, hx2, hx3⟩ := fields_rdB cs fl (o + P.cellsOf f.type) (fun j g hg => by
      have := ho (j + 1) g (by simpa using hg)
      simp only [List.take_succ_cons, List.map_cons, List.sum_cons] at this
      omega) (by
      rw [← List.drop_drop, List.length_drop]; omega) (fun g hg => hf g (by simp [hg]))
    have hcs : cs.drop o = (cs.drop o).take (P.cellsOf f.type) ++ cs.drop (o + P.cellsOf f.type) := by
      rw [← List.drop_drop, List.take_append_drop]
    refine ⟨ys ++ xs, by rw [hcs]; exact hy1.append hx1, fun g hg => ?_, fun y hy => (List.mem_append.1 hy).elim (hy3 y) (hx3 y)⟩
    rcases List.mem_cons.1 hg with rfl | hg
    · refine ⟨by omega, ?_⟩
      rw [h0, Nat.sub_self, List.drop_zero, List.take_append_of_le_length (by omega), List.take_of_length_le (by omega)]
      exact hy2
    · obtain ⟨h1, h2⟩ := hx2 g hg
      refine ⟨by omega, ?_⟩
      rw [List.drop_append, List.drop_eq_nil_of_le (by omega), List.nil_append, hyl, show g.offset - o - P.cellsOf f.type = g.offset - (o + P.cellsOf f.type) by omega]
      exact h2

theorem trod_rdB (K : Kids P (· < P.types.size)) {l : List TypeId} (hp : plainB P l = true) (hby : bytesB P l = true) (hl : ∀ t ∈ l, t < P.types.size) : ∀ (n : Nat) (t : TypeId) (cs : List Value) (x : DataW H × List MemPlace), t ∈ l →
    DataW.trod enc P w 0 (fun _ => true) true n t cs = some x → (∀ m ∈ x.1.weights P t, m ≤ reachBytes) → ∃ xs, RDL w xs cs ∧ TyI P t xs ∧ ∀ y ∈ xs, Dsm reachBytes y := by
  intro n
  induction n with
  | zero => intro t cs x _ h _; simp [DataW.trod] at h
  | succ n ih =>
    intro t cs x ht h hz
    have hpt := hp
    unfold plainB at hpt
    rw [List.all_eq_true] at hpt
    have hpt := hpt t ht
    cases hu : P.underlying t with
    | none => rw [hu] at hpt; cases hpt
    | some d =>
      rw [hu] at hpt
      cases d
      all_goals first | (cases hpt; done) | skip
      case bool =>
        obtain ⟨b, rfl, _⟩ := DataW.trod_bool hu h
        exact ⟨[.bool b], RDL.one (.bool b), .bool hu b, fun y hy => by rw [List.mem_singleton.1 hy]; exact .bool b⟩
      case int k =>
        obtain ⟨v, rfl, _, hw⟩ := DataW.trod_int hu h
        exact ⟨[.int k v], RDL.one (.int k v), .int hu v hw, fun y hy => by rw [List.mem_singleton.1 hy]; exact .int k v⟩
      case string =>
        obtain ⟨s, rfl, rfl, hs⟩ := DataW.trod_string hu h
        exact ⟨[.str s], RDL.one (.str s), .str hu s hs, fun y hy => by rw [List.mem_singleton.1 hy]; exact .str s (by have := hz s.data.toList.length (by simp [DataW.weights]); simpa using this)⟩
      case slice e =>
        simp only [Bool.and_eq_true, List.contains_iff_mem, Nat.blt_eq] at hpt
        rcases DataW.trod_slice hu h with ⟨rfl, _⟩ | ⟨a, len, cap, elems, rest, m, hm, rfl, rfl, _, hlc, hcm, hlen, hel, _, _⟩
        · exact ⟨[.sl []], RDL.one (.slNil _ _), .sl hu [] (Nat.zero_le _) (fun y hy => by simp at hy) (fun y hy => by simp at hy), fun y hy => by rw [List.mem_singleton.1 hy]; exact .sl [] (by simp) (fun e he => by simp at he)⟩
        · obtain rfl : n = m := by omega
          have hb1 : slW ≤ P.bytesOf e := by
            have := List.all_eq_true.1 hby t ht
            rw [hu] at this; exact Nat.le_of_ble_eq_true this
          have hzl : elems.length * slW ≤ reachBytes := by
            have := hz ((elems.length + rest.length) * P.bytesOf e) (by simp [DataW.weights, hu])
            exact Nat.le_trans (Nat.le_trans (Nat.mul_le_mul_left _ hb1) (Nat.mul_le_mul_right _ (Nat.le_add_right _ _))) this
          have hze : ∀ i (hi : i < elems.length), ∀ m ∈ (elems[i]).1.weights P e, m ≤ reachBytes := fun i hi m hm => hz m (by
            simp only [DataW.weights, hu, List.mem_cons, List.mem_append]
            exact .inr (.inl (weightsAll_mem (List.mem_map_of_mem (f := (·.1)) (List.getElem_mem hi)) hm)))
          have each : ∀ i, i < len → ∃ (cs : Nat → Value) (ys : List D), (∀ j, j < P.cellsOf e → w.cell? ((a.add (i * P.cellsOf e)).add j) = some (cs j)) ∧ ys.length = P.cellsOf e ∧ (∀ (j : Nat) (x : D), ys[j]? = some x → RD (· < w.heap.size) w x (cs j)) ∧ TyI P e ys ∧ ∀ y ∈ ys, Dsm reachBytes y := by
            intro i hi
            have h1 := hel i hi
            have h2 : elems[i]? = some elems[i] := List.getElem?_eq_getElem (by omega)
            rw [h2] at h1
            rw [Option.bind_eq_some_iff] at h1
            obtain ⟨vs, h3, h4⟩ := h1
            obtain ⟨ys, h5, h6, h6b⟩ := ih e vs _ hpt.1 h4 (hze i (by omega))
            unfold World.cells? at h3
            rw [if_pos (Nat.zero_le _)] at h3
            obtain ⟨h7, h8⟩ := mapM_range h3
            refine ⟨fun j => vs[j]?.getD default, ys, fun j hj => ?_, by rw [h5.1]; exact h7, fun j x hx => ?_, h6, h6b⟩
            · rw [h8 j hj]; simp [List.getElem?_eq_getElem (show j < vs.length by omega)]
            · have hj : j < vs.length := by have := lt_of_get hx; rw [h5.1] at this; exact this
              simp only [List.getElem?_eq_getElem hj, Option.getD_some]
              exact h5.2 j x _ hx (List.getElem?_eq_getElem hj)
          have hch : ∃ (f : Nat → Nat → Value) (g : Nat → List D), ∀ i, i < len → (∀ j, j < P.cellsOf e → w.cell? ((a.add (i * P.cellsOf e)).add j) = some (f i j)) ∧ (g i).length = P.cellsOf e ∧ (∀ (j : Nat) (x : D), (g i)[j]? = some x → RD (· < w.heap.size) w x (f i j)) ∧ TyI P e (g i) ∧ ∀ y ∈ g i, Dsm reachBytes y := by
            refine ⟨fun i => if h : i < len then Classical.choose (each i h) else fun _ => default, fun i => if h : i < len then Classical.choose (Classical.choose_spec (each i h)) else [], fun i hi => ?_⟩
            simp only [hi, dif_pos]
            exact Classical.choose_spec (Classical.choose_spec (each i hi))
          obtain ⟨f, g, hfg⟩ := hch
          have hels : ∀ y ∈ (List.range len).map g, ∃ i, i < len ∧ y = g i := fun y hy => by
            obtain ⟨i, hi, rfl⟩ := List.mem_map.1 hy
            exact ⟨i, by simpa using hi, rfl⟩
          have hsz : ∀ y ∈ (List.range len).map g, y.length = P.cellsOf e := fun y hy => by obtain ⟨i, hi, rfl⟩ := hels y hy; exact (hfg i hi).2.1
          refine ⟨[.sl ((List.range len).map g)], RDL.one ?_, .sl hu _ (by simp; omega) hsz (fun y hy => by obtain ⟨i, hi, rfl⟩ := hels y hy; exact (hfg i hi).2.2.2.1), fun y hy => by
            rw [List.mem_singleton.1 hy]
            exact .sl _ (by rw [List.length_map, List.length_range, ← hlen]; exact hzl) fun e he z hz => by obtain ⟨i, hi, rfl⟩ := hels e he; exact (hfg i hi).2.2.2.2 z hz⟩
          by_cases h0 : len = 0
          · subst h0; exact .slNil _ _
          · have hadd : ∀ i j, (a.add (i * P.cellsOf e)).add j = a.add (i * P.cellsOf e + j) := fun i j => Addr.add_add _ _ _
            have := RD.sl (I := (· < w.heap.size)) (w := w) ((List.range len).map g) a cap (P.cellsOf e) f hsz (fun i j hi hj => by
              rw [← hadd]; exact (hfg i (by simpa using hi)).1 j hj) (by
              have h1 := (hfg 0 (by omega)).1 0 hpt.2
              have := cell_lt h1
              rwa [block_add, block_add] at this) (by simpa using hlc) (fun i j x hx => by
              rw [List.getElem?_map] at hx
              cases hr : (List.range len)[i]? with
              | none => rw [hr] at hx; cases hx
              | some i' =>
                have hi : i < len := by have := lt_of_get hr; simpa using this
                rw [List.getElem?_range hi] at hr
                cases hr
                rw [List.getElem?_range hi] at hx
                exact (hfg i hi).2.2.1 j x hx)
            simpa using this
      case struct fs =>
        obtain ⟨xs, m, hm, rfl, hlen, hxl, hfl⟩ := DataW.trod_struct hu h
        obtain rfl : n = m := by omega
        simp only [List.all_eq_true, List.contains_iff_mem] at hpt
        obtain ⟨_, hk2, hk3⟩ := K.struct (hl t ht) hu
        have hzf : ∀ (i : Nat) (f : Field) (hi : i < xs.length), fs.toList[i]? = some f → ∀ m ∈ (xs[i]).1.weights P f.type, m ≤ reachBytes := fun i f hi hf m hm => hz m (by
          simp only [DataW.weights, hu]
          exact DataW.weights_mem_each (j := i) (by rw [List.getElem?_map, hf]; rfl) (by rw [List.getElem?_map, List.getElem?_eq_getElem hi]; rfl) m hm)
        have each : ∀ f ∈ fs.toList, ∃ ys, RDL w ys ((cs.drop f.offset).take (P.cellsOf f.type)) ∧ TyI P f.type ys ∧ ∀ y ∈ ys, Dsm reachBytes y := fun f hf => by
          obtain ⟨i, hi⟩ := List.mem_iff_getElem?.1 hf
          have hi' : fs[i]? = some f := by simpa using hi
          have hlt : i < xs.length := by rw [hxl]; exact (Array.getElem?_eq_some_iff.1 hi').1
          have := hfl i f hi'
          rw [List.getElem?_eq_getElem hlt] at this
          exact ih f.type _ _ (hpt f hf) this (hzf i f hlt hi)
        obtain ⟨ys, h1, h2, h3⟩ := fields_rdB (P := P) (w := w) cs fs.toList 0 (fun j f hf => by rw [Nat.zero_add]; exact hk3 j f hf) (by rw [List.drop_zero, hlen, hk2]) each
        rw [List.drop_zero] at h1
        exact ⟨ys, h1, .struct hu ys (h1.1.trans hlen) fun f hf => by simpa using (h2 f hf).2, h3⟩
theorem args_rdB (K : Kids P (· < P.types.size)) {l : List TypeId} (hp : plainB P l = true) (hby : bytesB P l = true) (hl : ∀ t ∈ l, t < P.types.size) {base : Nat} : ∀ (ts : List TypeId) (vs : List Value) (ds : List (DataW H)) (ps : List MemPlace), (∀ t ∈ ts, t ∈ l) →
    (∀ (j : Nat) t v, ts[j]? = some t → vs[j]? = some v → Value.okWide P w .any base t v) → DataW.TrodAll enc P w 0 (fun _ => true) true ts vs ds ps → (∀ (j : Nat) t d, ts[j]? = some t → ds[j]? = some d → ∀ m ∈ d.weights P t, m ≤ reachBytes) →
    ds.length = ts.length ∧ ∃ xss, TyA P ts xss ∧ (∀ xs ∈ xss, ∀ y ∈ xs, Dsm reachBytes y) ∧ ∀ (g : Gh) (L : List Blk), (∀ r, r < w.heap.size → g.I r) → (argVs P ts xss).length = vs.length ∧ ∀ (j : Nat) (x : V) (v : Value), (argVs P ts xss)[j]? = some x → vs[j]? = some v → RV g w L x v
  | [], [], [], ps, _, _, h, _ => ⟨rfl, [], trivial, fun xs hx => (by simp at hx), fun g L hI => ⟨rfl, fun j x v hx => by simp [argVs] at hx⟩⟩
  | t :: ts, v :: vs, d :: ds, ps, ht, hok, ⟨p, q, ⟨n, hn⟩, h2, _⟩, hz => by
    obtain ⟨xs, hx, hty, hsm⟩ := trod_rdB K hp hby hl n t _ _ (ht t (by simp)) hn (hz 0 t d rfl rfl)
    obtain ⟨hlen, xss, h3, h3b, h4⟩ := args_rdB K hp hby hl ts vs ds q (fun t ht' => ht t (by simp [ht'])) (fun j t v hj hv => hok (j + 1) t v (by simpa using hj) (by simpa using hv)) h2 (fun j t d hj hd => hz (j + 1) t d (by simpa using hj) (by simpa using hd))
    refine ⟨by simp [hlen], xs :: xss, ⟨hty, h3⟩, fun ys hys => (List.mem_cons.1 hys).elim (fun e => e ▸ hsm) (h3b ys), fun g L hI => ⟨by simp [argVs, (h4 g L hI).1], fun j x u hxj hu => ?_⟩⟩
    cases j with
    | zero =>
      simp [argVs] at hxj hu
      subst hxj hu
      exact argV_rv hx hty (hok 0 t v rfl rfl) g hI L
    | succ j => exact (h4 g L hI).2 j x u (by simpa [argVs] using hxj) (by simpa using hu)
  | [], v :: vs, _, _, _, _, h, _ => by cases h
  | [], [], _ :: _, _, _, _, h, _ => by cases h
  | _ :: _, [], _, _, _, _, h, _ => by cases h
  | _ :: _, _ :: _, [], _, _, _, h, _ => by cases h

theorem law_ofB {C : Ctx} [Quiet C] {f : FuncId} {fn : Func} {s : ChangeSpec} {apart fresh handsOn again : Bool} {W : World} {base : Nat} {args : Array Value} {ds gs : List (DataW H)} {before : List MemPlace} {tb : TypeId} {l : List TypeId}
    (K : Kids C.P (· < C.P.types.size)) (hz : ∀ t e, t < C.P.types.size → C.P.underlying t = some (.slice e) → 0 < C.P.cellsOf e) (hp : plainB C.P l = true) (hby : bytesB C.P l = true) (hl : ∀ t ∈ l, t < C.P.types.size) (hpar : ∀ t ∈ fn.params.toList, t ∈ l)
    (hvars : s.vars = []) (hres : fn.resultTypes = #[tb]) (htb : C.P.underlying tb = some .bool)
    (hspec : ∀ ds : List (DataW H), ds.length = fn.params.toList.length → s.fn H ds = { results := [.lit (.bool true)], args := ds })
    (hcall : ∀ xss, TyA C.P fn.params.toList xss → (∀ xs ∈ xss, ∀ y ∈ xs, Dsm reachBytes y) → CallP C f (argVs C.P fn.params.toList xss) [] fun X L => L = [] ∧ X = .d (.bool true))
    (hval : ∀ (j : Nat) t v, fn.params[j]? = some t → args[j]? = some v → Value.okWide C.P W .any base t v)
    (hW : DataW.Whole enc C.P fn.params.toList s.vars apart W args.toList ds gs before)
    (hwt : (DataW.weightsEach C.P (fn.params.toList ++ s.plain.varTypes C.P) (ds ++ gs)).all (· ≤ reachBytes) = true)
    (hgl : GlobOK (fun r => r < W.heap.size) W := by intro p hp; cases hp) :
    Calls C.P f args W fun e W' => ∃ v, e = .returned v ∧ s.post enc C.P fn apart fresh handsOn again W args v W' := by
  have hW' := hW
  obtain ⟨p, q, hA, hV, hpq, hfz, hnd⟩ := hW
  rw [hvars] at hV
  obtain ⟨rfl, rfl⟩ : gs = [] ∧ q = [] := by
    cases gs with
    | nil => exact ⟨rfl, hV⟩
    | cons _ _ => cases hV
  rw [List.append_nil] at hpq
  subst hpq
  have hwt' : ∀ (j : Nat) t d, fn.params.toList[j]? = some t → ds[j]? = some d → ∀ m ∈ d.weights C.P t, m ≤ reachBytes := fun j t d hj hd m hm => by
    have := List.all_eq_true.1 hwt m (DataW.weights_mem_each (j := j) (by rw [List.getElem?_append_left (lt_of_get hj)]; exact hj) (by rw [List.append_nil]; exact hd) m hm)
    simpa using this
  obtain ⟨hlen, xss, hty, hsm, hrv⟩ := args_rdB K hp hby hl fn.params.toList args.toList ds before hpar (fun j t v hj hv => hval j t v (by simpa using hj) (by simpa using hv)) hA hwt'
  have hc := hcall xss hty hsm
  rw [CallP_q] at hc
  obtain ⟨h1, h2⟩ := hrv { I := fun r => r < W.heap.size, m := fun _ => none, cap := fun _ => 0 } [] (fun _ h => h)
  have no : ∀ (g' : Gh) q, ¬ owned g' ([] : List Blk) q := fun g' q ⟨b, ⟨k, hk, _⟩, _⟩ => by simp at hk
  refine (hc.2 { I := fun r => r < W.heap.size, m := fun _ => none, cap := fun _ => 0 } W args ⟨?_, ?_, fun r h => h, ?_, hgl⟩ ⟨by rw [h1]; simp, fun j x v hx hv => h2 j x v hx (by simpa using hv)⟩).mono ?_
  · rintro b b' r ⟨k, hk, _⟩; simp at hk
  · exact fun r ho => absurd ho (no _ r)
  · intro b k hk; simp at hk
  rintro e W' ⟨v, X, L1, g1, rfl, ⟨rfl, rfl⟩, hr, hg1, hprog⟩
  have hv : v = .bool true := hr.bool_of
  subst hv
  refine ⟨_, rfl, ?_⟩
  have heap : ∀ (r : Nat) (o : Obj), W.heap[r]? = some o → W'.heap[r]? = some o := fun r o h => hprog.kept r o h (no _ r)
  have heap' : ∀ r : Nat, r < W.heap.size → W'.heap[r]? = W.heap[r]? := fun r h => by
    rw [Array.getElem?_eq_getElem h]; exact heap r _ (Array.getElem?_eq_getElem h)
  have hlt : ∀ x ∈ before, x.block < W.heap.size := fun x hx => hW'.lt x hx
  have same : ∀ x ∈ before, W.sameAt W' x := by
    intro x hx
    have := hlt x hx
    cases x with
    | cell b off => exact World.cell?_of_block (w := W) (w' := W') (heap' b this)
    | map b => exact heap' b this
  have hkept : W.keptBut W' (· ∈ before) := by
    refine ⟨hprog.env.2.1, hprog.env.2.2, fun i hi => ?_⟩
    rw [heap' i hi]
    cases W.heap[i]? with
    | none => rfl
    | some o => cases o <;> simp
  have carry : ∀ (ts : List TypeId) (vs : List Value) (ds : List (DataW H)) (ps : List MemPlace), (∀ x ∈ ps, W.sameAt W' x) → DataW.TrodAll enc C.P W 0 (fun _ => true) true ts vs ds ps → DataW.TrodAll enc C.P W' 0 (fun _ => true) true ts vs ds ps := by
    intro ts
    induction ts with
    | nil => intro vs ds ps _ h; cases vs <;> cases ds <;> first | exact h | cases h
    | cons t ts ih =>
      intro vs ds ps hs h
      cases vs with
      | nil => cases h
      | cons v vs =>
        cases ds with
        | nil => cases h
        | cons d ds =>
          obtain ⟨p, q, ⟨n, hn⟩, h2, rfl⟩ := h
          exact ⟨p, q, ⟨n, DataW.trod_carry n _ _ _ hn fun x hx => hs x (List.mem_append_left _ hx)⟩, ih vs ds q (fun x hx => hs x (List.mem_append_right _ hx)) h2, rfl⟩
  have hA' := carry _ _ _ _ same hA
  have hfn := hspec ds hlen
  refine post_of_kept (pa := before) (pv := []) hW' ?_ ?_ ?_ (by simp) hkept (fun a ha => ?_) ?_
  · intro b sp hd
    rw [List.append_nil, hfn, hres]
    exact ⟨[], [], RowKit.shut_bool htb true, rfl, rfl⟩
  · intro sp hsp
    rw [List.append_nil, hfn]
    exact hA'.respare K hz (fun t ht => hl t (hpar t ht)) hsp
  · intro sp hsp
    rw [List.append_nil, hfn, hvars]
    rfl
  · exact World.frozen?_of_block (w := W) (w' := W') (heap' _ ha)
  · exact RowKit.ok_one hres rfl (RowKit.okWide_bool_mk htb true)
end
end Go.Tidy
