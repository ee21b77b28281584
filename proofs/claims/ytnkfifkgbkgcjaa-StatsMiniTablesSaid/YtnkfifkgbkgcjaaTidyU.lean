/-
  The base layer: a law's statement out of its call's contract.
-/
import Derived.Test.YtnkfifkgbkgcjaaTidyT
import Derived.Below
import Derived.RowKit
namespace Go.Tidy

section
variable {H : Type} {enc : TypeId × Value → H} {P : Program}

theorem post_of_kept {f : Func} {s : ChangeSpec} {apart fresh handsOn again : Bool} {W W' : World} {args : Array Value} {v : Value} {ds gs : List (DataW H)} {before pa pv : List MemPlace}
    (hW : DataW.Whole enc P f.params.toList s.vars apart W args.toList ds gs before)
    (hres : ∀ (b : Nat) (sp : Nat → Bool) (hd : Bool), DataW.TrodAll enc P W' b sp hd f.resultTypes.toList (v.resultList f.resultTypes.size) (s.fn H (ds ++ gs)).results [])
    (hargs : ∀ sp : Nat → Bool, (∀ p ∈ before, sp p.block = true) → DataW.TrodAll enc P W' 0 sp true f.params.toList args.toList (s.fn H (ds ++ gs)).args pa)
    (hvars : ∀ sp : Nat → Bool, (∀ p ∈ before, sp p.block = true) → DataW.TrodVars enc P W' sp s.vars (s.fn H (ds ++ gs)).vars pv)
    (hps : before = pa ++ pv) (hk : W.keptBut W' (· ∈ before)) (hfz : ∀ a : Addr, a.block < W.heap.size → W'.frozen? a = W.frozen? a)
    (hok : ∀ (j : Nat) (t : TypeId) (r : Value), f.resultTypes[j]? = some t → (v.resultList f.resultTypes.size)[j]? = some r → Value.okWide P W' .any 0 t r) :
    s.post enc P f apart fresh handsOn again W args v W' := by
  have hlt : ∀ p ∈ before, p.block < W.heap.size := fun p hp => hW.lt p hp
  have hold : ∀ p ∈ before, (fun b => decide (b < W.heap.size)) p.block = true := fun p hp => by simpa using hlt p hp
  refine ⟨ds, gs, before, [], pa, pv, hW, hres _ _ _, hargs _ hold, hvars _ hold, World.keptBut_mono (fun p hp => ⟨hp, ?_⟩) hk, fun _ => ?_⟩
  · rw [hps, List.mem_append] at hp
    exact Or.inr hp
  · obtain ⟨_, _, _, _, _, hz, hn⟩ := hW
    refine ⟨hok, _, _, ([] ++ pa) ++ pv, ⟨[] ++ pa, pv, Go.ChangeShapes.trodAll_append (hargs _ (fun _ _ => rfl)) (hres _ _ _), hvars _ (fun _ _ => rfl), rfl, ?_, ?_⟩, ?_⟩
    · intro b off hp
      have hp' : MemPlace.cell b off ∈ before := by rw [hps]; simpa using hp
      rw [hfz _ (hlt _ hp')]
      exact hz b off hp'
    · intro ha
      have := hn ha
      rw [hps] at this
      simpa using this
    · intro p hp _
      rw [hps]
      simpa using hp

/-- An argument, as a tidy value. -/
def argV (P : Program) (t : TypeId) (xs : List D) : V :=
  match P.underlying t with
  | some (.struct _) => .agg (xs.map .d)
  | _ => match xs with | [x] => .d x | _ => .poison
def argVs (P : Program) : List TypeId → List (List D) → List V
  | t :: ts, x :: xs => argV P t x :: argVs P ts xs
  | _, _ => []
def TyA (P : Program) : List TypeId → List (List D) → Prop
  | [], [] => True
  | t :: ts, x :: xs => TyI P t x ∧ TyA P ts xs
  | _, _ => False

variable {w : World}

theorem argV_rv {t : TypeId} {base : Nat} {v : Value} {xs : List D} (hx : RDL w xs v.cells.toList) (ht : TyI P t xs) (hok : Value.okWide P w .any base t v) (g : Gh) (hI : ∀ r, r < w.heap.size → g.I r) (L : List Blk) : RV g w L (argV P t xs) v := by
  have hd : ∀ {x : D} {u : Value}, RD (· < w.heap.size) w x u → RD g.I w x u := fun h => h.mono hI (fun _ _ _ h => h)
  have one : v.cells = #[v] → ∀ x, xs = [x] → RV g w L (.d x) v := by
    rintro hv x rfl
    rw [hv] at hx
    exact .d _ _ (hd (hx.2 0 x v rfl rfl))
  have cell : (∀ cs, v ≠ .agg cs) → v.cells = #[v] := fun h => by cases v <;> first | rfl | exact absurd rfl (h _)
  unfold argV
  cases ht with
  | bool h b =>
    rw [h]
    refine one (cell fun cs hv => ?_) _ rfl
    subst hv; simp [Value.okWide, h, Cell.okWide, Cell.ok] at hok
  | int h n hw =>
    rw [h]
    refine one (cell fun cs hv => ?_) _ rfl
    subst hv; simp [Value.okWide, h, Cell.okWide, Cell.ok] at hok
  | str h s hs =>
    rw [h]
    refine one (cell fun cs hv => ?_) _ rfl
    subst hv; simp [Value.okWide, h, Cell.okWide, Cell.ok] at hok
  | sl h els hl hsz he =>
    rw [h]
    refine one (cell fun cs hv => ?_) _ rfl
    subst hv; simp [Value.okWide, h, Cell.okWide, Cell.ok] at hok
  | struct h xs hl hf =>
    rw [h]
    simp only [Value.okWide, h] at hok
    obtain ⟨cs, rfl, _, _⟩ := hok
    have hx : RDL w xs cs.toList := hx
    refine .agg _ _ (by rw [List.length_map, hx.1]; simp) (fun j u hu => ?_) (fun j x u hxj hu => ?_)
    · have hj : j < xs.length := by rw [hx.1]; simpa using (Array.getElem?_eq_some_iff.1 hu).1
      exact (hx.2 j xs[j] u (List.getElem?_eq_getElem hj) (by simpa using hu)).one
    · rw [List.getElem?_map] at hxj
      cases e : xs[j]? with
      | none => rw [e] at hxj; cases hxj
      | some y =>
        rw [e] at hxj; cases hxj
        exact .d _ _ (hd (hx.2 j y u e (by simpa using hu)))

theorem args_rd (K : Kids P (· < P.types.size)) {l : List TypeId} (hp : plainB P l = true) (hl : ∀ t ∈ l, t < P.types.size) {base : Nat} : ∀ (ts : List TypeId) (vs : List Value) (ds : List (DataW H)) (ps : List MemPlace), (∀ t ∈ ts, t ∈ l) →
    (∀ (j : Nat) t v, ts[j]? = some t → vs[j]? = some v → Value.okWide P w .any base t v) → DataW.TrodAll enc P w 0 (fun _ => true) true ts vs ds ps →
    ds.length = ts.length ∧ ∃ xss, TyA P ts xss ∧ ∀ (g : Gh) (L : List Blk), (∀ r, r < w.heap.size → g.I r) → (argVs P ts xss).length = vs.length ∧ ∀ (j : Nat) (x : V) (v : Value), (argVs P ts xss)[j]? = some x → vs[j]? = some v → RV g w L x v
  | [], [], [], ps, _, _, h => ⟨rfl, [], trivial, fun g L hI => ⟨rfl, fun j x v hx => by simp [argVs] at hx⟩⟩
  | t :: ts, v :: vs, d :: ds, ps, ht, hok, ⟨p, q, ⟨n, hn⟩, h2, _⟩ => by
    obtain ⟨xs, hx, hty⟩ := trod_rd K hp hl n t _ _ (ht t (by simp)) hn
    obtain ⟨hlen, xss, h3, h4⟩ := args_rd K hp hl ts vs ds q (fun t ht' => ht t (by simp [ht'])) (fun j t v hj hv => hok (j + 1) t v (by simpa using hj) (by simpa using hv)) h2
    refine ⟨by simp [hlen], xs :: xss, ⟨hty, h3⟩, fun g L hI => ⟨by simp [argVs, (h4 g L hI).1], fun j x u hxj hu => ?_⟩⟩
    cases j with
    | zero =>
      simp [argVs] at hxj hu
      subst hxj hu
      exact argV_rv hx hty (hok 0 t v rfl rfl) g hI L
    | succ j => exact (h4 g L hI).2 j x u (by simpa [argVs] using hxj) (by simpa using hu)
  | [], v :: vs, _, _, _, _, h => by cases h
  | [], [], _ :: _, _, _, _, h => by cases h
  | _ :: _, [], _, _, _, _, h => by cases h
  | _ :: _, _ :: _, [], _, _, _, h => by cases h

/-- A LAW, OUT OF ITS CALL's CONTRACT. -/
theorem law_of {C : Ctx} {f : FuncId} {fn : Func} {s : ChangeSpec} {apart fresh handsOn again : Bool} {W : World} {base : Nat} {args : Array Value} {ds gs : List (DataW H)} {before : List MemPlace} {tb : TypeId} {l : List TypeId}
    (K : Kids C.P (· < C.P.types.size)) (hz : ∀ t e, t < C.P.types.size → C.P.underlying t = some (.slice e) → 0 < C.P.cellsOf e) (hp : plainB C.P l = true) (hl : ∀ t ∈ l, t < C.P.types.size) (hpar : ∀ t ∈ fn.params.toList, t ∈ l)
    (hvars : s.vars = []) (hres : fn.resultTypes = #[tb]) (htb : C.P.underlying tb = some .bool)
    (hspec : ∀ ds : List (DataW H), ds.length = fn.params.toList.length → s.fn H ds = { results := [.lit (.bool true)], args := ds })
    (hcall : ∀ xss, TyA C.P fn.params.toList xss → CallP C f (argVs C.P fn.params.toList xss) [] fun X L => L = [] ∧ X = .d (.bool true))
    (hval : ∀ (j : Nat) t v, fn.params[j]? = some t → args[j]? = some v → Value.okWide C.P W .any base t v)
    (hW : DataW.Whole enc C.P fn.params.toList s.vars apart W args.toList ds gs before) :
    Calls C.P f args W fun e W' => ∃ v, e = .returned v ∧ s.post enc C.P fn apart fresh handsOn again W args v W' := by
  have hW' := hW
  obtain ⟨p, q, hA, hV, hpq, hfz, hnd⟩ := hW
  rw [hvars] at hV
  obtain ⟨rfl, rfl⟩ : gs = [] ∧ q = [] := by
    cases gs with
    | nil => exact ⟨rfl, hV⟩
    | cons _ _ => cases hV
  rw [List.append_nil] at hpq
  subst hpq
  obtain ⟨hlen, xss, hty, hrv⟩ := args_rd K hp hl fn.params.toList args.toList ds before hpar (fun j t v hj hv => hval j t v (by simpa using hj) (by simpa using hv)) hA
  have hc := hcall xss hty
  unfold CallP at hc
  obtain ⟨h1, h2⟩ := hrv { I := fun r => r < W.heap.size, m := fun _ => none, cap := fun _ => 0 } [] (fun _ h => h)
  have no : ∀ (g' : Gh) q, ¬ owned g' ([] : List Blk) q := fun g' q ⟨b, ⟨k, hk, _⟩, _⟩ => by simp at hk
  refine (hc.2 { I := fun r => r < W.heap.size, m := fun _ => none, cap := fun _ => 0 } W args ⟨?_, ?_, fun r h => h, ?_⟩ ⟨by rw [h1]; simp, fun j x v hx hv => h2 j x v hx (by simpa using hv)⟩).mono ?_
  · rintro b b' r ⟨k, hk, _⟩; simp at hk
  · exact fun r ho => absurd ho (no _ r)
  · intro b k hk; simp at hk
  rintro e W' ⟨v, X, L1, g1, rfl, ⟨rfl, rfl⟩, hr, hg1, hprog⟩
  have hv : v = .bool true := hr.bool_of
  subst hv
  refine ⟨_, rfl, ?_⟩
  have heap : ∀ (r : Nat) (o : Obj), W.heap[r]? = some o → W'.heap[r]? = some o := fun r o h => hprog.kept r o h (no _ r)
  have heap' : ∀ r : Nat, r < W.heap.size → W'.heap[r]? = W.heap[r]? := fun r h => by
    rw [Array.getElem?_eq_getElem h]; exact heap r _ (Array.getElem?_eq_getElem h)
  have hlt : ∀ x ∈ before, x.block < W.heap.size := fun x hx => hW'.lt x hx
  have same : ∀ x ∈ before, W.sameAt W' x := by
    intro x hx
    have := hlt x hx
    cases x with
    | cell b off => exact World.cell?_of_block (w := W) (w' := W') (heap' b this)
    | map b => exact heap' b this
  have hkept : W.keptBut W' (· ∈ before) := by
    refine ⟨hprog.env.2.1, hprog.env.2.2, fun i hi => ?_⟩
    rw [heap' i hi]
    cases W.heap[i]? with
    | none => rfl
    | some o => cases o <;> simp
  have carry : ∀ (ts : List TypeId) (vs : List Value) (ds : List (DataW H)) (ps : List MemPlace), (∀ x ∈ ps, W.sameAt W' x) → DataW.TrodAll enc C.P W 0 (fun _ => true) true ts vs ds ps → DataW.TrodAll enc C.P W' 0 (fun _ => true) true ts vs ds ps := by
    intro ts
    induction ts with
    | nil => intro vs ds ps _ h; cases vs <;> cases ds <;> first | exact h | cases h
    | cons t ts ih =>
      intro vs ds ps hs h
      cases vs with
      | nil => cases h
      | cons v vs =>
        cases ds with
        | nil => cases h
        | cons d ds =>
          obtain ⟨p, q, ⟨n, hn⟩, h2, rfl⟩ := h
          exact ⟨p, q, ⟨n, DataW.trod_carry n _ _ _ hn fun x hx => hs x (List.mem_append_left _ hx)⟩, ih vs ds q (fun x hx => hs x (List.mem_append_right _ hx)) h2, rfl⟩
  have hA' := carry _ _ _ _ same hA
  have hfn := hspec ds hlen
  refine post_of_kept (pa := before) (pv := []) hW' ?_ ?_ ?_ (by simp) hkept (fun a ha => ?_) ?_
  · intro b sp hd
    rw [List.append_nil, hfn, hres]
    exact ⟨[], [], RowKit.shut_bool htb true, rfl, rfl⟩
  · intro sp hsp
    rw [List.append_nil, hfn]
    exact hA'.respare K hz (fun t ht => hl t (hpar t ht)) hsp
  · intro sp hsp
    rw [List.append_nil, hfn, hvars]
    rfl
  · exact World.frozen?_of_block (w := W) (w' := W') (heap' _ ha)
  · exact RowKit.ok_one hres rfl (RowKit.okWide_bool_mk htb true)
end
end Go.Tidy
