/-
  The base layer: what a function owns, handed to a contract that speaks of data.
-/
import Derived.Test.YtnkfifkgbkgcjaaTidyW
namespace Go.Tidy

inductive CwL (S : Nat → Prop) (L : List Blk) : List V → List V → Prop
  | nil : CwL S L [] []
  | keep {x : V} {xs ys : List V} (h : CwL S L xs ys) : CwL S L (x :: xs) (x :: ys)
  | cv {x y : V} {xs ys : List V} (h : Cw S L x y) (hs : CwL S L xs ys) : CwL S L (x :: xs) (y :: ys)

section
variable {C : Ctx} {g : Gh} {w : World} {L : List Blk}

theorem CwL.len {S : Nat → Prop} {xs ys : List V} (h : CwL S L xs ys) : xs.length = ys.length := by
  induction h with
  | nil => rfl
  | keep _ ih => simp [ih]
  | cv _ _ ih => simp [ih]

theorem CwL.rvs {S : Nat → Prop} (hg : Good g w L) {g' : Gh} {L' : List Blk} {xs ys : List V} (h : CwL S L xs ys) (hI : ∀ q, g.I q → g'.I q) (hI' : ∀ b q, S b → live L b → g.m b = some q → g'.I q)
    (hkeep : ∀ (x : V) (v : Value), x ∈ ys → RV g w L x v → RV g' w L' x v) : ∀ (vs : List Value), (∀ (j : Nat) (x : V) (v : Value), xs[j]? = some x → vs[j]? = some v → RV g w L x v) →
    ∀ (j : Nat) (y : V) (v : Value), ys[j]? = some y → vs[j]? = some v → RV g' w L' y v := by
  induction h with
  | nil => intro vs _ j y v hy; simp at hy
  | keep h ih =>
    intro vs hr j y v hy hv
    cases vs with
    | nil => simp at hv
    | cons u us =>
      cases j with
      | zero => simp at hy hv; subst hy hv; exact hkeep _ _ (by simp) (hr 0 _ _ rfl rfl)
      | succ j => exact ih (fun x v hx => hkeep x v (by simp [hx])) us (fun j x v hx hv => hr (j + 1) x v (by simpa using hx) (by simpa using hv)) j y v (by simpa using hy) (by simpa using hv)
  | cv hc h ih =>
    intro vs hr j y v hy hv
    cases vs with
    | nil => simp at hv
    | cons u us =>
      cases j with
      | zero => simp at hy hv; subst hy hv; exact hc.rv hg hI hI' (hr 0 _ _ rfl rfl)
      | succ j => exact ih (fun x v hx => hkeep x v (by simp [hx])) us (fun j x v hx hv => hr (j + 1) x v (by simpa using hx) (by simpa using hv)) j y v (by simpa using hy) (by simpa using hv)

/-! ### Lent for the call -/
def D.scalar : D → Bool
  | .bool _ | .int _ _ | .str _ | .nilptr | .nilfn | .niliface | .nilmap => true
  | .sl els => els.isEmpty
  | .fn _ caps => caps.isEmpty
  | _ => false
mutual
def V.scalar : V → Bool
  | .d x => x.scalar
  | .poison | .tt | .ff | .nil | .glob _ => true
  | .agg cs => V.scalarL cs
  | .tup cs => V.scalarL cs
  | .fn _ cs => V.scalarL cs
  | _ => false
def V.scalarL : List V → Bool
  | [] => true
  | x :: r => V.scalar x && V.scalarL r
end
theorem V.scalarL_get : ∀ {cs : List V} {j : Nat} {x : V}, V.scalarL cs = true → cs[j]? = some x → x.scalar = true
  | [], j, x, _, h => by simp at h
  | c :: r, 0, x, hb, h => by simp only [V.scalarL, Bool.and_eq_true] at hb; simp at h; exact h ▸ hb.1
  | c :: r, j + 1, x, hb, h => by simp only [V.scalarL, Bool.and_eq_true] at hb; exact V.scalarL_get hb.2 (by simpa using h)

theorem RV.scalar {g' : Gh} {w' : World} {L' : List Blk} {x : V} {v : Value} (h : RV g w L x v) : x.scalar = true → RV g' w' L' x v := by
  induction h with
  | poison v => exact fun _ => .poison v
  | tt => exact fun _ => .tt
  | ff => exact fun _ => .ff
  | nil => exact fun _ => .nil
  | glob k => exact fun _ => .glob k
  | d x v h =>
    intro hs
    refine .d _ _ ?_
    cases h with
    | bool b => exact .bool b
    | int k n => exact .int k n
    | str s => exact .str s
    | nilptr => exact .nilptr
    | nilfn => exact .nilfn
    | niliface => exact .niliface
    | nilmap => exact .nilmap
    | slNil a c => exact .slNil a c
    | sl els ad c sz cs hsz hcell hi hlc hrec =>
      have : els = [] := by simpa [V.scalar, D.scalar] using hs
      subst this
      exact .slNil _ _
    | fn f caps vs hlen hrec =>
      have : caps = [] := by simpa [V.scalar, D.scalar] using hs
      subst this
      exact .fn f [] vs hlen (fun j x v hx => by simp at hx)
    | rptr | ifaceA | ifaceL => simp [V.scalar, D.scalar] at hs
  | agg cs vs hlen hone _ ih => exact fun hs => .agg cs vs hlen hone fun j x v hx hv => ih j x v hx hv (V.scalarL_get (by simpa [V.scalar] using hs) hx)
  | tup cs vs hlen _ ih => exact fun hs => .tup cs vs hlen fun j x v hx hv => ih j x v hx hv (V.scalarL_get (by simpa [V.scalar] using hs) hx)
  | fn f cs vs hlen _ ih => exact fun hs => .fn f cs vs hlen fun j x v hx hv => ih j x v hx hv (V.scalarL_get (by simpa [V.scalar] using hs) hx)
  | _ => intro hs; simp [V.scalar] at hs

/-- What is owned is lent for the call; what comes back holds no reference. -/
theorem CallP.borrow {f : FuncId} {args dargs : List V} {q k : V → List Blk → Prop} (h : CallP C f dargs [] q) (hc : CwL (fun _ => True) L args dargs) (ha : V.belL 0 dargs = true)
    (hk : ∀ X L', q X L' → L' = [] ∧ X.scalar = true ∧ k X L) : CallP C f args L k := by
  unfold CallP at h ⊢
  have hbel : ∀ x ∈ dargs, x.bel 0 = true := fun x hx => by
    obtain ⟨j, hj⟩ := List.mem_iff_getElem?.1 hx
    exact V.belL_get ha hj
  refine ⟨h.1, fun g w vs hg hv => (h.2 { I := fun r => r < w.heap.size, m := fun _ => none, cap := fun _ => 0 } w vs ⟨?_, ?_, ?_, ?_⟩ ?_).mono ?_⟩
  · rintro b b' r ⟨k, hk, _⟩; simp at hk
  · rintro r ⟨b, ⟨k, hk, _⟩, _⟩; simp at hk
  · exact fun r h => h
  · intro b k hk; simp at hk
  · refine ⟨hc.len ▸ hv.1, fun j y v hy hvj => ?_⟩
    refine hc.rvs hg (g' := { I := fun r => r < w.heap.size, m := fun _ => none, cap := fun _ => 0 }) (L' := []) (fun r hr => hg.lt r hr) (fun b r _ hl hm => hg.owned_lt ⟨b, hl, hm⟩) (fun x u hx hu => ?_) vs.toList
      (fun j x v hx hv' => hv.2 j x v hx (by simpa using hv')) j y v hy (by simpa using hvj)
    exact RV.mono (g := g) (g' := { I := fun r => r < w.heap.size, m := fun _ => none, cap := fun _ => 0 }) (L := L) (k := 0) (fun r h => hg.lt r h) (fun a v _ h => h) (fun b hb => absurd hb (Nat.not_lt_zero _)) (hbel x hx) hu
  · rintro e w' ⟨v, X, L1, g1, he, hX, hr, hg1, hp⟩
    obtain ⟨rfl, hsc, hkX⟩ := hk X L1 hX
    have no : ∀ (g' : Gh) q, ¬ owned g' ([] : List Blk) q := fun g' q ⟨b, ⟨k, hk, _⟩, _⟩ => by simp at hk
    have heap : ∀ (q : Nat) (o : Obj), w.heap[q]? = some o → w'.heap[q]? = some o := fun q o h => hp.kept q o h (no _ q)
    have cells : ∀ (a : Addr) (v : Value), g.I a.block → w.cell? a = some v → w'.cell? a = some v := by
      intro a v hI hc
      have hlt := hg.lt _ hI
      have hh := heap a.block (w.heap[a.block]) (Array.getElem?_eq_getElem hlt)
      rw [World.cell?_of_block (w := w) (w' := w') (by rw [hh, Array.getElem?_eq_getElem hlt])]
      exact hc
    have mono : ∀ (x : V) (v : Value), RV g w L x v → RV g w' L x v := fun x v h =>
      RV.mono (g := g) (g' := g) (L := L) (L' := L) (k := L.length) (fun q hq => hq) cells (fun b _ => Keep.refl g L b) h.bel h
    refine ⟨v, X, L, g, he, hkX, hr.scalar hsc, ⟨hg.inj, hg.dis, fun q hq => Nat.lt_of_lt_of_le (hg.lt q hq) hp.size, fun b k hk => ?_⟩,
      ⟨hp.env, hp.size, fun q o h _ => heap q o h, fun q h _ => h, fun q h => .inl h, fun q h => h, fun x v _ h => mono x v h, fun b r _ h1 h2 => ⟨h1, h2⟩, fun h => h⟩⟩
    exact RB.mono' mono rfl rfl (fun q o _ ho => heap q o ho) (fun l _ => ⟨rfl, fun h => h⟩) (hg.blk b k hk)

/-! ### Given up -/
def plainBlk (L : List Blk) (bs : List Nat) : Bool := bs.all fun b => match L[b]? with | some (.row ..) => true | some (.cells _) => true | _ => false
def killB : List Nat → List Blk → List Blk
  | [], L => L
  | b :: r, L => killB r (L.set b .dead)
theorem killB_len : ∀ (bs : List Nat) (L : List Blk), (killB bs L).length = L.length
  | [], L => rfl
  | b :: r, L => by simp [killB, killB_len r]
theorem killB_out : ∀ (bs : List Nat) (L : List Blk) (b : Nat), b ∉ bs → (killB bs L)[b]? = L[b]?
  | [], L, b, _ => rfl
  | c :: r, L, b, h => by
    simp at h
    rw [killB, killB_out r _ b h.2, List.getElem?_set_ne (fun e => h.1 e.symm)]
theorem killB_in : ∀ (bs : List Nat) (L : List Blk) (b : Nat), b ∈ bs → b < L.length → (killB bs L)[b]? = some .dead
  | [], L, b, h, _ => by simp at h
  | c :: r, L, b, h, hl => by
    by_cases hr : b ∈ r
    · exact killB_in r _ b hr (by simpa using hl)
    · have : b = c := by simpa [hr] using h
      subst this
      rw [killB, killB_out r _ b hr, List.getElem?_set_self hl]

/-- What is owned is given up: from now on it is data that no one writes. -/
theorem CallP.freeze {f : FuncId} {args dargs : List V} {L' : List Blk} {k : V → List Blk → Prop} (bs : List Nat) (hL : killB bs L = L') (hbs : plainBlk L bs = true) (hc : CwL (· ∈ bs) L args dargs) (h : CallP C f dargs L' k) : CallP C f args L k := by
  subst hL
  unfold CallP at h ⊢
  refine ⟨h.1, fun g w vs hg hv => ?_⟩
  have hp : ∀ b ∈ bs, ∃ k0, L[b]? = some k0 ∧ k0 ≠ .defr ∧ b < L.length := fun b hb => by
    have := List.all_eq_true.1 hbs b hb
    split at this
    · rename_i e; exact ⟨_, e, by simp, lt_of_get e⟩
    · rename_i e; exact ⟨_, e, by simp, lt_of_get e⟩
    · cases this
  let g' : Gh := { g with I := fun q => g.I q ∨ ∃ b ∈ bs, live L b ∧ g.m b = some q }
  have hkeep : ∀ b, Keep g L g' (killB bs L) b := by
    intro b
    by_cases hb : b ∈ bs
    · obtain ⟨_, _, _, hlt⟩ := hp b hb
      have hd := killB_in bs L b hb hlt
      exact ⟨fun _ _ => .inl hd, fun _ _ _ _ => .inl hd, fun _ _ => .inl hd, fun _ _ => .inl hd, fun _ => hd⟩
    · exact Keep.same (killB_out bs L b hb) rfl rfl
  have mono : ∀ (x : V) (v : Value), RV g w L x v → RV g' w (killB bs L) x v := fun x v hx => RV.mono (g := g) (g' := g') (k := L.length) (fun q hq => .inl hq) (fun a v _ h => h) (fun b _ => hkeep b) hx.bel hx
  have lv : ∀ b, live (killB bs L) b → b ∉ bs ∧ live L b := by
    rintro b ⟨k0, hk0, hd⟩
    by_cases hb : b ∈ bs
    · obtain ⟨_, _, _, hlt⟩ := hp b hb
      rw [killB_in bs L b hb hlt] at hk0
      exact absurd (by cases hk0; rfl) hd
    · rw [killB_out bs L b hb] at hk0
      exact ⟨hb, k0, hk0, hd⟩
  have hgood : Good g' w (killB bs L) := by
    refine ⟨fun b b' r h1 h2 m1 m2 => hg.inj b b' r (lv b h1).2 (lv b' h2).2 m1 m2, ?_, ?_, fun b k0 hk0 => ?_⟩
    · rintro r ⟨b, hl, hm⟩ hI
      obtain ⟨hb, hl'⟩ := lv b hl
      rcases hI with hI | ⟨b', hb', hl2, hm2⟩
      · exact hg.dis r ⟨b, hl', hm⟩ hI
      · exact hb (hg.inj b b' r hl' hl2 hm hm2 ▸ hb')
    · rintro r (hI | ⟨b', _, hl2, hm2⟩)
      · exact hg.lt r hI
      · exact hg.owned_lt ⟨b', hl2, hm2⟩
    · by_cases hb : b ∈ bs
      · obtain ⟨_, _, _, hlt⟩ := hp b hb
        rw [killB_in bs L b hb hlt] at hk0
        cases hk0; trivial
      · rw [killB_out bs L b hb] at hk0
        refine RB.mono' mono rfl rfl (fun _ _ _ h => h) (fun l hl => ⟨rfl, fun h => ?_⟩) (hg.blk b k0 hk0)
        by_cases hd : l.df ∈ bs
        · obtain ⟨k1, e1, e2, _⟩ := hp _ hd
          rw [h] at e1; cases e1; exact absurd rfl e2
        · rw [killB_out bs L _ hd]; exact h
  have hprog : Prog L.length g w L g' w (killB bs L) := by
    refine ⟨⟨rfl, rfl, rfl⟩, Nat.le_refl _, fun _ _ h _ => h, fun r ⟨b, hl, hm⟩ _ => ⟨b, (lv b hl).2, hm⟩, ?_, fun _ h => .inl h, fun x v _ h => mono x v h, fun b r _ h1 h2 => ⟨?_, h2⟩, fun _ => by rw [killB_len]; exact Nat.le_refl _⟩
    · rintro r (hI | ⟨b', _, hl2, hm2⟩)
      · exact .inl hI
      · exact .inr (.inr ⟨b', hl2, hm2⟩)
    · by_cases hd : b ∈ bs
      · obtain ⟨k1, e1, e2, _⟩ := hp _ hd
        rw [h1] at e1; cases e1; exact absurd rfl e2
      · rw [killB_out bs L _ hd]; exact h1
  refine (h.2 g' w vs hgood ⟨hc.len ▸ hv.1, fun j y v hy hvj => ?_⟩).mono ?_
  · exact hc.rvs hg (g' := g') (L' := killB bs L) (fun r hr => .inl hr) (fun b r hb hl hm => .inr ⟨b, hb, hl, hm⟩) (fun x u _ hu => mono x u hu) vs.toList
      (fun j x v hx hv' => hv.2 j x v hx (by simpa using hv')) j y v hy (by simpa using hvj)
  · rintro e w' ⟨v, X, L1, g1, he, hX, hr, hg1, hp1⟩
    exact ⟨v, X, L1, g1, he, hX, hr, hg1, hprog.trans (hp1.le (by rw [killB_len]; exact Nat.le_refl _) (Nat.le_refl _))⟩
end
end Go.Tidy
