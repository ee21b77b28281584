/-
  The base layer: a call's contract under the empty memory holds under every memory.
-/
import Derived.Test.YtnkfifkgbkgcjaaTidyL
namespace Go.Tidy

mutual
def V.sh (n : Nat) : V → V
  | .own b g lo len => .own (b + n) g lo len
  | .ptr b off => .ptr (b + n) off
  | .eptr b g i off => .eptr (b + n) g i off
  | .map b => .map (b + n)
  | .yld b => .yld (b + n)
  | .fn f caps => .fn f (V.shL n caps)
  | .iface t x => .iface t (V.sh n x)
  | .agg cs => .agg (V.shL n cs)
  | .tup cs => .tup (V.shL n cs)
  | .poison => .poison
  | .tt => .tt
  | .ff => .ff
  | .d x => .d x
  | .nil => .nil
  | .glob k => .glob k
def V.shL (n : Nat) : List V → List V
  | [] => []
  | x :: r => V.sh n x :: V.shL n r
end

def shF (n : Nat) : List (Nat × V) → List (Nat × V)
  | [] => []
  | p :: r => (p.1, p.2.sh n) :: shF n r
def shM (n : Nat) : List (V × V) → List (V × V)
  | [] => []
  | p :: r => (p.1.sh n, p.2.sh n) :: shM n r
def shR (n : Nat) : List (List V) → List (List V)
  | [] => []
  | p :: r => V.shL n p :: shR n r
def Blk.sh (n : Nat) : Blk → Blk
  | .cells cs => .cells (V.shL n cs)
  | .row g sz els => .row g sz (shR n els)
  | .map es => .map (shM n es)
  | .loop l => .loop { l with fr := shF n l.fr, df := l.df + n }
  | .defr => .defr
  | .dead => .dead
def shB (n : Nat) : List Blk → List Blk
  | [] => []
  | p :: r => p.sh n :: shB n r

theorem V.shL_get (n : Nat) : ∀ (cs : List V) (j : Nat), (V.shL n cs)[j]? = (cs[j]?).map (V.sh n)
  | [], j => by simp [V.shL]
  | x :: r, 0 => by simp [V.shL]
  | x :: r, j + 1 => by simp [V.shL, V.shL_get n r j]
theorem V.shL_len (n : Nat) : ∀ (cs : List V), (V.shL n cs).length = cs.length
  | [] => rfl
  | x :: r => by simp [V.shL, V.shL_len n r]
theorem shB_get (n : Nat) : ∀ (cs : List Blk) (j : Nat), (shB n cs)[j]? = (cs[j]?).map (Blk.sh n)
  | [], j => by simp [shB]
  | x :: r, 0 => by simp [shB]
  | x :: r, j + 1 => by simp [shB, shB_get n r j]
theorem shM_get (n : Nat) : ∀ (cs : List (V × V)) (j : Nat), (shM n cs)[j]? = (cs[j]?).map fun p => (p.1.sh n, p.2.sh n)
  | [], j => by simp [shM]
  | x :: r, 0 => by simp [shM]
  | x :: r, j + 1 => by simp [shM, shM_get n r j]
theorem shM_len (n : Nat) : ∀ (cs : List (V × V)), (shM n cs).length = cs.length
  | [] => rfl
  | x :: r => by simp [shM, shM_len n r]
theorem shR_get (n : Nat) : ∀ (cs : List (List V)) (j : Nat), (shR n cs)[j]? = (cs[j]?).map (V.shL n)
  | [], j => by simp [shR]
  | x :: r, 0 => by simp [shR]
  | x :: r, j + 1 => by simp [shR, shR_get n r j]
theorem shR_len (n : Nat) : ∀ (cs : List (List V)), (shR n cs).length = cs.length
  | [] => rfl
  | x :: r => by simp [shR, shR_len n r]
theorem shF_look (n : Nat) : ∀ (fr : List (Nat × V)) (i : Nat), look (shF n fr) i = (look fr i).sh n
  | [], i => by simp [shF, look, V.sh]
  | p :: r, i => by
    simp only [shF, look]
    cases Nat.beq p.1 i
    · simpa using shF_look n r i
    · rfl

/-- Two lots of blocks side by side. -/
def Gh.join (g : Gh) (n : Nat) (g1 : Gh) : Gh :=
  { I := g1.I, m := fun b => if b < n then g.m b else g1.m (b - n), cap := fun b => if b < n then g.cap b else g1.cap (b - n) }

section
variable {C : Ctx} {g g1 : Gh} {w : World} {L L1 : List Blk}

theorem join_m (b : Nat) : (g.join L.length g1).m (b + L.length) = g1.m b := by
  simp only [Gh.join, Nat.add_sub_cancel, if_neg (Nat.not_lt.2 (Nat.le_add_left L.length b))]
theorem join_cap (b : Nat) : (g.join L.length g1).cap (b + L.length) = g1.cap b := by
  simp only [Gh.join, Nat.add_sub_cancel, if_neg (Nat.not_lt.2 (Nat.le_add_left L.length b))]
theorem join_get {k : Blk} {b : Nat} (h : L1[b]? = some k) : (L ++ shB L.length L1)[b + L.length]? = some (k.sh L.length) := by
  rw [List.getElem?_append_right (by omega), Nat.add_sub_cancel, shB_get, h]; rfl

theorem RV.sh {x : V} {v : Value} (h : RV g1 w L1 x v) : RV (g.join L.length g1) w (L ++ shB L.length L1) (x.sh L.length) v := by
  induction h with
  | poison v => exact .poison v
  | tt => exact .tt
  | ff => exact .ff
  | d x v h => exact .d x v h
  | nil => exact .nil
  | ptr b off r cs hL hm => exact .ptr _ off r _ (join_get hL) ((join_m b).trans hm)
  | ptrX b off a hL => exact .ptrX _ off a (join_get hL)
  | own b gen lo len sz r o c els hL hm ho hcap hlc hle =>
    exact .own _ gen lo len sz r o c _ (join_get hL) ((join_m b).trans hm) ho (by rw [join_cap]; exact hcap) hlc (by rw [shR_len]; exact hle)
  | ownN b gen sz els hL hm => exact .ownN _ gen sz _ (join_get hL) ((join_m b).trans hm)
  | ownO b gen gen1 sz lo len els a n c hL hg0 => exact .ownO _ gen gen1 sz lo len _ _ _ _ (join_get hL) hg0
  | ownX b gen lo len a n c hL => exact .ownX _ gen lo len a n c (join_get hL)
  | eptr b gen i off sz r els hL hm => exact .eptr _ gen i off sz r _ (join_get hL) ((join_m b).trans hm)
  | eptrO b gen gen1 sz i off els a hL hg0 => exact .eptrO _ gen gen1 sz i off _ _ (join_get hL) hg0
  | eptrX b gen i off a hL => exact .eptrX _ gen i off a (join_get hL)
  | map b r es hL hm => exact .map _ r _ (join_get hL) ((join_m b).trans hm)
  | mapX b a hL => exact .mapX _ a (join_get hL)
  | yld b r l hL hm => exact .yld _ r _ (join_get hL) ((join_m b).trans hm)
  | yldX b r hL => exact .yldX _ r (join_get hL)
  | fn f caps vs hlen _ ih =>
    refine .fn f _ vs (by rw [V.shL_len]; exact hlen) fun j x v h1 h2 => ?_
    rw [V.shL_get] at h1
    cases e : caps[j]? with
    | none => rw [e] at h1; cases h1
    | some y => rw [e] at h1; cases h1; exact ih j y v e h2
  | iface t x v _ ih => exact .iface t _ v ih
  | agg cs vs hlen hone _ ih =>
    refine .agg _ vs (by rw [V.shL_len]; exact hlen) hone fun j x v h1 h2 => ?_
    rw [V.shL_get] at h1
    cases e : cs[j]? with
    | none => rw [e] at h1; cases h1
    | some y => rw [e] at h1; cases h1; exact ih j y v e h2
  | tup cs vs hlen _ ih =>
    refine .tup _ vs (by rw [V.shL_len]; exact hlen) fun j x v h1 h2 => ?_
    rw [V.shL_get] at h1
    cases e : cs[j]? with
    | none => rw [e] at h1; cases h1
    | some y => rw [e] at h1; cases h1; exact ih j y v e h2
  | glob k => exact .glob k

theorem RB.sh {b : Nat} {k : Blk} (h : RB g1 w L1 b k) : RB (g.join L.length g1) w (L ++ shB L.length L1) (b + L.length) (k.sh L.length) := by
  cases k with
  | cells cs =>
    obtain ⟨r, cur, T, h1, h2, h3, h4, h5⟩ := h
    refine ⟨r, cur, T, (join_m b).trans h1, h2, by rw [V.shL_len]; exact h3, h4, fun i x v hx hv => ?_⟩
    rw [V.shL_get] at hx
    cases e : cs[i]? with
    | none => rw [e] at hx; cases hx
    | some y => rw [e] at hx; cases hx; exact (h5 i y v e hv).sh
  | row gen sz els =>
    obtain ⟨h0, h1, hh⟩ := h
    refine ⟨h0, fun e he => ?_, ?_⟩
    · obtain ⟨i, hi⟩ := List.mem_iff_getElem?.1 he
      rw [shR_get] at hi
      cases e1 : els[i]? with
      | none => rw [e1] at hi; cases hi
      | some y => rw [e1] at hi; cases hi; rw [V.shL_len]; exact h1 y (List.mem_of_getElem? e1)
    · rcases hh with ⟨h2, h3⟩ | ⟨r, cur, T, h2, h3, h4, h5, h6, h7⟩
      · exact .inl ⟨(join_m b).trans h2, by rw [h3]; rfl⟩
      · refine .inr ⟨r, cur, T, (join_m b).trans h2, h3, by rw [join_cap]; exact h4, by rw [shR_len]; exact h5, h6, fun i j x v hx hv => ?_⟩
        rw [shR_get] at hx
        cases e1 : els[i]? with
        | none => rw [e1] at hx; cases hx
        | some y =>
          rw [e1] at hx
          simp only [Option.map_some, Option.bind_some] at hx
          rw [V.shL_get] at hx
          cases e2 : y[j]? with
          | none => rw [e2] at hx; cases hx
          | some z => rw [e2] at hx; cases hx; exact (h7 i j z v (by rw [e1]; exact e2) hv).sh
  | map es =>
    obtain ⟨r, ents, clock, h1, h2, h3, h4⟩ := h
    refine ⟨r, ents, clock, (join_m b).trans h1, h2, by rw [shM_len]; exact h3, fun i x e hx he => ?_⟩
    rw [shM_get] at hx
    cases e1 : es[i]? with
    | none => rw [e1] at hx; cases hx
    | some y => rw [e1] at hx; cases hx; exact ⟨(h4 i y e e1 he).1.sh, (h4 i y e e1 he).2.sh⟩
  | loop l =>
    obtain ⟨r, rec, h1, h2, h3, h4, h5, h6, h7, h8, h9, h10, h11⟩ := h
    exact ⟨r, rec, (join_m b).trans h1, h2, h3, h4, h5, h6, h7, h8, fun i => by rw [show (LoopR.fr _) = shF L.length l.fr from rfl, shF_look]; exact (h9 i).sh, (join_m _).trans h10, join_get h11⟩
  | defr =>
    obtain ⟨r, h1, h2⟩ := h
    exact ⟨r, (join_m b).trans h1, h2⟩
  | dead => trivial

theorem join_live {b : Nat} (h : live (L ++ shB L.length L1) b) : (b < L.length ∧ live L b) ∨ ∃ c, b = c + L.length ∧ live L1 c := by
  obtain ⟨k, hk, hd⟩ := h
  rcases Nat.lt_or_ge b L.length with hb | hb
  · rw [List.getElem?_append_left hb] at hk
    exact .inl ⟨hb, k, hk, hd⟩
  · rw [List.getElem?_append_right hb, shB_get] at hk
    refine .inr ⟨b - L.length, by omega, ?_⟩
    cases e : L1[b - L.length]? with
    | none => rw [e] at hk; cases hk
    | some y =>
      rw [e] at hk; cases hk
      refine ⟨y, e, fun hy => hd ?_⟩
      subst hy; rfl

theorem join_old {b : Nat} (hb : b < L.length) : (g.join L.length g1).m b = g.m b := by simp [Gh.join, hb]

theorem frame_ok {w0 : World} (hg : Good g w0 L) (hg1 : Good g1 w L1) (hp : Prog 0 { I := g.I, m := fun _ => none, cap := fun _ => 0 } w0 [] g1 w L1) :
    Good (g.join L.length g1) w (L ++ shB L.length L1) ∧ Prog L.length g w0 L (g.join L.length g1) w (L ++ shB L.length L1) := by
  have no : ∀ (g' : Gh) q, ¬ owned g' ([] : List Blk) q := fun g' q ⟨b, ⟨k, hk, _⟩, _⟩ => by simp at hk
  have heap : ∀ (q : Nat) (o : Obj), w0.heap[q]? = some o → w.heap[q]? = some o := fun q o h => hp.kept q o h (no _ q)
  have new : ∀ q, owned g1 L1 q → w0.heap.size ≤ q := fun q ho => Nat.le_of_not_lt fun hl => no _ q (hp.own q ho hl)
  have cells : ∀ (a : Addr) (v : Value), g.I a.block → w0.cell? a = some v → w.cell? a = some v := by
    intro a v hI hc
    have hlt := hg.lt _ hI
    have hh := heap a.block (w0.heap[a.block]) (Array.getElem?_eq_getElem hlt)
    rw [World.cell?_of_block (w := w0) (w' := w) (by rw [hh, Array.getElem?_eq_getElem hlt])]
    exact hc
  have mono : ∀ (x : V) (v : Value), RV g w0 L x v → RV (g.join L.length g1) w (L ++ shB L.length L1) x v := fun x v h =>
    RV.mono (g := g) (g' := g.join L.length g1) (fun q hq => hp.immk q hq) cells (fun b hb => Keep.same (List.getElem?_append_left hb) (join_old hb) (by simp [Gh.join, hb])) h.bel h
  have imm : ∀ q, g1.I q → g.I q ∨ w0.heap.size ≤ q := fun q hq => by
    rcases hp.imm q hq with h | h | h
    · exact .inl h
    · exact .inr h
    · exact absurd h (no _ q)
  refine ⟨⟨?_, ?_, ?_, ?_⟩, ?_⟩
  · intro b b' q h1 h2 hm1 hm2
    rcases join_live h1 with ⟨hb, hl⟩ | ⟨c, rfl, hl⟩ <;> rcases join_live h2 with ⟨hb', hl'⟩ | ⟨c', rfl, hl'⟩
    · rw [join_old hb] at hm1; rw [join_old hb'] at hm2
      exact hg.inj b b' q hl hl' hm1 hm2
    · rw [join_old hb] at hm1; rw [join_m] at hm2
      have := hg.owned_lt ⟨b, hl, hm1⟩
      have := new q ⟨c', hl', hm2⟩
      omega
    · rw [join_old hb'] at hm2; rw [join_m] at hm1
      have := hg.owned_lt ⟨b', hl', hm2⟩
      have := new q ⟨c, hl, hm1⟩
      omega
    · rw [join_m] at hm1 hm2
      rw [hg1.inj c c' q hl hl' hm1 hm2]
  · rintro q ⟨b, hl, hm⟩ hq
    rcases join_live hl with ⟨hb, hl⟩ | ⟨c, rfl, hl'⟩
    · rw [join_old hb] at hm
      rcases imm q hq with h | h
      · exact hg.dis q ⟨b, hl, hm⟩ h
      · have := hg.owned_lt ⟨b, hl, hm⟩; omega
    · rw [join_m] at hm
      exact hg1.dis q ⟨c, hl', hm⟩ hq
  · exact fun q hq => hg1.lt q hq
  · intro b k hk
    rcases Nat.lt_or_ge b L.length with hb | hb
    · rw [List.getElem?_append_left hb] at hk
      refine RB.mono' mono (join_old hb) (by simp [Gh.join, hb]) (fun q o _ ho => heap q o ho) (fun l hl => ?_) (hg.blk b k hk)
      subst hl
      obtain ⟨_, _, _, _, _, _, _, _, _, _, _, _, hdf⟩ := hg.blk b _ hk
      have := lt_of_get hdf
      exact ⟨join_old this, fun h => by rw [List.getElem?_append_left this]; exact h⟩
    · rw [List.getElem?_append_right hb, shB_get] at hk
      cases e : L1[b - L.length]? with
      | none => rw [e] at hk; cases hk
      | some y =>
        rw [e] at hk; cases hk
        have := (hg1.blk _ y e).sh (g := g) (L := L)
        rwa [Nat.sub_add_cancel hb] at this
  · refine ⟨hp.env, hp.size, fun q o h _ => heap q o h, ?_, fun q hq => (imm q hq).imp_right .inl, hp.immk, fun x v _ h => mono x v h, ?_, fun _ => by simp⟩
    · rintro q ⟨b, hl, hm⟩ hlt
      rcases join_live hl with ⟨hb, hl⟩ | ⟨c, rfl, hl'⟩
      · rw [join_old hb] at hm; exact ⟨b, hl, hm⟩
      · rw [join_m] at hm
        have := new q ⟨c, hl', hm⟩; omega
    · intro b q hb hL hm
      exact ⟨by rw [List.getElem?_append_left hb]; exact hL, by rw [join_old hb]; exact hm⟩

/-- What a call does that is handed data does not hang on what its caller owns. -/
theorem CallP.frame {f : FuncId} {args : List V} {q k : V → List Blk → Prop} (h : CallP C f args [] q) (ha : V.belL 0 args = true)
    (hk : ∀ X L', q X L' → k (X.sh L.length) (L ++ shB L.length L')) : CallP C f args L k := by
  unfold CallP at h ⊢
  refine ⟨h.1, fun g w vs hg hv => (h.2 { I := g.I, m := fun _ => none, cap := fun _ => 0 } w vs ⟨?_, ?_, ?_, ?_⟩ ?_).mono ?_⟩
  · rintro b b' r ⟨k, hk, _⟩; simp at hk
  · rintro r ⟨b, ⟨k, hk, _⟩, _⟩; simp at hk
  · exact hg.lt
  · intro b k hk; simp at hk
  · refine ⟨hv.1, fun j x v hx hvj => ?_⟩
    exact RV.mono (g := g) (g' := { I := g.I, m := fun _ => none, cap := fun _ => 0 }) (L := L) (k := 0) (fun r h => h) (fun a v _ h => h) (fun b hb => absurd hb (Nat.not_lt_zero _)) (V.belL_get ha hx) (hv.2 j x v hx hvj)
  · rintro e w' ⟨v, X, L1, g1, he, hX, hr, hg1, hp⟩
    obtain ⟨h1, h2⟩ := frame_ok hg hg1 hp
    exact ⟨v, _, _, _, he, hk X L1 hX, hr.sh, h1, h2⟩
end
end Go.Tidy
