/-
  The base layer: slices of the activation's own.
-/
import Derived.Test.YtnkfifkgbkgcjaaTidyE
namespace Go.Tidy

section
variable {C : Ctx} {g : Gh} {w : World} {L : List Blk}

theorem flatten_get {α : Type} {sz : Nat} : ∀ {els : List (List α)}, (∀ e ∈ els, e.length = sz) → ∀ {i j : Nat}, j < sz → els.flatten[i * sz + j]? = (els[i]?).bind (fun e => e[j]?)
  | [], _, i, j, _ => by simp
  | e :: r, h, i, j, hj => by
    have he := h e (by simp)
    rw [List.flatten_cons]
    cases i with
    | zero => simp; rw [List.getElem?_append_left (by omega)]
    | succ i =>
      rw [List.getElem?_append_right (by rw [Nat.succ_mul]; omega)]
      have e1 : (i + 1) * sz + j - e.length = i * sz + j := by rw [Nat.succ_mul]; omega
      rw [e1, flatten_get (fun x hx => h x (by simp [hx])) hj]
      simp

theorem flatten_len {α : Type} {sz : Nat} : ∀ {els : List (List α)}, (∀ e ∈ els, e.length = sz) → els.flatten.length = els.length * sz
  | [], _ => by simp
  | e :: r, h => by
    rw [List.flatten_cons, List.length_append, flatten_len (fun x hx => h x (by simp [hx])), h e (by simp), List.length_cons, Nat.succ_mul]; omega

theorem RL.append {cs xs : List V} {vs us : List Value} (h : RL g w L cs vs) (hx : RL g w L xs us) : RL g w L (cs ++ xs) (vs ++ us) := by
  have h1 := h.1
  refine ⟨by rw [List.length_append, List.length_append, h.1, hx.1], fun j u hu => ?_, fun j y u hy hu => ?_⟩
  · rcases Nat.lt_or_ge j vs.length with hj | hj
    · rw [List.getElem?_append_left hj] at hu; exact h.2.1 j u hu
    · rw [List.getElem?_append_right hj] at hu; exact hx.2.1 _ u hu
  · rcases Nat.lt_or_ge j vs.length with hj | hj
    · rw [List.getElem?_append_left hj] at hu; rw [List.getElem?_append_left (by omega)] at hy; exact h.2.2 j y u hy hu
    · rw [List.getElem?_append_right hj] at hu; rw [List.getElem?_append_right (by omega), h1] at hy; exact hx.2.2 _ y u hy hu

theorem RL.nil : RL g w L [] [] := ⟨rfl, fun j u h => by simp at h, fun j y u h _ => by simp at h⟩

theorem RL.mono {g' : Gh} {w' : World} {L' : List Blk} {cs : List V} {vs : List Value} (hm : ∀ (x : V) (v : Value), RV g w L x v → RV g' w' L' x v) (h : RL g w L cs vs) : RL g' w' L' cs vs :=
  ⟨h.1, h.2.1, fun j y u hy hu => hm _ _ (h.2.2 j y u hy hu)⟩

/-- A new block for a row of known elements (and spare cells behind them). -/
theorem newRow_ext (hg : Good g w L) {w' : World} (hE : Ext w w') (T : TypeId) {sz : Nat} (hsz : 0 < sz) {els : List (List V)} (hels : ∀ e ∈ els, e.length = sz) {vs spare : List Value} (h : RL g w L els.flatten vs)
    (hsp : ∀ (j : Nat) (u : Value), spare[j]? = some u → u.oneCell' = true) (c : Nat) (hc : vs.length + spare.length = c * sz) (hcl : els.length ≤ c) (hnew : w'.heap[w.heap.size]? = some (.cells (vs ++ spare).toArray T (0, 0))) :
    ∃ g', RV g' w' (L ++ [.row 0 sz els]) (.own L.length 0 0 els.length) (.slice (some ⟨w.heap.size, 0, none⟩) els.length c) ∧ Good g' w' (L ++ [.row 0 sz els]) ∧
      Prog L.length g w L g' w' (L ++ [.row 0 sz els]) := by
  have hfl := flatten_len hels
  have hvl : vs.length = els.length * sz := by rw [← h.1, hfl]
  refine ⟨g.add L.length (some w.heap.size) (c * sz), .own _ _ _ _ sz _ 0 c els (by simp) (by simp [Gh.add]) (.inr (by simp)) (by simp [Gh.add]) hcl (by simp),
    add_good hg hE _ (fun q h => by cases h; exact Nat.le_refl _) _ ⟨hsz, hels, .inr ⟨_, _, T, by simp [Gh.add], hnew, by simp [Gh.add]; omega, by simp; omega, ?_, ?_⟩⟩, add_prog hg hE _ _ (fun q h => by cases h; exact Nat.le_refl _) _⟩
  · intro i v hv
    simp only [List.getElem?_toArray] at hv
    rcases Nat.lt_or_ge i vs.length with hi | hi
    · rw [List.getElem?_append_left hi] at hv; exact h.2.1 i v hv
    · rw [List.getElem?_append_right hi] at hv; exact hsp _ v hv
  · intro i j x v hx hv
    simp only [List.getElem?_toArray] at hv
    have hj : j < sz := by
      cases he : els[i]? with
      | none => rw [he] at hx; cases hx
      | some e => rw [he] at hx; have := lt_of_get (L := e) (by simpa using hx); have := hels e (List.mem_of_getElem? he); omega
    have hi : i < els.length := by
      rcases Nat.lt_or_ge i els.length with h' | h'
      · exact h'
      · rw [List.getElem?_eq_none h'] at hx; cases hx
    have hlt : i * sz + j < vs.length := by
      rw [hvl]
      have := Nat.mul_le_mul_right sz (show i + 1 ≤ els.length from hi)
      rw [Nat.succ_mul] at this; omega
    rw [List.getElem?_append_left hlt] at hv
    exact add_mono hg hE _ _ _ (h.2.2 (i * sz + j) x v (by rw [flatten_get hels hj]; exact hx) hv)

theorem newRow_ok (hg : Good g w L) (T : TypeId) {sz : Nat} (hsz : 0 < sz) {els : List (List V)} (hels : ∀ e ∈ els, e.length = sz) {vs spare : List Value} (h : RL g w L els.flatten vs)
    (hsp : ∀ (j : Nat) (u : Value), spare[j]? = some u → u.oneCell' = true) (c : Nat) (hc : vs.length + spare.length = c * sz) (hcl : els.length ≤ c) :
    ∃ g', RV g' (w.alloc (.cells (vs ++ spare).toArray T)) (L ++ [.row 0 sz els]) (.own L.length 0 0 els.length) (.slice (some ⟨w.heap.size, 0, none⟩) els.length c) ∧ Good g' (w.alloc (.cells (vs ++ spare).toArray T)) (L ++ [.row 0 sz els]) ∧
      Prog L.length g w L g' (w.alloc (.cells (vs ++ spare).toArray T)) (L ++ [.row 0 sz els]) :=
  newRow_ext hg (Ext.alloc w _) T hsz hels h hsp c hc hcl (heap_alloc_new w _)

/-! ### buildSlice -/
def seqParts (sz : Nat) : Nat → List (Nat × V) → Option (List (List V))
  | _, [] => some []
  | i, (j, x) :: r => bif Nat.beq j i && x.stor && Nat.beq (cellsOf x).length sz then match seqParts sz (i + 1) r with | some els => some (cellsOf x :: els) | none => none else none

theorem seqParts_ok {sz : Nat} : ∀ (i : Nat) (ps : List (Nat × V)) (qs : List (Nat × Value)) (els : List (List V)) (cells : Array Value), seqParts sz i ps = some els → ps.map (·.1) = qs.map (·.1) →
    (∀ (j : Nat) (p : Nat × V) (q : Nat × Value), ps[j]? = some p → qs[j]? = some q → RV g w L p.2 q.2) → (i + ps.length) * sz ≤ cells.size →
    ∃ (vs' : Array Value) (news : List Value), Instr.fill (fun i => some (i * sz, sz)) cells qs = some vs' ∧ RL g w L els.flatten news ∧ els.length = ps.length ∧ (∀ e ∈ els, e.length = sz) ∧
      vs'.toList = cells.toList.take (i * sz) ++ news ++ cells.toList.drop ((i + ps.length) * sz)
  | i, [], [], els, cells, h, _, _, _ => by
    simp [seqParts] at h; subst h
    exact ⟨cells, [], rfl, RL.nil, rfl, by simp, by simp⟩
  | i, [], q :: qs, _, _, _, h, _, _ => by simp at h
  | i, p :: ps, [], _, _, _, h, _, _ => by simp at h
  | i, (j, x) :: ps, (j', v) :: qs, els, cells, h, hi, hr, hsz => by
    simp only [List.map_cons, List.cons.injEq] at hi
    obtain ⟨rfl, hi⟩ := hi
    unfold seqParts at h
    cases hc : (Nat.beq j i && x.stor && Nat.beq (cellsOf x).length sz) with
    | false => simp [hc] at h
    | true =>
    simp only [hc, cond_true] at h
    rw [Bool.and_eq_true, Bool.and_eq_true] at hc
    obtain ⟨⟨c1, c2⟩, c3⟩ := hc
    have c1 := Nat.eq_of_beq_eq_true c1
    have c3 := Nat.eq_of_beq_eq_true c3
    subst c1
    cases hs : seqParts sz (j + 1) ps with
    | none => simp [hs] at h
    | some els' =>
    simp only [hs, Option.some.injEq] at h
    subst h
    have hrl := (hr 0 (j, x) (j, v) rfl rfl).rl c2
    have hlen := hrl.1
    simp at hlen
    have hv : v.cells.size = sz := by omega
    simp only [List.length_cons] at hsz
    have hb : j * sz + sz ≤ cells.size := by
      have := Nat.mul_le_mul_right sz (show j + 1 ≤ j + (ps.length + 1) by omega)
      rw [Nat.succ_mul] at this; omega
    have hstep := fill_step (cells := cells) (v := v) (off := j * sz) (by omega)
    have hsize : (v.cells.zipIdx.foldl (fun cs (c, k) => cs.setIfInBounds (j * sz + k) c) cells).size = cells.size := by
      rw [← Array.length_toList, hstep]; simp; omega
    obtain ⟨vs', news, h1, h2, h3, h4, h5⟩ := seqParts_ok (j + 1) ps qs els' (v.cells.zipIdx.foldl (fun cs (c, k) => cs.setIfInBounds (j * sz + k) c) cells) hs hi
      (fun k p q hp hq => hr (k + 1) p q (by simpa using hp) (by simpa using hq)) (by rw [hsize, show j + 1 + ps.length = j + (ps.length + 1) by omega]; exact hsz)
    refine ⟨vs', v.cells.toList ++ news, ?_, ?_, by simp [h3], ?_, ?_⟩
    · simp only [Instr.fill, hv]
      rw [if_neg (by simp; omega)]
      exact h1
    · rw [List.flatten_cons]; exact hrl.append h2
    · intro e he
      rcases List.mem_cons.1 he with rfl | he
      · exact c3
      · exact h4 e he
    · rw [h5, hstep]
      have e1 : v.cells.toList.length = sz := by simpa using hv
      have e2 : (cells.toList.take (j * sz)).length = j * sz := by simp; omega
      rw [List.append_assoc (cells.toList.take (j * sz)) v.cells.toList (cells.toList.drop (j * sz + v.cells.toList.length))]
      have t1 : (cells.toList.take (j * sz) ++ (v.cells.toList ++ cells.toList.drop (j * sz + v.cells.toList.length))).take ((j + 1) * sz) = cells.toList.take (j * sz) ++ v.cells.toList := by
        rw [← List.append_assoc, List.take_append_of_le_length (by simp; rw [Nat.succ_mul]; omega), List.take_of_length_le (by simp; rw [Nat.succ_mul]; omega)]
      have t2 : (cells.toList.take (j * sz) ++ (v.cells.toList ++ cells.toList.drop (j * sz + v.cells.toList.length))).drop ((j + 1 + ps.length) * sz) = cells.toList.drop ((j + (ps.length + 1)) * sz) := by
        rw [← List.append_assoc, List.drop_append, List.drop_of_length_le (by simp; have := Nat.mul_le_mul_right sz (show j + 1 ≤ j + 1 + ps.length by omega); rw [Nat.succ_mul] at this; omega)]
        simp only [List.nil_append, List.drop_drop, List.length_append, e2, e1]
        congr 1
        have := Nat.mul_le_mul_right sz (show j + 1 ≤ j + 1 + ps.length by omega)
        rw [Nat.succ_mul] at this
        rw [show j + (ps.length + 1) = j + 1 + ps.length by omega]
        omega
      rw [t1, t2, List.append_assoc, List.append_assoc, List.append_assoc]
      simp []

def vBuildSlice (C : Ctx) (t : TypeId) (len : Nat) (ps : List (Nat × V)) (L : List Blk) (k : V → List Blk → Prop) : Prop :=
  match C.tt t with
  | some ti => match ti.k with
    | .sl e => match C.tt e with
      | some ei => bif Nat.blt 0 ei.sz && Nat.beq ps.length len && Nat.ble (len * ei.sz) 16777216 then
          match seqParts ei.sz 0 ps with
          | some els => k (.own L.length 0 0 len) (L ++ [.row 0 ei.sz els])
          | none => False
        else False
      | none => False
    | _ => False
  | none => False

theorem vBuildSlice_ok (hC : C.OK) (hg : Good g w L) {t : TypeId} {len : Nat} {ps : List (Nat × V)} {qs : Array (Nat × Value)} (hi : ps.map (·.1) = qs.toList.map (·.1))
    (hr : ∀ (j : Nat) (p : Nat × V) (q : Nat × Value), ps[j]? = some p → qs.toList[j]? = some q → RV g w L p.2 q.2) {k : V → List Blk → Prop} (h : vBuildSlice C t len ps L k) :
    ∃ r w' X L' g', (Instr.buildSlice t len qs).run C.P w = .ok r w' ∧ k X L' ∧ RV g' w' L' X r ∧ Good g' w' L' ∧ Prog L.length g w L g' w' L' := by
  unfold vBuildSlice at h
  cases ht : C.tt t with
  | none => simp [ht] at h
  | some ti =>
  simp only [ht] at h
  split at h
  · rename_i e hk
    cases he : C.tt e with
    | none => simp [he] at h
    | some ei =>
    simp only [he] at h
    have hE := hC e ei he
    cases hc : (Nat.blt 0 ei.sz && Nat.beq ps.length len && Nat.ble (len * ei.sz) 16777216) with
    | false => simp [hc] at h
    | true =>
    simp only [hc, cond_true] at h
    rw [Bool.and_eq_true, Bool.and_eq_true] at hc
    obtain ⟨⟨c1, c2⟩, c3⟩ := hc
    have c1 : 0 < ei.sz := by simpa [Nat.blt_eq] using c1
    have c2 := Nat.eq_of_beq_eq_true c2
    have c3 := Nat.le_of_ble_eq_true c3
    split at h
    · rename_i els hs
      have hz : ∃ z : Array Value, ∀ f : Array Value → World → Result Value, (if len * ei.sz = 0 then (Sem.run C.P (pure #[] : Sem (Array Value)) w).andThen f else (Sem.run C.P (zeroValue e) w).andThen fun a w' => (Sem.run C.P (pure a.cells : Sem (Array Value)) w').andThen f) = f z w := by
        by_cases h0 : len * ei.sz = 0
        · exact ⟨#[], fun f => by rw [if_pos h0]; rfl⟩
        · exact ⟨ei.zv.cells, fun f => by rw [if_neg h0, hE.run_zero]; rfl⟩
      obtain ⟨z, hz⟩ := hz
      obtain ⟨vs', news, h1, h2, h3, h4, h5⟩ := seqParts_ok 0 ps qs.toList els ((Array.range (len * ei.sz)).map (z[· % z.size]!)) hs hi hr (by simp; rw [c2]; exact Nat.le_refl _)
      have hv : vs' = (news ++ []).toArray := by
        apply Array.ext'
        rw [h5]
        simp [c2]
      have hlen : els.length = len := by omega
      have hnl : news.length = len * ei.sz := by rw [← h2.1, flatten_len h4, hlen]
      obtain ⟨g', r1, r2, r3⟩ := newRow_ok hg e c1 h4 h2 (spare := []) (fun j u hu => by simp at hu) len (by simp; exact hnl) (by omega)
      rw [hlen] at r1
      refine ⟨_, _, _, _, g', ?_, h, r1, r2, r3⟩
      rw [hv] at h1
      have hle : ¬ (len * ei.sz > 2 ^ 24) := by omega
      simp only [Instr.buildSlice, Sem.run_bind, run_underlying ((hC t ti ht).slice hk), Result.andThen_ok, hE.run_sizeOf, Sem.run_ite, hle, if_false]
      refine (hz _).trans ?_
      rw [h1]
      simp [newRow]
    · exact h.elim
  · exact h.elim

end
end Go.Tidy
