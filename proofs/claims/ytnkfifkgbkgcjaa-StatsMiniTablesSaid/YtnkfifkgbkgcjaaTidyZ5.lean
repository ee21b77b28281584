/-
  The base layer: a drawn region by some of its orders: what looks at no memory of the activation's own may go ahead of what writes there.
-/
import Derived.Test.YtnkfifkgbkgcjaaTidyZ4
namespace Go.Tidy
section
variable {C : Ctx} {n : Nat} {all : List Oper}

/-! ### Operations that look at no memory -/
theorem vLoad_far {t : TypeId} {x : V} {k : V → Prop} (h : vLoad C t x [] k) (L : List Blk) : vLoad C t x L k := by
  unfold vLoad at h ⊢
  repeat' (first | exact h | (exfalso; exact h) | (split at h) )
  all_goals simp_all
theorem vIndexAddr_far {t : TypeId} {x i : V} {k : V → Prop} (h : vIndexAddr C t x i k []) (L : List Blk) : vIndexAddr C t x i k L := by
  unfold vIndexAddr at h ⊢
  repeat' (first | exact h | (exfalso; exact h) | (split at h) )
  all_goals simp_all
theorem vSlice_far {t : TypeId} {x : V} {lo hi mx : Option V} {k : V → Prop} (h : vSlice C t x lo hi mx [] k) (L : List Blk) : vSlice C t x lo hi mx L k := by
  unfold vSlice at h ⊢
  repeat' (first | exact h | (exfalso; exact h) | (split at h) )
  all_goals simp_all
theorem vLookup_far {t : TypeId} {x i : V} {ok : Bool} {k : V → Prop} (h : vLookup C t x i ok [] k) (L : List Blk) : vLookup C t x i ok L k := by
  unfold vLookup at h ⊢
  repeat' (first | exact h | (exfalso; exact h) | (split at h) )
  all_goals simp_all
theorem vLenL_far {t : TypeId} {x : V} {k : V → Prop} (h : vLenL C t x [] k) (L : List Blk) : vLenL C t x L k := by
  cases x with
  | own b gen lo len => unfold vLenL at h; simp at h
  | _ => exact h

/-- A call that may write. -/
@[irreducible] def QCallW (f : (V → List Blk → Prop) → Prop) (k : V → List Blk → Prop) : Prop := ∃ v M, f (fun x N => x = v ∧ N = M) ∧ k v M
theorem QCallW.intro {f : (V → List Blk → Prop) → Prop} {k : V → List Blk → Prop} (v : V) (M : List Blk) (h : f fun x N => x = v ∧ N = M) (hk : k v M) : QCallW f k := by
  unfold QCallW; exact ⟨v, M, h, hk⟩
/-- An operation: 0 as it stands, 1 at no memory, 2 a call that may write. -/
def qOpL (C : Ctx) (md : Nat) (o : Oper) (fr : List (Nat × V)) (L : List Blk) (k : V → List Blk → Prop) : Prop :=
  match md with
  | 0 => qOp C o fr L k
  | 2 => QCallW (fun k => vOpF C o fr L k) k
  | 1 => match o.op with
    | .call c => match c.callee with
      | .value f => match ev fr f with
        | .fn _ [] => Need (V.belL 0 (c.args.toList.map (ev fr)) = true) (QCall (fun k => vOpF C o fr [] k) [] fun v _ => Need (v.bel 0 = true) (k v L))
        | _ => False
      | .builtin .len => vOpF C o fr [] fun v _ => k v L
      | _ => False
    | .load _ _ => vOpF C o fr [] fun v _ => k v L
    | .indexAddr _ _ _ => vOpF C o fr [] fun v _ => k v L
    | .slice _ _ _ _ none => vOpF C o fr [] fun v _ => k v L
    | .lookup _ _ _ _ => vOpF C o fr [] fun v _ => k v L
    | _ => False
  | _ => False
mutual
theorem V.sh0 (n : Nat) : ∀ x : V, x.bel 0 = true → x.sh n = x
  | .own .., h | .ptr .., h | .eptr .., h | .map _, h | .yld _, h => by simp [V.bel] at h
  | .fn f caps, h => by simp only [V.bel] at h; simp only [V.sh, V.shL0 n caps h]
  | .iface t x, h => by simp only [V.bel] at h; simp only [V.sh, V.sh0 n x h]
  | .agg cs, h => by simp only [V.bel] at h; simp only [V.sh, V.shL0 n cs h]
  | .tup cs, h => by simp only [V.bel] at h; simp only [V.sh, V.shL0 n cs h]
  | .poison, _ | .tt, _ | .ff, _ | .d _, _ | .nil, _ | .glob _, _ => rfl
theorem V.shL0 (n : Nat) : ∀ cs : List V, V.belL 0 cs = true → V.shL n cs = cs
  | [], _ => rfl
  | x :: r, h => by
    simp only [V.belL, Bool.and_eq_true] at h
    simp only [V.shL, V.sh0 n x h.1, V.shL0 n r h.2]
end
theorem qOpL_out {md : Nat} {o : Oper} {fr : List (Nat × V)} {L : List Blk} {k : V → List Blk → Prop} (h : qOpL C md o fr L k) :
    ∃ v L', vOp C o fr L (fun x M => x = v ∧ M = L') ∧ k v L' ∧ (md ≠ 2 → isWriter o.op = false → L' = L) ∧ (md = 1 → isWriter o.op = false ∧ ∀ L2, vOp C o fr L2 (fun x M => x = v ∧ M = L2)) := by
  unfold qOpL at h
  split at h
  · obtain ⟨v, L', h1, h2, h3⟩ := qOp_out h
    exact ⟨v, L', h1, h2, fun _ => h3, fun e => by cases e⟩
  · unfold QCallW at h
    obtain ⟨v, M, h1, h2⟩ := h
    simp only [vOpF_eq] at h1
    exact ⟨v, M, h1, h2, fun e => absurd rfl e, fun e => by cases e⟩
  · -- at no memory
    simp only [vOpF_eq] at h
    have rd : isRead o.op = true → (∀ (v : V), vOp C o fr [] (fun x _ => x = v) → ∀ L2, vOp C o fr L2 (fun x M => x = v ∧ M = L2)) → vOp C o fr [] (fun v _ => k v L) → ∃ v L', vOp C o fr L (fun x M => x = v ∧ M = L') ∧ k v L' ∧ (1 ≠ 2 → isWriter o.op = false → L' = L) ∧ (1 = 1 → isWriter o.op = false ∧ ∀ L2, vOp C o fr L2 (fun x M => x = v ∧ M = L2)) := by
      intro hr far h
      obtain ⟨p, v, hd⟩ := vOp_rd C o fr [] (.inr hr)
      obtain ⟨h1, h2⟩ := (hd _).1 h
      have h3 : vOp C o fr [] fun x _ => x = v := (hd _).2 ⟨h1, rfl⟩
      exact ⟨v, L, far v h3 L, h2, fun _ _ => rfl, fun _ => ⟨by simp [isWriter, hr], far v h3⟩⟩
    split at h
    · rename_i c hop
      split at h
      · rename_i f hcal
        split at h
        · rename_i g hf
          obtain ⟨hb, h⟩ := h.out
          unfold QCall at h
          obtain ⟨v, h1, h2⟩ := h
          obtain ⟨h3, h4⟩ := h2.out
          have far : ∀ L2, vOp C o fr L2 (fun x M => x = v ∧ M = L2) := fun L2 => by
            unfold vOp at h1 ⊢
            simp only [hop, hcal, hf, vCallV, vCallF, List.append_nil] at h1 ⊢
            refine h1.frame hb fun X L' hX => ?_
            obtain ⟨rfl, rfl⟩ := hX
            exact ⟨V.sh0 _ _ h3, by simp [shB]⟩
          exact ⟨v, L, far L, h4, fun _ _ => rfl, fun _ => ⟨by simp [isWriter, hop, isCall, hcal], far⟩⟩
        · exact h.elim
      · rename_i hcal
        refine rd (by rw [hop]; simp [isRead, hcal]) (fun v h L2 => ?_) h
        unfold vOp at h ⊢
        simp only [hop, hcal] at h ⊢
        split at h
        · simp only [and_true]
          exact vLenL_far h L2
        · exact h.elim
      · exact h.elim
    · rename_i t a hop
      refine rd (by rw [hop]; rfl) (fun v h L2 => ?_) h
      unfold vOp at h ⊢
      simp only [hop, and_true] at h ⊢
      exact vLoad_far h L2
    · rename_i t x i hop
      refine rd (by rw [hop]; rfl) (fun v h L2 => ?_) h
      unfold vOp at h ⊢
      simp only [hop, and_true] at h ⊢
      exact vIndexAddr_far h L2
    · rename_i t x l1 l2 hop
      refine rd (by rw [hop]; rfl) (fun v h L2 => ?_) h
      unfold vOp at h ⊢
      simp only [hop] at h ⊢
      have h' := vSlice_far (lo := l1.map (ev fr)) (hi := l2.map (ev fr)) (mx := none) (k := fun x => x = v) h L2
      show vSlice C t (ev fr x) (l1.map (ev fr)) (l2.map (ev fr)) none L2 fun x => x = v ∧ L2 = L2
      simp only [and_true]
      exact h'
    · rename_i t x i ok hop
      refine rd (by rw [hop]; rfl) (fun v h L2 => ?_) h
      unfold vOp at h ⊢
      simp only [hop, and_true] at h ⊢
      exact vLookup_far h L2
    · exact h.elim
  · exact h.elim
end
end Go.Tidy
