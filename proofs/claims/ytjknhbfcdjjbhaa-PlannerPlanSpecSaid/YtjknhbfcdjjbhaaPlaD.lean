/-
  planner: Collect of matches; the choices as a list.
-/
import Derived.Test.YtjknhbfcdjjbhaaPlaC
namespace Go.Proofs.Ytjknhbfcdjjbhaa
open Go.Tidy
set_option maxRecDepth 100000
set_option maxHeartbeats 0
set_option linter.unusedSimpArgs false
set_option linter.unusedVariables false
variable {L : List Blk} {k : V → List Blk → Prop}
def seqM (xs : List Mt) (blk : Blk) (i : Nat) : List Blk := [.cells [.own 1 i 0 i], .row i 2 (mR (xs.take i)), .defr, blk]
theorem seqM_bel {n : Nat} {xs : List Mt} {blk : Blk} {i : Nat} (hn : 1 < n) (hb : blk.bel n = true) : belB n (seqM xs blk i) = true := by
  show (V.belL n [.own 1 i 0 i] && (belR n (mR (xs.take i)) && (true && (blk.bel n && true)))) = true
  rw [mR_bel, hb]; simp [V.belL, V.bel, hn]
theorem mR_rows {S : Nat → Prop} {L : List Blk} : ∀ l : List Mt, CvLL S L (mR l) (l.map Mt.cells)
  | [] => .nil
  | m :: l => .cons (.cons (.d _) (.cons (.d _) .nil)) (mR_rows l)
theorem mR_snoc (l : List Mt) (m : Mt) : mR (l ++ [m]) = mR l ++ [m.cells.map .d] := by unfold mR; rw [List.map_append]; rfl
theorem mR_len (l : List Mt) : (mR l).length = l.length := by unfold mR; rw [List.length_map]
theorem mappendSeq_c (f : FuncId) (caps : List D) (xs : List Mt) (hx : xs.length ≤ 4294967296) (hit : IterP C f caps (xs.map fun x => [mtV x])) (h : k (.d (mts xs)) L) : CallP C 48 [.nil, .d (.fn f caps)] L k := by
  refine CallP.pure ?_ rfl (fun _ => rfl) h
  clear h
  refine callP_cut (fun c => match c with | .region 1 _ _ => true | _ => false) C_ok Try.func48 rfl rfl (n := _) rfl (Nat.le_of_ble_eq_true rfl) (rs := _) rfl ?_
  repeat' (conv => whnf
           first | refine Br.tt ?_ | refine Br.ff ?_ | refine Br.dec (fun h => ?_) (fun h => ?_) | refine Br.not ?_ | refine Br.intro (fun h => ?_) (fun h => ?_) | refine GetE.intro _ rfl ?_ | refine Need.intro rfl ?_ | refine DrawP.go mixed rfl ?_)
  conv => whnf
  refine CutP.intro (ι := Unit) (fun _ => ⟨[(2, .ptr 0 0), (4, .nil), (6, .d (.fn f caps))], Try.f48.ntmps, [.cells [.own 1 0 0 0], .row 0 2 []], [], none⟩) ?_ (fun _ => ?_)
  · repeat' (conv => whnf
             first | refine Br.tt ?_ | refine Br.ff ?_ | refine Br.dec (fun h => ?_) (fun h => ?_) | refine Br.not ?_ | refine Br.intro (fun h => ?_) (fun h => ?_) | refine GetE.intro _ rfl ?_ | refine Need.intro rfl ?_ | refine DrawP.go mixed rfl ?_)
    conv => whnf
    exact ⟨(), Weak.nilCellTo 0 0 2 [.nil] rfl rfl (by decide) rfl ⟨rfl, rfl, rfl, trivial⟩⟩
  · conv => whnf
    refine CallP.conv (args' := .yld 3 :: caps.map .d) (L' := seqM xs (.loop _) 0) (by rfl) rfl ?_
    generalize hblk : Blk.loop _ = blk
    have hb4 : blk.bel 4 = true := by rw [← hblk]; rfl
    have hb5 : blk.bel 5 = true := by rw [← hblk]; rfl
    refine hit 3 4 (fun i => True) (fun i => seqM xs blk i) _ (fun _ => rfl) (fun i => seqM_bel (by decide) hb4) (fun i => by subst hblk; rfl) (by decide) ?_ ?_ trivial
    · intro i hi _
      rw [List.length_map] at hi
      rw [List.getElem_map]
      subst hblk
      refine YieldP.round C_ok (fun _ => false) ?_
      repeat' (conv => whnf
               first | refine Br.tt ?_ | refine Br.ff ?_ | refine Br.dec (fun h => ?_) (fun h => ?_) | refine Br.not ?_ | refine Br.intro (fun h => ?_) (fun h => ?_) | refine GetE.intro _ rfl ?_ | refine Need.intro rfl ?_ | refine DrawP.go mixed rfl ?_ | simp only [Nat.beq_refl, Bool.and_self] | refine Need.intro (by first | omega | (simp; omega) | (refine Nat.le_trans (m := 4294967296) ?_ (apLim_ge _); first | omega | (simp; omega))) ?_)
      conv => whnf
      refine FinP.drop (n := 4) (L' := seqM xs _ (i + 1)) ?_ (Nat.le_refl 4) rfl (seqM_bel (by decide) rfl) (.inl ⟨rfl, rfl, trivial⟩)
      unfold seqM
      rw [take_next hi, mR_snoc]
      show [Blk.cells _, Blk.row (i + 1) 2 ((mR (xs.take i)).take i ++ [xs[i].cells.map .d]), Blk.defr, _] = _
      rw [List.take_of_length_le (l := mR (xs.take i)) (by rw [mR_len]; simp; omega)]; rfl
    · intro _
      subst hblk
      repeat' (conv => whnf
               first | refine Br.tt ?_ | refine Br.ff ?_ | refine Br.dec (fun h => ?_) (fun h => ?_) | refine Br.not ?_ | refine Br.intro (fun h => ?_) (fun h => ?_) | refine GetE.intro _ rfl ?_ | refine Need.intro rfl ?_ | refine DrawP.go mixed rfl ?_)
      conv => whnf
      refine FinP.data (L' := []) (.d (.rowL (Nat.zero_le _) rfl ?_ (by simp [mR_len]) (fun e he => by obtain ⟨x, _, rfl⟩ := List.mem_map.1 he; rfl))) rfl rfl ⟨rfl, rfl⟩
      rw [List.length_map, List.take_length, List.drop_zero, List.take_of_length_le (by simp [mR_len])]
      exact mR_rows xs
theorem mcollect_c (f : FuncId) (caps : List D) (xs : List Mt) (hx : xs.length ≤ 4294967296) (hit : IterP C f caps (xs.map fun x => [mtV x])) (h : k (.d (mts xs)) L) : CallP C 27 [.d (.fn f caps)] L k := by
  refine CallP.pure ?_ rfl (fun _ => rfl) h
  clear h
  refine callP_of C_ok Try.func27 rfl rfl (n := _) rfl (Nat.le_of_ble_eq_true rfl) (rs := _) rfl ?_
  repeat' (conv => whnf
           first | refine Br.tt ?_ | refine Br.ff ?_ | refine Br.dec (fun h => ?_) (fun h => ?_) | refine Br.not ?_ | refine Br.intro (fun h => ?_) (fun h => ?_) | refine GetE.intro _ rfl ?_ | refine Need.intro rfl ?_ | refine DrawP.go mixed rfl ?_ | refine mappendSeq_c f caps xs hx hit ?_)
  conv => whnf
  exact FinP.drop (n := 0) rfl (Nat.le_refl 0) rfl rfl ⟨rfl, rfl⟩
end Go.Proofs.Ytjknhbfcdjjbhaa
