/-
  planner: collected matches; the panic that ends a search; copies; Choices.
-/
import Derived.Test.YtjknhbfcdjjbhaaPlaC
import Derived.Test.YtjknhbfcdjjbhaaBaseJ
import Derived.Test.YtjknhbfcdjjbhaaDemZ
namespace Go.Proofs.Ytjknhbfcdjjbhaa
open Go.Tidy
set_option maxRecDepth 100000
set_option maxHeartbeats 0
set_option linter.unusedSimpArgs false
set_option linter.unusedVariables false
variable {L : List Blk} {k : V → List Blk → Prop}
def seqM (xs : List Mt) (blk : Blk) (i : Nat) : List Blk := [.cells [.own 1 i 0 i], .row i 2 (mR (xs.take i)), .defr, blk]
theorem seqM_bel {n : Nat} {xs : List Mt} {blk : Blk} {i : Nat} (hn : 1 < n) (hb : blk.bel n = true) : belB n (seqM xs blk i) = true := by
  show (V.belL n [.own 1 i 0 i] && (belR n (mR (xs.take i)) && (true && (blk.bel n && true)))) = true
  rw [mR_bel, hb]; simp [V.belL, V.bel, hn]
theorem mR_rows {S : Nat → Prop} {L : List Blk} : ∀ l : List Mt, CvLL S L (mR l) (l.map Mt.cells)
  | [] => .nil
  | m :: l => .cons (.cons (.d _) (.cons (.d _) .nil)) (mR_rows l)
theorem mR_snoc (l : List Mt) (m : Mt) : mR (l ++ [m]) = mR l ++ [m.cells.map .d] := by unfold mR; rw [List.map_append]; rfl
theorem mR_len (l : List Mt) : (mR l).length = l.length := by unfold mR; rw [List.length_map]
theorem mappendSeq_c (f : FuncId) (caps : List D) (xs : List Mt) (hx : xs.length ≤ 4294967296) (hit : IterP C f caps (xs.map fun x => [mtV x])) (h : k (.d (mts xs)) L) : CallP C 48 [.nil, .d (.fn f caps)] L k := by
  refine CallP.pure ?_ rfl (fun _ => rfl) h
  clear h
  refine callP_cut (fun c => match c with | .region 1 _ _ => true | _ => false) C_ok Try.func48 rfl rfl (n := _) rfl (Nat.le_of_ble_eq_true rfl) (rs := _) rfl ?_
  repeat' (conv => whnf
           first | refine Br.tt ?_ | refine Br.ff ?_ | refine Br.dec (fun h => ?_) (fun h => ?_) | refine Br.not ?_ | refine Br.intro (fun h => ?_) (fun h => ?_) | refine GetE.intro _ rfl ?_ | refine Need.intro rfl ?_ | refine DrawP.go mixed rfl ?_)
  conv => whnf
  refine CutP.intro (ι := Unit) (fun _ => ⟨[(2, .ptr 0 0), (4, .nil), (6, .d (.fn f caps))], Try.f48.ntmps, [.cells [.own 1 0 0 0], .row 0 2 []], [], none⟩) ?_ (fun _ => ?_)
  · repeat' (conv => whnf
             first | refine Br.tt ?_ | refine Br.ff ?_ | refine Br.dec (fun h => ?_) (fun h => ?_) | refine Br.not ?_ | refine Br.intro (fun h => ?_) (fun h => ?_) | refine GetE.intro _ rfl ?_ | refine Need.intro rfl ?_ | refine DrawP.go mixed rfl ?_)
    conv => whnf
    exact ⟨(), Weak.nilCellTo 0 0 2 [.nil] rfl rfl (by decide) rfl ⟨rfl, rfl, rfl, trivial⟩⟩
  · conv => whnf
    refine CallP.conv (args' := .yld 3 :: caps.map .d) (L' := seqM xs (.loop _) 0) (by rfl) rfl ?_
    generalize hblk : Blk.loop _ = blk
    have hb4 : blk.bel 4 = true := by rw [← hblk]; rfl
    have hb5 : blk.bel 5 = true := by rw [← hblk]; rfl
    refine hit 3 4 (fun i => True) (fun i => seqM xs blk i) _ (fun _ => rfl) (fun i => seqM_bel (by decide) hb4) (fun i => by subst hblk; rfl) (by decide) ?_ ?_ trivial
    · intro i hi _
      rw [List.length_map] at hi
      rw [List.getElem_map]
      subst hblk
      refine YieldP.round C_ok (fun _ => false) ?_
      repeat' (conv => whnf
               first | refine Br.tt ?_ | refine Br.ff ?_ | refine Br.dec (fun h => ?_) (fun h => ?_) | refine Br.not ?_ | refine Br.intro (fun h => ?_) (fun h => ?_) | refine GetE.intro _ rfl ?_ | refine Need.intro rfl ?_ | refine DrawP.go mixed rfl ?_ | simp only [Nat.beq_refl, Bool.and_self] | refine Need.intro (by first | omega | (simp; omega) | (refine Nat.le_trans (m := 4294967296) ?_ (apLim_ge _); first | omega | (simp; omega))) ?_)
      conv => whnf
      refine FinP.drop (n := 4) (L' := seqM xs _ (i + 1)) ?_ (Nat.le_refl 4) rfl (seqM_bel (by decide) rfl) (.inl ⟨rfl, rfl, trivial⟩)
      unfold seqM
      rw [take_next hi, mR_snoc]
      show [Blk.cells _, Blk.row (i + 1) 2 ((mR (xs.take i)).take i ++ [xs[i].cells.map .d]), Blk.defr, _] = _
      rw [List.take_of_length_le (l := mR (xs.take i)) (by rw [mR_len]; simp; omega)]; rfl
    · intro _
      subst hblk
      repeat' (conv => whnf
               first | refine Br.tt ?_ | refine Br.ff ?_ | refine Br.dec (fun h => ?_) (fun h => ?_) | refine Br.not ?_ | refine Br.intro (fun h => ?_) (fun h => ?_) | refine GetE.intro _ rfl ?_ | refine Need.intro rfl ?_ | refine DrawP.go mixed rfl ?_)
      conv => whnf
      refine FinP.data (L' := []) (.d (.rowL (Nat.zero_le _) rfl ?_ (by simp [mR_len]) (fun e he => by obtain ⟨x, _, rfl⟩ := List.mem_map.1 he; rfl))) rfl rfl ⟨rfl, rfl⟩
      rw [List.length_map, List.take_length, List.drop_zero, List.take_of_length_le (by simp [mR_len])]
      exact mR_rows xs
theorem mcollect_c (f : FuncId) (caps : List D) (xs : List Mt) (hx : xs.length ≤ 4294967296) (hit : IterP C f caps (xs.map fun x => [mtV x])) (h : k (.d (mts xs)) L) : CallP C 27 [.d (.fn f caps)] L k := by
  refine CallP.pure ?_ rfl (fun _ => rfl) h
  clear h
  refine callP_of C_ok Try.func27 rfl rfl (n := _) rfl (Nat.le_of_ble_eq_true rfl) (rs := _) rfl ?_
  repeat' (conv => whnf
           first | refine Br.tt ?_ | refine Br.ff ?_ | refine Br.dec (fun h => ?_) (fun h => ?_) | refine Br.not ?_ | refine Br.intro (fun h => ?_) (fun h => ?_) | refine GetE.intro _ rfl ?_ | refine Need.intro rfl ?_ | refine DrawP.go mixed rfl ?_ | refine mappendSeq_c f caps xs hx hit ?_)
  conv => whnf
  exact FinP.drop (n := 0) rfl (Nat.le_refl 0) rfl rfl ⟨rfl, rfl⟩
end Go.Proofs.Ytjknhbfcdjjbhaa
namespace Go.Proofs.Ytjknhbfcdjjbhaa
open Go.Tidy
set_option maxRecDepth 100000
set_option maxHeartbeats 0
set_option linter.unusedSimpArgs false
set_option linter.unusedVariables false
variable {L : List Blk} {k : V → List Blk → Prop}
def enoughD (e : Int) : D := .iface 66 true [DI e]
theorem search1_n (S X : List Blk) {N i : Nat} (hS : S.length = N) (hb : belB (S ++ X).length (S ++ X) = true) {kd : List Blk → Prop} (h : kd (S ++ X)) : DefP C 58 [.ptr (N + i) 0] none (S ++ X) kd := by
  refine defP_of C_ok (fun _ => false) Try.func58 rfl rfl (n := _) rfl (Nat.le_of_ble_eq_true rfl) rfl rfl rfl rfl rfl rfl rfl (by decide) (by decide) (Nat.zero_le _) ?_
  repeat' (conv => whnf
           first | refine Br.tt ?_ | refine Br.ff ?_ | refine Br.dec (fun h => ?_) (fun h => ?_) | refine Br.not ?_ | refine Br.intro (fun h => ?_) (fun h => ?_) | refine GetE.intro _ rfl ?_ | refine Need.intro rfl ?_ | refine DrawP.go mixed rfl ?_)
  conv => whnf
  exact FinP.drop (n := (S ++ X).length) (List.take_length ..) (Nat.le_refl _) rfl hb h
theorem search1_p (S : List Blk) {N : Nat} (hS : S.length = N) (c0 c1 c2 c3 : Blk) (e x : Int) (hb : belB (N + 5) (S ++ [c0, c1, c2, c3, .cells [I e]]) = true) {kd : List Blk → Prop} (h : kd (S ++ [c0, c1, c2, c3, .cells [I e]])) :
    DefP C 58 [.ptr (N + 4) 0] (some (.d (enoughD e))) (S ++ [c0, c1, c2, c3, .cells [I x]]) kd := by
  have a0 : ∀ X, (S ++ X).length = N + X.length := fun X => pre_len _ _ hS
  have a1 : ∀ X i, (S ++ X)[N + i]? = X[i]? := fun X i => pre_get _ _ hS i
  have a2 : ∀ X, (S ++ X)[N]? = X[0]? := fun X => pre_get0 _ _ hS
  have a3 : ∀ X i y, (S ++ X).set (N + i) y = S ++ X.set i y := fun X i y => pre_set _ _ hS i y
  have a4 : ∀ X y, (S ++ X).set N y = S ++ X.set 0 y := fun X y => pre_set0 _ _ hS y
  refine defP_of C_ok (fun _ => false) Try.func58 rfl rfl (n := _) rfl (Nat.le_of_ble_eq_true rfl) rfl rfl rfl rfl rfl rfl rfl (by decide) (by decide) (Nat.zero_le _) ?_
  repeat' (conv => whnf
           first | refine Br.tt ?_ | refine Br.ff ?_ | refine Br.dec (fun h => ?_) (fun h => ?_) | refine Br.not ?_ | refine Br.intro (fun h => ?_) (fun h => ?_) | refine GetE.intro _ rfl ?_ | refine Need.intro rfl ?_ | refine DrawP.go mixed rfl ?_ | simp only [a0, a1, a2, a3, a4, List.append_assoc])
  conv => whnf
  refine FinP.drop (n := N + 5) (pre_take _ _ hS 5) (Nat.le_refl _) rfl hb h
theorem shL_dd (n : Nat) : ∀ c : List D, V.shL n (c.map V.d) = c.map V.d
  | [] => rfl
  | x :: c => by simp only [List.map_cons, V.shL, V.sh, shL_dd n c]
theorem shR_mR (n : Nat) : ∀ l : List Mt, shR n (mR l) = mR l
  | [] => rfl
  | r :: l => by
    have := shR_mR n l
    unfold mR at this ⊢
    simp only [List.map_cons, shR, this, shL_dd]
theorem mtsE (l : List Mt) : ∀ e ∈ l.map Mt.cells, e.length = 2 := fun e he => by
  obtain ⟨x, _, rfl⟩ := List.mem_map.1 he; rfl
theorem mclone_0 (l : List Mt) (hl : l.length ≤ 4294967296) : CallP C 60 [.d (mts l)] [] fun X L' => L' = [.row 1 2 (mR l)] ∧ X = .own 0 1 0 l.length := by
  refine callP_of C_ok Try.func60 rfl rfl (n := _) rfl (Nat.le_of_ble_eq_true rfl) (rs := _) rfl ?_
  conv => whnf
  refine NilP.intro (fun h0 => ?_) ?_
  · have hn : l = [] := List.eq_nil_of_length_eq_zero (by simpa using h0)
    subst hn
    repeat' (conv => whnf
             first | refine Br.tt ?_ | refine Br.ff ?_ | refine Br.dec (fun h => ?_) (fun h => ?_) | refine Br.not ?_ | refine Br.intro (fun h => ?_) (fun h => ?_) | refine GetE.intro _ rfl ?_ | refine Need.intro rfl ?_ | refine DrawP.go mixed rfl ?_)
    conv => whnf
    exact FinP.nilOwn (sz := 2) (gen := 1) (by decide) ⟨rfl, rfl⟩
  · repeat' (conv => whnf
             first | refine Br.tt ?_ | refine Br.ff ?_ | refine Br.dec (fun h => ?_) (fun h => ?_) | refine Br.not ?_ | refine Br.intro (fun h => ?_) (fun h => ?_) | refine GetE.intro _ rfl ?_ | refine Need.intro rfl ?_ | refine DrawP.go mixed rfl ?_ | refine Need.intro (mtsE _) ?_ | refine Need.intro (by first | omega | (simp; omega) | (refine Nat.le_trans (m := 4294967296) ?_ (apLim_ge _); first | omega | (simp; omega))) ?_)
    conv => whnf
    refine FinP.drop (n := 1) (L' := [.row 1 2 (mR l)]) (congrArg (fun e => [Blk.row 1 2 e]) ?_) (Nat.le_of_ble_eq_true rfl) rfl ?_ ⟨rfl, congrArg (V.own 0 1 0) ?_⟩
    · simp [mR]
    · show (belR 1 (mR l) && true) = true
      rw [mR_bel]; rfl
    · simp
theorem mclone_c (l : List Mt) (hl : l.length ≤ 4294967296) (h : k (.own L.length 1 0 l.length) (L ++ [.row 1 2 (mR l)])) : CallP C 60 [.d (mts l)] L k := by
  refine (mclone_0 l hl).frame rfl fun X L' h' => ?_
  obtain ⟨rfl, rfl⟩ := h'
  simpa [V.sh, shB, Blk.sh, shR_mR] using h
theorem shR_rdR (n : Nat) : ∀ l : List (List Mt), shR n (rdR l) = rdR l
  | [] => rfl
  | r :: l => by
    have := shR_rdR n l
    unfold rdR at this ⊢
    simp only [List.map_cons, shR, this]; rfl
theorem lisE (l : List (List Mt)) : ∀ e ∈ l.map (fun r => [mts r]), e.length = 1 := fun e he => by
  obtain ⟨x, _, rfl⟩ := List.mem_map.1 he; rfl
theorem rclone_0 (l : List (List Mt)) (hl : l.length ≤ 4294967296) : CallP C 61 [.d (.sl (l.map fun r => [mts r]))] [] fun X L' => L' = [.row 1 1 (rdR l)] ∧ X = .own 0 1 0 l.length := by
  refine callP_of C_ok Try.func61 rfl rfl (n := _) rfl (Nat.le_of_ble_eq_true rfl) (rs := _) rfl ?_
  conv => whnf
  refine NilP.intro (fun h0 => ?_) ?_
  · have hn : l = [] := List.eq_nil_of_length_eq_zero (by simpa using h0)
    subst hn
    repeat' (conv => whnf
             first | refine Br.tt ?_ | refine Br.ff ?_ | refine Br.dec (fun h => ?_) (fun h => ?_) | refine Br.not ?_ | refine Br.intro (fun h => ?_) (fun h => ?_) | refine GetE.intro _ rfl ?_ | refine Need.intro rfl ?_ | refine DrawP.go mixed rfl ?_)
    conv => whnf
    exact FinP.nilOwn (sz := 1) (gen := 1) (by decide) ⟨rfl, rfl⟩
  · repeat' (conv => whnf
             first | refine Br.tt ?_ | refine Br.ff ?_ | refine Br.dec (fun h => ?_) (fun h => ?_) | refine Br.not ?_ | refine Br.intro (fun h => ?_) (fun h => ?_) | refine GetE.intro _ rfl ?_ | refine Need.intro rfl ?_ | refine DrawP.go mixed rfl ?_ | refine Need.intro (lisE _) ?_ | refine Need.intro (by first | omega | (simp; omega) | (refine Nat.le_trans (m := 4294967296) ?_ (apLim_ge _); first | omega | (simp; omega))) ?_)
    conv => whnf
    refine FinP.drop (n := 1) (L' := [.row 1 1 (rdR l)]) (congrArg (fun e => [Blk.row 1 1 e]) ?_) (Nat.le_of_ble_eq_true rfl) rfl ?_ ⟨rfl, congrArg (V.own 0 1 0) ?_⟩
    · simp [rdR]
    · show (belR 1 (rdR l) && true) = true
      rw [rdR_bel]; rfl
    · simp
theorem rclone_c (l : List (List Mt)) (hl : l.length ≤ 4294967296) (h : k (.own L.length 1 0 l.length) (L ++ [.row 1 1 (rdR l)])) : CallP C 61 [.d (.sl (l.map fun r => [mts r]))] L k := by
  refine (rclone_0 l hl).frame rfl fun X L' h' => ?_
  obtain ⟨rfl, rfl⟩ := h'
  simpa [V.sh, shB, Blk.sh, shR_rdR] using h
theorem chIn_len (bz : List Int) (tk : List Mt) (c : Int) : ∀ os : List Int, (chIn bz tk c os).length ≤ 2 * os.length
  | [] => Nat.le_refl _
  | o :: os => by
    have := chIn_len bz tk c os
    unfold chIn
    split
    · simp only [List.length_cons]; omega
    · have := List.length_filter_le (fun m => decide (m ∉ tk)) ([⟨c, o⟩, ⟨o, c⟩] : List Mt)
      simp only [List.length_append, List.length_cons, List.length_nil] at this ⊢; omega
theorem chOut_len (bz : List Int) (tk : List Mt) (least : Int) (n : Nat) : ∀ (cs : List Int) (may : Nat), cs.length ≤ n → (chOut bz tk least may cs).length ≤ cs.length * (2 * n)
  | [], _, _ => by simp [chOut]
  | c :: cs, may, h => by
    rw [chOut_cons]
    simp only [List.length_cons] at h ⊢
    have h1 := chIn_len bz tk c cs
    have h2 := fun may => chOut_len bz tk least n cs may (by omega)
    have e : (cs.length + 1) * (2 * n) = cs.length * (2 * n) + 2 * n := by rw [Nat.add_mul, Nat.one_mul]
    rw [e]
    split
    · have := h2 may; omega
    · rw [List.length_append]
      have a : (if least < c then chIn bz tk c cs else []).length ≤ 2 * n := by
        split
        · omega
        · simp
      have b : (if may = 0 then [] else chOut bz tk least (may - 1) cs).length ≤ cs.length * (2 * n) := by
        split
        · simp
        · exact h2 _
      omega
theorem chs_len (l : List (List Mt)) (p : Pl) (hp : p.clubs.length ≤ 1000) : (chs l p).length ≤ 4294967296 := by
  unfold chs
  split
  · have := chOut_len (clubsOf (openR l p).1) (takenOf l p) (leastOf (openR l p).1) 1000 p.clubs (p.clubs.length % 2) hp
    omega
  · simp
def chE (l : List (List Mt)) (p : Pl) : List Mt := if dmE l p = 0 then chs l p else []
theorem dmE_len {l : List (List Mt)} {p : Pl} (h : dmE l p = 0) : 1 ≤ p.clubs.length ∧ p.clubs.length ≤ 1000 := by
  have hf := checkP_field (dmE_zero h).1
  simp only [fieldOk, Bool.and_eq_true, decide_eq_true_eq] at hf; omega
theorem choices0_c (l : List (List Mt)) (p : Pl) (hs : Small l p) (h : k (.tup [.d (mts (chE l p)), I (dmE l p)]) L) : CallP C 13 [lisV l, plV p] L k := by
  refine CallP.pure ?_ rfl (fun _ => rfl) h
  clear h
  refine callP_of C_ok Try.func13 rfl rfl (n := _) rfl (Nat.le_of_ble_eq_true rfl) (rs := _) rfl ?_
  by_cases hE : dmE l p = 0
  · have hn := dmE_len hE
    repeat' (conv => whnf
             first | refine dmd_c l p hs ?_ | refine QCall.intro _ (newPlan_c p hn ⟨rfl, rfl⟩) ?_ | refine QCall.intro _ (choices_c l p ⟨rfl, rfl⟩) ?_ | refine QCall.intro _ (mcollect_c _ _ (chs l p) (chs_len l p hn.2) ((choices1_it 0 (fun _ _ => False) l p hs.hl hs.hr hn.2).p rfl) ⟨rfl, rfl⟩) ?_ | refine Br.tt ?_ | refine Br.ff ?_ | refine Br.dec (fun h => ?_) (fun h => ?_) | refine Br.not ?_ | refine Br.intro (fun h => ?_) (fun h => ?_) | refine GetE.intro _ rfl ?_ | refine Need.intro rfl ?_ | refine DrawP.go mixed rfl ?_)
    all_goals first | exact absurd hE ‹¬ dmE l p = 0› | skip
    all_goals conv => whnf
    refine FinP.data (L' := []) (.pair (.d (.d _)) (.d (.d _))) rfl rfl ⟨rfl, ?_⟩
    unfold chE; rw [if_pos hE, hE]
  · repeat' (conv => whnf
             first | refine dmd_c l p hs ?_ | refine Br.tt ?_ | refine Br.ff ?_ | refine Br.dec (fun h => ?_) (fun h => ?_) | refine Br.not ?_ | refine Br.intro (fun h => ?_) (fun h => ?_) | refine GetE.intro _ rfl ?_ | refine Need.intro rfl ?_ | refine DrawP.go mixed rfl ?_)
    all_goals first | exact absurd ‹dmE l p = 0› hE | skip
    conv => whnf
    refine FinP.data (L' := []) (.pair (.d .nil) (.d (.d _))) rfl rfl ⟨rfl, ?_⟩
    unfold chE; rw [if_neg hE]; rfl
end Go.Proofs.Ytjknhbfcdjjbhaa
