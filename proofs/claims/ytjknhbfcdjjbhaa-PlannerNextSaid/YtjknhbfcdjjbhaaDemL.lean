/-
  demands: the demands that a list dooms, one after the other; Collect.
-/
import Derived.Test.YtjknhbfcdjjbhaaDemK
namespace Go.Proofs.Ytjknhbfcdjjbhaa
open Go.Tidy
set_option maxRecDepth 100000
set_option maxHeartbeats 0
set_option linter.unusedSimpArgs false
set_option linter.unusedVariables false
variable {L : List Blk} {k : V → List Blk → Prop}
def doomGo (R : List Rnd) : List Dm → Nat → List Nat
  | [], _ => []
  | d :: ds, i => if doomsF R d then i :: doomGo R ds (i + 1) else doomGo R ds (i + 1)
def doomL (R : List Rnd) (p : Pl) : List Int := (doomGo R p.demands 0).map fun (i : Nat) => (i : Int)
theorem doomed_c (R : List Rnd) (p : Pl) (h : k (.d (.fn 94 [.rptr p.cells, .rptr [rndsD R]])) L) : CallP C 46 [.d (rndsD R), plV p] L k := by
  refine CallP.pure ?_ rfl (fun _ => rfl) h
  clear h
  refine callP_of C_ok Try.func46 rfl rfl (n := _) rfl (Nat.le_of_ble_eq_true rfl) (rs := _) rfl ?_
  repeat' (conv => whnf
           first | refine Br.tt ?_ | refine Br.ff ?_ | refine Br.dec (fun h => ?_) (fun h => ?_) | refine Br.not ?_ | refine Br.intro (fun h => ?_) (fun h => ?_) | refine GetE.intro _ rfl ?_ | refine Need.intro rfl ?_ | refine DrawP.go mixed rfl ?_)
  conv => whnf
  exact FinP.data (L' := []) (.d (.fnL (.cons (.ptrL (Nat.zero_le _) rfl (.data p.cells)) (.cons (.ptrL (Nat.zero_le _) rfl (.cons (.d _) .nil)) .nil)))) rfl rfl ⟨rfl, rfl⟩
theorem belF_le {n m : Nat} (h : n ≤ m) : ∀ fr : List (Nat × V), belF n fr = true → belF m fr = true
  | [], _ => rfl
  | p :: r, hb => by simp only [belF, Bool.and_eq_true] at hb ⊢; exact ⟨V.bel_le h _ hb.1, belF_le h r hb.2⟩
theorem belM_le {n m : Nat} (h : n ≤ m) : ∀ es : List (V × V), belM n es = true → belM m es = true
  | [], _ => rfl
  | p :: r, hb => by simp only [belM, Bool.and_eq_true] at hb ⊢; exact ⟨⟨V.bel_le h _ hb.1.1, V.bel_le h _ hb.1.2⟩, belM_le h r hb.2⟩
theorem belR_le {n m : Nat} (h : n ≤ m) : ∀ es : List (List V), belR n es = true → belR m es = true
  | [], _ => rfl
  | p :: r, hb => by simp only [belR, Bool.and_eq_true] at hb ⊢; exact ⟨V.belL_le h _ hb.1, belR_le h r hb.2⟩
theorem Blk.bel_le {n m : Nat} (h : n ≤ m) (k : Blk) (hb : k.bel n = true) : k.bel m = true := by
  cases k with
  | cells cs => exact V.belL_le h cs hb
  | row g sz els => exact belR_le h els hb
  | map es => exact belM_le h es hb
  | loop l =>
    simp only [Blk.bel, Bool.and_eq_true, decide_eq_true_eq] at hb ⊢
    exact ⟨belF_le h _ hb.1, by omega⟩
  | defr => rfl
  | dead => rfl
theorem belB_le {n m : Nat} (h : n ≤ m) : ∀ {l : List Blk}, belB n l = true → belB m l = true
  | [], _ => rfl
  | k :: r, hb => by simp only [belB, Bool.and_eq_true] at hb ⊢; exact ⟨Blk.bel_le h k hb.1, belB_le h hb.2⟩
theorem belB_append {n : Nat} : ∀ {l l' : List Blk}, belB n l = true → belB n l' = true → belB n (l ++ l') = true
  | [], _, _, h => h
  | k :: r, _, hb, h => by simp only [List.cons_append, belB, Bool.and_eq_true] at hb ⊢; exact ⟨hb.1, belB_append hb.2 h⟩
theorem kindsMap_bel {n : Nat} : belB n [.map kindsMap] = true := rfl
def DmI (R : List Rnd) (p : Pl) (P : Nat → Prop) (s : Nat × Nat) : Prop := s.1 ≤ p.demands.length ∧ P s.2 ∧ ∃ pre, pre.length = s.2 ∧ doomL R p = pre ++ (doomGo R (p.demands.drop s.1) s.1).map fun (i : Nat) => (i : Int)
theorem doomed1_it (R : List Rnd) (p : Pl) (hl : R.length ≤ 1073741824) (hD : p.demands.length ≤ 4611686018427387904) (hd : ∀ d ∈ p.demands, d.clubs.length ≤ 4611686018427387904) (hk : ∀ d ∈ p.demands, 1 ≤ d.kind ∧ d.kind ≤ 10) :
    IterP C 94 [.rptr p.cells, .rptr [rndsD R]] ((doomL R p).map fun i => [I i]) := by
  have len : ((doomL R p).map fun i => [I i]).length = (doomL R p).length := List.length_map ..
  intro b N P S k hS hbS hdS hb hy h0 hP
  obtain ⟨T, hT⟩ : ∃ T : Nat → List Blk, ∀ c, T c = S c ++ [.map kindsMap] := ⟨_, fun _ => rfl⟩
  have lT : ∀ c, (T c).length = N + 1 := fun c => by rw [hT, List.length_append, hS]; rfl
  have gT : ∀ c x, (T c ++ [x])[N + 1]? = some x := fun c x => getN (lT c) x
  have gT0 : ∀ c x, (T c ++ [x])[N]? = some (.map kindsMap) := fun c x => by rw [List.getElem?_append_left (by rw [lT]; omega), hT]; exact getN (hS c) _
  have sT : ∀ c x y, (T c ++ [x]).set (N + 1) y = T c ++ [y] := fun c x y => setN (lT c) x y
  have hT' : ∀ c x, T c ++ [x] = S c ++ [.map kindsMap, x] := fun c x => by rw [hT, List.append_assoc]; rfl
  have bT : ∀ c, belB (N + 1) (T c) = true := fun c => by
    rw [hT]
    exact belB_append (belB_le (Nat.le_succ N) (hbS c)) kindsMap_bel
  refine callP_of C_ok Try.func94 rfl rfl (n := _) rfl (Nat.le_of_ble_eq_true rfl) (rs := _) rfl ?_
  repeat' (conv => whnf
           first | refine Br.tt ?_ | refine Br.ff ?_ | refine Br.dec (fun h => ?_) (fun h => ?_) | refine Br.not ?_ | refine Br.intro (fun h => ?_) (fun h => ?_) | refine GetE.intro _ rfl ?_ | refine Need.intro rfl ?_ | refine DrawP.go mixed rfl ?_ | refine kinds_L ?_ | simp only [hS])
  all_goals conv => whnf
  refine LoopP.inv (DmI R p P) (fun s => ⟨[(0, .yld b), (1, .d (.rptr p.cells)), (2, .d (.rptr [rndsD R])), (4, .map N), (9, .d (.sl (p.demands.map Dm.cells))), (10, I p.demands.length), (11, I s.1)], Try.f94.ntmps, T s.2, [], none⟩) (fun s => p.demands.length - s.1) (0, 0) ⟨Nat.zero_le _, hP, [], rfl, rfl⟩ ?_ ?_
  · exact Weak.by ⟨rfl, rfl, rfl, rfl, rfl, congrArg I (by simp), rfl, trivial⟩ (hL := (hT 0).symm)
  rintro ⟨j, c⟩ ⟨hj, hPc, pre, hpre, heq⟩
  simp only at hj hPc hpre heq
  conv => whnf
  refine Br.dec (fun hb1 => ?_) (fun hb1 => ?_)
  · have hj' : j < p.demands.length := by simpa using hb1
    obtain ⟨d, hdj⟩ : ∃ d, d = p.demands[j] := ⟨_, rfl⟩
    have hmem : d ∈ p.demands := hdj ▸ List.getElem_mem hj'
    have r1 : (p.demands.map Dm.cells)[j]? = some d.cells := by rw [List.getElem?_map, List.getElem?_eq_getElem hj', hdj]; rfl
    have hw : IntKind.i64.wrap ((j : Int) + 1) = ((j + 1 : Nat) : Int) := by rw [wrap_in (by omega)]; omega
    rw [List.drop_eq_getElem_cons hj', doomGo, ← hdj] at heq
    obtain ⟨i, w, hi, ⟨f, cc, hm, hok⟩ | ⟨f, hm, hok⟩⟩ := kind_entry R d hl (hd d hmem) (hk d hmem)
    all_goals
      repeat' (conv => whnf
               first | refine Idx.intro j _ rfl r1 ?_ | simp only [lT, gT, gT0, sT] | refine MapF.at kindKs i _ rfl hi hm ?_ | refine hok _ _ ?_ | refine QCall.intro _ (hok _ _ ⟨rfl, rfl⟩) ?_ | refine Br.tt ?_ | refine Br.ff ?_ | refine Br.dec (fun h => ?_) (fun h => ?_) | refine Br.not ?_ | refine Br.intro (fun h => ?_) (fun h => ?_) | refine GetE.intro _ rfl ?_ | refine Need.intro rfl ?_ | refine DrawP.go mixed rfl ?_)
    all_goals conv => whnf
    all_goals
      first
      | (have hdm : doomsF R d = false := h
         rw [if_neg (by rw [hdm]; decide)] at heq
         exact ⟨(j + 1, c), ⟨hj', hPc, pre, hpre, heq⟩, by simp only []; omega, Weak.to (N + 1) (List.take_left' (lT c)) (Nat.le_succ N) (by simp [lT]) ⟨rfl, rfl, rfl, rfl, rfl, rfl, congrArg I hw, trivial⟩ (hf := by simp [belF, V.bel]; omega) (hB := bT c)⟩)
      | (have hdm : doomsF R d = true := h
         rw [if_pos hdm, List.map_cons] at heq
         have hlt : c < ((doomL R p).map fun i => [I i]).length := by rw [len, heq, List.length_append, List.length_cons]; omega
         have hxs : ((doomL R p).map fun i => [I i])[c] = [I j] := by
           rw [List.getElem_map]
           have : (doomL R p)[c]? = some (j : Int) := by rw [heq, List.getElem?_append_right (by omega), hpre, Nat.sub_self]; rfl
           rw [List.getElem?_eq_getElem (by rw [← len]; exact hlt)] at this
           exact congrArg (fun x => [I x]) (Option.some.inj this)
         have hyc := hy c hlt hPc
         rw [hxs] at hyc
         refine YieldP.conv (hT' c _) ?_
         refine YR.frame hyc (hS c) (hS _) (hbS c) (hbS _) (hdS c) hb rfl ?_ ?_
         · intro M hM hP1
           replace hM := hM.trans (hT' (c + 1) _).symm
           subst hM
           repeat' (conv => whnf
                    first | refine Br.tt ?_ | refine Br.ff ?_ | refine Br.dec (fun h => ?_) (fun h => ?_) | refine Br.not ?_ | refine Br.intro (fun h => ?_) (fun h => ?_) | refine GetE.intro _ rfl ?_ | refine Need.intro rfl ?_ | refine DrawP.go mixed rfl ?_ | simp only [lT, gT, gT0, sT])
           conv => whnf
           exact ⟨(j + 1, c + 1), ⟨hj', hP1, pre ++ [(j : Int)], by simp [hpre], by rw [heq]; simp⟩, by simp only []; omega, Weak.to (N + 1) (List.take_left' (lT (c + 1))) (Nat.le_succ N) (by simp [lT]) ⟨rfl, rfl, rfl, rfl, rfl, rfl, congrArg I hw, trivial⟩ (hf := by simp [belF, V.bel]; omega) (hB := bT (c + 1))⟩
         · rintro Z M rfl hz1 hz2 hz3
           repeat' (conv => whnf
                    first | refine Br.tt ?_ | refine Br.ff ?_ | refine Br.dec (fun h => ?_) (fun h => ?_) | refine Br.not ?_ | refine Br.intro (fun h => ?_) (fun h => ?_) | refine GetE.intro _ rfl ?_ | refine Need.intro rfl ?_ | refine DrawP.go mixed rfl ?_)
           conv => whnf
           exact FinP.drop (n := N) (List.take_left' hz1) (Nat.le_refl _) rfl hz2 hz3)
  · have hje : j = p.demands.length := by simp only [] at hb1; omega
    subst hje
    rw [List.drop_length, doomGo, List.map_nil, List.append_nil] at heq
    have hce : c = ((doomL R p).map fun i => [I i]).length := by rw [len, heq, hpre]
    repeat' (conv => whnf
             first | refine Br.tt ?_ | refine Br.ff ?_ | refine Br.dec (fun h => ?_) (fun h => ?_) | refine Br.not ?_ | refine Br.intro (fun h => ?_) (fun h => ?_) | refine GetE.intro _ rfl ?_ | refine Need.intro rfl ?_ | refine DrawP.go mixed rfl ?_)
    conv => whnf
    refine FinP.drop (n := N) (L' := S c) ?_ (Nat.le_refl _) rfl (hbS c) ?_
    · rw [hT]; exact List.take_left' (hS c)
    · subst hce; exact h0 hPc
def seqB (xs : List Int) (blk : Blk) (i : Nat) : List Blk := [.cells [.own 1 i 0 i], .row i 1 ((xs.take i).map fun x => [I x]), .defr, blk]
theorem intR_bel (n : Nat) : ∀ l : List Int, belR n (l.map fun x => [I x]) = true
  | [] => rfl
  | _ :: l => by simp only [List.map_cons, belR, V.belL, V.bel, Bool.true_and]; exact intR_bel n l
theorem seqB_bel {n : Nat} {xs : List Int} {blk : Blk} {i : Nat} (hn : 1 < n) (hb : blk.bel n = true) : belB n (seqB xs blk i) = true := by
  show (V.belL n [.own 1 i 0 i] && (belR n ((xs.take i).map fun x => [I x]) && (true && (blk.bel n && true)))) = true
  rw [intR_bel, hb]; simp [V.belL, V.bel, hn]
theorem intR_rows {S : Nat → Prop} {L : List Blk} : ∀ l : List Int, CvLL S L (l.map fun x => [I x]) (l.map fun x => [DI x])
  | [] => .nil
  | x :: l => .cons (.cons (.d _) .nil) (intR_rows l)
theorem appendSeq_c (f : FuncId) (caps : List D) (xs : List Int) (hx : xs.length ≤ 4294967296) (hit : IterP C f caps (xs.map fun x => [I x])) (h : k (.d (ints xs)) L) : CallP C 93 [.nil, .d (.fn f caps)] L k := by
  refine CallP.pure ?_ rfl (fun _ => rfl) h
  clear h
  refine callP_cut (fun c => match c with | .region 1 _ _ => true | _ => false) C_ok Try.func93 rfl rfl (n := _) rfl (Nat.le_of_ble_eq_true rfl) (rs := _) rfl ?_
  repeat' (conv => whnf
           first | refine Br.tt ?_ | refine Br.ff ?_ | refine Br.dec (fun h => ?_) (fun h => ?_) | refine Br.not ?_ | refine Br.intro (fun h => ?_) (fun h => ?_) | refine GetE.intro _ rfl ?_ | refine Need.intro rfl ?_ | refine DrawP.go mixed rfl ?_)
  conv => whnf
  refine CutP.intro (ι := Unit) (fun _ => ⟨[(2, .ptr 0 0), (4, .nil), (6, .d (.fn f caps))], Try.f93.ntmps, [.cells [.own 1 0 0 0], .row 0 1 []], [], none⟩) ?_ (fun _ => ?_)
  · repeat' (conv => whnf
             first | refine Br.tt ?_ | refine Br.ff ?_ | refine Br.dec (fun h => ?_) (fun h => ?_) | refine Br.not ?_ | refine Br.intro (fun h => ?_) (fun h => ?_) | refine GetE.intro _ rfl ?_ | refine Need.intro rfl ?_ | refine DrawP.go mixed rfl ?_)
    conv => whnf
    exact ⟨(), Weak.nilCellTo 0 0 1 [.nil] rfl rfl (by decide) rfl ⟨rfl, rfl, rfl, trivial⟩⟩
  · conv => whnf
    refine CallP.conv (args' := .yld 3 :: caps.map .d) (L' := seqB xs (.loop _) 0) (by rfl) rfl ?_
    generalize hblk : Blk.loop _ = blk
    have hb4 : blk.bel 4 = true := by rw [← hblk]; rfl
    have hb5 : blk.bel 5 = true := by rw [← hblk]; rfl
    refine hit 3 4 (fun i => True) (fun i => seqB xs blk i) _ (fun _ => rfl) (fun i => seqB_bel (by decide) hb4) (fun i => by subst hblk; rfl) (by decide) ?_ ?_ trivial
    · intro i hi _
      rw [List.length_map] at hi
      rw [List.getElem_map]
      subst hblk
      refine YieldP.round C_ok (fun _ => false) ?_
      repeat' (conv => whnf
               first | refine Br.tt ?_ | refine Br.ff ?_ | refine Br.dec (fun h => ?_) (fun h => ?_) | refine Br.not ?_ | refine Br.intro (fun h => ?_) (fun h => ?_) | refine GetE.intro _ rfl ?_ | refine Need.intro rfl ?_ | refine DrawP.go mixed rfl ?_ | simp only [Nat.beq_refl, Bool.and_self] | refine Need.intro (by first | omega | (simp; omega) | (refine Nat.le_trans (m := 4294967296) ?_ (apLim_ge _); first | omega | (simp; omega))) ?_)
      conv => whnf
      refine FinP.drop (n := 4) (L' := seqB xs _ (i + 1)) ?_ (Nat.le_refl 4) rfl (seqB_bel (by decide) rfl) (.inl ⟨rfl, rfl, trivial⟩)
      unfold seqB
      rw [take_next hi, List.map_append]
      show [Blk.cells _, Blk.row (i + 1) 1 (((xs.take i).map fun x => [I x]).take i ++ [[I xs[i]]]), Blk.defr, _] = _
      rw [List.take_of_length_le (l := (xs.take i).map fun x => [I x]) (by simp; omega)]; rfl
    · intro _
      subst hblk
      repeat' (conv => whnf
               first | refine Br.tt ?_ | refine Br.ff ?_ | refine Br.dec (fun h => ?_) (fun h => ?_) | refine Br.not ?_ | refine Br.intro (fun h => ?_) (fun h => ?_) | refine GetE.intro _ rfl ?_ | refine Need.intro rfl ?_ | refine DrawP.go mixed rfl ?_)
      conv => whnf
      refine FinP.data (L' := []) (.d (.rowL (Nat.zero_le _) rfl ?_ (by simp) (by simp))) rfl rfl ⟨rfl, rfl⟩
      rw [List.length_map, List.take_length, List.drop_zero, List.take_of_length_le (by simp)]
      exact intR_rows xs
theorem collect_c (f : FuncId) (caps : List D) (xs : List Int) (hx : xs.length ≤ 4294967296) (hit : IterP C f caps (xs.map fun x => [I x])) (h : k (.d (ints xs)) L) : CallP C 45 [.d (.fn f caps)] L k := by
  refine CallP.pure ?_ rfl (fun _ => rfl) h
  clear h
  refine callP_of C_ok Try.func45 rfl rfl (n := _) rfl (Nat.le_of_ble_eq_true rfl) (rs := _) rfl ?_
  repeat' (conv => whnf
           first | refine Br.tt ?_ | refine Br.ff ?_ | refine Br.dec (fun h => ?_) (fun h => ?_) | refine Br.not ?_ | refine Br.intro (fun h => ?_) (fun h => ?_) | refine GetE.intro _ rfl ?_ | refine Need.intro rfl ?_ | refine DrawP.go mixed rfl ?_ | refine appendSeq_c f caps xs hx hit ?_)
  conv => whnf
  exact FinP.drop (n := 0) rfl (Nat.le_refl 0) rfl rfl ⟨rfl, rfl⟩
end Go.Proofs.Ytjknhbfcdjjbhaa
