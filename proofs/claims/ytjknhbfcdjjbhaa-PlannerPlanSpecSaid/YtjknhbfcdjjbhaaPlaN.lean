/-
  planner: the code's Plan and Count are the reference's; the examples of the chapter.
-/
import Derived.Test.YtjknhbfcdjjbhaaPlaM
import Derived.Test.YtjknhbfcdjjbhaaDemS
namespace Go.Proofs.Ytjknhbfcdjjbhaa
open Go.Tidy
set_option maxRecDepth 100000
set_option maxHeartbeats 0
set_option linter.unusedSimpArgs false
set_option linter.unusedVariables false
variable {L : List Blk} {k : V → List Blk → Prop}
theorem exLoop_cong {f f' : Lst → Nat → List Lst → Sr} {ext : Mt → Lst} {ok ok' : Lst → Bool} {bud : Nat} : ∀ (ms : List Mt) (sp : Nat) (fs : List Lst), (∀ m ∈ ms, ok (ext m) = ok' (ext m)) → (∀ m ∈ ms, ok (ext m) = true → ∀ sp fs, f (ext m) sp fs = f' (ext m) sp fs) →
    exLoop f ext ok bud ms sp fs = exLoop f' ext ok' bud ms sp fs
  | [], sp, fs, _, _ => rfl
  | m :: ms, sp, fs, h1, h2 => by
    have ih := fun sp fs => exLoop_cong (f := f) (f' := f') (ext := ext) (ok := ok) (ok' := ok') (bud := bud) ms sp fs (fun x hx => h1 x (by simp [hx])) fun x hx => h2 x (by simp [hx])
    simp only [exLoop]
    rw [← h1 m (by simp)]
    split
    · rfl
    · split
      · rename_i hok
        rw [h2 m (by simp) hok]
        cases f' (ext m) (sp + 1) fs with
        | go sp fs => exact ih _ _
        | stop e sp fs => rfl
      · exact ih _ _
theorem exam_cong {p p' : Pl} {ch ch' : Lst → List Mt} {ok ok' : Lst → Bool} {Q : Lst → Prop} {bud : Nat} {all : Bool} (hf : ∀ l, fullC l p = fullC l p') (he : ∀ l m, extL l p m = extL l p' m) (hch : ∀ l, Q l → ch l = ch' l) (hok : ∀ l m, Q l → ok (extL l p m) = ok' (extL l p m))
    (hQ : ∀ l m, Q l → ok (extL l p m) = true → Q (extL l p m)) : ∀ (n : Nat) (l : Lst) (sp : Nat) (fs : List Lst), Q l → exam ch ok p bud all n l sp fs = exam ch' ok' p' bud all n l sp fs
  | 0, l, sp, fs, _ => rfl
  | n + 1, l, sp, fs, h => by
    unfold exam
    rw [← hf, ← hch l h]
    split
    · rfl
    · have e : extL l p = extL l p' := funext (he l)
      rw [← e]
      exact exLoop_cong _ _ _ (fun m _ => hok l m h) fun m _ ho sp fs => exam_cong hf he hch hok hQ n _ _ _ (hQ l m h ho)
theorem fewlen {p : Pl} (h0 : checkP p = 0) : p.clubs.length ≤ 1000 := by
  have hf := checkP_field h0
  simp only [fieldOk, Bool.and_eq_true, decide_eq_true_eq] at hf; omega
theorem run_eq {p : Pl} (most : Int) (all : Bool) (h0 : checkP p = 0) (hs : Small [] p) : runP p most all = runR p most all :=
  exam_cong (Q := fun l => PartP l p) (fun _ => rfl) (fun _ _ => rfl) (fun l hl => chs_eq h0 hl) (fun l m hl => by rw [(dmd_eq (part_small hs (fewlen h0) hl m).2).1]) (fun l m hl ho => (dmA_part (of_decide_eq_true ho)).2) _ _ _ _ (part_nil p)
/-! ### What a search ends with -/
def okT (all : Bool) : Sr → Prop
  | .go _ fs => all = false → fs = []
  | .stop e _ fs => (e = 3 ∧ (all = false → fs = [])) ∨ (e = 0 ∧ fs.length = 1 ∧ all = false)
theorem exam_okT (ch : Lst → List Mt) (ok : Lst → Bool) (p : Pl) (bud : Nat) (all : Bool) : ∀ (n : Nat) (l : Lst) (sp : Nat) (fs : List Lst), (all = false → fs = []) → okT all (exam ch ok p bud all n l sp fs)
  | 0, l, sp, fs, h => h
  | n + 1, l, sp, fs, h => by
    unfold exam
    split
    · split
      · rename_i ha; intro hb; rw [ha] at hb; cases hb
      · rename_i ha
        have ha' : all = false := by simpa using ha
        exact .inr ⟨rfl, by rw [h ha']; rfl, ha'⟩
    · have key : ∀ (ms : List Mt) (sp : Nat) (fs : List Lst), (all = false → fs = []) → okT all (exLoop (exam ch ok p bud all n) (extL l p) ok bud ms sp fs) := by
        intro ms
        induction ms with
        | nil => intro sp fs h; exact h
        | cons m ms ih =>
          intro sp fs h
          simp only [exLoop]
          split
          · exact .inl ⟨rfl, h⟩
          · split
            · have h2 := exam_okT ch ok p bud all n (extL l p m) (sp + 1) fs h
              split
              · rename_i e; rw [e] at h2; exact ih _ _ h2
              · rename_i e; rw [e] at h2; exact h2
            · exact ih _ _ h
      exact key _ _ _ h
theorem run_okT (p : Pl) (most : Int) (all : Bool) : okT all (runP p most all) := exam_okT _ _ _ _ _ _ _ _ _ fun _ => rfl
theorem plan_eq {p : Pl} (most : Int) (hs : Small [] p) : planF p most = rplanF p most := by
  unfold planF rplanF
  by_cases hA : argE p most = 0
  · rw [if_pos hA, if_pos hA, ← run_eq most false (argE_zero hA).1 hs]
    have h := run_okT p most false
    generalize runP p most false = o at h ⊢
    cases o with
    | go sp fs =>
      have : fs = [] := h rfl
      subst this; rfl
    | stop e sp fs =>
      rcases h with ⟨rfl, h⟩ | ⟨rfl, h, _⟩
      · have : fs = [] := h rfl
        subst this; rfl
      · obtain ⟨l, rfl⟩ := List.length_eq_one_iff.1 h; rfl
  · rw [if_neg hA, if_neg hA]
theorem count_eq {p : Pl} (most : Int) (hs : Small [] p) : countN p most = rcountN p most ∧ countE p most = rcountE p most := by
  unfold countN rcountN countE rcountE
  by_cases hA : argE p most = 0
  · rw [if_pos hA, if_pos hA, ← run_eq most true (argE_zero hA).1 hs]
    have h := run_okT p most true
    generalize runP p most true = o at h ⊢
    cases o with
    | go sp fs =>
      rw [if_pos ⟨hA, rfl⟩, if_pos ⟨hA, by simp [Sr.e]⟩]
      exact ⟨rfl, rfl⟩
    | stop e sp fs =>
      rcases h with ⟨rfl, h⟩ | ⟨rfl, _, h⟩
      · rw [if_neg (by simp [Sr.e]), if_neg (by simp [Sr.e])]; exact ⟨rfl, rfl⟩
      · cases h
  · rw [if_neg hA, if_neg hA, if_neg (fun h => hA h.1), if_neg (fun h => hA h.1)]
    exact ⟨rfl, rfl⟩
theorem chE_eq {l : Lst} {p : Pl} (hs : Small l p) : chE l p = rchE l p ∧ dmE l p = rdmE l p := by
  have h2 := (dmd_eq hs).2
  refine ⟨?_, h2⟩
  unfold chE rchE
  rw [← h2]
  by_cases h : dmE l p = 0
  · rw [if_pos h, if_pos h]
    unfold dmE at h
    by_cases h0 : checkP p = 0
    · rw [if_pos h0] at h
      by_cases hP : PartP l p
      · exact chs_eq h0 hP
      · rw [if_neg hP] at h; omega
    · rw [if_neg h0] at h; exact absurd h h0
  · rw [if_neg h, if_neg h]
theorem few_small {l : Lst} {p : Pl} (hb : FewP p) (hc : FewL l) : Small l p := by
  refine ⟨by have := hc.2; omega, fun r hr => ?_, by have := hb.2.1; omega, fun d hd => ?_, by have := hb.2.2; omega⟩
  · have h1 : r.length ≤ (l.map List.length).sum := by
      have h2 : ∀ (l : Lst), r ∈ l → r.length ≤ (l.map List.length).sum := fun l => by
        induction l with
        | nil => intro h; simp at h
        | cons x l ih =>
          intro h
          rw [List.map_cons, List.sum_cons]
          rcases List.mem_cons.1 h with rfl | h
          · omega
          · have := ih h; omega
      exact h2 l hr
    have := hc.1; omega
  · obtain ⟨i, hi, rfl⟩ := List.getElem_of_mem hd
    have := hb.1 i hi; omega
theorem few_nil {p : Pl} (hb : FewP p) : Small [] p := few_small hb ⟨by decide, by decide⟩
theorem chE_le (l : Lst) (p : Pl) : (chE l p).length ≤ 4611686018427387904 := by
  unfold chE
  split
  · rename_i h
    have := chs_len l p (dmE_len h).2; omega
  · decide
/-! ### The examples of the chapter -/
def pThree : Pl := ⟨[1, 2, 3], false, []⟩
def pTwo : Pl := ⟨[1, 2], false, []⟩
def pBoth : Pl := ⟨[1, 2], false, [⟨1, 1, 0, 0, 0, []⟩, ⟨2, 1, 0, 0, 0, []⟩]⟩
def mSix : List Mt := [⟨1, 2⟩, ⟨2, 1⟩, ⟨1, 3⟩, ⟨3, 1⟩, ⟨2, 3⟩, ⟨3, 2⟩]
theorem pv1 : chE [] pThree = mSix ∧ dmE [] pThree = 0 := by decide +kernel
theorem pv2 : (planF pTwo 10).l = [[⟨1, 2⟩]] ∧ (planF pTwo 10).sp = 1 ∧ (planF pTwo 10).e = 0 := by decide +kernel
theorem pv4 : countN pTwo 10 = 2 ∧ countE pTwo 10 = 0 := by decide +kernel
theorem pv5 : countN pThree 1000 = 48 ∧ countE pThree 1000 = 0 := by decide +kernel
theorem pv6 : planF pTwo 0 = ⟨[], 0, 3⟩ := by
  have h : (planF pTwo 0).l = [] ∧ (planF pTwo 0).sp = 0 ∧ (planF pTwo 0).e = 3 := by decide +kernel
  generalize planF pTwo 0 = o at h; obtain ⟨l, s, e⟩ := o; obtain ⟨rfl, rfl, rfl⟩ := h; rfl
theorem pv7 : planF pTwo (-1) = ⟨[], 0, 1⟩ := by
  have h : (planF pTwo (-1)).l = [] ∧ (planF pTwo (-1)).sp = 0 ∧ (planF pTwo (-1)).e = 1 := by decide +kernel
  generalize planF pTwo (-1) = o at h; obtain ⟨l, s, e⟩ := o; obtain ⟨rfl, rfl, rfl⟩ := h; rfl
theorem pv8 : planF pBoth 10 = ⟨[], 0, 320⟩ := by
  have h : (planF pBoth 10).l = [] ∧ (planF pBoth 10).sp = 0 ∧ (planF pBoth 10).e = 320 := by decide +kernel
  generalize planF pBoth 10 = o at h; obtain ⟨l, s, e⟩ := o; obtain ⟨rfl, rfl, rfl⟩ := h; rfl
theorem pv3 : planF pTwo 10 = ⟨[[⟨1, 2⟩]], 1, 0⟩ := by
  have h := pv2
  generalize planF pTwo 10 = o at h; obtain ⟨l, s, e⟩ := o; obtain ⟨rfl, rfl, rfl⟩ := h; rfl
theorem psm2 : Small [] pTwo := ⟨by decide, by decide, by decide, by decide, by decide⟩
theorem psm3 : Small [] pThree := ⟨by decide, by decide, by decide, by decide, by decide⟩
theorem psmB : Small [] pBoth := ⟨by decide, by decide, by decide, by decide, by decide⟩
theorem plan_e {p : Pl} {most : Int} {o : PlanR} (hs : Small [] p) (ho : planF p most = o) (h : k (.tup [lisV o.l, I o.sp, I o.e]) L) : CallP C 16 [plV p, I most] L k := plan_c p most hs (by rw [ho]; exact h)
theorem count_e {p : Pl} {most n e : Int} (hs : Small [] p) (hn : countN p most = n) (he : countE p most = e) (h : k (.tup [I n, I e]) L) : CallP C 18 [plV p, I most] L k := count_c p most hs (by rw [hn, he]; exact h)
theorem choices_e {l : Lst} {p : Pl} {m : List Mt} {e : Int} (hs : Small l p) (hm : chE l p = m) (he : dmE l p = e) (h : k (.tup [.d (mts m), I e]) L) : CallP C 13 [lisV l, plV p] L k := choices0_c l p hs (by rw [hm, he]; exact h)
theorem len6 {l : List (List D)} (h : l.all (fun e => decide (e.length = 6)) = true) : ∀ e ∈ l, e.length = 6 := fun e he => by simpa using List.all_eq_true.1 h e he
theorem psame6 (h : k (B true) L) : CallP C 15 [.d (mts mSix), .d (mts mSix)] L k := rsameM_c mSix mSix (by decide) h
theorem psame1 (h : k (B true) L) : CallP C 20 [lisV [[⟨1, 2⟩]], lisV [[⟨1, 2⟩]]] L k := rsameL_c [[⟨1, 2⟩]] [[⟨1, 2⟩]] (by decide) (by decide) h
theorem psane_c (h : k (B true) L) : CallP C 10 [] L k := by
  refine CallP.pure ?_ rfl (fun _ => rfl) h
  clear h
  refine callP_cut (fun c => match c with | .region 1 _ _ => true | _ => false) C_ok Try.func10 rfl rfl (n := _) rfl (Nat.le_of_ble_eq_true rfl) (rs := _) rfl ?_
  conv => whnf
  refine CutP.intro (ι := Unit) (fun _ => ⟨[(2, .ptr 1 0), (1, .ptr 0 0), (0, B false)], Try.f10.ntmps, [.cells (pTwo.cells.map .d), .cells (pThree.cells.map .d)], [], none⟩) ?_ (fun _ => ?_)
  · repeat' (conv => whnf
             first | refine Br.tt ?_ | refine Br.ff ?_ | refine Br.dec (fun h => ?_) (fun h => ?_) | refine Br.not ?_ | refine Br.intro (fun h => ?_) (fun h => ?_) | refine GetE.intro _ rfl ?_ | refine Need.intro rfl ?_ | refine DrawP.go mixed rfl ?_)
    conv => whnf
    refine ⟨(), Weak.trans (σ' := ⟨[(2, .ptr 1 0), (1, .ptr 0 0), (0, B false)], Try.f10.ntmps, [.cells [.own 2 0 0 2, B false, .nil], .cells [.own 3 0 0 3, B false, .nil], .row 0 1 [[I 1], [I 2]], .row 0 1 [[I 1], [I 2], [I 3]]], [], none⟩) ?_ ?_⟩
    · exact Weak.re [2, 3, 0, 1] ⟨rfl, rfl, rfl, trivial⟩ rfl (by decide) rfl
    · refine Weak.thaw 2 (Nat.zero_le _) (Nat.le_of_ble_eq_true rfl) rfl ⟨.inl ⟨rfl, rfl⟩, .inl ⟨rfl, rfl⟩, .inl ⟨rfl, rfl⟩, trivial⟩ ?_
      intro b x y hx hy
      match b, hx, hy with
      | 0, hx, hy =>
        cases hx; cases hy
        refine .inr (.inr ⟨_, _, rfl, rfl, rfl, fun j u v hu hv => ?_⟩)
        match j, hu, hv with
        | 0, hu, hv => cases hu; cases hv; exact .inr (.d (.rowL (by decide) rfl (.cons (.cons (.d _) .nil) (.cons (.cons (.d _) .nil) .nil)) rfl (by decide)))
        | 1, hu, hv => cases hu; cases hv; exact .inl ⟨rfl, rfl⟩
        | 2, hu, hv => cases hu; cases hv; exact .inr (.d .nil)
        | j + 3, hu, hv => simp at hu
      | 1, hx, hy =>
        cases hx; cases hy
        refine .inr (.inr ⟨_, _, rfl, rfl, rfl, fun j u v hu hv => ?_⟩)
        match j, hu, hv with
        | 0, hu, hv => cases hu; cases hv; exact .inr (.d (.rowL (by decide) rfl (.cons (.cons (.d _) .nil) (.cons (.cons (.d _) .nil) (.cons (.cons (.d _) .nil) .nil))) rfl (by decide)))
        | 1, hu, hv => cases hu; cases hv; exact .inl ⟨rfl, rfl⟩
        | 2, hu, hv => cases hu; cases hv; exact .inr (.d .nil)
        | j + 3, hu, hv => simp at hu
      | b + 2, hx, hy => simp at hy
  · repeat' (conv => whnf
             first | refine CallP.freeze [] rfl rfl (.cv (.aggL (.cons .nil .nil)) (.keep .nil)) (choices_e psm3 pv1.1 pv1.2 ?_) | refine plan_e psm2 pv3 ?_ | refine count_e psm2 pv4.1 pv4.2 ?_ | refine count_e psm3 pv5.1 pv5.2 ?_ | refine plan_e psm2 pv6 ?_ | refine plan_e psm2 pv7 ?_ | refine CallP.lent (plan_e psmB pv8 ⟨rfl, rfl⟩) (.cv (y := plV pBoth) (.aggL (.cons (.d _) (.cons (.d _) (.cons (.rowL (ds := pBoth.demands.map Dm.cells) trivial rfl (.cons (.cons (.d _) (.cons (.d _) (.cons (.d _) (.cons (.d _) (.cons (.d _) (.cons .nil .nil)))))) (.cons (.cons (.d _) (.cons (.d _) (.cons (.d _) (.cons (.d _) (.cons (.d _) (.cons .nil .nil)))))) .nil)) rfl (by exact len6 rfl)) .nil)))) (.keep .nil)) rfl rfl ?_ | refine CallP.lent (psame6 ⟨rfl, rfl⟩) (.keep (.cv (y := .d (mts mSix)) (.d (.rowL (ds := mSix.map Mt.cells) trivial rfl (.cons (.cons (.d _) (.cons (.d _) .nil)) (.cons (.cons (.d _) (.cons (.d _) .nil)) (.cons (.cons (.d _) (.cons (.d _) .nil)) (.cons (.cons (.d _) (.cons (.d _) .nil)) (.cons (.cons (.d _) (.cons (.d _) .nil)) (.cons (.cons (.d _) (.cons (.d _) .nil)) .nil)))))) rfl (by exact len2 rfl))) .nil)) rfl rfl ?_ | refine CallP.lent (psame1 ⟨rfl, rfl⟩) (.keep (.cv (y := lisV [[⟨1, 2⟩]]) (.aggL (.cons (.rowL (ds := [[.sl [[DI 1, DI 2]]]]) trivial rfl (.cons (.cons (.rowL (ds := [[DI 1, DI 2]]) trivial rfl (.cons (.cons (.d _) (.cons (.d _) .nil)) .nil) rfl (by exact len2 rfl)) .nil) .nil) rfl (by exact len1 rfl)) .nil)) .nil)) rfl rfl ?_ | refine Br.tt ?_ | refine Br.ff ?_ | refine Br.dec (fun h => ?_) (fun h => ?_) | refine Br.not ?_ | refine Br.intro (fun h => ?_) (fun h => ?_) | refine GetE.intro _ rfl ?_ | refine Need.intro rfl ?_ | refine DrawP.go mixed rfl ?_)
    conv => whnf
    exact FinP.drop (n := 0) rfl (Nat.le_refl 0) rfl rfl ⟨rfl, rfl⟩
end Go.Proofs.Ytjknhbfcdjjbhaa
