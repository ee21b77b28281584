import Derived.Test.YtndlggbljkhfbaaGreatJLE
set_option maxRecDepth 100000
set_option maxHeartbeats 0
set_option linter.unusedSimpArgs false
set_option linter.unusedVariables false
namespace Go.Proofs.YtndlggbljkhfbaaGreat
open Go.Tidy
structure SameV (R : List Rnd) (v : Vw) : Prop where
 len : R.length = v.length
 l : ∀ (i : Nat) (hi : i < R.length) (hj : i < v.length),R[i].l = v[i].l
 kn : ∀ (i : Nat) (hi : i < R.length) (hj : i < v.length),R[i].kn = v[i].kn
theorem SameV.state {R : List Rnd} {v : Vw} (h : SameV R v) (i c : Int) : stR (roundAt R i) c = vState v i c:=by
 unfold stR roundAt vState
 by_cases hi : 0 ≤ i ∧ i < R.length
 ·have hi' : 0 ≤ i ∧ i < v.length:=by rw [← h.len]; exact hi
  rw [dif_pos hi,dif_pos hi',h.l i.toNat (by omega) (by omega),h.kn i.toNat (by omega) (by omega)]
 ·have hi' : ¬ (0 ≤ i ∧ i < v.length):=by rw [← h.len]; exact hi
  rw [dif_neg hi,dif_neg hi']; rfl
theorem roundAt_nat {R : List Rnd} {i : Nat} (hi : i < R.length) : roundAt R i = R[i]:=by
 unfold roundAt; rw [dif_pos (by omega)]; rfl
theorem SameV.st {R : List Rnd} {v : Vw} (h : SameV R v) {i : Nat} (hi : i < R.length) (c : Int) : stR R[i] c = vState v i c:=by
 rw [← h.state,roundAt_nat hi]
theorem meetF_any (l : List Mt) (a b : Int) : meetF l a b = l.any fun m=>betwM m a b:=by
 unfold meetF
 rw [Bool.eq_iff_iff]
 simp only [Bool.or_eq_true,List.contains_iff_mem,List.any_eq_true,betwM,Bool.and_eq_true,decide_eq_true_eq]
 constructor
 ·rintro (h | h)
  ·exact ⟨_,h,.inl ⟨rfl,rfl⟩⟩
  ·exact ⟨_,h,.inr ⟨rfl,rfl⟩⟩
 ·rintro ⟨⟨x,y⟩,hm,⟨rfl,rfl⟩ | ⟨rfl,rfl⟩⟩
  ·exact .inl hm
  ·exact .inr hm
theorem SameV.meet {R : List Rnd} {v : Vw} (h : SameV R v) (i a b : Int) : meetF (roundAt R i).l a b = vMeet v i a b:=by
 rw [meetF_any]
 unfold roundAt vMeet
 by_cases hi : 0 ≤ i ∧ i < R.length
 ·have hi' : 0 ≤ i ∧ i < v.length:=by rw [← h.len]; exact hi
  rw [dif_pos hi,dif_pos hi',h.l i.toNat (by omega) (by omega)]
 ·have hi' : ¬ (0 ≤ i ∧ i < v.length):=by rw [← h.len]; exact hi
  rw [dif_neg hi,dif_neg hi']; rfl
theorem SameV.at {R : List Rnd} {v : Vw} (h : SameV R v) {i : Nat} (hi : i < R.length) (cl : List Int) : atF R[i] cl = vHome v i cl:=by
 unfold atF vHome
 refine List.countP_congr fun c _=>?_
 have : stateF R[i].l R[i].kn c = vState v i c:=h.st hi c
 rw [this]
section
variable {R : List Rnd} {v : Vw} {d : Dm}
theorem dGo_crowd (h : SameV R v) (hk : d.kind = 6 ∨ d.kind = 7) (m : Int) (hm : (d.kind = 6 ∧ m = 1) ∨ (d.kind = 7 ∧ m = d.n)) : ∀ (f i : Nat) (s : DS),i + f = R.length → dGo d v f i s = (R.drop i).any (overF d m)
 | 0,i,s,hi=>by
  have e9 : d.kind ≠ 9:=by omega
  rw [List.drop_of_length_le (by omega),dGo,decide_eq_false e9]; rfl
 | f + 1,i,s,hi=>by
  have hlt : i < R.length:=by omega
  rw [List.drop_eq_getElem_cons hlt,List.any_cons,dGo]
  have ho : overF d m R[i] = decide (m < (vHome v i d.clubs : Int)):=by unfold overF; rw [h.at hlt]
  rw [ho]
  rcases hm with ⟨h6,rfl⟩ | ⟨h7,rfl⟩
  ·by_cases hc : 1 < (vHome v i d.clubs : Int)
   ·simp only [dKind,if_pos h6,if_pos hc,decide_eq_true hc,Bool.true_or]
   ·simp only [dKind,if_pos h6,if_neg hc,decide_eq_false hc,Bool.false_or]
    exact dGo_crowd h hk 1 (.inl ⟨h6,rfl⟩) f (i + 1) _ (by omega)
  ·have h6 : d.kind ≠ 6:=by omega
   by_cases hc : d.n < (vHome v i d.clubs : Int)
   ·simp only [dKind,if_neg h6,if_pos h7,if_pos hc,decide_eq_true hc,Bool.true_or]
   ·simp only [dKind,if_neg h6,if_pos h7,if_neg hc,decide_eq_false hc,Bool.false_or]
    exact dGo_crowd h hk d.n (.inr ⟨h7,rfl⟩) f (i + 1) _ (by omega)
theorem dGo_close (h : SameV R v) (hk : d.kind = 8) : ∀ (f i : Nat) (s : DS) (last : Int) (met : Bool),i + f = R.length → (met = true → s.met = last ∧ 0 ≤ last) → (met = false → s.met = -1) → dGo d v f i s = closeGo d (R.drop i) i last met
 | 0,i,s,last,met,hi,_,_=>by
  have e9 : d.kind ≠ 9:=by omega
  rw [List.drop_of_length_le (by omega),dGo,decide_eq_false e9]; rfl
 | f + 1,i,s,last,met,hi,h1,h2=>by
  have hlt : i < R.length:=by omega
  have h6 : d.kind ≠ 6:=by omega
  have h7 : d.kind ≠ 7:=by omega
  have hmt : meetF R[i].l d.club d.other = vMeet v i d.club d.other:=by rw [← h.meet,roundAt_nat hlt]
  rw [List.drop_eq_getElem_cons hlt,closeGo,dGo,hmt]
  have ecast : (i : Int) + 1 = ((i + 1 : Nat) : Int):=by omega
  cases hv : vMeet v i d.club d.other with
  | false =>
   simp only [dKind,if_neg h6,if_neg h7,if_pos hk,hv]
   rw [if_neg (by decide),if_neg (by decide),ecast]
   exact dGo_close h hk f (i + 1) _ last met (by omega) h1 h2
  | true =>
   simp only [dKind,if_neg h6,if_neg h7,if_pos hk,hv,if_true]
   have hcond : (0 ≤ (dKnown d v i s).met ∧ (i : Int) - (dKnown d v i s).met < d.n) ↔ (met && decide ((i : Int) - last < d.n)) = true:=by
    have em : (dKnown d v i s).met = s.met:=rfl
    rw [em]
    cases met with
    | true=>have:=h1 rfl; simp only [Bool.true_and,decide_eq_true_eq]; omega
    | false=>have:=h2 rfl; simp only [Bool.false_and]; constructor <;> intro hh <;> first | omega | cases hh
   by_cases hc : 0 ≤ (dKnown d v i s).met ∧ (i : Int) - (dKnown d v i s).met < d.n
   ·rw [if_pos hc,if_pos (hcond.1 hc)]
   ·rw [if_neg hc,if_neg (fun e=>hc (hcond.2 e)),ecast]
    exact dGo_close h hk f (i + 1) _ i true (by omega) (fun _=>⟨rfl,by omega⟩) (fun e=>by cases e)
def brk2 (a : Int × Int) (s : Int) : Int × Int:=if s = 1 ∨ s = -1 then (s,if s = a.1 then a.2 + 1 else a.2) else a
theorem dGo_brk (h : SameV R v) (hk : d.kind = 9) : ∀ (f i : Nat) (s : DS),i + f = R.length → dGo d v f i s = decide (d.n < ((((R.drop i).map fun r=>stR r d.club)).foldl brk2 (s.last,s.breaks)).2)
 | 0,i,s,hi=>by
  rw [List.drop_of_length_le (by omega),dGo,decide_eq_true hk]; rfl
 | f + 1,i,s,hi=>by
  have hlt : i < R.length:=by omega
  have h6 : d.kind ≠ 6:=by omega
  have h7 : d.kind ≠ 7:=by omega
  have h8 : d.kind ≠ 8:=by omega
  rw [List.drop_eq_getElem_cons hlt,List.map_cons,List.foldl_cons,dGo,h.st hlt]
  simp only [dKind,if_neg h6,if_neg h7,if_neg h8,if_pos hk]
  by_cases hc : vState v i d.club = 1 ∨ vState v i d.club = -1
  ·have e : brk2 (s.last,s.breaks) (vState v i d.club) = (vState v i d.club,if vState v i d.club = s.last then s.breaks + 1 else s.breaks):=by unfold brk2; rw [if_pos hc]
   rw [if_pos hc,e]
   exact dGo_brk h hk f (i + 1) _ (by omega)
  ·have e : brk2 (s.last,s.breaks) (vState v i d.club) = (s.last,s.breaks):=by unfold brk2; rw [if_neg hc]
   rw [if_neg hc,e]
   exact dGo_brk h hk f (i + 1) _ (by omega)
theorem dGo_tilt (h : SameV R v) (hk : d.kind = 10) : ∀ (f i : Nat) (s : DS),i + f = R.length → dGo d v f i s = (s.known && tiltGo d.n (((R.drop i).map fun r=>stR r d.club).takeWhile fun s=>decide (s ≠ 2)) s.sum)
 | 0,i,s,hi=>by
  have e9 : d.kind ≠ 9:=by omega
  rw [List.drop_of_length_le (by omega),dGo,decide_eq_false e9]; simp [tiltGo]
 | f + 1,i,s,hi=>by
  have hlt : i < R.length:=by omega
  have h6 : d.kind ≠ 6:=by omega
  have h7 : d.kind ≠ 7:=by omega
  have h8 : d.kind ≠ 8:=by omega
  have h9 : d.kind ≠ 9:=by omega
  rw [List.drop_eq_getElem_cons hlt,List.map_cons,dGo,h.st hlt]
  simp only [dKind,if_neg h6,if_neg h7,if_neg h8,if_neg h9,if_pos hk]
  have ek : (dKnown d v i s).known = (s.known && !decide (vState v i d.club = 2)):=rfl
  have es : (dKnown d v i s).sum = s.sum:=rfl
  rw [ek,es]
  by_cases h2 : vState v i d.club = 2
  ·rw [h2,List.takeWhile_cons_of_neg (by decide)]
   simp only [decide_true,Bool.not_true,Bool.and_false,tiltGo]
   rw [if_neg (by decide)]
   show dGo d v f (i + 1) (dKnown d v i s) = false
   rw [dGo_tilt h hk f (i + 1) _ (by omega),ek,h2]
   simp
  ·rw [List.takeWhile_cons_of_pos (by simpa using h2),tiltGo,decide_eq_false h2]
   cases hkn : s.known with
   | false =>
    simp only [Bool.false_and]
    rw [if_neg (by decide)]
    show dGo d v f (i + 1) (dKnown d v i s) = false
    rw [dGo_tilt h hk f (i + 1) _ (by omega),ek,hkn]; rfl
   | true =>
    simp only [Bool.not_false,Bool.and_self,if_true,Bool.true_and]
    by_cases hc : d.n < s.sum + vState v i d.club ∨ d.n < -(s.sum + vState v i d.club)
    ·rw [if_pos hc,if_pos hc]
    ·rw [if_neg hc,if_neg hc]
     show dGo d v f (i + 1) ⟨s.sum + vState v i d.club,(dKnown d v i s).last,(dKnown d v i s).breaks,(dKnown d v i s).met,true⟩ = _
     rw [dGo_tilt h hk f (i + 1) _ (by omega)]; rfl
end
def LastU (R : List Rnd) : Prop:=∀ (i : Nat) (hi : i < R.length),i + 1 < R.length → ∀ c,stR R[i] c ≠ 2
theorem brk2_step {a : Int × Int} {s : Int} (h : -1 ≤ s ∧ s ≤ 2) (h2 : s ≠ 2) : brk2 a s = brkStep a s:=by
 unfold brk2 brkStep
 by_cases h0 : s = 0
 ·rw [if_neg (by omega),if_pos h0]
 ·rw [if_pos (by omega),if_neg h0]
theorem brk2_fold : ∀ (S : List Int) (a : Int × Int),(∀ s ∈ S,-1 ≤ s ∧ s ≤ 2) → (∀ (i : Nat) (hi : i < S.length),i + 1 < S.length → S[i] ≠ 2) → S.foldl brk2 a = (S.takeWhile fun s=>decide (s ≠ 2)).foldl brkStep a
 | [],a,_,_=>rfl
 | s :: S,a,hr,hl=>by
  by_cases h2 : s = 2
  ·have hS : S = []:=by
    cases S with
    | nil=>rfl
    | cons x S=>exact absurd h2 (hl 0 (by simp) (by simp))
   subst hS h2
   rw [List.takeWhile_cons_of_neg (by decide)]
   simp [brk2]
  ·rw [List.takeWhile_cons_of_pos (by simpa using h2),List.foldl_cons,List.foldl_cons,brk2_step (hr s (by simp)) h2]
   exact brk2_fold S _ (fun x hx=>hr x (by simp [hx])) fun i hi hi1=>by
    have:=hl (i + 1) (by simpa using hi) (by simpa using hi1)
    simpa using this
theorem dooms_eq {R : List Rnd} {v : Vw} {d : Dm} (h : SameV R v) (hu : LastU R) (hk : 1 ≤ d.kind ∧ d.kind ≤ 10) : doomsF R d = vDooms v d:=by
 have hst : stR (roundAt R d.round) d.club = vState v d.round d.club:=h.state _ _
 have hst2 : stR (roundAt R d.round) d.other = vState v d.round d.other:=h.state _ _
 have hmt : meets R d = vMeet v d.round d.club d.other:=h.meet _ _ _
 have hl : 0 + v.length = R.length:=by rw [h.len]; omega
 unfold doomsF vDooms
 by_cases k1 : d.kind = 1
 ·rw [if_pos k1,if_pos k1]; unfold doesF; rw [hst]
 by_cases k2 : d.kind = 2
 ·rw [if_neg k1,if_pos k2,if_neg k1,if_pos k2]; unfold doesF; rw [hst]
 by_cases k3 : d.kind = 3
 ·rw [if_neg k1,if_neg k2,if_pos k3,if_neg k1,if_neg k2,if_pos k3]; unfold doesF; rw [hst]
 by_cases k4 : d.kind = 4
 ·rw [if_neg k1,if_neg k2,if_neg k3,if_pos k4,if_neg k1,if_neg k2,if_neg k3,if_pos k4]; unfold k4F; rw [hmt,hst,hst2]
 by_cases k5 : d.kind = 5
 ·rw [if_neg k1,if_neg k2,if_neg k3,if_neg k4,if_pos k5,if_neg k1,if_neg k2,if_neg k3,if_neg k4,if_pos k5]; exact hmt
 rw [if_neg k1,if_neg k2,if_neg k3,if_neg k4,if_neg k5,if_neg k1,if_neg k2,if_neg k3,if_neg k4,if_neg k5]
 by_cases k6 : d.kind = 6
 ·rw [if_pos k6,dGo_crowd h (.inl k6) 1 (.inl ⟨k6,rfl⟩) _ 0 _ hl]; rfl
 by_cases k7 : d.kind = 7
 ·rw [if_neg k6,if_pos k7,dGo_crowd h (.inr k7) d.n (.inr ⟨k7,rfl⟩) _ 0 _ hl]; rfl
 by_cases k8 : d.kind = 8
 ·rw [if_neg k6,if_neg k7,if_pos k8,dGo_close h k8 _ 0 _ 0 false hl (fun e=>by cases e) (fun _=>rfl)]; rfl
 by_cases k9 : d.kind = 9
 ·rw [if_neg k6,if_neg k7,if_neg k8,if_pos k9,dGo_brk h k9 _ 0 _ hl]
  have:=brk2_fold (R.map fun r=>stR r d.club) (0,0) (fun s hs=>by obtain ⟨r,_,rfl⟩:=List.mem_map.1 hs; exact stR_range r _) (fun i hi hi1=>by
   rw [List.getElem_map]; exact hu i (by simpa using hi) (by simpa using hi1) _)
  show _ = decide (d.n < ((R.map fun r=>stR r d.club).foldl brk2 (0,0)).2)
  rw [this]; rfl
 ·have k10 : d.kind = 10:=by omega
  rw [if_neg k6,if_neg k7,if_neg k8,if_neg k9,dGo_tilt h k10 _ 0 _ hl]; rfl
theorem stateF_known {kn : Int → Bool} (hk : ∀ c,kn c = true) {c : Int} : ∀ l : List Mt,stateF l kn c ≠ 2
 | []=>by rw [stateF,hk c]; decide
 | m :: l=>by
  rw [stateF]
  split
  ·decide
  ·split
   ·decide
   ·exact stateF_known hk l
theorem pSame {l : List (List Mt)} {p : Pl} (hr : ∀ r ∈ l,r.length ≤ 4611686018427387904) : SameV (pR l p) (seenV l p):=by
 refine ⟨by unfold pR seenV; rw [List.length_map,List.length_map],fun i hi hj=>?_,fun i hi hj=>?_⟩
 all_goals
  have hil : i < l.length:=by unfold pR at hi; simpa using hi
  have hri:=hr _ (List.getElem_mem hil)
  have e1 : (pR l p)[i] = pRnd p l[i]:=List.getElem_map ..
  have e2 : (seenV l p)[i] = seenR p l[i]:=List.getElem_map ..
  rw [e1,e2]
  unfold pRnd; rw [dif_pos hri]
 ·rfl
 ·funext c
  show (decide ((l[i].length : Int) = halfN p) || decide (c < lastM l[i])) = (decide (l[i].length = halfN p) || decide (c < lastM l[i]))
  rw [decide_eq_decide.2 (show ((l[i].length : Int) = halfN p) ↔ l[i].length = halfN p by omega)]
theorem pLast {l : List (List Mt)} {p : Pl} (hr : ∀ r ∈ l,r.length ≤ 4611686018427387904) (hP : PartP l p) : LastU (pR l p):=by
 intro i hi hi1 c
 have hil : i < l.length:=by unfold pR at hi; simpa using hi
 have hil1 : i + 1 < l.length:=by unfold pR at hi1; simpa using hi1
 have hri:=hr _ (List.getElem_mem hil)
 have e1 : (pR l p)[i] = pRnd p l[i]:=List.getElem_map ..
 have hh:=(hP.2 i hil).2.2.1 hil1
 have hh2:=(hP.2 i hil).2.1
 rw [e1]
 unfold pRnd stR; rw [dif_pos hri]
 exact stateF_known (fun c=>by simp only [Bool.or_eq_true,decide_eq_true_eq]; exact .inl (by omega)) _
theorem doomGo_eq {R : List Rnd} {v : Vw} (h : SameV R v) (hu : LastU R) : ∀ (ds : List Dm) (i : Nat),(∀ d ∈ ds,1 ≤ d.kind ∧ d.kind ≤ 10) → doomGo R ds i = rdoomGo v ds i
 | [],_,_=>rfl
 | d :: ds,i,hk=>by
  rw [doomGo,rdoomGo,dooms_eq h hu (hk d (by simp)),doomGo_eq h hu ds (i + 1) fun d hd=>hk d (by simp [hd])]
theorem doomL_eq {l : List (List Mt)} {p : Pl} (hs : Small l p) (h0 : checkP p = 0) (hP : PartP l p) : doomL (pR l p) p = rdoomL (seenV l p) p:=by
 unfold doomL rdoomL
 rw [doomGo_eq (pSame hs.hr) (pLast hs.hr hP) _ _ fun d hd=>valid_kind (checkP_valid h0 d hd)]
theorem dmd_eq {l : List (List Mt)} {p : Pl} (hs : Small l p) : dmA l p = rdmA l p ∧ dmE l p = rdmE l p:=by
 unfold dmA rdmA dmE rdmE
 by_cases h0 : checkP p = 0
 ·have hiff:=PartP_iff l p (checkP_field h0)
  by_cases hP : PartP l p
  ·have hR:=hiff.1 hP
   rw [if_pos ⟨h0,hP⟩,if_pos ⟨h0,hR⟩,if_pos h0,if_pos h0,if_pos hP,if_pos hR,doomL_eq hs h0 hP]
   exact ⟨rfl,rfl⟩
  ·have hR : ¬ PartR l p:=fun h=>hP (hiff.2 h)
   rw [if_neg (fun h=>hP h.2),if_neg (fun h=>hR h.2),if_pos h0,if_pos h0,if_neg hP,if_neg hR]
   exact ⟨rfl,rfl⟩
 ·rw [if_neg (fun h=>h0 h.1),if_neg (fun h=>h0 h.1),if_neg h0,if_neg h0]
  exact ⟨rfl,rfl⟩
end Go.Proofs.YtndlggbljkhfbaaGreat
namespace Go.Proofs.YtndlggbljkhfbaaGreat
open Go.Tidy
inductive Beg : List (List Mt) → List (List Mt) → Prop
 | nil (l : List (List Mt)) : Beg [] l
 | last (r : List Mt) (l : List (List Mt)) (m : Nat) (h : 0 < m) : Beg [r.take m] (r :: l)
 | cons (r : List Mt) {A l : List (List Mt)} (h : Beg A l) : Beg (r :: A) (r :: l)
theorem Beg.refl : ∀ l : List (List Mt),Beg l l
 | []=>.nil []
 | r :: l=>.cons r (Beg.refl l)
theorem Beg.len {A l : List (List Mt)} (h : Beg A l) : A.length ≤ l.length:=by
 induction h with
 | nil l=>exact Nat.zero_le _
 | last r l m h=>simp
 | cons r h ih=>simpa using ih
theorem Beg.get {A l : List (List Mt)} (h : Beg A l) : ∀ (i : Nat) (hi : i < A.length) (hj : i < l.length),∃ m,0 < m ∧ A[i] = l[i].take m ∧ (i + 1 < A.length → A[i] = l[i]):=by
 induction h with
 | nil l=>intro i hi; simp at hi
 | last r l m h =>
  intro i hi hj
  have : i = 0:=by simpa using hi
  subst this
  exact ⟨m,h,rfl,fun h=>by simp at h⟩
 | cons r h ih =>
  intro i hi hj
  cases i with
  | zero=>exact ⟨r.length + 1,by omega,by simp only [List.getElem_cons_zero]; exact (List.take_of_length_le (Nat.le_succ _)).symm,fun _=>rfl⟩
  | succ i =>
   obtain ⟨m,h1,h2,h3⟩:=ih i (by simpa using hi) (by simpa using hj)
   exact ⟨m,h1,h2,fun h=>h3 (by simpa using h)⟩
section
variable {cl : List Int} {r : List Mt}
theorem first_mono (h : ∀ (i : Nat) (hi : i < r.length),OkR cl r i hi) : ∀ (j i : Nat) (hj : j < r.length) (hij : i < j),firstM (r[i]'(by omega)) < firstM r[j]:=by
 intro j
 induction j with
 | zero=>intro i hj hij; omega
 | succ j ih =>
  intro i hj hij
  have h1:=(h (j + 1) hj).2.2.2.1 (by omega)
  have e : j + 1 - 1 = j:=by omega
  simp only [e] at h1
  by_cases he : i = j
  ·subst he; exact h1
  ·have:=ih i (by omega) (by omega); omega
theorem lastM_get (hne : r ≠ []) : lastM r = firstM (r[r.length - 1]'(by have:=List.length_pos_iff.2 hne; omega)):=by
 have:=List.length_pos_iff.2 hne
 unfold lastM; rw [List.getLast?_eq_getElem?,List.getElem?_eq_getElem (by omega)]
theorem plays_first {m : Mt} {c : Int} (h : playsM m c = true) : firstM m ≤ c:=by
 rcases playsM_iff.1 h with rfl | rfl <;> unfold firstM <;> split <;> omega
theorem take_last (h : RndR cl r) {m : Nat} (hm : 0 < m) : r.take m ≠ [] ∧ lastM (r.take m) ≤ lastM r ∧ ∀ (j : Nat) (hj : j < r.length),m ≤ j → lastM (r.take m) < firstM r[j]:=by
 have hpos:=List.length_pos_iff.2 h.2.1
 have hlen : (r.take m).length = min m r.length:=List.length_take ..
 have hne : r.take m ≠ []:=fun e=>by rw [e] at hlen; simp at hlen; omega
 have hl : lastM (r.take m) = firstM (r[min m r.length - 1]'(by omega)):=by
  rw [lastM_get hne]; simp only [List.getElem_take,hlen]
 refine ⟨hne,?_,fun j hj hmj=>?_⟩
 ·rw [hl,lastM_get h.2.1]
  by_cases e : min m r.length - 1 = r.length - 1
  ·simp only [e]; exact Int.le_refl _
  ·exact Int.le_of_lt (first_mono h.1 (r.length - 1) (min m r.length - 1) (by omega) (by omega))
 ·rw [hl]; exact first_mono h.1 j _ hj (by omega)
theorem not_later (h : RndR cl r) {m : Nat} (hm : 0 < m) {c : Int} (hc : c < lastM (r.take m)) {j : Nat} (hj : j < r.length) (hp : playsM r[j] c = true) : j < m:=by
 refine Nat.lt_of_not_le fun hmj=>?_
 have:=(take_last h hm).2.2 j hj hmj
 have:=plays_first hp
 omega
theorem RndR.take (h : RndR cl r) {m : Nat} (hm : 0 < m) : RndR cl (r.take m):=by
 obtain ⟨h1,h2,h3⟩:=take_last h hm
 refine ⟨fun i hi=>?_,h1,?_⟩
 ·have hi' : i < m ∧ i < r.length:=by rw [List.length_take] at hi; omega
  obtain ⟨a1,a2,a3,a4,a5⟩:=h.1 i hi'.2
  have e : (r.take m)[i] = r[i]:=List.getElem_take ..
  unfold OkR
  rw [e]
  refine ⟨a1,a2,a3,fun h0=>?_,fun j hj hji=>?_⟩
  ·have e2 : (r.take m)[i - 1]'(by omega) = r[i - 1]'(by omega):=List.getElem_take ..
   rw [e2]; exact a4 h0
  ·have e2 : (r.take m)[j] = r[j]'(by omega):=List.getElem_take ..
   rw [e2]; exact a5 j (by omega) hji
 ·refine w23 (List.countP_mono_left fun c _ hc=>?_) h.2.2
  simp only [Bool.and_eq_true,decide_eq_true_eq,Bool.not_eq_true'] at hc ⊢
  refine ⟨by omega,?_⟩
  cases e : busyB r c with
  | false=>rfl
  | true =>
   obtain ⟨x,hx,hp⟩:=List.any_eq_true.1 e
   obtain ⟨j,hj,rfl⟩:=List.getElem_of_mem hx
   have hjm:=not_later h hm hc.1 hj hp
   have : busyB (r.take m) c = true:=List.any_eq_true.2 ⟨r[j],List.mem_take_iff_getElem.2 ⟨j,by omega,rfl⟩,hp⟩
   rw [hc.2] at this; cases this
end
structure Kn (r' r : Rnd) : Prop where
 st : ∀ c,stR r' c ≠ 2 → stR r c = stR r' c
 pl : ∀ c,stR r' c ≠ 2 → ∀ m ∈ r.l,playsM m c = true → m ∈ r'.l
 sub : ∀ m ∈ r'.l,m ∈ r.l
theorem Kn.refl (r : Rnd) : Kn r r:=⟨fun _ _=>rfl,fun _ _ _ h _=>h,fun _ h=>h⟩
inductive BegR : List Rnd → List Rnd → Prop
 | nil (l : List Rnd) : BegR [] l
 | last {r' r : Rnd} (l : List Rnd) (h : Kn r' r) : BegR [r'] (r :: l)
 | cons (r : Rnd) {A l : List Rnd} (h : BegR A l) : BegR (r :: A) (r :: l)
theorem BegR.get {A l : List Rnd} (h : BegR A l) : A.length ≤ l.length ∧ ∀ (i : Nat) (hi : i < A.length) (hj : i < l.length),Kn A[i] l[i]:=by
 induction h with
 | nil l=>exact ⟨Nat.zero_le _,fun i hi=>by simp at hi⟩
 | last l h =>
  refine ⟨by simp,fun i hi hj=>?_⟩
  have : i = 0:=by simpa using hi
  subst this; exact h
 | cons r h ih =>
  refine ⟨by simpa using ih.1,fun i hi hj=>?_⟩
  cases i with
  | zero=>exact Kn.refl _
  | succ i=>exact ih.2 i (by simpa using hi) (by simpa using hj)
theorem Kn.none (r : Rnd) : Kn noRnd r:=⟨fun c hc=>absurd rfl hc,fun c hc=>absurd rfl hc,fun m hm=>by simp [noRnd] at hm⟩
theorem BegR.at {A l : List Rnd} (h : BegR A l) (i : Int) : Kn (roundAt A i) (roundAt l i):=by
 obtain ⟨h1,h2⟩:=h.get
 by_cases hi : 0 ≤ i ∧ i < A.length
 ·have hi' : 0 ≤ i ∧ i < l.length:=by omega
  unfold roundAt
  rw [dif_pos hi,dif_pos hi']
  exact h2 _ _ _
 ·have : roundAt A i = noRnd:=by unfold roundAt; rw [dif_neg hi]
  rw [this]; exact Kn.none _
theorem meetF_iff {l : List Mt} {a b : Int} : meetF l a b = true ↔ ∃ m ∈ l,betwM m a b = true:=by
 rw [meetF_any,List.any_eq_true]
theorem Kn.meet {r' r : Rnd} (h : Kn r' r) {a b : Int} (hm : meetF r'.l a b = true) : meetF r.l a b = true:=by
 obtain ⟨m,h1,h2⟩:=meetF_iff.1 hm
 exact meetF_iff.2 ⟨m,h.sub m h1,h2⟩
theorem Kn.at {r' r : Rnd} (h : Kn r' r) (cl : List Int) : atF r' cl ≤ atF r cl:=by
 unfold atF
 refine List.countP_mono_left fun c _ hc=>?_
 simp only [decide_eq_true_eq] at hc ⊢
 have:=h.st c (by unfold stR; rw [hc]; decide)
 unfold stR at this
 rw [this,hc]
end Go.Proofs.YtndlggbljkhfbaaGreat
namespace Go.Proofs.YtndlggbljkhfbaaGreat
open Go.Tidy
variable {L : List Blk} {k : V → List Blk → Prop}
def rdR (A : List (List Mt)) : List (List V):=A.map fun r=>[.d (mts r)]
theorem rdR_bel (n : Nat) : ∀ A : List (List Mt),belR n (rdR A) = true
 | []=>rfl
 | _ :: A=>by simp only [rdR,List.map_cons,belR,V.belL,V.bel,Bool.true_and]; exact rdR_bel n A
end Go.Proofs.YtndlggbljkhfbaaGreat
namespace Go.Proofs.YtndlggbljkhfbaaGreat
open Go.Tidy
theorem Beg.small {A l : List (List Mt)} {p : Pl} (h : Beg A l) (hs : Small l p) : Small A p:=by
 have:=h.len
 refine ⟨by have:=hs.hl; omega,fun r hr=>?_,hs.hc,hs.hd,hs.hD⟩
 obtain ⟨i,hi,rfl⟩:=List.getElem_of_mem hr
 obtain ⟨m,_,e,_⟩:=h.get i hi (by omega)
 have:=hs.hr _ (List.getElem_mem (show i < l.length by omega))
 rw [e,List.length_take]; omega
theorem doomGo_mem {R : List Rnd} {x : Nat} : ∀ {ds : List Dm} {i : Nat},x ∈ doomGo R ds i ↔ ∃ (a : Nat) (ha : a < ds.length),x = i + a ∧ doomsF R ds[a] = true
 | [],i=>by simp [doomGo]
 | d :: ds,i=>by
  have ih:=doomGo_mem (R:=R) (x:=x) (ds:=ds) (i:=i + 1)
  have key : (∃ (a : Nat) (ha : a < (d :: ds).length),x = i + a ∧ doomsF R (d :: ds)[a] = true) ↔ (x = i ∧ doomsF R d = true) ∨ x ∈ doomGo R ds (i + 1):=by
   rw [ih]
   constructor
   ·rintro ⟨a,ha,e,hd⟩
    cases a with
    | zero=>exact .inl ⟨e,hd⟩
    | succ a=>exact .inr ⟨a,by simpa using ha,by omega,hd⟩
   ·rintro (⟨e,hd⟩ | ⟨a,ha,e,hd⟩)
    ·exact ⟨0,by simp,e,hd⟩
    ·exact ⟨a + 1,by simpa using ha,by omega,hd⟩
  rw [key,doomGo]
  cases hd : doomsF R d with
  | true=>rw [if_pos rfl,List.mem_cons]; simp
  | false=>rw [if_neg (by simp)]; simp
theorem doomL_mem {R : List Rnd} {p : Pl} {x : Int} : x ∈ doomL R p ↔ ∃ (a : Nat) (ha : a < p.demands.length),x = (a : Int) ∧ doomsF R p.demands[a] = true:=by
 unfold doomL
 rw [List.mem_map]
 constructor
 ·rintro ⟨y,hy,rfl⟩
  obtain ⟨a,ha,e,hd⟩:=doomGo_mem.1 hy
  exact ⟨a,ha,by omega,hd⟩
 ·rintro ⟨a,ha,rfl,hd⟩
  exact ⟨a,doomGo_mem.2 ⟨a,ha,by omega,hd⟩,rfl⟩
end Go.Proofs.YtndlggbljkhfbaaGreat
namespace Go.Proofs.YtndlggbljkhfbaaGreat
open Go.Tidy
theorem dmE_zero {l : List (List Mt)} {p : Pl} (h : dmE l p = 0) : checkP p = 0 ∧ PartP l p:=by
 unfold dmE at h
 by_cases h0 : checkP p = 0
 ·rw [if_pos h0] at h
  by_cases hF : PartP l p
  ·exact ⟨h0,hF⟩
  ·rw [if_neg hF] at h; omega
 ·rw [if_neg h0] at h; exact absurd h h0
end Go.Proofs.YtndlggbljkhfbaaGreat
namespace Go.Proofs.YtndlggbljkhfbaaGreat
open Go.Tidy
variable {L : List Blk} {k : V → List Blk → Prop}
def seqM (xs : List Mt) (blk : Blk) (i : Nat) : List Blk:=[.cells [.own 1 i 0 i],.row i 2 (mR (xs.take i)),.defr,blk]
theorem seqM_bel {n : Nat} {xs : List Mt} {blk : Blk} {i : Nat} (hn : 1 < n) (hb : blk.bel n = true) : belB n (seqM xs blk i) = true:=by
 show (V.belL n [.own 1 i 0 i] && (belR n (mR (xs.take i)) && (true && (blk.bel n && true)))) = true
 rw [mR_bel,hb]; simp [V.belL,V.bel,hn]
theorem mR_rows {S : Nat → Prop} {L : List Blk} : ∀ l : List Mt,CvLL S L (mR l) (l.map Mt.cells)
 | []=>.nil
 | m :: l=>.cons (.cons (.d _) (.cons (.d _) .nil)) (mR_rows l)
theorem mR_snoc (l : List Mt) (m : Mt) : mR (l ++ [m]) = mR l ++ [m.cells.map .d]:=by unfold mR; rw [List.map_append]; rfl
theorem mR_len (l : List Mt) : (mR l).length = l.length:=by unfold mR; rw [List.length_map]
theorem mappendSeq_c (f : FuncId) (caps : List D) (xs : List Mt) (hx : xs.length ≤ 4294967296) (hit : IterP C f caps (xs.map fun x=>[mtV x])) (h : k (.d (mts xs)) L) : CallP C 154 [.nil,.d (.fn f caps)] L k:=by
 refine CallP.pure ?_ rfl (fun _=>rfl) h
 clear h
 refine callP_cut (fun c=>match c with | .region 1 _ _=>true | _=>false) C_ok Tryz.func154 rfl rfl (n:=_) rfl (w18 rfl) (rs:=_) rfl ?_
 repeat' ((conv=>whnf); first|refine w0 ?_|refine w1 ?_|refine w2 (fun h=>?_) (fun h=>?_)|refine w3 ?_|refine w4 (fun h=>?_) (fun h=>?_)|refine w5 _ rfl ?_|refine w6 rfl ?_|refine w7 mixed rfl ?_)
 conv=>whnf
 refine CutP.intro (ι:=Unit) (fun _=>⟨[(2,.ptr 0 0),(4,.nil),(6,.d (.fn f caps))],Tryz.f154.ntmps,[.cells [.own 1 0 0 0],.row 0 2 []],[],none⟩) ?_ (fun _=>?_)
 ·repeat' (conv => whnf
           first|refine w0 ?_|refine w1 ?_|refine w2 (fun h=>?_) (fun h=>?_)|refine w3 ?_|refine w4 (fun h=>?_) (fun h=>?_)|refine w5 _ rfl ?_|refine w6 rfl ?_|refine w7 mixed rfl ?_)
  conv=>whnf
  exact ⟨(),Weak.nilCellTo 0 0 2 [.nil] rfl rfl (by decide) rfl ⟨rfl,rfl,rfl,trivial⟩⟩
 ·conv=>whnf
  refine CallP.conv (args':=.yld 3 :: caps.map .d) (L':=seqM xs (.loop _) 0) (by rfl) rfl ?_
  generalize hblk : Blk.loop _ = blk
  have hb4 : blk.bel 4 = true:=by rw [← hblk]; rfl
  have hb5 : blk.bel 5 = true:=by rw [← hblk]; rfl
  refine hit 3 4 (fun i=>True) (fun i=>seqM xs blk i) _ (fun _=>rfl) (fun i=>seqM_bel (by decide) hb4) (fun i=>by subst hblk; rfl) (by decide) ?_ ?_ trivial
  ·intro i hi _
   rw [List.length_map] at hi
   rw [List.getElem_map]
   subst hblk
   refine YieldP.round C_ok (fun _=>false) ?_
   repeat' ((conv=>whnf); first|refine w0 ?_|refine w1 ?_|refine w2 (fun h=>?_) (fun h=>?_)|refine w3 ?_|refine w4 (fun h=>?_) (fun h=>?_)|refine w5 _ rfl ?_|refine w6 rfl ?_|refine w7 mixed rfl ?_|simp only [Nat.beq_refl,Bool.and_self]|refine w6 (by first|omega|(simp; omega)|(refine w23 (m:=4294967296) ?_ (apLim_ge _); first|omega|(simp; omega))) ?_)
   conv=>whnf
   refine w15 (n:=4) (L':=seqM xs _ (i + 1)) ?_ (w21 4) rfl (seqM_bel (by decide) rfl) (.inl ⟨rfl,rfl,trivial⟩)
   unfold seqM
   rw [take_next hi,mR_snoc]
   show [Blk.cells _,Blk.row (i + 1) 2 ((mR (xs.take i)).take i ++ [xs[i].cells.map .d]),Blk.defr,_] = _
   rw [List.take_of_length_le (l:=mR (xs.take i)) (by rw [mR_len]; simp; omega)]; rfl
  ·intro _
   subst hblk
   repeat' ((conv=>whnf); first|refine w0 ?_|refine w1 ?_|refine w2 (fun h=>?_) (fun h=>?_)|refine w3 ?_|refine w4 (fun h=>?_) (fun h=>?_)|refine w5 _ rfl ?_|refine w6 rfl ?_|refine w7 mixed rfl ?_)
   conv=>whnf
   refine w16 (L':=[]) (.d (.rowL (w22 _) rfl ?_ (by simp [mR_len]) (fun e he=>by obtain ⟨x,_,rfl⟩:=List.mem_map.1 he; rfl))) rfl rfl ⟨rfl,rfl⟩
   rw [List.length_map,List.take_length,List.drop_zero,List.take_of_length_le (by simp [mR_len])]
   exact mR_rows xs
theorem mcollect_c (f : FuncId) (caps : List D) (xs : List Mt) (hx : xs.length ≤ 4294967296) (hit : IterP C f caps (xs.map fun x=>[mtV x])) (h : k (.d (mts xs)) L) : CallP C 133 [.d (.fn f caps)] L k:=by
 refine CallP.pure ?_ rfl (fun _=>rfl) h
 clear h
 refine callP_of C_ok Tryz.func133 rfl rfl (n:=_) rfl (w18 rfl) (rs:=_) rfl ?_
 repeat' ((conv=>whnf); first|refine w0 ?_|refine w1 ?_|refine w2 (fun h=>?_) (fun h=>?_)|refine w3 ?_|refine w4 (fun h=>?_) (fun h=>?_)|refine w5 _ rfl ?_|refine w6 rfl ?_|refine w7 mixed rfl ?_|refine mappendSeq_c f caps xs hx hit ?_)
 conv=>whnf
 exact FinP.drop (n:=0) rfl (w21 0) rfl rfl ⟨rfl,rfl⟩
end Go.Proofs.YtndlggbljkhfbaaGreat
namespace Go.Proofs.YtndlggbljkhfbaaGreat
open Go.Tidy
variable {L : List Blk} {k : V → List Blk → Prop}
def enoughD (e : Int) : D:=.iface 81 true [DI e]
theorem search1_n (S X : List Blk) {N i : Nat} (hS : S.length = N) (hb : belB (S ++ X).length (S ++ X) = true) {kd : List Blk → Prop} (h : kd (S ++ X)) : DefP C 92 [.ptr (N + i) 0] none (S ++ X) kd:=by
 refine defP_of C_ok (fun _=>false) Tryz.func92 rfl rfl (n:=_) rfl (w18 rfl) rfl rfl rfl rfl rfl rfl rfl (by decide) (by decide) (w22 _) ?_
 repeat' ((conv=>whnf); first|refine w0 ?_|refine w1 ?_|refine w2 (fun h=>?_) (fun h=>?_)|refine w3 ?_|refine w4 (fun h=>?_) (fun h=>?_)|refine w5 _ rfl ?_|refine w6 rfl ?_|refine w7 mixed rfl ?_)
 conv=>whnf
 exact FinP.drop (n:=(S ++ X).length) (List.take_length ..) (w21 _) rfl hb h
theorem search1_p (S : List Blk) {N : Nat} (hS : S.length = N) (c0 c1 c2 c3 : Blk) (e x : Int) (hb : belB (N + 5) (S ++ [c0,c1,c2,c3,.cells [I e]]) = true) {kd : List Blk → Prop} (h : kd (S ++ [c0,c1,c2,c3,.cells [I e]])) :
  DefP C 92 [.ptr (N + 4) 0] (some (.d (enoughD e))) (S ++ [c0,c1,c2,c3,.cells [I x]]) kd:=by
 have a0 : ∀ X,(S ++ X).length = N + X.length:=fun X=>pre_len _ _ hS
 have a1 : ∀ X i,(S ++ X)[N + i]? = X[i]?:=fun X i=>pre_get _ _ hS i
 have a2 : ∀ X,(S ++ X)[N]? = X[0]?:=fun X=>pre_get0 _ _ hS
 have a3 : ∀ X i y,(S ++ X).set (N + i) y = S ++ X.set i y:=fun X i y=>pre_set _ _ hS i y
 have a4 : ∀ X y,(S ++ X).set N y = S ++ X.set 0 y:=fun X y=>pre_set0 _ _ hS y
 refine defP_of C_ok (fun _=>false) Tryz.func92 rfl rfl (n:=_) rfl (w18 rfl) rfl rfl rfl rfl rfl rfl rfl (by decide) (by decide) (w22 _) ?_
 repeat' ((conv=>whnf); first|refine w0 ?_|refine w1 ?_|refine w2 (fun h=>?_) (fun h=>?_)|refine w3 ?_|refine w4 (fun h=>?_) (fun h=>?_)|refine w5 _ rfl ?_|refine w6 rfl ?_|refine w7 mixed rfl ?_|simp only [a0,a1,a2,a3,a4,List.append_assoc])
 conv=>whnf
 refine w15 (n:=N + 5) (pre_take _ _ hS 5) (w21 _) rfl hb h
theorem shL_dd (n : Nat) : ∀ c : List D,V.shL n (c.map V.d) = c.map V.d
 | []=>rfl
 | x :: c=>by simp only [List.map_cons,V.shL,V.sh,shL_dd n c]
theorem shR_mR (n : Nat) : ∀ l : List Mt,shR n (mR l) = mR l
 | []=>rfl
 | r :: l=>by
  have:=shR_mR n l
  unfold mR at this ⊢
  simp only [List.map_cons,shR,this,shL_dd]
theorem mtsE (l : List Mt) : ∀ e ∈ l.map Mt.cells,e.length = 2:=fun e he=>by
 obtain ⟨x,_,rfl⟩:=List.mem_map.1 he; rfl
theorem mclone_0 (l : List Mt) (hl : l.length ≤ 4294967296) : CallP C 96 [.d (mts l)] [] fun X L'=>L' = [.row 1 2 (mR l)] ∧ X = .own 0 1 0 l.length:=by
 refine callP_of C_ok Tryz.func96 rfl rfl (n:=_) rfl (w18 rfl) (rs:=_) rfl ?_
 conv=>whnf
 refine NilP.intro (fun h0=>?_) ?_
 ·have hn : l = []:=List.eq_nil_of_length_eq_zero (by simpa using h0)
  subst hn
  repeat' ((conv=>whnf); first|refine w0 ?_|refine w1 ?_|refine w2 (fun h=>?_) (fun h=>?_)|refine w3 ?_|refine w4 (fun h=>?_) (fun h=>?_)|refine w5 _ rfl ?_|refine w6 rfl ?_|refine w7 mixed rfl ?_)
  conv=>whnf
  exact FinP.nilOwn (sz:=2) (gen:=1) (by decide) ⟨rfl,rfl⟩
 ·repeat' (conv => whnf
           first|refine w0 ?_|refine w1 ?_|refine w2 (fun h=>?_) (fun h=>?_)|refine w3 ?_|refine w4 (fun h=>?_) (fun h=>?_)|refine w5 _ rfl ?_|refine w6 rfl ?_|refine w7 mixed rfl ?_|refine w6 (mtsE _) ?_|refine w6 (by first | omega | (simp; omega) | (refine w23 (m:=4294967296) ?_ (apLim_ge _); first | omega | (simp; omega))) ?_)
  conv=>whnf
  refine w15 (n:=1) (L':=[.row 1 2 (mR l)]) (congrArg (fun e=>[Blk.row 1 2 e]) ?_) (w18 rfl) rfl ?_ ⟨rfl,congrArg (V.own 0 1 0) ?_⟩
  ·simp [mR]
  ·show (belR 1 (mR l) && true) = true
   rw [mR_bel]; rfl
  ·simp
theorem mclone_c (l : List Mt) (hl : l.length ≤ 4294967296) (h : k (.own L.length 1 0 l.length) (L ++ [.row 1 2 (mR l)])) : CallP C 96 [.d (mts l)] L k:=by
 refine (mclone_0 l hl).frame rfl fun X L' h'=>?_
 obtain ⟨rfl,rfl⟩:=h'
 simpa [V.sh,shB,Blk.sh,shR_mR] using h
theorem shR_rdR (n : Nat) : ∀ l : List (List Mt),shR n (rdR l) = rdR l
 | []=>rfl
 | r :: l=>by
  have:=shR_rdR n l
  unfold rdR at this ⊢
  simp only [List.map_cons,shR,this]; rfl
theorem lisE (l : List (List Mt)) : ∀ e ∈ l.map (fun r=>[mts r]),e.length = 1:=fun e he=>by
 obtain ⟨x,_,rfl⟩:=List.mem_map.1 he; rfl
theorem rclone_0 (l : List (List Mt)) (hl : l.length ≤ 4294967296) : CallP C 97 [.d (.sl (l.map fun r=>[mts r]))] [] fun X L'=>L' = [.row 1 1 (rdR l)] ∧ X = .own 0 1 0 l.length:=by
 refine callP_of C_ok Tryz.func97 rfl rfl (n:=_) rfl (w18 rfl) (rs:=_) rfl ?_
 conv=>whnf
 refine NilP.intro (fun h0=>?_) ?_
 ·have hn : l = []:=List.eq_nil_of_length_eq_zero (by simpa using h0)
  subst hn
  repeat' ((conv=>whnf); first|refine w0 ?_|refine w1 ?_|refine w2 (fun h=>?_) (fun h=>?_)|refine w3 ?_|refine w4 (fun h=>?_) (fun h=>?_)|refine w5 _ rfl ?_|refine w6 rfl ?_|refine w7 mixed rfl ?_)
  conv=>whnf
  exact FinP.nilOwn (sz:=1) (gen:=1) (by decide) ⟨rfl,rfl⟩
 ·repeat' (conv => whnf
           first|refine w0 ?_|refine w1 ?_|refine w2 (fun h=>?_) (fun h=>?_)|refine w3 ?_|refine w4 (fun h=>?_) (fun h=>?_)|refine w5 _ rfl ?_|refine w6 rfl ?_|refine w7 mixed rfl ?_|refine w6 (lisE _) ?_|refine w6 (by first | omega | (simp; omega) | (refine w23 (m:=4294967296) ?_ (apLim_ge _); first | omega | (simp; omega))) ?_)
  conv=>whnf
  refine w15 (n:=1) (L':=[.row 1 1 (rdR l)]) (congrArg (fun e=>[Blk.row 1 1 e]) ?_) (w18 rfl) rfl ?_ ⟨rfl,congrArg (V.own 0 1 0) ?_⟩
  ·simp [rdR]
  ·show (belR 1 (rdR l) && true) = true
   rw [rdR_bel]; rfl
  ·simp
theorem rclone_c (l : List (List Mt)) (hl : l.length ≤ 4294967296) (h : k (.own L.length 1 0 l.length) (L ++ [.row 1 1 (rdR l)])) : CallP C 97 [.d (.sl (l.map fun r=>[mts r]))] L k:=by
 refine (rclone_0 l hl).frame rfl fun X L' h'=>?_
 obtain ⟨rfl,rfl⟩:=h'
 simpa [V.sh,shB,Blk.sh,shR_rdR] using h
theorem chIn_len (bz : List Int) (tk : List Mt) (c : Int) : ∀ os : List Int,(chIn bz tk c os).length ≤ 2 * os.length
 | []=>w21 _
 | o :: os=>by
  have:=chIn_len bz tk c os
  unfold chIn
  split
  ·simp only [List.length_cons]; omega
  ·have:=List.length_filter_le (fun m=>decide (m ∉ tk)) ([⟨c,o⟩,⟨o,c⟩] : List Mt)
   simp only [List.length_append,List.length_cons,List.length_nil] at this ⊢; omega
theorem chOut_len (bz : List Int) (tk : List Mt) (least : Int) (n : Nat) : ∀ (cs : List Int) (may : Nat),cs.length ≤ n → (chOut bz tk least may cs).length ≤ cs.length * (2 * n)
 | [],_,_=>by simp [chOut]
 | c :: cs,may,h=>by
  rw [chOut_cons]
  simp only [List.length_cons] at h ⊢
  have h1:=chIn_len bz tk c cs
  have h2:=fun may=>chOut_len bz tk least n cs may (by omega)
  have e : (cs.length + 1) * (2 * n) = cs.length * (2 * n) + 2 * n:=by rw [Nat.add_mul,Nat.one_mul]
  rw [e]
  split
  ·have:=h2 may; omega
  ·rw [List.length_append]
   have a : (if least < c then chIn bz tk c cs else []).length ≤ 2 * n:=by
    split
    ·omega
    ·simp
   have b : (if may = 0 then [] else chOut bz tk least (may - 1) cs).length ≤ cs.length * (2 * n):=by
    split
    ·simp
    ·exact h2 _
   omega
theorem chs_len (l : List (List Mt)) (p : Pl) (hp : p.clubs.length ≤ 1000) : (chs l p).length ≤ 4294967296:=by
 unfold chs
 split
 ·have:=chOut_len (clubsOf (openR l p).1) (takenOf l p) (leastOf (openR l p).1) 1000 p.clubs (p.clubs.length % 2) hp
  omega
 ·simp
def chE (l : List (List Mt)) (p : Pl) : List Mt:=if dmE l p = 0 then chs l p else []
theorem dmE_len {l : List (List Mt)} {p : Pl} (h : dmE l p = 0) : 1 ≤ p.clubs.length ∧ p.clubs.length ≤ 1000:=by
 have hf:=checkP_field (dmE_zero h).1
 simp only [fieldOk,Bool.and_eq_true,decide_eq_true_eq] at hf; omega
theorem choices0_c (l : List (List Mt)) (p : Pl) (hs : Small l p) (h : k (.tup [.d (mts (chE l p)),I (dmE l p)]) L) : CallP C 99 [lisV l,plV p] L k:=by
 refine CallP.pure ?_ rfl (fun _=>rfl) h
 clear h
 refine callP_of C_ok Tryz.func99 rfl rfl (n:=_) rfl (w18 rfl) (rs:=_) rfl ?_
 by_cases hE : dmE l p = 0
 ·have hn:=dmE_len hE
  repeat' ((conv=>whnf); first|refine dmd_c l p hs ?_|refine w12 _ (newPlan_c p hn ⟨rfl,rfl⟩) ?_|refine w12 _ (choices_c l p ⟨rfl,rfl⟩) ?_|refine w12 _ (mcollect_c _ _ (chs l p) (chs_len l p hn.2) ((choices1_it 0 (fun _ _=>False) l p hs.hl hs.hr hn.2).p rfl) ⟨rfl,rfl⟩) ?_|refine w0 ?_|refine w1 ?_|refine w2 (fun h=>?_) (fun h=>?_)|refine w3 ?_|refine w4 (fun h=>?_) (fun h=>?_)|refine w5 _ rfl ?_|refine w6 rfl ?_|refine w7 mixed rfl ?_)
  all_goals first | exact absurd hE ‹¬ dmE l p = 0› | skip
  all_goals conv=>whnf
  refine w16 (L':=[]) (.pair (.d (.d _)) (.d (.d _))) rfl rfl ⟨rfl,?_⟩
  unfold chE; rw [if_pos hE,hE]
 ·repeat' (conv => whnf
           first|refine dmd_c l p hs ?_|refine w0 ?_|refine w1 ?_|refine w2 (fun h=>?_) (fun h=>?_)|refine w3 ?_|refine w4 (fun h=>?_) (fun h=>?_)|refine w5 _ rfl ?_|refine w6 rfl ?_|refine w7 mixed rfl ?_)
  all_goals first | exact absurd ‹dmE l p = 0› hE | skip
  conv=>whnf
  refine w16 (L':=[]) (.pair (.d .nil) (.d (.d _))) rfl rfl ⟨rfl,?_⟩
  unfold chE; rw [if_neg hE]; rfl
end Go.Proofs.YtndlggbljkhfbaaGreat
namespace Go.Proofs.YtndlggbljkhfbaaGreat
open Go.Tidy
abbrev Lst:=List (List Mt)
def extL (l : Lst) (p : Pl) (m : Mt) : Lst:=(if (openR l p).2.1 then l else l.dropLast) ++ [(openR l p).1 ++ [m]]
inductive Sr
 | go (sp : Nat) (fs : List Lst)
 | stop (e : Int) (sp : Nat) (fs : List Lst)
def exLoop (f : Lst → Nat → List Lst → Sr) (ext : Mt → Lst) (ok : Lst → Bool) (bud : Nat) : List Mt → Nat → List Lst → Sr
 | [],sp,fs=>.go sp fs
 | m :: ms, sp, fs => if sp = bud then .stop 3 sp fs else
     if ok (ext m) then (match f (ext m) (sp + 1) fs with
      | .go sp fs=>exLoop f ext ok bud ms sp fs
      | .stop e sp fs=>.stop e sp fs) else exLoop f ext ok bud ms (sp + 1) fs
def fullC (l : Lst) (p : Pl) : Bool:=decide (l.length = roundsN p) && (match l.getLast? with | some r=>decide (r.length = halfN p) | none=>false)
def exam (ch : Lst → List Mt) (ok : Lst → Bool) (p : Pl) (bud : Nat) (all : Bool) : Nat → Lst → Nat → List Lst → Sr
 | 0,_,sp,fs=>.go sp fs
 | n + 1,l,sp,fs=>if fullC l p then (if all then .go sp (fs ++ [l]) else .stop 0 sp (fs ++ [l])) else exLoop (exam ch ok p bud all n) (extL l p) ok bud (ch l) sp fs
theorem exLoop_append (f : Lst → Nat → List Lst → Sr) (ext : Mt → Lst) (ok : Lst → Bool) (bud : Nat) (ys : List Mt) : ∀ (xs : List Mt) (sp : Nat) (fs : List Lst),exLoop f ext ok bud (xs ++ ys) sp fs = match exLoop f ext ok bud xs sp fs with
  | .go sp fs=>exLoop f ext ok bud ys sp fs
  | .stop e sp fs=>.stop e sp fs
 | [],sp,fs=>rfl
 | m :: xs,sp,fs=>by
  simp only [List.cons_append,exLoop]
  split
  ·rfl
  ·split
   ·split
    ·exact exLoop_append f ext ok bud ys xs _ _
    ·rfl
   ·exact exLoop_append f ext ok bud ys xs _ _
theorem exLoop_next (f : Lst → Nat → List Lst → Sr) (ext : Mt → Lst) (ok : Lst → Bool) (bud : Nat) {ms : List Mt} {i : Nat} (hi : i < ms.length) {sp sp' : Nat} {fs fs' : List Lst} (h : exLoop f ext ok bud (ms.take i) sp fs = .go sp' fs') :
  exLoop f ext ok bud (ms.take (i + 1)) sp fs = exLoop f ext ok bud [ms[i]] sp' fs':=by
 rw [take_next hi,exLoop_append,h]
theorem exLoop_stop (f : Lst → Nat → List Lst → Sr) (ext : Mt → Lst) (ok : Lst → Bool) (bud : Nat) {ms : List Mt} {i : Nat} {sp sp' : Nat} {fs fs' : List Lst} {e : Int} (h : exLoop f ext ok bud (ms.take i) sp fs = .stop e sp' fs') :
  exLoop f ext ok bud ms sp fs = .stop e sp' fs':=by
 conv=>lhs; rw [← List.take_append_drop i ms]
 rw [exLoop_append,h]
theorem exam_keep (ch : Lst → List Mt) (ok : Lst → Bool) (p : Pl) (bud : Nat) (all : Bool) : ∀ (n : Nat) (l : Lst) (sp : Nat) (fs : List Lst),sp ≤ bud → (fullC l p = true → fs.length + 1 ≤ sp) → fs.length ≤ sp → ∀ sp' fs',exam ch ok p bud all n l sp fs = .go sp' fs' → sp' ≤ bud ∧ fs'.length ≤ sp' ∧ sp ≤ sp'
 | 0,l,sp,fs,h1,h2,h3,sp',fs',h=>by cases h; exact ⟨h1,h3,Nat.le_refl _⟩
 | n + 1,l,sp,fs,h1,h2,h3,sp',fs',h=>by
  unfold exam at h
  split at h
  ·rename_i hf
   split at h
   ·cases h; exact ⟨h1,by rw [List.length_append]; exact h2 hf,Nat.le_refl _⟩
   ·cases h
  ·revert h
   have key : ∀ (ms : List Mt) (sp : Nat) (fs : List Lst),sp ≤ bud → fs.length ≤ sp → exLoop (exam ch ok p bud all n) (extL l p) ok bud ms sp fs = .go sp' fs' → sp' ≤ bud ∧ fs'.length ≤ sp' ∧ sp ≤ sp':=by
    intro ms
    induction ms with
    | nil=>intro sp fs h1 h3 h; cases h; exact ⟨h1,h3,Nat.le_refl _⟩
    | cons m ms ih =>
     intro sp fs h1 h3 h
     simp only [exLoop] at h
     split at h
     ·cases h
     ·split at h
      ·split at h
       ·rename_i a b he
        obtain ⟨k1,k2,k3⟩:=exam_keep ch ok p bud all n _ (sp + 1) fs (by omega) (fun _=>by omega) (by omega) a b he
        obtain ⟨q1,q2,q3⟩:=ih a b k1 k2 h
        exact ⟨q1,q2,by omega⟩
       ·cases h
      ·obtain ⟨q1,q2,q3⟩:=ih (sp + 1) fs (by omega) (by omega) h
       exact ⟨q1,q2,by omega⟩
   exact key _ sp fs h1 h3
theorem exLoop_keep (ch : Lst → List Mt) (ok : Lst → Bool) (p : Pl) (bud : Nat) (all : Bool) (n : Nat) (ext : Mt → Lst) : ∀ (ms : List Mt) (sp : Nat) (fs : List Lst),sp ≤ bud → fs.length ≤ sp → ∀ sp' fs',exLoop (exam ch ok p bud all n) ext ok bud ms sp fs = .go sp' fs' → sp' ≤ bud ∧ fs'.length ≤ sp' ∧ sp ≤ sp'
 | [],sp,fs,h1,h3,sp',fs',h=>by cases h; exact ⟨h1,h3,Nat.le_refl _⟩
 | m :: ms,sp,fs,h1,h3,sp',fs',h=>by
  simp only [exLoop] at h
  split at h
  ·cases h
  ·split at h
   ·split at h
    ·rename_i a b he
     obtain ⟨k1,k2,k3⟩:=exam_keep ch ok p bud all n _ (sp + 1) fs (by omega) (fun _=>by omega) (by omega) a b he
     obtain ⟨q1,q2,q3⟩:=exLoop_keep ch ok p bud all n ext ms a b k1 k2 _ _ h
     exact ⟨q1,q2,by omega⟩
    ·cases h
   ·obtain ⟨q1,q2,q3⟩:=exLoop_keep ch ok p bud all n ext ms (sp + 1) fs (by omega) (by omega) _ _ h
    exact ⟨q1,q2,by omega⟩
theorem part_row {l : Lst} {p : Pl} (hP : PartP l p) {r : List Mt} (hr : r ∈ l) : r.length ≤ halfN p:=by
 obtain ⟨i,hi,rfl⟩:=List.getElem_of_mem hr
 exact (hP.2 i hi).2.1
theorem sum_len {m : Nat} : ∀ {l : Lst},(∀ r ∈ l,r.length ≤ m) → l.flatten.length ≤ l.length * m
 | [],_=>by simp
 | r :: l,h=>by
  have h1:=h r (by simp)
  have h2:=sum_len (l:=l) fun r hr=>h r (by simp [hr])
  rw [List.flatten_cons,List.length_append,List.length_cons,Nat.add_mul,Nat.one_mul]; omega
theorem part_total {l : Lst} {p : Pl} (hP : PartP l p) : l.flatten.length ≤ roundsN p * halfN p :=
 Nat.le_trans (sum_len fun r hr=>part_row hP hr) (Nat.mul_le_mul_right _ hP.1)
theorem openR_spec (l : Lst) (p : Pl) : ((openR l p).2.1 = true ∧ (openR l p).1 = []) ∨ ((openR l p).2.1 = false ∧ ∃ r,l.getLast? = some r ∧ (openR l p).1 = r ∧ r.length < halfN p ∧ l = l.dropLast ++ [r]):=by
 unfold openR
 cases h : l.getLast? with
 | none=>exact .inl ⟨rfl,rfl⟩
 | some r =>
  simp only
  split
  ·refine .inr ⟨rfl,r,rfl,rfl,‹_›,?_⟩
   have hne : l ≠ []:=fun e=>by rw [e] at h; cases h
   rw [List.getLast?_eq_some_getLast hne] at h
   have:=List.dropLast_concat_getLast hne
   rw [Option.some.inj h] at this
   exact this.symm
  ·exact .inl ⟨rfl,rfl⟩
theorem extL_flat (l : Lst) (p : Pl) (m : Mt) : (extL l p m).flatten = l.flatten ++ [m]:=by
 unfold extL
 rcases openR_spec l p with ⟨h1,h2⟩ | ⟨h1,r,h2,h3,h4,h5⟩
 ·rw [h1,h2,if_pos rfl]; simp
 ·rw [h1,h3]
  conv=>rhs; rw [h5]
  simp
theorem extL_len (l : Lst) (p : Pl) (m : Mt) : (extL l p m).length ≤ l.length + 1:=by
 unfold extL
 rw [List.length_append]
 split
 ·exact Nat.le_refl _
 ·rw [List.length_dropLast]; simp only [List.length_singleton]; omega
theorem extL_row {l : Lst} {p : Pl} {m : Mt} {r : List Mt} (hr : r ∈ extL l p m) : r ∈ l ∨ r.length ≤ halfN p + 1:=by
 unfold extL at hr
 rcases openR_spec l p with ⟨h1,h2⟩ | ⟨h1,r',h2,h3,h4,h5⟩
 ·rw [h1,h2,if_pos rfl,List.mem_append] at hr
  rcases hr with h | h
  ·exact .inl h
  ·right; rw [List.mem_singleton.1 h]; simp
 ·rw [h1,h3,List.mem_append] at hr
  rcases hr with h | h
  ·exact .inl (List.dropLast_subset _ h)
  ·right; rw [List.mem_singleton.1 h,List.length_append]; simp; omega
theorem dmA_part {l : Lst} {p : Pl} (h : dmA l p < 0) : checkP p = 0 ∧ PartP l p:=by
 unfold dmA at h
 split at h
 ·assumption
 ·omega
theorem roundsN_le {p : Pl} (h : p.clubs.length ≤ 1000) : roundsN p ≤ 2002:=by unfold roundsN; split <;> omega
theorem roundsN_pos (p : Pl) : 1 ≤ roundsN p:=by unfold roundsN; split <;> omega
theorem halfN_le {p : Pl} (h : p.clubs.length ≤ 1000) : halfN p ≤ 500:=by unfold halfN; omega
theorem part_small {l : Lst} {p : Pl} (hs : Small [] p) (h1 : p.clubs.length ≤ 1000) (hP : PartP l p) (m : Mt) : Small l p ∧ Small (extL l p m) p:=by
 have a:=roundsN_le h1
 have b:=halfN_le h1
 have c:=hP.1
 have d:=extL_len l p m
 refine ⟨⟨by omega,fun r hr=>?_,hs.hc,hs.hd,hs.hD⟩,⟨by omega,fun r hr=>?_,hs.hc,hs.hd,hs.hD⟩⟩
 ·have:=part_row hP hr; omega
 ·rcases extL_row hr with h | h
  ·have:=part_row hP h; omega
  ·omega
end Go.Proofs.YtndlggbljkhfbaaGreat
namespace Go.Proofs.YtndlggbljkhfbaaGreat
open Go.Tidy
variable {L : List Blk} {k : V → List Blk → Prop}
def pre5 (p : Pl) (bud : Nat) (fd : FuncId) (caps : List V) (sp : Nat) : List Blk:=[.cells [.d (.rptr (planD p))],.cells [I bud],.cells [.fn fd caps],.cells [I sp],.cells [I 0]]
def capE (N : Nat) : List V:=[.ptr N 0,.ptr (N + 2) 0,.ptr (N + 3) 0,.ptr (N + 1) 0,.ptr (N + 5) 0]
def pre6 (p : Pl) (bud : Nat) (fd : FuncId) (caps : List V) (N sp : Nat) : List Blk:=pre5 p bud fd caps sp ++ [.cells [.fn 93 (capE N)]]
theorem pre6_len (p : Pl) (bud : Nat) (fd : FuncId) (caps : List V) (N sp : Nat) : (pre6 p bud fd caps N sp).length = 6:=rfl
def notD : Blk → Bool
 | .defr=>false
 | _=>true
structure Hand (N : Nat) (U : List Lst → List Blk) (fd : FuncId) (caps : List V) (all : Bool) : Prop where
 len : ∀ fs,(U fs).length = N
 bel : ∀ fs,belB N (U fs) = true
 nol : ∀ fs,noLoop (U fs) = true
 nod : ∀ fs,(U fs).all notD = true
 cap : V.belL N caps = true
 found : ∀ (pn : Nat) (pan : V → List Blk → Prop) (X : List Blk) (fs : List Lst) (l : Lst) (k : V → List Blk → Prop),pn = N + 5 → 5 ≤ X.length → belB (N + X.length) X = true → belB (N + 5) (X.take 5) = true → (X.take 5).all notD = true → fs.length ≤ 1073741824 →
  (all = true → k (.tup []) (U (fs ++ [l]) ++ X)) → (all = false → pan (.d (enoughD 0)) (U (fs ++ [l]) ++ X.take 5)) → CallP (C.wp pn pan) fd (lisV l :: caps) (U fs ++ X) k
theorem capE_bel (N n : Nat) (h : N + 6 ≤ n) : V.belL n (capE N) = true:=by simp [capE,V.belL,V.bel]; omega
theorem pre5_bel {p : Pl} {bud : Nat} {fd : FuncId} {caps : List V} {N sp n : Nat} (hc : V.belL N caps = true) (h : N ≤ n) : belB n (pre5 p bud fd caps sp) = true:=by
 simp [pre5,belB,Blk.bel,V.belL,V.bel,V.belL_le h _ hc]
theorem pre6_bel {p : Pl} {bud : Nat} {fd : FuncId} {caps : List V} {N sp n : Nat} (hc : V.belL N caps = true) (h : N + 6 ≤ n) : belB n (pre6 p bud fd caps N sp) = true:=by
 refine belB_append (pre5_bel hc (by omega)) ?_
 simp [belB,Blk.bel,V.belL,V.bel,capE_bel N n h]
theorem CallP.cnv {X : Ctx} {f : FuncId} {args args' : List V} {L L' : List Blk} {k : V → List Blk → Prop} (ha : args = args') (hL : L = L') (h : CallP X f args' L' k) : CallP X f args L k:=by subst ha hL; exact h
theorem dfB_of {A : List Blk} (h : ∀ (b : Nat) (l : LoopR),A[b]? = some (Blk.loop l) → A[l.df]? = some Blk.defr) : dfB A = true:=by
 unfold dfB
 refine List.all_eq_true.2 fun x hx=>?_
 obtain ⟨b,hb⟩:=List.mem_iff_getElem?.1 hx
 split
 ·rename_i l; rw [h b l hb]
 ·rfl
theorem enough_end {N pn : Nat} {S Y P5 : List Blk} {e : Int} {pan : V → List Blk → Prop} (hS : S.length = N) (hpn : pn = N + 5) (hY : Y.take 5 = P5) (h5 : 5 ≤ Y.length) (hb : belB (N + 5) (S ++ P5) = true) (hd : (S ++ P5).all notD = true) (h : pan (.d (enoughD e)) (S ++ P5)) :
  Need (pn ≤ N + Y.length ∧ belB pn ((S ++ Y).take pn) = true ∧ noDefr pn (S ++ Y) = true) (pan (.d (enoughD e)) ((S ++ Y).take pn)):=by
 subst hpn hY
 have ht:=pre_take S Y hS 5
 refine w6 ⟨by omega,by rw [ht]; exact hb,?_⟩ (by rw [ht]; exact h)
 unfold noDefr
 rw [ht]
 exact hd
theorem CellEq.app (L X : List Blk) : CellEq L (L ++ X):=fun b cs h=>by rw [List.getElem?_append_left (lt_of_get h)]; exact h
theorem rows_snoc {S : Nat → Prop} {L : List Blk} {x : V} {r : List Mt} (h : Cv S L x (mts r)) : ∀ bf : Lst,CvLL S L (rdR bf ++ [[x]]) ((bf ++ [r]).map fun r=>[mts r])
 | []=>.cons (.cons h .nil) .nil
 | _ :: bf=>.cons (.cons (.d _) .nil) (rows_snoc h bf)
theorem ext_cw {S : Nat → Prop} {L : List Blk} {bi bo : Nat} {bf : Lst} {rd : List Mt} {m : Mt} (hSi : S bi) (hSo : S bo) (hi : L[bi]? = some (.row 2 2 (mR (rd ++ [m])))) (ho : L[bo]? = some (.row 2 1 (rdR bf ++ [[.own bi 2 0 (rd.length + 1)]]))) :
  Cw S L (.agg [.own bo 2 0 (bf.length + 1)]) (lisV (bf ++ [rd ++ [m]])):=by
 refine .aggL (.cons (.rowL (ds:=(bf ++ [rd ++ [m]]).map fun r=>[mts r]) hSo ho ?_ (by simp) (lisE _)) .nil)
 rw [List.drop_zero,List.take_of_length_le (by simp [rdR])]
 refine rows_snoc (.rowL (ds:=(rd ++ [m]).map Mt.cells) hSi hi ?_ (by simp) (mtsE _)) bf
 rw [List.drop_zero,List.take_of_length_le (by simp [mR])]
 exact mR_rows _
theorem YieldP.roundE {C' : Ctx} (hC : C'.OK) (cut : Code → Bool) {b : Nat} {args : List V} {L : List Blk} {k : V → List Blk → Prop} {lr : LoopR} {fr : List (Nat × V)} {n : Nat} {ps : List Tmp} {assign body : Code} {df : Nat} (hlr : LoopR.mk .ready none fr n ps assign body df = lr) (hL : L[b]? = some (.loop lr))
  (hb : (Nat.beq ps.length args.length && ps.all (fun p=>Nat.blt p n)) = true)
  (h : vc C' cut L.length assign ⟨zipF ps args fr,n,L,[],some b⟩ fun e σ=>match e with
   | .normal=>match σ.L[b]? with
    | some (.loop r1)=>match r1.st with
     | .ready=>setB σ.L b (.loop { r1 with st:=.busy }) fun L1=>vc C' cut L.length body { σ with L:=L1 } (vRoundEnd b L.length k)
     | _=>False
    | _=>False
   | _=>False) (hpn : C'.pn ≤ L.length) : YieldP C' b args L k:=by
 refine YieldP.round hC cut ?_ hpn
 subst hlr
 unfold vRound
 rw [hL]
 simp only [hb,cond_true]
 exact h
theorem dfB_noLoop {A : List Blk} (h : noLoop A = true) : dfB A = true:=dfB_of fun b l hb=>by
 have:=List.all_eq_true.1 h _ (List.mem_of_getElem? hb)
 simp at this
def memS (U : List Lst → List Blk) (E : Nat → List Blk) : Sr → List Blk
 | .go a b=>U b ++ E a
 | .stop _ a b=>U b ++ E a
def examP (p : Pl) (bud : Nat) (all : Bool) : Nat → Lst → Nat → List Lst → Sr:=exam (fun l=>chs l p) (fun x=>decide (dmA x p < 0)) p bud all
theorem examine_c (p : Pl) (bud : Nat) (all : Bool) (fd : FuncId) (caps : List V) (N : Nat) (U : List Lst → List Blk) (hH : Hand N U fd caps all) (h0 : checkP p = 0) (hs0 : Small [] p) (hbud : bud ≤ 1073741824) (pn : Nat) (pan : V → List Blk → Prop) (hpnE : pn = N + 5) :
  ∀ (n : Nat) (l : Lst) (sp : Nat) (fs : List Lst),PartP l p → roundsN p * halfN p < l.flatten.length + n → sp ≤ bud → (fullC l p = true → fs.length + 1 ≤ sp) → fs.length ≤ sp →
   (∀ e sp' fs',examP p bud all n l sp fs = .stop e sp' fs' → pan (.d (enoughD e)) (U fs' ++ pre5 p bud fd caps sp')) →
   CallP (C.wp pn pan) 93 (lisV l :: capE N) (U fs ++ pre6 p bud fd caps N sp) fun X L'=>X = .tup [] ∧ ∃ sp' fs',examP p bud all n l sp fs = .go sp' fs' ∧ L' = U fs' ++ pre6 p bud fd caps N sp'
 | 0,l,sp,fs,hP,hfu,_,_,_,_=>by have:=part_total hP; omega
 | n + 1,l,sp,fs,hP,hfu,hsp,hf1,hf2,hst=>by
  have hlen : 1 ≤ p.clubs.length ∧ p.clubs.length ≤ 1000:=by
   have hf:=checkP_field h0
   simp only [fieldOk,Bool.and_eq_true,decide_eq_true_eq] at hf; omega
  have hS:=hH.len
  have a0 : ∀ fs X,(U fs ++ X).length = N + X.length:=fun fs X=>pre_len _ _ (hS fs)
  have a1 : ∀ fs X i,(U fs ++ X)[N + i]? = X[i]?:=fun fs X i=>pre_get _ _ (hS fs) i
  have a2 : ∀ fs X,(U fs ++ X)[N]? = X[0]?:=fun fs X=>pre_get0 _ _ (hS fs)
  have a3 : ∀ fs X i y,(U fs ++ X).set (N + i) y = U fs ++ X.set i y:=fun fs X i y=>pre_set _ _ (hS fs) i y
  have a4 : ∀ fs X y,(U fs ++ X).set N y = U fs ++ X.set 0 y:=fun fs X y=>pre_set0 _ _ (hS fs) y
  have a5 : ∀ fs X i,(U fs ++ X)[N + i + 1]? = X[i + 1]?:=fun fs X i=>a1 fs X (i + 1)
  have a6 : ∀ fs X i y,(U fs ++ X).set (N + i + 1) y = U fs ++ X.set (i + 1) y:=fun fs X i y=>a3 fs X (i + 1) y
  have hp5 : ∀ a b,belB (N + 5) (U b ++ pre5 p bud fd caps a) = true:=fun a b=>belB_append (belB_le (Nat.le_add_right N 5) (hH.bel b)) (pre5_bel hH.cap (Nat.le_add_right N 5))
  have hd5 : ∀ a b,(U b ++ pre5 p bud fd caps a).all notD = true:=fun a b=>by rw [List.all_append,hH.nod b]; rfl
  obtain ⟨hsl,hsx⟩:=part_small hs0 hlen.2 hP ⟨0,0⟩
  have hpn : (C.wp pn pan).pn ≤ (U fs ++ pre6 p bud fd caps N sp).length:=by rw [a0]; show pn ≤ _; rw [hpnE]; exact Nat.le_succ _
  have hx : (0 : Int) < ((l.map fun r=>[mts r]).length : Int) → IntKind.i64.wrap (((l.map fun r=>[mts r]).length : Int) - 1) = ((l.length - 1 : Nat) : Int):=fun h=>by
   have:=hsl.hl
   rw [List.length_map] at h ⊢; rw [wrap_in (by omega)]; omega
  have hn : (0 : Int) < ((l.map fun r=>[mts r]).length : Int) → l.length - 1 < l.length:=fun h=>by
   rw [List.length_map] at h; omega
  have hl1 : l.length = roundsN p → IntKind.i64.wrap (((l.map fun r=>[mts r]).length : Int) - 1) = ((l.length - 1 : Nat) : Int):=fun h=>by
   have:=roundsN_pos p
   have:=hsl.hl
   rw [List.length_map,wrap_in (by omega)]; omega
  have hl2 : l.length = roundsN p → l.length - 1 < l.length:=fun h=>by have:=roundsN_pos p; omega
  have hq : ((l.map fun r=>[mts r]).length : Int) = (roundsN p : Int) → l.length = roundsN p:=fun h=>by rw [List.length_map] at h; omega
  by_cases hfull : fullC l p = true
  ·have hfull' : l.length = roundsN p ∧ ∃ h : l.length - 1 < l.length,l[l.length - 1].length = halfN p:=by
    unfold fullC at hfull
    rw [Bool.and_eq_true] at hfull
    obtain ⟨f1,f2⟩:=hfull
    have f1:=of_decide_eq_true f1
    have:=roundsN_pos p
    rw [last_of (by omega)] at f2
    exact ⟨f1,by omega,of_decide_eq_true f2⟩
   obtain ⟨f1,f2,f3⟩:=hfull'
   have hA : ((l.map fun r=>[mts r]).length : Int) = (roundsN p : Int):=by rw [List.length_map,f1]
   have hB : ((l[l.length - 1].map Mt.cells).length : Int) = (halfN p : Int):=by rw [List.length_map,f3]
   refine callP_of (C:=C.wp pn pan) (C_ok.wp pn pan) Tryz.func93 rfl rfl (n:=_) rfl (w18 rfl) (rs:=_) rfl ?_ hpn
   repeat' ((conv=>whnf); first|refine w8 (w19 hA) ?_|refine w8 (w19 hB) ?_|refine w11 (l.length - 1) (hl1 f1) f2 ?_|simp only [a0,a1,a2,a3,a4,List.append_assoc,forceL_eq]|refine w0 ?_|refine w1 ?_|refine w2 (fun h=>?_) (fun h=>?_)|refine w3 ?_|refine w4 (fun h=>?_) (fun h=>?_)|refine w5 _ rfl ?_|refine w6 rfl ?_|refine w7 mixed rfl ?_)
   conv=>whnf
   refine hH.found pn pan _ fs l _ hpnE (w18 rfl) ?_ (pre5_bel hH.cap (Nat.le_add_right N 5)) rfl (by have:=hf1 hfull; omega) (fun hall=>?_) (fun hall=>?_)
   ·exact belB_append (pre6_bel hH.cap (Nat.le_of_lt (Nat.lt_succ_self _))) rfl
   ·repeat' (conv => whnf
             first|refine w0 ?_|refine w1 ?_|refine w2 (fun h=>?_) (fun h=>?_)|refine w3 ?_|refine w4 (fun h=>?_) (fun h=>?_)|refine w5 _ rfl ?_|refine w6 rfl ?_|refine w7 mixed rfl ?_|simp only [a0,a1,a2,a3,a4,List.append_assoc])
    conv=>whnf
    refine w15 (n:=N + 6) (L':=U (fs ++ [l]) ++ pre6 p bud fd caps N sp) (pre_take _ _ (hS _) 6) (w21 _) rfl (belB_append (belB_le (Nat.le_add_right N 6) (hH.bel _)) (pre6_bel hH.cap (w21 _))) ⟨rfl,sp,fs ++ [l],?_,rfl⟩
    show exam _ _ _ _ _ (n + 1) l sp fs = _
    rw [exam,if_pos hfull,if_pos hall]
   ·refine hst 0 sp (fs ++ [l]) ?_
    show exam _ _ _ _ _ (n + 1) l sp fs = _
    rw [exam,if_pos hfull,if_neg (by rw [hall]; decide)]
  obtain ⟨rd,hrd⟩ : ∃ rd,rd = (openR l p).1:=⟨_,rfl⟩
  obtain ⟨fresh,hfresh⟩ : ∃ b,b = (openR l p).2.1:=⟨_,rfl⟩
  have hdl : List.take (l.length - 1 - 0) (List.drop 0 (l.map fun r=>[mts r])) = l.dropLast.map fun r=>[mts r]:=by
   rw [List.drop_zero,← List.map_take,Nat.sub_zero,← List.dropLast_eq_take]
  have hne : fresh = false → 0 < l.length:=fun h=>by
   rw [hfresh] at h
   rcases openR_spec l p with ⟨h1,_⟩ | ⟨_,r,h1,_⟩
   ·rw [h1] at h; cases h
   ·cases l with
    | nil=>cases h1
    | cons=>simp
  have hwn : fresh = false → IntKind.i64.wrap (((l.map fun r=>[mts r]).length : Int) - 1) = ((l.length - 1 : Nat) : Int):=fun h=>by
   have:=hsl.hl
   have:=hne h
   rw [List.length_map,wrap_in (by omega)]; omega
  obtain ⟨bf,hbf⟩ : ∃ bf,bf = if (openR l p).2.1 = true then l else l.dropLast:=⟨_,rfl⟩
  have hext : ∀ m,extL l p m = bf ++ [(openR l p).1 ++ [m]]:=fun m=>by rw [hbf]; rfl
  have hroot : examP p bud all (n + 1) l sp fs = exLoop (examP p bud all n) (extL l p) (fun x=>decide (dmA x p < 0)) bud (chs l p) sp fs:=by
   show exam _ _ _ _ _ (n + 1) l sp fs = _
   rw [exam,if_neg hfull]; rfl
  have hrdl : (openR l p).1.length ≤ 500 ∧ bf.length ≤ 2002:=by
   have b1:=halfN_le hlen.2
   have b2:=roundsN_le hlen.2
   have b3:=hP.1
   refine ⟨?_,?_⟩
   ·rcases openR_spec l p with ⟨_,h2⟩ | ⟨_,r,_,h3,h4,_⟩
    ·rw [h2]; simp
    ·rw [h3]; omega
   ·rw [hbf]; split
    ·omega
    ·rw [List.length_dropLast]; omega
  refine callP_cut (C:=C.wp pn pan) (fun c=>match c with | .seq (.region 6 _ _) _=>true | _=>false) (C_ok.wp pn pan) Tryz.func93 rfl rfl (n:=_) rfl (w18 rfl) (rs:=_) rfl ?_ hpn
  repeat' ((conv=>whnf); first|refine w0 ?_|refine w1 ?_|refine w2 (fun h=>?_) (fun h=>?_)|refine w3 ?_|refine w4 (fun h=>?_) (fun h=>?_)|refine w5 _ rfl ?_|refine w6 rfl ?_|refine w7 mixed rfl ?_|refine w11 (l.length - 1) (hl1 (hq ‹_›)) (hl2 (hq ‹_›)) ?_|refine w14 (open_c l p hsl.hl ?_)|simp only [a0,a1,a2,a3,a4,List.append_assoc])
  ·exfalso
   rename_i h1
   refine hfull ?_
   have hll:=hq h1
   have hp1:=roundsN_pos p
   unfold fullC
   rw [last_of (by omega),decide_eq_true hll]
   simp only [Bool.true_and,decide_eq_true_eq]
   rw [List.length_map] at h; omega
  all_goals
   conv=>whnf
   refine CutP.intro (ι:=Unit) (fun _=>⟨[(1,.ptr N 0),(2,.ptr (N + 2) 0),(3,.ptr (N + 3) 0),(4,.ptr (N + 1) 0),(5,.ptr (N + 5) 0),(6,.ptr (N + 6) 0),(8,.ptr (N + 7) 0),(11,.ptr (N + 8) 0)],Tryz.f93.ntmps,U fs ++ (pre6 p bud fd caps N sp ++ [.cells [.d (lisD l)],.cells [.d (mts (openR l p).1)],.cells [.d (lisD bf)]]),[],none⟩) ?_ (fun _=>?_)
   ·repeat' (conv => whnf
             first|refine w0 ?_|refine w1 ?_|refine w2 (fun h=>?_) (fun h=>?_)|refine w3 ?_|refine w4 (fun h=>?_) (fun h=>?_)|refine w5 _ rfl ?_|refine w6 rfl ?_|refine w7 mixed rfl ?_|refine w6 (lisE l) ?_|refine SliceP.intro 0 (l.length - 1) rfl (hwn (hfresh.trans ‹_›)) (w22 _) (by rw [List.length_map]; exact Nat.sub_le _ _) ?_|simp only [hdl]|simp only [a0,a1,a2,a3,a4,List.append_assoc])
    all_goals conv=>whnf
    ·have e : l = bf:=by rw [hbf,if_pos ‹_›]
     exact ⟨(),Weak.by ⟨rfl,rfl,rfl,rfl,rfl,rfl,rfl,rfl,trivial⟩ (hL:=Eq.trans (b:=U fs ++ (pre6 p bud fd caps N sp ++ [.cells [.d (lisD l)],.cells [.d (mts (openR l p).1)],.cells [.d (lisD l)]])) rfl (congrArg (fun x=>U fs ++ (pre6 p bud fd caps N sp ++ [.cells [.d (lisD l)],.cells [.d (mts (openR l p).1)],.cells [.d (lisD x)]])) e))⟩
    ·have e : l.dropLast = bf:=by rw [hbf,if_neg (by simp [*])]
     exact ⟨(),Weak.by ⟨rfl,rfl,rfl,rfl,rfl,rfl,rfl,rfl,trivial⟩ (hL:=Eq.trans (b:=U fs ++ (pre6 p bud fd caps N sp ++ [.cells [.d (lisD l)],.cells [.d (mts (openR l p).1)],.cells [.d (lisD l.dropLast)]])) rfl (congrArg (fun x=>U fs ++ (pre6 p bud fd caps N sp ++ [.cells [.d (lisD l)],.cells [.d (mts (openR l p).1)],.cells [.d (lisD x)]])) e))⟩
   repeat' ((conv=>whnf); first|refine w0 ?_|refine w1 ?_|refine w2 (fun h=>?_) (fun h=>?_)|refine w3 ?_|refine w4 (fun h=>?_) (fun h=>?_)|refine w5 _ rfl ?_|refine w6 rfl ?_|refine w7 mixed rfl ?_|refine w14 (choices_c l p ?_)|simp only [a0,a1,a2,a3,a4,List.append_assoc])
   conv=>whnf
   refine CallP.cnv (args':=.yld (N + 10) :: [D.rptr [.rptr (planD p)],.rptr [lisD l]].map .d) (L':=U fs ++ (pre6 p bud fd caps N sp ++ [.cells [.d (lisD l)],.cells [.d (mts (openR l p).1)],.cells [.d (lisD bf)],.defr,.loop _])) rfl rfl ?_
   generalize hlr : LoopR.mk _ _ _ _ _ _ _ _ = lr
   obtain ⟨E,hE⟩ : ∃ E : Nat → List Blk,E = fun a=>pre6 p bud fd caps N a ++ [.cells [.d (lisD l)],.cells [.d (mts (openR l p).1)],.cells [.d (lisD bf)],.defr,.loop lr]:=⟨_,rfl⟩
   have hlrd : lr.df = N + 9:=by rw [← hlr]; rfl
   have hlrs : lr.st = .ready:=by rw [← hlr]
   have hlrp : lr.pend = none:=by rw [← hlr]
   have hback : (⟨.ready,none,lr.fr,lr.n,lr.ps,lr.assign,lr.body,lr.df⟩ : LoopR) = lr:=by rw [← hlr]
   have hblkb : (Blk.loop lr).bel (N + 11) = true:=by rw [← hlr]; simp [Blk.bel,belF,V.bel,V.belL,pre6_len]
   have hEl : ∀ a,(E a).length = 11:=fun a=>by rw [hE]; rfl
   have hEb : ∀ a,belB (N + 11) (E a) = true:=fun a=>by
    rw [hE]; exact belB_append (pre6_bel hH.cap (by omega)) (by show (V.belL _ _ && (V.belL _ _ && (V.belL _ _ && (true && ((Blk.loop lr).bel _ && true))))) = true; rw [hblkb]; rfl)
   have hMl : ∀ o,(memS U E o).length = N + 11:=fun o=>by cases o <;> (simp only [memS]; rw [a0,hEl])
   have hMb : ∀ o,belB (N + 11) (memS U E o) = true:=fun o=>by cases o <;> exact belB_append (belB_le (Nat.le_add_right N 11) (hH.bel _)) (hEb _)
   have hMd : ∀ o,dfB (memS U E o) = true:=fun o=>by
    have key : ∀ a b,dfB (U b ++ E a) = true:=fun a b=>by
     refine dfB_of fun c l' hc=>?_
     by_cases hcN : c < N
     ·rw [List.getElem?_append_left (by rw [hS]; exact hcN)] at hc
      have:=List.all_eq_true.1 (hH.nol b) _ (List.mem_of_getElem? hc)
      simp at this
     ·obtain ⟨j,rfl⟩ : ∃ j,c = N + j:=⟨c - N,by omega⟩
      rw [a1,hE] at hc
      match j,hc with
      | 0,hc | 1,hc | 2,hc | 3,hc | 4,hc | 5,hc | 6,hc | 7,hc | 8,hc | 9,hc=>cases hc
      | 10,hc =>
       have : lr = l':=by cases hc; rfl
       rw [← this,hlrd,a1,hE]; rfl
      | j + 11,hc=>simp [pre6,pre5] at hc
    cases o <;> exact key _ _
   have hroot':=hroot
   generalize hf0 : examP p bud all n = f0 at hroot'
   refine CallP.cnv (L':=memS U E (exLoop f0 (extL l p) (fun x=>decide (dmA x p < 0)) bud ((chs l p).take 0) sp fs)) rfl (by rw [hE]; rfl) ?_
   refine choices1_it pn pan l p hsl.hl hsl.hr hlen.2 (N + 10) (N + 11) (fun i=>∃ a b,exLoop f0 (extL l p) (fun x=>decide (dmA x p < 0)) bud ((chs l p).take i) sp fs = .go a b) (fun i=>memS U E (exLoop f0 (extL l p) (fun x=>decide (dmA x p < 0)) bud ((chs l p).take i) sp fs)) _ (show pn ≤ N + 11 by omega) (fun i=>hMl _) (fun i=>hMb _) (fun i=>hMd _) (by omega) ?_ ?_ ⟨sp,fs,rfl⟩
   ·rintro i hi ⟨a,b,hab⟩
    rw [List.length_map] at hi
    rw [List.getElem_map]
    obtain ⟨m,hm⟩ : ∃ m,m = (chs l p)[i]:=⟨_,rfl⟩
    have hnext:=exLoop_next f0 (extL l p) (fun x=>decide (dmA x p < 0)) bud hi hab
    rw [← hm] at hnext ⊢
    obtain ⟨k1,k2,k3⟩:=exLoop_keep _ _ p bud all n (extL l p) _ sp fs hsp hf2 a b (by rw [← hf0] at hab; exact hab)
    refine YieldP.conv (show _ = U b ++ E a by rw [hab]; rfl) ?_
    have hpn2 : (C.wp pn pan).pn ≤ (U b ++ E a).length:=by rw [a0,hEl]; show pn ≤ _; rw [hpnE]; omega
    have hL10 : (U b ++ E a)[N + 10]? = some (.loop lr):=by rw [a1,hE]; rfl
    obtain ⟨x,hx⟩ : ∃ x,x = extL l p m:=⟨_,rfl⟩
    have hxe : x = bf ++ [(openR l p).1 ++ [m]]:=hx.trans (hext m)
    have hsx : Small x p:=hx ▸ (part_small hs0 hlen.2 hP m).2
    refine YieldP.roundE (C_ok.wp pn pan) (fun c=>match c with | .region 12 _ _=>true | .region 13 _ _=>true | .region 14 _ _=>true | _=>false) hlr hL10 rfl ?_ hpn2
    subst hE
    by_cases hsb : a = bud
    ·have hstop : exLoop f0 (extL l p) (fun x=>decide (dmA x p < 0)) bud (chs l p) sp fs = .stop 3 a b:=by
      refine exLoop_stop _ _ _ _ (i:=i + 1) ?_
      rw [hnext,exLoop,if_pos hsb]
     repeat' ((conv=>whnf); first|refine w8 (w19 (show (a : Int) = (bud : Int) by omega)) ?_|simp only [hlrs,setB_eq,a0,a1,a2,a3,a4,List.append_assoc]|refine w0 ?_|refine w1 ?_|refine w2 (fun h=>?_) (fun h=>?_)|refine w3 ?_|refine w4 (fun h=>?_) (fun h=>?_)|refine w5 _ rfl ?_|refine w6 rfl ?_|refine w7 mixed rfl ?_)
     conv=>whnf
     exact enough_end (hS b) hpnE rfl (Nat.le_of_ble_eq_true rfl) (hp5 a b) (hd5 a b) (hst 3 a b (hroot.trans (by rw [hf0]; exact hstop)))
    ·have hi64 : IntKind.i64.wrap ((a : Int) + 1) = ((a + 1 : Nat) : Int):=by rw [wrap_in (by omega)]; omega
     obtain ⟨E2,hE2⟩ : ∃ E2 : List Blk,E2 = pre6 p bud fd caps N (a + 1) ++ [.cells [.d (lisD l)],.cells [.d (mts (openR l p).1)],.cells [.d (lisD bf)],.defr,.loop { lr with st:=.busy },.cells (m.cells.map .d)]:=⟨_,rfl⟩
     repeat' ((conv=>whnf); first|refine w9 (w20 (show ¬ (a : Int) = (bud : Int) by omega)) ?_|simp only [hlrs,setB_eq,a0,a1,a2,a3,a4,List.append_assoc]|refine w0 ?_|refine w1 ?_|refine w2 (fun h=>?_) (fun h=>?_)|refine w3 ?_|refine w4 (fun h=>?_) (fun h=>?_)|refine w5 _ rfl ?_|refine w6 rfl ?_|refine w7 mixed rfl ?_)
     conv=>whnf
     refine CutP.intro (ι:=Unit) (fun _=>⟨[(1,.ptr N 0),(5,.ptr (N + 5) 0),(8,.ptr (N + 7) 0),(11,.ptr (N + 8) 0),(12,.ptr (N + 11) 0)],Tryz.f93.ntmps,U b ++ E2,[],some (N + 10)⟩) ?_ (fun _=>?_)
     ·repeat' (conv => whnf
               first|refine w0 ?_|refine w1 ?_|refine w2 (fun h=>?_) (fun h=>?_)|refine w3 ?_|refine w4 (fun h=>?_) (fun h=>?_)|refine w5 _ rfl ?_|refine w6 rfl ?_|refine w7 mixed rfl ?_|simp only [hlrs,setB_eq,a0,a1,a2,a3,a4,List.append_assoc])
      conv=>whnf
      refine ⟨(),Weak.by ⟨rfl,rfl,rfl,rfl,rfl,trivial⟩ (hL:=?_)⟩
      rw [hE2]
      exact congrArg (fun z : Int=>U b ++ [.cells [.d (.rptr (planD p))],.cells [I bud],.cells [.fn fd caps],.cells [I z],.cells [I 0],.cells [.fn 93 (capE N)],.cells [.d (lisD l)],.cells [.d (mts (openR l p).1)],.cells [.d (lisD bf)],.defr,.loop { lr with st:=.busy },.cells (m.cells.map .d)]) hi64
     subst hE2
     have hR : (mR (openR l p).1).take (openR l p).1.length ++ [m.cells.map .d] = mR ((openR l p).1 ++ [m]):=by rw [mR_snoc,List.take_of_length_le (by rw [mR_len]; exact Nat.le_refl _)]
     conv=>whnf
     refine CutP.intro (ι:=Bool) (fun q=>⟨[(1,.ptr N 0),(5,.ptr (N + 5) 0),(11,.ptr (N + 8) 0),(13,.own (N + cond q 12 13) 2 0 ((openR l p).1.length + 1))],Tryz.f93.ntmps,U b ++ (pre6 p bud fd caps N (a + 1) ++ [.cells [.d (lisD l)],.cells [.d (mts (openR l p).1)],.cells [.d (lisD bf)],.defr,.loop { lr with st:=.busy },.cells (m.cells.map .d),cond q (.row 2 2 (mR ((openR l p).1 ++ [m]))) (.row 0 2 [m.cells.map .d]),cond q (.row 0 2 [m.cells.map .d]) (.row 2 2 (mR ((openR l p).1 ++ [m])))]),[],some (N + 10)⟩) ?_ (fun q=>?_)
     ·conv=>whnf
      refine DrawP.por mixed [1001] [[(0,3),(2,4),(1,5),(3,0),(4,0),(5,0)],[(0,3),(2,4),(3,0),(1,5),(4,0),(5,0)]] (by kernel_rfl) ?_
      conv=>whnf
      refine And.intro ?_ ?_
      all_goals
       repeat' ((conv=>whnf); first|refine w0 ?_|refine w1 ?_|refine w2 (fun h=>?_) (fun h=>?_)|refine w3 ?_|refine w4 (fun h=>?_) (fun h=>?_)|refine w5 _ rfl ?_|refine w6 rfl ?_|refine w7 mixed rfl ?_|simp only [setB_eq,a0,a1,a2,a3,a4,List.append_assoc]|refine QCallK.intro _ _ (w14 (mclone_c (openR l p).1 (by omega) ⟨rfl,rfl⟩)) (CellEq.app _ _) ?_|refine w6 (w23 (m:=4294967296) (show (openR l p).1.length + 1 ≤ 4294967296 by omega) (apLim_ge _)) ?_)
      all_goals conv=>whnf
      all_goals first
       | exact ⟨true,Weak.by ⟨rfl,rfl,rfl,rfl,trivial⟩ (hL:=congrArg (fun z=>U b ++ [.cells [.d (.rptr (planD p))],.cells [I bud],.cells [.fn fd caps],.cells [I (a + 1 : Nat)],.cells [I 0],.cells [.fn 93 (capE N)],.cells [.d (lisD l)],.cells [.d (mts (openR l p).1)],.cells [.d (lisD bf)],.defr,.loop { lr with st:=.busy },.cells (m.cells.map .d),.row 2 2 z,.row 0 2 [m.cells.map .d]]) hR)⟩
       | exact ⟨false,Weak.by ⟨rfl,rfl,rfl,rfl,trivial⟩ (hL:=congrArg (fun z=>U b ++ [.cells [.d (.rptr (planD p))],.cells [I bud],.cells [.fn fd caps],.cells [I (a + 1 : Nat)],.cells [I 0],.cells [.fn 93 (capE N)],.cells [.d (lisD l)],.cells [.d (mts (openR l p).1)],.cells [.d (lisD bf)],.defr,.loop { lr with st:=.busy },.cells (m.cells.map .d),.row 0 2 [m.cells.map .d],.row 2 2 z]) hR)⟩
     have hR2 : (rdR bf).take bf.length ++ [[V.own (N + cond q 12 13) 2 0 ((openR l p).1.length + 1)]] = rdR bf ++ [[V.own (N + cond q 12 13) 2 0 ((openR l p).1.length + 1)]]:=by rw [List.take_of_length_le (by simp [rdR])]
     conv=>whnf
     refine CutP.intro (ι:=Unit) (fun _=>⟨[(1,.ptr N 0),(5,.ptr (N + 5) 0),(14,.ptr (N + 16) 0)],Tryz.f93.ntmps,U b ++ (pre6 p bud fd caps N (a + 1) ++ [.cells [.d (lisD l)],.cells [.d (mts (openR l p).1)],.cells [.d (lisD bf)],.defr,.loop { lr with st:=.busy },.cells (m.cells.map .d),cond q (.row 2 2 (mR ((openR l p).1 ++ [m]))) (.row 0 2 [m.cells.map .d]),cond q (.row 0 2 [m.cells.map .d]) (.row 2 2 (mR ((openR l p).1 ++ [m]))),
      .row 2 1 (rdR bf ++ [[.own (N + cond q 12 13) 2 0 ((openR l p).1.length + 1)]]),.row 0 1 [[.own (N + cond q 12 13) 2 0 ((openR l p).1.length + 1)]],.cells [.own (N + 14) 2 0 (bf.length + 1)]]),[],some (N + 10)⟩) ?_ (fun _=>?_)
     ·repeat' (conv => whnf
               first|refine w0 ?_|refine w1 ?_|refine w2 (fun h=>?_) (fun h=>?_)|refine w3 ?_|refine w4 (fun h=>?_) (fun h=>?_)|refine w5 _ rfl ?_|refine w6 rfl ?_|refine w7 mixed rfl ?_|simp only [setB_eq,a0,a1,a2,a3,a4,List.append_assoc]|refine w14 (rclone_c bf (by omega) ?_)|refine w6 (w23 (m:=4294967296) (show bf.length + 1 ≤ 4294967296 by omega) (apLim_ge _)) ?_)
      conv=>whnf
      exact ⟨(),Weak.by ⟨rfl,rfl,rfl,trivial⟩ (hL:=congrArg (fun z=>U b ++ [.cells [.d (.rptr (planD p))],.cells [I bud],.cells [.fn fd caps],.cells [I (a + 1 : Nat)],.cells [I 0],.cells [.fn 93 (capE N)],.cells [.d (lisD l)],.cells [.d (mts (openR l p).1)],.cells [.d (lisD bf)],.defr,.loop { lr with st:=.busy },.cells (m.cells.map .d),
       cond q (.row 2 2 (mR ((openR l p).1 ++ [m]))) (.row 0 2 [m.cells.map .d]),cond q (.row 0 2 [m.cells.map .d]) (.row 2 2 (mR ((openR l p).1 ++ [m]))),.row 2 1 z,.row 0 1 [[.own (N + cond q 12 13) 2 0 ((openR l p).1.length + 1)]],.cells [.own (N + 14) 2 0 (bf.length + 1)]]) hR2)⟩
     have hcw : ∀ (S : Nat → Prop) (L : List Blk),S (N + cond q 12 13) → S (N + 14) → L[N + cond q 12 13]? = some (.row 2 2 (mR ((openR l p).1 ++ [m]))) → L[N + 14]? = some (.row 2 1 (rdR bf ++ [[.own (N + cond q 12 13) 2 0 ((openR l p).1.length + 1)]])) → Cw S L (.agg [.own (N + 14) 2 0 (bf.length + 1)]) (lisV x):=fun S L h1 h2 h3 h4=>by
      rw [hxe]; exact ext_cw h1 h2 h3 h4
     repeat' ((conv=>whnf); first|refine w0 ?_|refine w1 ?_|refine w2 (fun h=>?_) (fun h=>?_)|refine w3 ?_|refine w4 (fun h=>?_) (fun h=>?_)|refine w5 _ rfl ?_|refine w6 rfl ?_|refine w7 mixed rfl ?_|refine w12 _ (w14 (CallP.lent (dmd_c (L:=[]) x p hsx ⟨rfl,rfl⟩) (.cv (hcw _ _ trivial trivial ((a1 _ _ _).trans (by cases q <;> rfl)) ((a1 _ _ _).trans rfl)) (.keep .nil)) rfl rfl ⟨rfl,rfl⟩)) ?_|simp only [setB_eq,a0,a1,a2,a3,a4,List.append_assoc])
     all_goals conv=>whnf
     ·have hneg : dmA x p < 0:=‹_›
      obtain ⟨-,hPx⟩:=dmA_part hneg
      have hok : decide (dmA (extL l p m) p < 0) = true:=by rw [← hx]; exact decide_eq_true hneg
      have hfx : roundsN p * halfN p < x.flatten.length + n:=by rw [hx,extL_flat,List.length_append]; simp only [List.length_singleton]; omega
      have hih:=examine_c p bud all fd caps N U hH h0 hs0 hbud pn pan hpnE n x (a + 1) b hPx hfx (by omega) (fun _=>by omega) (by omega) fun e sp' fs' hse=>hst e sp' fs' (hroot.trans (by
       rw [hf0]
       refine exLoop_stop _ _ _ _ (i:=i + 1) ?_
       rw [hnext,exLoop,if_neg hsb]
       simp only [hok,if_true]
       rw [← hx,← hf0,hse]))
      refine CallP.freezeP (args:=.agg [.own (N + 14) 2 0 (bf.length + 1)] :: capE N) (dargs:=lisV x :: capE N) [N + cond q 12 13,N + 14] (L':=(U b ++ pre6 p bud fd caps N (a + 1)) ++ [.cells [.d (lisD l)],.cells [.d (mts (openR l p).1)],.cells [.d (lisD bf)],.defr,.loop { lr with st:=.busy },.cells (m.cells.map .d),cond q .dead (.row 0 2 [m.cells.map .d]),cond q (.row 0 2 [m.cells.map .d]) .dead,.dead,.row 0 1 [[.own (N + cond q 12 13) 2 0 ((openR l p).1.length + 1)]],.cells [.own (N + 14) 2 0 (bf.length + 1)]]) ?_ ?_ ?_ ?_
      ·rw [List.append_assoc]; cases q <;> (simp only [killB,cond_true,cond_false,a3]; rfl)
      ·cases q <;> (simp only [plainBlk,List.all_cons,List.all_nil,cond_true,cond_false,a1]; rfl)
      ·exact .cv (hcw _ _ (by simp) (by simp) ((a1 _ _ _).trans (by cases q <;> rfl)) ((a1 _ _ _).trans rfl)) (.keep (.keep (.keep (.keep (.keep .nil)))))
      refine CallP.frameP (by rw [a0]; show pn ≤ _; rw [hpnE]; exact Nat.le_succ _) hih ?_ ?_ ?_ ?_
      ·rw [a0]; exact belB_append (belB_le (Nat.le_add_right N 6) (hH.bel b)) (pre6_bel hH.cap (Nat.le_refl _))
      ·refine dfB_noLoop ?_
       have:=hH.nol b
       unfold noLoop at this ⊢
       rw [List.all_append,this]; rfl
      ·rw [a0]; show (true && V.belL (N + 6) (capE N)) = true; rw [capE_bel N (N + 6) (Nat.le_refl _)]; rfl
      rintro X L1 ⟨rfl,a',b',hgo,rfl⟩
      refine ⟨by rw [a0,a0]; rfl,by rw [a0]; exact belB_append (belB_le (Nat.le_add_right N 6) (hH.bel b')) (pre6_bel hH.cap (w21 _)),rfl,?_⟩
      have hF1 : exLoop f0 (extL l p) (fun x=>decide (dmA x p < 0)) bud ((chs l p).take (i + 1)) sp fs = .go a' b':=by
       rw [hnext,exLoop,if_neg hsb]
       simp only [hok,if_true]
       rw [← hx,← hf0,hgo]; rfl
      rw [hF1]
      repeat' ((conv=>whnf); first|refine w0 ?_|refine w1 ?_|refine w2 (fun h=>?_) (fun h=>?_)|refine w3 ?_|refine w4 (fun h=>?_) (fun h=>?_)|refine w5 _ rfl ?_|refine w6 rfl ?_|refine w7 mixed rfl ?_|simp only [setB_eq,a0,a1,a2,a3,a4,List.append_assoc])
      conv=>whnf
      refine w15 (n:=N + 11) (L':=U b' ++ (pre6 p bud fd caps N a' ++ [.cells [.d (lisD l)],.cells [.d (mts (openR l p).1)],.cells [.d (lisD bf)],.defr,.loop lr])) ?_ (w21 _) rfl (hMb (.go a' b')) (.inl ⟨rfl,rfl,a',b',rfl⟩)
      exact (pre_take _ _ (hS b') 11).trans (congrArg (fun z=>U b' ++ (pre6 p bud fd caps N a' ++ [.cells [.d (lisD l)],.cells [.d (mts (openR l p).1)],.cells [.d (lisD bf)],.defr,.loop z])) hback)
     ·have hneg : ¬ dmA x p < 0:=‹_›
      have hok : decide (dmA (extL l p m) p < 0) = false:=by rw [← hx]; exact decide_eq_false hneg
      have hF1 : exLoop f0 (extL l p) (fun x=>decide (dmA x p < 0)) bud ((chs l p).take (i + 1)) sp fs = .go (a + 1) b:=by
       rw [hnext,exLoop,if_neg hsb]
       simp only [hok]
       rfl
      rw [hF1]
      refine w15 (n:=N + 11) (L':=U b ++ (pre6 p bud fd caps N (a + 1) ++ [.cells [.d (lisD l)],.cells [.d (mts (openR l p).1)],.cells [.d (lisD bf)],.defr,.loop lr])) ?_ (w21 _) rfl (hMb (.go (a + 1) b)) (.inl ⟨rfl,rfl,a + 1,b,rfl⟩)
      exact (pre_take _ _ (hS b) 11).trans (congrArg (fun z=>U b ++ (pre6 p bud fd caps N (a + 1) ++ [.cells [.d (lisD l)],.cells [.d (mts (openR l p).1)],.cells [.d (lisD bf)],.defr,.loop z])) hback)
   ·rintro ⟨a,b,hab⟩
    have hgo : memS U E (exLoop f0 (extL l p) (fun x=>decide (dmA x p < 0)) bud ((chs l p).take ((chs l p).map fun m=>[mtV m]).length) sp fs) = U b ++ E a:=by rw [hab]; rfl
    rw [List.length_map,List.take_length] at hab
    generalize memS U E (exLoop f0 (extL l p) (fun x=>decide (dmA x p < 0)) bud ((chs l p).take ((chs l p).map fun m=>[mtV m]).length) sp fs) = M at hgo ⊢
    subst hgo
    subst hE
    repeat' ((conv=>whnf); first|refine w0 ?_|refine w1 ?_|refine w2 (fun h=>?_) (fun h=>?_)|refine w3 ?_|refine w4 (fun h=>?_) (fun h=>?_)|refine w5 _ rfl ?_|refine w6 rfl ?_|refine w7 mixed rfl ?_|simp only [hlrs,hlrp,setB_eq,a0,a1,a2,a3,a4,a5,a6,List.append_assoc])
    conv=>whnf
    generalize hX : (noLoop _ && List.all _ _ && _) = X
    have hXt : X = true:=by
     rw [← hX]
     have:=hH.nol b
     unfold noLoop at this ⊢
     rw [List.all_append,this]
     simp [pre6,pre5]
    subst hXt
    conv=>whnf
    refine w15 (n:=N + 6) (L':=U b ++ pre6 p bud fd caps N a) ?_ (w21 _) rfl (belB_append (belB_le (Nat.le_add_right N 6) (hH.bel b)) (pre6_bel hH.cap (w21 _))) ⟨rfl,a,b,hroot.trans (by rw [hf0]; exact hab),rfl⟩
    show ((U b ++ _).set (N + _) Blk.dead).take (N + 6) = _
    rw [a3]
    exact pre_take _ _ (hS b) 6
end Go.Proofs.YtndlggbljkhfbaaGreat
namespace Go.Proofs.YtndlggbljkhfbaaGreat
open Go.Tidy
variable {L : List Blk} {k : V → List Blk → Prop}
def nxR (l : Lst) (p : Pl) : List Mt × Lst × Bool:=if (openR l p).2.1 = false then ((openR l p).1,l.dropLast,true) else if l.length < roundsN p then ([],l,true) else ([],[],false)
theorem rnext_c (l : Lst) (p : Pl) (hl : l.length ≤ 1073741824) (hp : 1 ≤ p.clubs.length ∧ p.clubs.length ≤ 1000) (h : k (.tup [.d (mts (nxR l p).1),.d (lisD (nxR l p).2.1),B (nxR l p).2.2]) L) : CallP C 148 [lisV l,plV p] L k:=by
 have hx : (0 : Int) < ((l.map fun r=>[mts r]).length : Int) → IntKind.i64.wrap (((l.map fun r=>[mts r]).length : Int) - 1) = ((l.length - 1 : Nat) : Int):=fun h=>by
  rw [List.length_map] at h ⊢; rw [wrap_in (by omega)]; omega
 have hn : (0 : Int) < ((l.map fun r=>[mts r]).length : Int) → l.length - 1 < l.length:=fun h=>by
  rw [List.length_map] at h; omega
 have hhe:=half_e p hp.2
 refine CallP.pure ?_ rfl (fun _=>rfl) h
 clear h
 refine callP_of C_ok Tryz.func148 rfl rfl (n:=_) rfl (w18 rfl) (rs:=_) rfl ?_
 repeat' ((conv=>whnf); first|refine w0 ?_|refine w1 ?_|refine w2 (fun h=>?_) (fun h=>?_)|refine w3 ?_|refine w4 (fun h=>?_) (fun h=>?_)|refine w5 _ rfl ?_|refine w6 rfl ?_|refine w7 mixed rfl ?_|refine w11 (l.length - 1) (hx ‹_›) (hn ‹_›) ?_|refine w6 (show (2 : Int) ≠ 0 by decide) ?_|refine w6 (lisE l) ?_|refine SliceP.intro 0 (l.length - 1) rfl (hx ‹_›) (w22 _) (by rw [List.length_map]; exact Nat.sub_le _ _) ?_|refine rrounds_c p hp ?_)
 all_goals conv=>whnf
 all_goals
  have hfr : ((openR l p).2.1 = false ∧ (openR l p).1 = l.getLast?.getD []) ∨ (openR l p).2.1 = true:=by
   unfold openR
   cases l.getLast? with
   | none=>exact .inr rfl
   | some r => simp only; split
               ·exact .inl ⟨rfl,rfl⟩
               ·exact .inr rfl
 ·rename_i h1
  have h0:=hn h1
  have h2 : (l[l.length - 1]).length < halfN p:=by rw [hhe,List.length_map] at h; omega
  have e1 : (openR l p).2.1 = false ∧ (openR l p).1 = l[l.length - 1]:=by
   unfold openR; rw [last_of (by omega)]; simp only [if_pos h2]; exact ⟨trivial,trivial⟩
  have hN : nxR l p = (l[l.length - 1],l.dropLast,true):=by unfold nxR; rw [if_pos e1.1,e1.2]
  have hdl : List.take (l.length - 1 - 0) (List.drop 0 (l.map fun r=>[mts r])) = l.dropLast.map fun r=>[mts r]:=by
   rw [List.drop_zero,← List.map_take,Nat.sub_zero,← List.dropLast_eq_take]
  refine w16 (L':=[]) (.triple (.d (.d _)) (.d (.d _)) (.d (.d _))) rfl rfl ⟨rfl,?_⟩
  rw [hN]
  exact congrArg (fun z=>V.tup [.d (mts l[l.length - 1]),.d (.sl z),B true]) hdl
 all_goals
  have e1 : (openR l p).2.1 = true:=by
   unfold openR
   cases hg : l.getLast? with
   | none=>rfl
   | some r =>
    simp only
    rw [if_neg]
    intro hr
    have h0 : 0 < l.length:=by cases l with
     | nil=>cases hg
     | cons=>simp
    rw [last_of h0] at hg
    cases hg
    first
    | (rename_i h1 h2; rw [hhe,List.length_map] at h2; omega)
    | (rename_i h1; rw [List.length_map] at h1; omega)
 all_goals first
  | (have hlt : l.length < roundsN p := by rw [List.length_map] at h; omega
     have hN : nxR l p = ([],l,true):=by unfold nxR; rw [if_neg (by rw [e1]; decide),if_pos hlt]
     refine DrawP.por mixed [] [[(1,0),(2,3),(0,0),(3,0),(4,0),(5,0)]] (by kernel_rfl) ?_
     repeat' ((conv=>whnf); first|refine w0 ?_|refine w1 ?_|refine w2 (fun h=>?_) (fun h=>?_)|refine w3 ?_|refine w4 (fun h=>?_) (fun h=>?_)|refine w5 _ rfl ?_|refine w6 rfl ?_|refine w7 mixed rfl ?_)
     conv=>whnf
     refine w16 (L':=[]) (.triple (.d (.rowL (ds:=[]) (w22 _) rfl .nil rfl (fun e he=>by cases he))) (.d (.d _)) (.d (.d _))) rfl rfl ⟨rfl,?_⟩
     rw [hN]; rfl)
  | (have hlt : ¬ l.length < roundsN p := by rw [List.length_map] at h; omega
     have hN : nxR l p = ([],[],false):=by unfold nxR; rw [if_neg (by rw [e1]; decide),if_neg hlt]
     refine w16 (L':=[]) (.triple (.d .nil) (.d .nil) (.d (.d _))) rfl rfl ⟨rfl,?_⟩
     rw [hN]; rfl)
theorem CvLL.cong {S : Nat → Prop} {L : List Blk} {xs xs' : List (List V)} {ys : List (List D)} (h : xs = xs') (hc : CvLL S L xs' ys) : CvLL S L xs ys:=by subst h; exact hc
theorem app_eq {α : Type} {X Y Z : List α} (n : Nat) (h : X = Y) (hn : (Y ++ Z).length ≤ n) : ((X ++ Z).drop 0).take n = Y ++ Z:=by
 subst h; rw [List.drop_zero,List.take_of_length_le hn]
theorem take_app0 {α : Type} (X : List α) (n : Nat) (h : X.length ≤ 0 + n) : List.take (0 + n) (List.take 0 ([] : List α) ++ X) = X:=by
 rw [List.take_zero,List.nil_append,List.take_of_length_le h]
theorem rext_c (r : List Mt) (b : Lst) (m : Mt) (hr : r.length ≤ 1073741824) (hb : b.length ≤ 1073741824) (h : k (lisV (b ++ [r ++ [m]])) L) : CallP C 150 [.d (mts r),.d (lisD b),mtV m] L k:=by
 refine CallP.pure ?_ rfl (fun _=>rfl) h
 clear h
 refine callP_of C_ok Tryz.func150 rfl rfl (n:=_) rfl (w18 rfl) (rs:=_) rfl ?_
 conv=>whnf
 refine DrawP.por mixed [] [[(1,0),(3,4),(0,0),(2,0),(4,0),(5,0),(6,0)],[(1,0),(3,4),(0,0),(4,0),(2,0),(5,0),(6,0)],[(1,0),(3,4),(4,0),(0,0),(2,0),(5,0),(6,0)]] (by kernel_rfl) ?_
 conv=>whnf
 refine And.intro ?_ ?_
 rotate_left 1
 conv=>whnf
 refine And.intro ?_ ?_
 all_goals
  repeat' ((conv=>whnf); first|refine w0 ?_|refine w1 ?_|refine w2 (fun h=>?_) (fun h=>?_)|refine w3 ?_|refine w4 (fun h=>?_) (fun h=>?_)|refine w5 _ rfl ?_|refine w6 rfl ?_|refine w7 mixed rfl ?_|refine w6 (mtsE r) ?_|refine w6 (lisE b) ?_|refine w6 (w23 (m:=4294967296) (by first|omega|(simp; omega)) (apLim_ge _)) ?_)
 all_goals conv=>whnf
 all_goals
  refine w16 (L':=[]) (.aggL (.cons (.rowL (ds:=(b ++ [r ++ [m]]).map fun r=>[mts r]) (w22 _) rfl ?_ ?_ (lisE _)) .nil)) rfl rfl ⟨rfl,rfl⟩
  ·refine CvLL.cong (app_eq (Y:=rdR b) (Z:=[[_]]) _ ((take_app0 _ _ (by simp)).trans (by simp [rdR])) (by simp [rdR])) (rows_snoc (.rowL (ds:=(r ++ [m]).map Mt.cells) (Nat.zero_le _) rfl ?_ ?_ (mtsE _)) b)
   ·refine CvLL.cong (app_eq (Y:=mR r) (Z:=[m.cells.map .d]) _ ((take_app0 _ _ (by simp)).trans (by simp [mR])) (by simp [mR])) ?_
    rw [← mR_snoc]; exact mR_rows _
   ·simp
  ·simp
def prIn (c : Int) : List Int → List Mt
 | []=>[]
 | o :: os=>⟨c,o⟩ :: ⟨o,c⟩ :: prIn c os
def prs : List Int → List Mt
 | []=>[]
 | c :: cs=>prIn c cs ++ prs cs
theorem prIn_len (c : Int) : ∀ os : List Int,(prIn c os).length = 2 * os.length
 | []=>rfl
 | o :: os=>by simp only [prIn,List.length_cons,prIn_len c os]; omega
theorem prs_len (n : Nat) : ∀ cs : List Int,cs.length ≤ n → (prs cs).length ≤ cs.length * (2 * n)
 | [],_=>w22 _
 | c :: cs,h=>by
  simp only [List.length_cons] at h
  have h1:=prs_len n cs (by omega)
  simp only [prs,List.length_append,prIn_len,List.length_cons,Nat.add_mul,Nat.one_mul]
  omega
def extR (l : Lst) (p : Pl) (m : Mt) : Lst:=(nxR l p).2.1 ++ [(nxR l p).1 ++ [m]]
def rchs (l : Lst) (p : Pl) : List Mt:=if (nxR l p).2.2 = true then (prs p.clubs).filter (fun m=>decide (PartR (extR l p m) p)) else []
def chM (l : Lst) (p : Pl) (out : List Mt) : List Blk:=[.cells [.d (lisD l)],.cells (p.cells.map .d),.row out.length 2 (mR out)]
theorem chM_bel {n : Nat} (l : Lst) (p : Pl) (out : List Mt) : belB n (chM l p out) = true:=by
 show (true && (V.belL n (p.cells.map .d) && (belR n (mR out) && true))) = true
 rw [V.belL_d,mR_bel]; rfl
theorem nx_small {l : Lst} {p : Pl} (hl : l.length ≤ 1073741823) (hF : l.flatten.length ≤ 1073741823) (m : Mt) : (nxR l p).1.length ≤ 1073741823 ∧ (nxR l p).2.1.length ≤ 1073741823 ∧ (extR l p m).length ≤ 1073741824 ∧ (∀ r ∈ extR l p m,r.length ≤ 4611686018427387904) ∧ (extR l p m).flatten.length ≤ 4294967296:=by
 have hfl : (extR l p m).flatten.length ≤ l.flatten.length + 1 ∧ (nxR l p).1.length ≤ l.flatten.length ∧ (nxR l p).2.1.length ≤ l.length:=by
  unfold extR nxR
  rcases openR_spec l p with ⟨h1,h2⟩ | ⟨h1,r,h2,h3,h4,h5⟩
  ·rw [h1]; simp only [Bool.true_eq_false,if_false]
   split <;> simp
  ·rw [if_pos h1,h3]
   have e : l.flatten = l.dropLast.flatten ++ r:=by
    conv=>lhs; rw [h5]
    simp
   have e2 : (l.dropLast ++ [r ++ [m]]).flatten = l.dropLast.flatten ++ (r ++ [m]):=by simp
   refine ⟨?_,?_,?_⟩
   ·show (l.dropLast ++ [r ++ [m]]).flatten.length ≤ _
    rw [e2,e]; simp only [List.length_append,List.length_singleton]; omega
   ·show r.length ≤ _
    rw [e]; simp only [List.length_append]; omega
   ·show l.dropLast.length ≤ _
    rw [List.length_dropLast]; omega
 refine ⟨by omega,by omega,?_,fun r hr=>?_,by omega⟩
 ·unfold extR; rw [List.length_append]; simp; omega
 ·have : r.length ≤ (extR l p m).flatten.length:=by
   obtain ⟨i,hi,rfl⟩:=List.getElem_of_mem hr
   have:=List.sublist_flatten_of_mem (List.getElem_mem hi)
   exact this.length_le
  omega
theorem rchoices_c (l : Lst) (p : Pl) (hp : fieldOk p.clubs 2 = true) (hl : l.length ≤ 1073741823) (hF : l.flatten.length ≤ 1073741823) (h : k (.d (mts (rchs l p))) L) : CallP C 142 [lisV l,plV p] L k:=by
 have hlen : 1 ≤ p.clubs.length ∧ p.clubs.length ≤ 1000:=by
  simp only [fieldOk,Bool.and_eq_true,decide_eq_true_eq] at hp; omega
 have hpl:=prs_len 1000 p.clubs hlen.2
 have hsm:=fun m=>nx_small (p:=p) hl hF m
 refine CallP.pure ?_ rfl (fun _=>rfl) h
 clear h
 refine callP_of C_ok Tryz.func142 rfl rfl (n:=_) rfl (w18 rfl) (rs:=_) rfl ?_
 repeat' ((conv=>whnf); first|refine w0 ?_|refine w1 ?_|refine w2 (fun h=>?_) (fun h=>?_)|refine w3 ?_|refine w4 (fun h=>?_) (fun h=>?_)|refine w5 _ rfl ?_|refine w6 rfl ?_|refine w7 mixed rfl ?_|refine rnext_c l p (by omega) hlen ?_)
 conv=>whnf
 obtain ⟨Q,hQ⟩ : ∃ Q : Mt → Bool,Q = fun m=>decide (PartR (extR l p m) p):=⟨_,rfl⟩
 by_cases his : (nxR l p).2.2 = true
 ·have hR : rchs l p = (prs p.clubs).filter Q:=by unfold rchs; rw [if_pos his,hQ]
  refine LoopP.inv (fun s : Nat × List Mt=>s.1 ≤ p.clubs.length ∧ ∃ pre,prs p.clubs = pre ++ prs (p.clubs.drop s.1) ∧ s.2 = pre.filter Q) (fun s=>⟨[(2,.ptr 0 0),(3,.ptr 1 0),(5,.own 2 s.2.length 0 s.2.length),(6,.d (mts (nxR l p).1)),(7,.d (lisD (nxR l p).2.1)),(8,B (nxR l p).2.2),(9,I s.1)],Tryz.f142.ntmps,chM l p s.2,[],none⟩) (fun s=>p.clubs.length - s.1) (0,[]) ⟨w22 _,[],rfl,rfl⟩ ?_ ?_
  ·exact Weak.by ⟨rfl,rfl,rfl,rfl,rfl,rfl,rfl,trivial⟩
  rintro ⟨i,out⟩ ⟨hi,pre,hpre,hout⟩
  simp only at hi hpre hout
  have hol : ∀ {pr rest : List Mt},prs p.clubs = pr ++ rest → (pr.filter Q).length ≤ 2000000:=fun {pr rest} h=>by
   have h1:=congrArg List.length h
   rw [List.length_append] at h1
   have h2:=List.length_filter_le Q pr
   omega
  repeat' ((conv=>whnf); first|refine w8 his ?_|refine w0 ?_|refine w1 ?_|refine w2 (fun h=>?_) (fun h=>?_)|refine w3 ?_|refine w4 (fun h=>?_) (fun h=>?_)|refine w5 _ rfl ?_|refine w6 rfl ?_|refine w7 mixed rfl ?_)
  all_goals conv=>whnf
  ·have hi' : i < p.clubs.length:=by simp only [List.length_map] at h; omega
   have hwi : IntKind.i64.wrap ((i : Int) + 1) = ((i + 1 : Nat) : Int):=by rw [wrap_in (by omega)]; omega
   obtain ⟨c,hc⟩ : ∃ c,c = p.clubs[i]:=⟨_,rfl⟩
   obtain ⟨os,hos⟩ : ∃ os,os = p.clubs.drop (i + 1):=⟨_,rfl⟩
   have hosl : os.length = p.clubs.length - (i + 1):=by rw [hos,List.length_drop]
   rw [List.drop_eq_getElem_cons hi',← hos,← hc,prs] at hpre
   refine LoopP.inv (fun s : Nat × List Mt=>s.1 ≤ os.length ∧ ∃ pr,prs p.clubs = pr ++ (prIn c (os.drop s.1) ++ prs os) ∧ s.2 = pr.filter Q) (fun s=>⟨[(2,.ptr 0 0),(3,.ptr 1 0),(5,.own 2 s.2.length 0 s.2.length),(6,.d (mts (nxR l p).1)),(7,.d (lisD (nxR l p).2.1)),(8,B (nxR l p).2.2),(9,I i),(10,I (i + 1 + s.1 : Nat))],Tryz.f142.ntmps,chM l p s.2,[],none⟩) (fun s=>os.length - s.1) (0,out) ⟨w22 _,pre,hpre,hout⟩ ?_ ?_
   ·exact Weak.by ⟨rfl,rfl,rfl,rfl,rfl,rfl,rfl,congrArg I hwi,trivial⟩
   rintro ⟨q,out2⟩ ⟨hq,pr,hpr,hout2⟩
   simp only at hq hpr hout2
   conv=>whnf
   refine w2 (fun hb=>?_) (fun hb=>?_)
   ·have hq' : q < os.length:=by simp only [List.length_map] at hb; omega
    have hiq : i + 1 + q < p.clubs.length:=by omega
    have hwq : IntKind.i64.wrap (((i + 1 + q : Nat) : Int) + 1) = ((i + 1 + (q + 1) : Nat) : Int):=by rw [wrap_in (by omega)]; omega
    obtain ⟨o,ho⟩ : ∃ o,o = os[q]:=⟨_,rfl⟩
    have hoc : p.clubs[i + 1 + q] = o:=by rw [ho]; simp only [hos]; rw [List.getElem_drop]
    rw [List.drop_eq_getElem_cons hq',← ho,prIn] at hpr
    obtain ⟨rest,hrest⟩ : ∃ rest,rest = prIn c (os.drop (q + 1)) ++ prs os:=⟨_,rfl⟩
    obtain ⟨two,htwo⟩ : ∃ two : List Mt,two = [⟨c,o⟩,⟨o,c⟩]:=⟨_,rfl⟩
    have hpr2 : prs p.clubs = pr ++ (two.drop 0 ++ rest):=by rw [hpr,htwo,hrest]; rfl
    have htl : two.length = 2:=by rw [htwo]; rfl
    repeat' ((conv=>whnf); first|refine w11 i rfl hi' ?_|refine w11 (i + 1 + q) rfl hiq ?_|refine w0 ?_|refine w1 ?_|refine w2 (fun h=>?_) (fun h=>?_)|refine w3 ?_|refine w4 (fun h=>?_) (fun h=>?_)|refine w5 _ rfl ?_|refine w6 rfl ?_|refine w7 mixed rfl ?_)
    conv=>whnf
    refine LoopP.inv (fun s : Nat × List Mt=>s.1 ≤ 2 ∧ ∃ pr,prs p.clubs = pr ++ (two.drop s.1 ++ rest) ∧ s.2 = pr.filter Q) (fun s=>⟨[(2,.ptr 0 0),(3,.ptr 1 0),(5,.own 2 s.2.length 0 s.2.length),(6,.d (mts (nxR l p).1)),(7,.d (lisD (nxR l p).2.1)),(8,B (nxR l p).2.2),(9,I i),(10,I (i + 1 + q : Nat)),(11,.own 3 0 0 2),(12,I s.1)],Tryz.f142.ntmps,chM l p s.2 ++ [.row 0 2 (mR two)],[],none⟩) (fun s=>2 - s.1) (0,out2) ⟨w22 _,pr,hpr2,hout2⟩ ?_ ?_
    ·exact Weak.by ⟨rfl,rfl,rfl,rfl,rfl,rfl,rfl,rfl,rfl,rfl,trivial⟩ (hL:=by subst htwo; rw [← hoc,hc]; rfl)
    rintro ⟨z,out3⟩ ⟨hz,pr3,hpr3,hout3⟩
    simp only at hz hpr3 hout3
    have hol3:=hol hpr3
    rw [← hout3] at hol3
    conv=>whnf
    refine w2 (fun hb2=>?_) (fun hb2=>?_)
    ·have hz' : z < 2:=by simp only at hb2; omega
     have hwz : IntKind.i64.wrap ((z : Int) + 1) = ((z + 1 : Nat) : Int):=by rw [wrap_in (by omega)]; omega
     have hzt : z < two.length:=by omega
     have hgz:=mR_get hzt
     rw [List.drop_eq_getElem_cons hzt,List.cons_append] at hpr3
     obtain ⟨m,hm⟩ : ∃ m,m = two[z]:=⟨_,rfl⟩
     rw [← hm] at hgz hpr3
     obtain ⟨s1,s2,s3,s4,s5⟩:=hsm m
     repeat' ((conv=>whnf); first|refine IdxN.intro z rfl hz' ?_|refine w5 _ hgz ?_|refine w12 _ (rext_c (nxR l p).1 (nxR l p).2.1 m (by omega) (by omega) ⟨rfl,rfl⟩) ?_|refine w12 _ (rpartial_c (extR l p m) p hp s3 s4 s5 ⟨rfl,rfl⟩) ?_|refine w6 (w23 (m:=4294967296) (show out3.length + 1 ≤ 4294967296 by omega) (apLim_ge _)) ?_|simp only [Nat.beq_refl,Bool.and_self]|refine w0 ?_|refine w1 ?_|refine w2 (fun h=>?_) (fun h=>?_)|refine w3 ?_|refine w4 (fun h=>?_) (fun h=>?_)|refine w5 _ rfl ?_|refine w6 rfl ?_|refine w7 mixed rfl ?_)
     all_goals conv=>whnf
     ·have hQm : Q m = true:=by rw [hQ]; exact decide_eq_true ‹_›
      refine ⟨(z + 1,out3 ++ [m]),⟨hz',pr3 ++ [m],by rw [hpr3]; simp,by rw [List.filter_append,← hout3]; simp [hQm]⟩,by simp only []; omega,Weak.to 4 (Eq.trans (b:=[.cells [.d (lisD l)],.cells (p.cells.map .d),.row (out3.length + 1) 2 ((mR out3).take out3.length ++ [m.cells.map .d]),.row 0 2 (mR two)]) rfl ?_) (w22 _) (w18 rfl) ⟨rfl,rfl,(show V.own 2 (out3.length + 1) 0 (out3.length + 1) = V.own 2 (out3 ++ [m]).length 0 (out3 ++ [m]).length by rw [List.length_append]; rfl),rfl,rfl,rfl,rfl,rfl,rfl,congrArg I hwz,trivial⟩ (hB:=belB_append (chM_bel l p _) (by show (belR 4 (mR two) && true) = true; rw [mR_bel]; rfl))⟩
      rw [List.take_of_length_le (by rw [mR_len]; exact Nat.le_refl _),← mR_snoc,show out3.length + 1 = (out3 ++ [m]).length by simp]; rfl
     ·have hQm : Q m = false:=by rw [hQ]; exact decide_eq_false ‹_›
      exact ⟨(z + 1,out3),⟨hz',pr3 ++ [m],by rw [hpr3]; simp,by rw [List.filter_append,← hout3]; simp [hQm]⟩,by simp only []; omega,Weak.by ⟨rfl,rfl,rfl,rfl,rfl,rfl,rfl,rfl,rfl,congrArg I hwz,trivial⟩⟩
    ·have hze : z = 2:=by simp only at hb2; omega
     subst hze
     rw [List.drop_of_length_le (by omega),List.nil_append,hrest] at hpr3
     repeat' ((conv=>whnf); first|refine w0 ?_|refine w1 ?_|refine w2 (fun h=>?_) (fun h=>?_)|refine w3 ?_|refine w4 (fun h=>?_) (fun h=>?_)|refine w5 _ rfl ?_|refine w6 rfl ?_|refine w7 mixed rfl ?_)
     conv=>whnf
     exact ⟨(q + 1,out3),⟨hq',pr3,hpr3,hout3⟩,by simp only []; omega,Weak.to 3 rfl (Nat.zero_le _) (Nat.le_of_ble_eq_true rfl) ⟨rfl,rfl,rfl,rfl,rfl,rfl,rfl,congrArg I hwq,trivial⟩ (hB:=chM_bel l p _)⟩
   ·have hqe : q = os.length:=by simp only [List.length_map] at hb; omega
    subst hqe
    rw [List.drop_length,prIn,List.nil_append,hos] at hpr
    repeat' ((conv=>whnf); first|refine w0 ?_|refine w1 ?_|refine w2 (fun h=>?_) (fun h=>?_)|refine w3 ?_|refine w4 (fun h=>?_) (fun h=>?_)|refine w5 _ rfl ?_|refine w6 rfl ?_|refine w7 mixed rfl ?_)
    conv=>whnf
    exact ⟨(i + 1,out2),⟨hi',pr,hpr,hout2⟩,by simp only []; omega,Weak.by ⟨rfl,rfl,rfl,rfl,rfl,rfl,congrArg I hwi,trivial⟩⟩
  ·have hie : i = p.clubs.length:=by simp only [List.length_map] at h; omega
   subst hie
   rw [List.drop_length,prs,List.append_nil] at hpre
   refine w16 (L':=[]) (.d (.rowL (ds:=out.map Mt.cells) (w22 _) rfl ?_ (by simp) (mtsE _))) rfl rfl ⟨rfl,?_⟩
   ·rw [List.drop_zero,List.take_of_length_le (by rw [mR_len]; exact Nat.le_refl _)]; exact mR_rows out
   ·rw [hR,hpre,← hout]; rfl
 ·have his' : (nxR l p).2.2 = false:=by simpa using his
  have hR : rchs l p = []:=by unfold rchs; rw [if_neg his]
  refine LoopP.inv (fun _ : Unit=>True) (fun _=>⟨[(2,.ptr 0 0),(3,.ptr 1 0),(5,.own 2 0 0 0),(8,B (nxR l p).2.2),(9,I 0)],Tryz.f142.ntmps,chM l p [],[],none⟩) (fun _=>0) () trivial ?_ ?_
  ·exact Weak.by ⟨rfl,rfl,rfl,rfl,rfl,trivial⟩
  rintro _ -
  repeat' ((conv=>whnf); first|refine w9 his' ?_|refine w0 ?_|refine w1 ?_|refine w2 (fun h=>?_) (fun h=>?_)|refine w3 ?_|refine w4 (fun h=>?_) (fun h=>?_)|refine w5 _ rfl ?_|refine w6 rfl ?_|refine w7 mixed rfl ?_)
  all_goals conv=>whnf
  all_goals
   refine w16 (L':=[]) (.d (.rowL (ds:=[]) (w22 _) rfl .nil rfl (fun e he=>by cases he))) rfl rfl ⟨rfl,?_⟩
   rw [hR]; rfl
end Go.Proofs.YtndlggbljkhfbaaGreat
namespace Go.Proofs.YtndlggbljkhfbaaGreat
open Go.Tidy
variable {L : List Blk} {k : V → List Blk → Prop}
theorem clip_c (r : List Mt) (h : k (.clp (r.map Mt.cells)) L) : CallP C 100 [.d (mts r)] L k:=by
 refine CallP.pure ?_ rfl (fun _=>rfl) h
 clear h
 refine callP_of C_ok Tryz.func100 rfl rfl (n:=_) rfl (w18 rfl) (rs:=_) rfl ?_
 repeat' ((conv=>whnf); first|refine w0 ?_|refine w1 ?_|refine w2 (fun h=>?_) (fun h=>?_)|refine w3 ?_|refine w4 (fun h=>?_) (fun h=>?_)|refine w5 _ rfl ?_|refine w6 rfl ?_|refine w7 mixed rfl ?_|refine w6 (mtsE r) ?_|refine SliceP.intro 0 (r.map Mt.cells).length rfl rfl (w22 _) (w21 _) ?_)
 conv=>whnf
 exact FinP.drop (n:=0) rfl (Nat.le_refl 0) rfl rfl ⟨rfl,congrArg V.clp (by rw [List.drop_zero,Nat.sub_zero]; exact List.take_of_length_le (Nat.le_refl _))⟩
theorem clip_nil (h : k .nil L) : CallP C 100 [.nil] L k:=by
 refine CallP.pure ?_ rfl (fun _=>rfl) h
 clear h
 refine callP_of C_ok Tryz.func100 rfl rfl (n:=_) rfl (w18 rfl) (rs:=_) rfl ?_
 repeat' ((conv=>whnf); first|refine w0 ?_|refine w1 ?_|refine w2 (fun h=>?_) (fun h=>?_)|refine w3 ?_|refine w4 (fun h=>?_) (fun h=>?_)|refine w5 _ rfl ?_|refine w6 rfl ?_|refine w7 mixed rfl ?_|refine SliceP.intro 0 0 rfl rfl (w22 _) (w21 _) ?_|refine w6 ⟨rfl,rfl⟩ ?_)
 conv=>whnf
 exact FinP.drop (n:=0) rfl (w21 0) rfl rfl ⟨rfl,rfl⟩
def atN (l : Lst) (p : Pl) : Nat:=if (openR l p).2.1 then l.length else l.length - 1
def nxV (l : Lst) (p : Pl) (m : Mt) : V:=.agg [.d (DI m.home),.d (DI m.away),I (atN l p),.d (.sl ((extL l p m).map fun r=>[mts r]))]
theorem bc_pre {S Z : List Blk} {N : Nat} {z : Blk} (hS : S.length = N) (hb : belB N S = true) {b : Nat} {x y : Blk} (hx : (S ++ Z)[b]? = some x) (hy : (S ++ [z])[b]? = some y) (hz : Z[0]? = some z) {L0 : List Blk} (hzb : z.bel (N + 1) = true:=by rfl) : BC (N + 1) L0 x y:=by
 by_cases h : b < N
 ·rw [List.getElem?_append_left (by omega)] at hx hy
  rw [hx] at hy; cases hy
  exact .inl ⟨rfl,Blk.bel_le (Nat.le_succ N) _ (belB_get hb hx)⟩
 ·rw [List.getElem?_append_right (by omega)] at hx hy
  have e : b - S.length = 0:=by have:=lt_of_get hy; simp at this; omega
  rw [e] at hx hy
  rw [hz] at hx
  cases hx; cases hy
  exact .inl ⟨rfl,hzb⟩
theorem choices_m {l : Lst} {p : Pl} {m : List Mt} (hs : Small l p) (hm : chE l p = m) (h : k (.tup [.d (mts m),I (dmE l p)]) L) : CallP C 99 [lisV l,plV p] L k:=choices0_c l p hs (by rw [hm]; exact h)
def ATS (l : Lst) (p : Pl) : Prop:=(atN l p = l.length ∧ ∀ x,extL l p x = l ++ [[x]]) ∨ (atN l p = l.length - 1 ∧ ∃ hq : l.length - 1 < l.length,∀ x,extL l p x = l.dropLast ++ [l[l.length - 1] ++ [x]])
theorem ways_it (pn : Nat) (pan : V → List Blk → Prop) (l : Lst) (p : Pl) (hs : Small l p) (hp : p.clubs.length ≤ 1000) (hrw : ∀ r ∈ l,r.length + 1 ≤ 4294967296) :
  IterQ (C.wp pn pan) 98 [.rptr [lisD l],.rptr p.cells] ((chE l p).map fun m=>[nxV l p m]):=by
 intro b N P S k hpn hS hbS hdS hb hy h0 hP
 have len : ((chE l p).map fun m=>[nxV l p m]).length = (chE l p).length:=List.length_map ..
 have hpn : (C.wp pn pan).pn ≤ (S 0).length:=by rw [hS]; exact hpn
 have a0 : ∀ c X,(S c ++ X).length = N + X.length:=fun c X=>pre_len _ _ (hS c)
 have a1 : ∀ c X i,(S c ++ X)[N + i]? = X[i]?:=fun c X i=>pre_get _ _ (hS c) i
 have a2 : ∀ c X,(S c ++ X)[N]? = X[0]?:=fun c X=>pre_get0 _ _ (hS c)
 have a3 : ∀ c X i y,(S c ++ X).set (N + i) y = S c ++ X.set i y:=fun c X i y=>pre_set _ _ (hS c) i y
 have a4 : ∀ c X y,(S c ++ X).set N y = S c ++ X.set 0 y:=fun c X y=>pre_set0 _ _ (hS c) y
 have hll:=hs.hl
 have hnl : (0 : Int) < (l.length : Int) → l.length - 1 < l.length:=fun h=>by omega
 have hwl : (0 : Int) < ((l.map fun r=>[mts r]).length : Int) → IntKind.i64.wrap (((l.map fun r=>[mts r]).length : Int) - 1) = ((l.length - 1 : Nat) : Int):=fun h=>by
  rw [List.length_map] at h ⊢; rw [wrap_in (by omega)]; omega
 have hlt2 : ∀ h : (0 : Int) < ((l.map fun r=>[mts r]).length : Int),l.length - 1 < l.length:=fun h=>hnl (by rw [List.length_map] at h; exact h)
 have hhf : IntKind.i64.wrap (((p.clubs.map fun n=>[DI n]).length : Int).tdiv 2) = (halfN p : Int):=by
  rw [List.length_map,show ((p.clubs.length : Nat) : Int).tdiv 2 = ((p.clubs.length / 2 : Nat) : Int) from (Int.ofNat_tdiv _ 2).symm]
  refine wrap_in ?_
  omega
 have hcont : ∀ h : (0 : Int) < ((l.map fun r=>[mts r]).length : Int),((List.map Mt.cells (l[l.length - 1]'(hlt2 h))).length : Int) < IntKind.i64.wrap (((p.clubs.map fun n=>[DI n]).length : Int).tdiv 2) → openR l p = (l[l.length - 1]'(hlt2 h),false,true):=fun h h2=>by
  rw [hhf,List.length_map] at h2
  have:=hlt2 h
  unfold openR; rw [last_of (by omega)]; exact if_pos (by omega)
 have hfre : ∀ h : (0 : Int) < ((l.map fun r=>[mts r]).length : Int),¬ ((List.map Mt.cells (l[l.length - 1]'(hlt2 h))).length : Int) < IntKind.i64.wrap (((p.clubs.map fun n=>[DI n]).length : Int).tdiv 2) → openR l p = ([],true,decide (l.length < roundsN p)):=fun h h2=>by
  rw [hhf,List.length_map] at h2
  have:=hlt2 h
  unfold openR; rw [last_of (by omega)]; exact if_neg (by omega)
 have hfr0 : ¬ (0 : Int) < ((l.map fun r=>[mts r]).length : Int) → openR l p = ([],true,decide (l.length < roundsN p)):=fun h=>by
  rw [List.length_map] at h
  have : l = []:=List.eq_nil_of_length_eq_zero (by omega)
  subst this; rfl
 have hat1 : ∀ (h : (0 : Int) < ((l.map fun r=>[mts r]).length : Int)),((List.map Mt.cells (l[l.length - 1]'(hlt2 h))).length : Int) < IntKind.i64.wrap (((p.clubs.map fun n=>[DI n]).length : Int).tdiv 2) → IntKind.i64.wrap (((l.map fun r=>[mts r]).length : Int) - 1) = (atN l p : Int):=fun h h2=>by
  rw [hwl h]; unfold atN; rw [hcont h h2]; rfl
 have hat2 : openR l p = ([],true,decide (l.length < roundsN p)) → ((l.map fun r=>[mts r]).length : Int) = (atN l p : Int):=fun h=>by
  rw [List.length_map]; unfold atN; rw [h]; rfl
 have hcs1 : ∀ (h : (0 : Int) < ((l.map fun r=>[mts r]).length : Int)),((List.map Mt.cells (l[l.length - 1]'(hlt2 h))).length : Int) < IntKind.i64.wrap (((p.clubs.map fun n=>[DI n]).length : Int).tdiv 2) → ATS l p:=fun h h2=>.inr ⟨by unfold atN; rw [hcont h h2]; rfl,hlt2 h,fun x=>by unfold extL; rw [hcont h h2]; rfl⟩
 have hcs2 : openR l p = ([],true,decide (l.length < roundsN p)) → ATS l p:=fun h=>.inl ⟨by unfold atN; rw [h]; rfl,fun x=>by unfold extL; rw [h]; rfl⟩
 obtain ⟨m,hm⟩ : ∃ m,chE l p = m:=⟨_,rfl⟩
 rw [len] at h0
 rw [hm] at h0
 rw [hm] at hy
 have hml : m.length ≤ 4294967296:=by
  rw [← hm]; unfold chE; split
  ·exact chs_len l p hp
  ·exact Nat.zero_le _
 have hlm : ((m.map Mt.cells).length : Int) = (m.length : Int):=by rw [List.length_map]
 refine callP_cut (C:=C.wp pn pan) (fun c=>match c with | .region 10 _ _=>true | _=>false) (C_ok.wp pn pan) Tryz.func98 rfl rfl (n:=_) rfl (w18 rfl) (rs:=_) rfl ?_ hpn
 conv=>whnf
 repeat' ((conv=>whnf); first|refine w0 ?_|refine w1 ?_|refine w2 (fun h=>?_) (fun h=>?_)|refine w3 ?_|refine w4 (fun h=>?_) (fun h=>?_)|refine w5 _ rfl ?_|refine w6 rfl ?_|refine w7 mixed rfl ?_|refine w14 (choices_m hs hm ?_)|refine w11 (l.length - 1) (hwl ‹_›) (hnl (by have:=‹(0 : Int) < _›; rw [List.length_map] at this; exact this)) ?_|refine w6 (show (2 : Int) ≠ 0 by decide) ?_)
 all_goals conv=>whnf
 all_goals
  have hcase : ATS l p:=by
   first
   | exact hcs1 ‹_› ‹_›
   | exact hcs2 (hfre ‹_› ‹_›)
   | exact hcs2 (hfr0 ‹_›)
  refine LoopP.inv (fun i=>i ≤ m.length ∧ P i) (fun i=>⟨[(0,.yld b),(1,.d (.rptr [lisD l])),(2,.d (.rptr p.cells)),(6,I (atN l p)),(37,.d (mts m)),(38,I m.length),(39,I i)],Tryz.f98.ntmps,S i,[],none⟩) (fun i=>m.length - i) 0 ⟨w22 _,hP⟩ ?_ ?_
  ·exact Weak.by ⟨rfl,rfl,rfl,by
    first
    | exact congrArg I (hat1 ‹_› ‹_›)
    | exact congrArg I (hat2 (hfre ‹_› ‹_›))
    | exact congrArg I (hat2 (hfr0 ‹_›)),rfl,congrArg I hlm,rfl,trivial⟩ (hL:=rfl)
  rintro i ⟨hi,hPi⟩
  by_cases hi' : i < m.length
  ·have hlt : (i : Int) < (m.length : Int):=by omega
   have hw : IntKind.i64.wrap ((i : Int) + 1) = ((i + 1 : Nat) : Int):=by rw [wrap_in (by omega)]; omega
   obtain ⟨X,hXe⟩ : ∃ X,extL l p m[i] = X:=⟨_,rfl⟩
   have hgN : (List.take l.length (rdR l) ++ [[V.nil]])[0 + l.length]? = some [.nil]:=by
    rw [Nat.zero_add,List.take_of_length_le (by simp [rdR]),List.getElem?_append_right (by simp [rdR])]; simp [rdR]
   have hgC : ∀ hq : l.length - 1 < l.length,(rdR l)[0 + (l.length - 1)]? = some [.d (mts l[l.length - 1])]:=fun hq=>by
    rw [Nat.zero_add,rdR,List.getElem?_map,List.getElem?_eq_getElem hq]; rfl
   have hrl : ∀ hq : l.length - 1 < l.length,(l[l.length - 1].map Mt.cells).length + 1 ≤ 4294967296:=fun hq=>by
    rw [List.length_map]; exact hrw _ (List.getElem_mem _)
   have hsN : ∀ y : V,((((List.take l.length (rdR l) ++ [[V.nil]]).set (0 + l.length) [y]).drop 0).take (l.length + 1)) = rdR l ++ [[y]]:=fun y=>by
    rw [List.take_of_length_le (l:=rdR l) (by simp [rdR])]
    simp [rdR]
    exact List.take_of_length_le (by simp)
   have hset : ∀ hq : l.length - 1 < l.length,∀ y : V,(((rdR l).set (0 + (l.length - 1)) [y]).drop 0).take l.length = rdR l.dropLast ++ [[y]]:=fun hq y=>by
    have hne : l ≠ []:=fun e=>by rw [e] at hq; simp at hq
    have hdl:=List.dropLast_concat_getLast hne
    generalize l.dropLast = d at hdl ⊢
    generalize l.getLast hne = r at hdl
    subst hdl
    simp [rdR]
    exact List.take_of_length_le (by simp)
   rcases hcase with ⟨hA,hX⟩ | ⟨hA,hq,hX⟩
   ·have hXq : X = l ++ [[m[i]]]:=hXe.symm.trans (hX _)
    have hcond : (atN l p : Int) = (l.length : Int):=by rw [hA]
    repeat' ((conv=>whnf); first|refine w8 (w19 hlt) ?_|refine w11 i rfl hi' ?_|simp only [hS,a0,a1,a2,a3,a4,List.append_assoc]|refine w14 (rclone_c l (by omega) ?_)|refine w8 (w19 hcond) ?_|refine w6 (w23 (m:=4294967296) (show l.length + 1 ≤ 4294967296 by omega) (apLim_ge _)) ?_|refine w0 ?_|refine w1 ?_|refine w2 (fun h=>?_) (fun h=>?_)|refine w3 ?_|refine w4 (fun h=>?_) (fun h=>?_)|refine w5 _ rfl ?_|refine w6 rfl ?_|refine w7 mixed rfl ?_)
    conv=>whnf
    refine CutP.intro (ι:=Unit) (fun _=>⟨[(0,.yld b),(1,.d (.rptr [lisD l])),(2,.d (.rptr p.cells)),(6,I (atN l p)),(8,.ptr N 0),(9,.d (lisD X)),(37,.d (mts m)),(38,I m.length),(39,I i)],Tryz.f98.ntmps,S i ++ [.cells (m[i].cells.map .d)],[],none⟩) ?_ (fun _=>?_)
    ·refine DrawP.por mixed [] [[(0,0),(1,0),(2,0),(3,0),(4,3),(5,3),(6,1),(7,0),(8,0),(9,0),(10,0),(11,0)]] (by kernel_rfl) ?_
     all_goals
      repeat' ((conv=>whnf); first|refine w0 ?_|refine w1 ?_|refine w2 (fun h=>?_) (fun h=>?_)|refine w3 ?_|refine w4 (fun h=>?_) (fun h=>?_)|refine w5 _ rfl ?_|refine w6 rfl ?_|refine w7 mixed rfl ?_|refine IdxN.intro l.length hcond (Nat.lt_succ_self _) ?_|refine w5 _ hgN ?_|refine w12 _ (w14 (clip_nil ⟨rfl,rfl⟩)) ?_|refine w14 (clip_nil ?_)|simp only [hS,a0,a1,a2,a3,a4,List.append_assoc]|refine w6 (w23 (m:=4294967296) (show 1 ≤ 4294967296 by decide) (apLim_ge _)) ?_)
     all_goals conv=>whnf
     all_goals
      clear hXe
      subst hXq
      refine ⟨(),Weak.thaw (N + 1) (Nat.le_succ N) (by rw [a0]; exact Nat.add_le_add_left (w18 rfl) N) (a0 _ _) ⟨.inl ⟨rfl,by simp [V.bel]; omega⟩,.inl ⟨rfl,rfl⟩,.inl ⟨rfl,rfl⟩,.inl ⟨rfl,rfl⟩,.inl ⟨rfl,by simp [V.bel]⟩,.inr ?_,.inl ⟨rfl,rfl⟩,.inl ⟨rfl,rfl⟩,.inl ⟨rfl,rfl⟩,trivial⟩ (fun bb x y hx hy=>?_)⟩
      ·refine .d (.rowL (ds:=(l ++ [[m[i]]]).map fun r=>[mts r]) (w21 _) ((a1 _ _ _).trans rfl) ?_ ?_ (lisE _))
       ·exact CvLL.cong (hsN _) (rows_snoc (.rowL (ds:=[m[i]].map Mt.cells) (Nat.add_le_add_left (w18 rfl) N) ((a1 _ _ _).trans rfl) (mR_rows [m[i]]) rfl (mtsE _)) l)
       ·simp
      ·exact bc_pre (hS i) (hbS i) hx hy rfl
    ·subst hXe
     have hyc:=hy i (by rw [List.length_map]; exact hi') hPi
     rw [List.getElem_map] at hyc
     repeat' ((conv=>whnf); first|refine w0 ?_|refine w1 ?_|refine w2 (fun h=>?_) (fun h=>?_)|refine w3 ?_|refine w4 (fun h=>?_) (fun h=>?_)|refine w5 _ rfl ?_|refine w6 rfl ?_|refine w7 mixed rfl ?_|simp only [hS,a0,a1,a2,a3,a4,List.append_assoc])
     conv=>whnf
     refine YR.frameP ‹_› hyc (hS i) (hS _) (hbS i) (hbS _) (hdS i) hb rfl ?_ ?_
     ·intro M hM hP1
      subst hM
      repeat' ((conv=>whnf); first|refine w0 ?_|refine w1 ?_|refine w2 (fun h=>?_) (fun h=>?_)|refine w3 ?_|refine w4 (fun h=>?_) (fun h=>?_)|refine w5 _ rfl ?_|refine w6 rfl ?_|refine w7 mixed rfl ?_|simp only [hS,a0,a1,a2,a3,a4,List.append_assoc])
      conv=>whnf
      exact ⟨i + 1,⟨hi',hP1⟩,by omega,Weak.to N (List.take_left' (hS _)) (Nat.le_refl _) (by simp [hS]) ⟨rfl,rfl,rfl,rfl,rfl,rfl,congrArg I hw,trivial⟩ (hf:=by simp [belF,V.bel]; omega) (hB:=hbS _)⟩
     ·rintro Z M rfl hz1 hz2 hz3
      repeat' ((conv=>whnf); first|refine w0 ?_|refine w1 ?_|refine w2 (fun h=>?_) (fun h=>?_)|refine w3 ?_|refine w4 (fun h=>?_) (fun h=>?_)|refine w5 _ rfl ?_|refine w6 rfl ?_|refine w7 mixed rfl ?_)
      conv=>whnf
      exact FinP.drop (n:=N) (List.take_left' hz1) (w21 _) rfl hz2 hz3
   ·have hXq : X = l.dropLast ++ [l[l.length - 1] ++ [m[i]]]:=hXe.symm.trans (hX _)
    have hcond : ¬ (atN l p : Int) = (l.length : Int):=by omega
    repeat' ((conv=>whnf); first|refine w8 (w19 hlt) ?_|refine w11 i rfl hi' ?_|simp only [hS,a0,a1,a2,a3,a4,List.append_assoc]|refine w14 (rclone_c l (by omega) ?_)|refine w9 (w20 hcond) ?_|refine w0 ?_|refine w1 ?_|refine w2 (fun h=>?_) (fun h=>?_)|refine w3 ?_|refine w4 (fun h=>?_) (fun h=>?_)|refine w5 _ rfl ?_|refine w6 rfl ?_|refine w7 mixed rfl ?_)
    conv=>whnf
    refine CutP.intro (ι:=Unit) (fun _=>⟨[(0,.yld b),(1,.d (.rptr [lisD l])),(2,.d (.rptr p.cells)),(6,I (atN l p)),(8,.ptr N 0),(9,.d (lisD X)),(37,.d (mts m)),(38,I m.length),(39,I i)],Tryz.f98.ntmps,S i ++ [.cells (m[i].cells.map .d)],[],none⟩) ?_ (fun _=>?_)
    ·refine DrawP.por mixed [] [[(0,0),(1,0),(2,0),(3,0),(4,3),(5,3),(6,1),(7,0),(8,0),(9,0),(10,0),(11,0)]] (by kernel_rfl) ?_
     all_goals
      repeat' ((conv=>whnf); first|refine w0 ?_|refine w1 ?_|refine w2 (fun h=>?_) (fun h=>?_)|refine w3 ?_|refine w4 (fun h=>?_) (fun h=>?_)|refine w5 _ rfl ?_|refine w6 rfl ?_|refine w7 mixed rfl ?_|refine IdxN.intro (l.length - 1) (by rw [hA]) hq ?_|refine w5 _ (hgC hq) ?_|refine w12 _ (w14 (clip_c _ ⟨rfl,rfl⟩)) ?_|refine w14 (clip_c _ ?_)|refine w6 ⟨Nat.zero_lt_one,mtsE _⟩ ?_|simp only [hS,a0,a1,a2,a3,a4,List.append_assoc]|refine w6 (w23 (m:=4294967296) (hrl hq) (apLim_ge _)) ?_)
     all_goals conv=>whnf
     all_goals
      clear hXe
      subst hXq
      refine ⟨(),Weak.thaw (N + 1) (Nat.le_succ N) (by rw [a0]; exact Nat.add_le_add_left (w18 rfl) N) (a0 _ _) ⟨.inl ⟨rfl,by simp [V.bel]; omega⟩,.inl ⟨rfl,rfl⟩,.inl ⟨rfl,rfl⟩,.inl ⟨rfl,rfl⟩,.inl ⟨rfl,by simp [V.bel]⟩,.inr ?_,.inl ⟨rfl,rfl⟩,.inl ⟨rfl,rfl⟩,.inl ⟨rfl,rfl⟩,trivial⟩ (fun bb x y hx hy=>?_)⟩
      ·refine .d (.rowL (ds:=(l.dropLast ++ [l[l.length - 1] ++ [m[i]]]).map fun r=>[mts r]) (w21 _) ((a1 _ _ _).trans rfl) ?_ ?_ (lisE _))
       ·refine CvLL.cong (hset hq _) (rows_snoc (.rowL (ds:=(l[l.length - 1] ++ [m[i]]).map Mt.cells) (Nat.add_le_add_left (w18 rfl) N) ((a1 _ _ _).trans rfl) ?_ ?_ (mtsE _)) l.dropLast)
        ·refine CvLL.cong (app_eq (Y:=mR l[l.length - 1]) (Z:=[m[i].cells.map .d]) _ (by simp [mR]) (by simp [mR])) ?_
         rw [← mR_snoc]; exact mR_rows _
        ·simp
       ·simp; omega
      ·exact bc_pre (hS i) (hbS i) hx hy rfl
    ·subst hXe
     have hyc:=hy i (by rw [List.length_map]; exact hi') hPi
     rw [List.getElem_map] at hyc
     repeat' ((conv=>whnf); first|refine w0 ?_|refine w1 ?_|refine w2 (fun h=>?_) (fun h=>?_)|refine w3 ?_|refine w4 (fun h=>?_) (fun h=>?_)|refine w5 _ rfl ?_|refine w6 rfl ?_|refine w7 mixed rfl ?_|simp only [hS,a0,a1,a2,a3,a4,List.append_assoc])
     conv=>whnf
     refine YR.frameP ‹_› hyc (hS i) (hS _) (hbS i) (hbS _) (hdS i) hb rfl ?_ ?_
     ·intro M hM hP1
      subst hM
      repeat' ((conv=>whnf); first|refine w0 ?_|refine w1 ?_|refine w2 (fun h=>?_) (fun h=>?_)|refine w3 ?_|refine w4 (fun h=>?_) (fun h=>?_)|refine w5 _ rfl ?_|refine w6 rfl ?_|refine w7 mixed rfl ?_|simp only [hS,a0,a1,a2,a3,a4,List.append_assoc])
      conv=>whnf
      exact ⟨i + 1,⟨hi',hP1⟩,by omega,Weak.to N (List.take_left' (hS _)) (Nat.le_refl _) (by simp [hS]) ⟨rfl,rfl,rfl,rfl,rfl,rfl,congrArg I hw,trivial⟩ (hf:=by simp [belF,V.bel]; omega) (hB:=hbS _)⟩
     ·rintro Z M rfl hz1 hz2 hz3
      repeat' ((conv=>whnf); first|refine w0 ?_|refine w1 ?_|refine w2 (fun h=>?_) (fun h=>?_)|refine w3 ?_|refine w4 (fun h=>?_) (fun h=>?_)|refine w5 _ rfl ?_|refine w6 rfl ?_|refine w7 mixed rfl ?_)
      conv=>whnf
      exact FinP.drop (n:=N) (List.take_left' hz1) (w21 _) rfl hz2 hz3
  ·have hlt : ¬ (i : Int) < (m.length : Int):=by omega
   have hie : i = m.length:=by omega
   subst hie
   repeat' ((conv=>whnf); first|refine w9 (w20 hlt) ?_|refine w0 ?_|refine w1 ?_|refine w2 (fun h=>?_) (fun h=>?_)|refine w3 ?_|refine w4 (fun h=>?_) (fun h=>?_)|refine w5 _ rfl ?_|refine w6 rfl ?_|refine w7 mixed rfl ?_)
   conv=>whnf
   refine w15 (n:=N) (L':=S m.length) ?_ (Nat.le_of_eq (hS _)) rfl (hbS _) (h0 hPi)
   exact List.take_of_length_le (Nat.le_of_eq (hS _))
end Go.Proofs.YtndlggbljkhfbaaGreat
namespace Go.Proofs.YtndlggbljkhfbaaGreat
open Go.Tidy
variable {L : List Blk} {k : V → List Blk → Prop}
def fuelN (p : Pl) : Nat:=roundsN p * halfN p + 1
def Sr.out (U : List Lst → List Blk) (k : V → List Blk → Prop) : Sr → Prop
 | .go sp fs=>k (.tup [I sp,I 0]) (U fs)
 | .stop e sp fs=>k (.tup [I sp,I e]) (U fs)
theorem part_nil (p : Pl) : PartP [] p:=⟨w22 _,fun i hi=>absurd hi (Nat.not_lt_zero i)⟩
theorem full_nil (p : Pl) : fullC [] p = false:=by unfold fullC; simp
theorem DefP.cnv {C' : Ctx} {f : FuncId} {caps caps' : List V} {X : Option V} {L : List Blk} {k : List Blk → Prop} (h : caps = caps') (hd : DefP C' f caps' X L k) : DefP C' f caps X L k:=by subst h; exact hd
theorem search_c (p : Pl) (bud : Nat) (all : Bool) (fd : FuncId) (caps : List V) (N : Nat) (U : List Lst → List Blk) (hH : Hand N U fd caps all) (h0 : checkP p = 0) (hs0 : Small [] p) (hbud : bud ≤ 1073741824) (h : (examP p bud all (fuelN p) [] 0 []).out U k) :
  CallP C 38 [.d (.rptr (planD p)),I bud,.fn fd caps] (U []) k:=by
 have hS:=hH.len
 have a0 : ∀ fs X,(U fs ++ X).length = N + X.length:=fun fs X=>pre_len _ _ (hS fs)
 have a1 : ∀ fs X i,(U fs ++ X)[N + i]? = X[i]?:=fun fs X i=>pre_get _ _ (hS fs) i
 have a2 : ∀ fs X,(U fs ++ X)[N]? = X[0]?:=fun fs X=>pre_get0 _ _ (hS fs)
 have a3 : ∀ fs X i y,(U fs ++ X).set (N + i) y = U fs ++ X.set i y:=fun fs X i y=>pre_set _ _ (hS fs) i y
 have a4 : ∀ fs X y,(U fs ++ X).set N y = U fs ++ X.set 0 y:=fun fs X y=>pre_set0 _ _ (hS fs) y
 have kA : ∀ L,killAll [] L = L:=fun _=>rfl
 refine callP_defer C_ok (fun _=>false) (N + 5) (fun X L1=>∃ e sp fs,examP p bud all (fuelN p) [] 0 [] = .stop e sp fs ∧ X = .d (enoughD e) ∧ L1 = U fs ++ pre5 p bud fd caps sp) Tryz.func38 rfl rfl (n:=_) rfl (w18 rfl) (rs:=_) rfl ?_
 repeat' ((conv=>whnf); first|refine w0 ?_|refine w1 ?_|refine w2 (fun h=>?_) (fun h=>?_)|refine w3 ?_|refine w4 (fun h=>?_) (fun h=>?_)|refine w5 _ rfl ?_|refine w6 rfl ?_|refine w7 mixed rfl ?_|simp only [hS,a0,a1,a2,a3,a4,List.append_assoc,forceL_eq])
 conv=>whnf
 refine DefR.intro (by rw [a0]; exact Nat.le_refl _) (Nat.le_add_right N 5) ?_ ?_ ?_ ?_
 ·show (V.bel (N + 5) (.ptr (N + 3) 0) && (V.bel (N + 5) (.ptr (N + 4) 0) && true)) = true
  simp [V.bel]
 ·simp [V.belL,V.bel]
 ·rintro X L1 ⟨e,sp,fs,hst,rfl,rfl⟩
  refine DefP.cnv (caps':=[.ptr (N + 4) 0]) rfl ?_
  refine search1_p (U fs) (hS fs) _ _ _ _ e 0 (belB_append (belB_le (Nat.le_add_right N 5) (hH.bel fs)) (by have:=pre5_bel (p:=p) (bud:=bud) (fd:=fd) (sp:=sp) hH.cap (Nat.le_add_right N 5); simp [pre5,belB,Blk.bel,V.belL,V.bel] at this ⊢; exact this)) ?_
  repeat' ((conv=>whnf); first|refine w0 ?_|refine w1 ?_|refine w2 (fun h=>?_) (fun h=>?_)|refine w3 ?_|refine w4 (fun h=>?_) (fun h=>?_)|refine w5 _ rfl ?_|refine w6 rfl ?_|refine w7 mixed rfl ?_|simp only [hS,kA,a0,a1,a2,a3,a4,List.append_assoc,forceL_eq])
  conv=>whnf
  rw [hst] at h
  exact FinP.drop (n:=N) (L':=U fs) (List.take_left' (hS fs)) (w21 _) rfl (hH.bel fs) h
 ·repeat' (conv => whnf
           first|refine w0 ?_|refine w1 ?_|refine w2 (fun h=>?_) (fun h=>?_)|refine w3 ?_|refine w4 (fun h=>?_) (fun h=>?_)|refine w5 _ rfl ?_|refine w6 rfl ?_|refine w7 mixed rfl ?_|refine w6 (Nat.add_le_add_left (w18 rfl) N) ?_|simp only [hS,a0,a1,a2,a3,a4,List.append_assoc,forceL_eq])
  conv=>whnf
  refine CallP.cnv (args':=.agg [.nil] :: capE N) (L':=U [] ++ pre6 p bud fd caps N 0) rfl rfl ?_
  refine CallP.freezeP (args:=.agg [.nil] :: capE N) (dargs:=lisV [] :: capE N) [] rfl rfl (.cv (.aggL (.cons .nil .nil)) (.keep (.keep (.keep (.keep (.keep .nil)))))) ?_
  refine (examine_c p bud all fd caps N U hH h0 hs0 hbud (N + 5) _ rfl (fuelN p) [] 0 [] (part_nil p) (by unfold fuelN; simp) (w22 _) (fun hf=>by rw [full_nil] at hf; cases hf) (w22 _) (fun e sp' fs' he=>⟨e,sp',fs',he,rfl,rfl⟩)).mono ?_
  rintro X L' ⟨rfl,sp',fs',hgo,rfl⟩
  rw [hgo] at h
  repeat' ((conv=>whnf); first|refine w0 ?_|refine w1 ?_|refine w2 (fun h=>?_) (fun h=>?_)|refine w3 ?_|refine w4 (fun h=>?_) (fun h=>?_)|refine w5 _ rfl ?_|refine w6 rfl ?_|refine w7 mixed rfl ?_|refine w6 (Nat.add_le_add_left (w18 rfl) N) ?_|simp only [hS,a0,a1,a2,a3,a4,List.append_assoc,forceL_eq])
  conv=>whnf
  refine DefP.cnv (caps':=[.ptr (N + 4) 0]) rfl ?_
  refine search1_n (U fs') _ (hS fs') ?_ ?_
  ·rw [a0]
   have hp:=pre6_bel (p:=p) (bud:=bud) (fd:=fd) (N:=N) (sp:=sp') (n:=N + 6) hH.cap (w21 _)
   exact belB_append (belB_le (Nat.le_add_right N 6) (hH.bel fs')) hp
  repeat' ((conv=>whnf); first|refine w0 ?_|refine w1 ?_|refine w2 (fun h=>?_) (fun h=>?_)|refine w3 ?_|refine w4 (fun h=>?_) (fun h=>?_)|refine w5 _ rfl ?_|refine w6 rfl ?_|refine w7 mixed rfl ?_|simp only [hS,kA,a0,a1,a2,a3,a4,List.append_assoc,forceL_eq])
  conv=>whnf
  exact FinP.drop (n:=N) (L':=U fs') (List.take_left' (hS fs')) (w21 _) rfl (hH.bel fs') h
theorem enough_endL {N pn : Nat} {M S Y P5 : List Blk} {e : Int} {pan : V → List Blk → Prop} (hM : M = S ++ Y) (hS : S.length = N) (hpn : pn = N + 5) (hY : Y.take 5 = P5) (h5 : 5 ≤ Y.length) (hb : belB (N + 5) (S ++ P5) = true) (hd : (S ++ P5).all notD = true) (h : pan (.d (enoughD e)) (S ++ P5)) :
  Need (pn ≤ M.length ∧ belB pn (M.take pn) = true ∧ noDefr pn M = true) (pan (.d (enoughD e)) (M.take pn)):=by
 subst hM
 have:=enough_end hS hpn hY h5 hb hd h
 rw [← hS,← List.length_append] at this
 exact this
def planU (p : Pl) (fs : List Lst) : List Blk:=[.cells (p.cells.map .d),.cells [match fs.getLast? with | some l=>.d (.sl (l.map fun r=>[mts r])) | none=>.nil],.cells [B fs.getLast?.isSome]]
theorem plan_hand (p : Pl) : Hand 3 (planU p) 39 [.ptr 1 0,.ptr 2 0] false where
 len _:=rfl
 bel fs:=by unfold planU; cases fs.getLast? <;> rfl
 nol fs:=by unfold planU; cases fs.getLast? <;> rfl
 nod fs:=by unfold planU; cases fs.getLast? <;> rfl
 cap:=rfl
 found:=by
  intro pn pan X fs l k hpnE hX hXb hX5 hXd hfs _ hpan
  have hpan:=hpan rfl
  have hpn : (C.wp pn pan).pn ≤ (planU p fs ++ X).length:=by rw [List.length_append]; show pn ≤ 3 + _; omega
  have hU : planU p (fs ++ [l]) = [.cells (p.cells.map .d),.cells [.d (lisD l)],.cells [B true]]:=by unfold planU; simp [lisD]
  rw [hU] at hpan
  cases hg : fs.getLast? with
  | _ =>
   have hU0 : planU p fs = planU p fs:=rfl
   conv at hU0=>rhs; unfold planU; rw [hg]
   rw [hU0] at hpn ⊢
   refine callP_of (C:=C.wp pn pan) (C_ok.wp pn pan) Tryz.func39 rfl rfl (n:=_) rfl (w18 rfl) (rs:=_) rfl ?_ hpn
   repeat' ((conv=>whnf); first|refine w0 ?_|refine w1 ?_|refine w2 (fun h=>?_) (fun h=>?_)|refine w3 ?_|refine w4 (fun h=>?_) (fun h=>?_)|refine w5 _ rfl ?_|refine w6 rfl ?_|refine w7 mixed rfl ?_|simp only [List.getElem?_concat_length])
   conv=>whnf
   refine enough_endL (S:=[.cells (p.cells.map .d),.cells [.d (lisD l)],.cells [B true]]) (Y:=X ++ [.cells [.d (lisD l)]]) rfl rfl hpnE (List.take_append_of_le_length hX) (by rw [List.length_append]; omega) (belB_append rfl hX5) (by rw [List.all_append,hXd]; rfl) hpan
def argE (p : Pl) (most : Int) : Int:=if checkP p = 0 then (if most < 0 ∨ 1073741824 < most then 1 else 0) else checkP p
theorem pcheck_c (p : Pl) (most : Int) (hl : p.clubs.length ≤ 4611686018427387904) (hd : ∀ d ∈ p.demands,d.clubs.length ≤ 4611686018427387904) (hD : p.demands.length ≤ 4611686018427387904) (h : k (I (argE p most)) L) : CallP C 36 [plV p,I most] L k:=by
 refine CallP.pure ?_ rfl (fun _=>rfl) h
 clear h
 refine callP_of C_ok Tryz.func36 rfl rfl (n:=_) rfl (w18 rfl) (rs:=_) rfl ?_
 by_cases h0 : checkP p = 0
 ·repeat' (conv => whnf
           first|refine w0 ?_|refine w1 ?_|refine w2 (fun h=>?_) (fun h=>?_)|refine w3 ?_|refine w4 (fun h=>?_) (fun h=>?_)|refine w5 _ rfl ?_|refine w6 rfl ?_|refine w7 mixed rfl ?_|refine check_c p hl hd hD ?_)
  all_goals first | exact absurd h0 ‹¬ checkP p = 0› | skip
  all_goals conv=>whnf
  all_goals refine w15 (n:=0) rfl (w21 0) rfl rfl ⟨rfl,congrArg I ?_⟩
  all_goals
   unfold argE
   rw [if_pos h0]
   first
   | (rw [if_pos (by omega)]; done)
   | (rw [if_neg (by omega)]; done)
 ·repeat' (conv => whnf
           first|refine w0 ?_|refine w1 ?_|refine w2 (fun h=>?_) (fun h=>?_)|refine w3 ?_|refine w4 (fun h=>?_) (fun h=>?_)|refine w5 _ rfl ?_|refine w6 rfl ?_|refine w7 mixed rfl ?_|refine check_c p hl hd hD ?_)
  all_goals first | exact absurd ‹checkP p = 0› h0 | skip
  conv=>whnf
  exact FinP.drop (n:=0) rfl (w21 0) rfl rfl ⟨rfl,congrArg I (if_neg h0).symm⟩
structure PlanR where
 l : Lst
 sp : Nat
 e : Int
def Sr.sp : Sr → Nat
 | .go sp _=>sp
 | .stop _ sp _=>sp
def Sr.fs : Sr → List Lst
 | .go _ fs=>fs
 | .stop _ _ fs=>fs
def Sr.e : Sr → Int
 | .go _ _=>0
 | .stop e _ _=>e
theorem Sr.out_of {U : List Lst → List Blk} {k : V → List Blk → Prop} (o : Sr) (h : k (.tup [I o.sp,I o.e]) (U o.fs)) : o.out U k:=by cases o <;> exact h
def runP (p : Pl) (most : Int) (all : Bool) : Sr:=examP p most.toNat all (fuelN p) [] 0 []
def planF (p : Pl) (most : Int) : PlanR := if argE p most = 0 then (match (runP p most false).fs.getLast? with
    | some l=>⟨l,(runP p most false).sp,0⟩
    | none=>⟨[],0,if (runP p most false).e = 0 then 320 else (runP p most false).e⟩) else ⟨[],0,argE p most⟩
theorem argE_zero {p : Pl} {most : Int} (h : argE p most = 0) : checkP p = 0 ∧ 0 ≤ most ∧ most ≤ 1073741824:=by
 unfold argE at h
 split at h
 ·split at h
  ·cases h
  ·exact ⟨‹_›,by omega,by omega⟩
 ·exact absurd h ‹_›
theorem plan_c (p : Pl) (most : Int) (hs0 : Small [] p) (h : k (.tup [lisV (planF p most).l,I (planF p most).sp,I (planF p most).e]) L) : CallP C 13 [plV p,I most] L k:=by
 have hD:=hs0.hD
 refine CallP.pure ?_ rfl (fun _=>rfl) h
 clear h
 refine callP_of C_ok Tryz.func13 rfl rfl (n:=_) rfl (w18 rfl) (rs:=_) rfl ?_
 by_cases hA : argE p most = 0
 ·obtain ⟨h0,hm1,hm2⟩:=argE_zero hA
  have hlen : 1 ≤ p.clubs.length ∧ p.clubs.length ≤ 1000:=by
   have hf:=checkP_field h0
   simp only [fieldOk,Bool.and_eq_true,decide_eq_true_eq] at hf; omega
  obtain ⟨bud,hbud⟩ : ∃ bud : Nat,most = (bud : Int):=⟨most.toNat,by omega⟩
  subst hbud
  repeat' ((conv=>whnf); first|refine pcheck_c p bud hs0.hc hs0.hd (by omega) ?_|refine w3 ?_|refine w8 (w19 hA) ?_|refine newPlan_c p hlen ?_|refine w0 ?_|refine w1 ?_|refine w2 (fun h=>?_) (fun h=>?_)|refine w3 ?_|refine w4 (fun h=>?_) (fun h=>?_)|refine w5 _ rfl ?_|refine w6 rfl ?_|refine w7 mixed rfl ?_)
  conv=>whnf
  refine CallP.cnv (args':=[.d (.rptr (planD p)),I bud,.fn 39 [.ptr 1 0,.ptr 2 0]]) (L':=planU p []) rfl rfl ?_
  refine search_c p bud false _ _ 3 (planU p) (plan_hand p) h0 hs0 (by omega) ?_
  refine Sr.out_of (runP p bud false) ?_
  unfold planF
  rw [if_pos hA]
  generalize runP p bud false = o
  cases hg : o.fs.getLast? with
  | some l =>
   have hU : planU p o.fs = [.cells (p.cells.map .d),.cells [.d (lisD l)],.cells [B true]]:=by unfold planU; rw [hg]; rfl
   generalize planU p o.fs = M at hU ⊢
   subst hU
   repeat' ((conv=>whnf); first|refine w0 ?_|refine w1 ?_|refine w2 (fun h=>?_) (fun h=>?_)|refine w3 ?_|refine w4 (fun h=>?_) (fun h=>?_)|refine w5 _ rfl ?_|refine w6 rfl ?_|refine w7 mixed rfl ?_)
   conv=>whnf
   exact FinP.data (L':=[]) (.triple (.aggL (.cons (.d _) .nil)) (.d (.d _)) (.d (.d _))) rfl rfl ⟨rfl,rfl⟩
  | none =>
   have hU : planU p o.fs = [.cells (p.cells.map .d),.cells [.nil],.cells [B false]]:=by unfold planU; rw [hg]; rfl
   generalize planU p o.fs = M at hU ⊢
   subst hU
   repeat' ((conv=>whnf); first|refine w0 ?_|refine w1 ?_|refine w2 (fun h=>?_) (fun h=>?_)|refine w3 ?_|refine w4 (fun h=>?_) (fun h=>?_)|refine w5 _ rfl ?_|refine w6 rfl ?_|refine w7 mixed rfl ?_)
   all_goals conv=>whnf
   all_goals
    refine w16 (L':=[]) (.triple (.aggL (.cons .nil .nil)) (.d (.d _)) (.d (.d _))) rfl rfl ⟨rfl,?_⟩
    show V.tup [lisV [],I 0,I _] = V.tup [lisV [],I 0,I (if o.e = 0 then 320 else o.e)]
    first
    | rw [if_pos ‹_›]
    | rw [if_neg ‹_›]
 ·repeat' (conv => whnf
           first|refine pcheck_c p most hs0.hc hs0.hd (by omega) ?_|refine w3 ?_|refine w9 (w20 hA) ?_|refine w0 ?_|refine w1 ?_|refine w2 (fun h=>?_) (fun h=>?_)|refine w3 ?_|refine w4 (fun h=>?_) (fun h=>?_)|refine w5 _ rfl ?_|refine w6 rfl ?_|refine w7 mixed rfl ?_)
  conv=>whnf
  refine w16 (L':=[]) (.triple (.aggL (.cons .nil .nil)) (.d (.d _)) (.d (.d _))) rfl rfl ⟨rfl,?_⟩
  unfold planF; rw [if_neg hA]; rfl
end Go.Proofs.YtndlggbljkhfbaaGreat
namespace Go.Proofs.YtndlggbljkhfbaaGreat
open Go.Tidy
variable {L : List Blk} {k : V → List Blk → Prop}
def fstV (fs : List Lst) : V:=match fs.head? with
 | some l=>.d (lisD l)
 | none=>.nil
def scS (p : Pl) (bud : Nat) (all : Bool) (o : Sr) : List V:=[.d (ints p.clubs),B p.double,.d (.sl (p.demands.map Dm.cells)),I bud,B all,I o.sp,I o.fs.length,fstV o.fs,B (decide (o.e = 3))]
def okS (all : Bool) : Sr → Prop
 | .go _ fs=>all = false → fs = []
 | .stop e _ fs=>e = 3 ∨ (e = 0 ∧ fs ≠ [] ∧ all = false)
theorem exam_okS (ch : Lst → List Mt) (ok : Lst → Bool) (p : Pl) (bud : Nat) (all : Bool) : ∀ (n : Nat) (l : Lst) (sp : Nat) (fs : List Lst),(all = false → fs = []) → okS all (exam ch ok p bud all n l sp fs)
 | 0,l,sp,fs,h=>h
 | n + 1,l,sp,fs,h=>by
  unfold exam
  split
  ·split
   ·rename_i ha; intro hb; rw [ha] at hb; cases hb
   ·rename_i ha; exact .inr ⟨rfl,by simp,by simpa using ha⟩
  ·have key : ∀ (ms : List Mt) (sp : Nat) (fs : List Lst),(all = false → fs = []) → okS all (exLoop (exam ch ok p bud all n) (extL l p) ok bud ms sp fs):=by
    intro ms
    induction ms with
    | nil=>intro sp fs h; exact h
    | cons m ms ih =>
     intro sp fs h
     simp only [exLoop]
     split
     ·exact .inl rfl
     ·split
      ·have h2:=exam_okS ch ok p bud all n (extL l p m) (sp + 1) fs h
       split
       ·rename_i e; rw [e] at h2; exact ih _ _ h2
       ·rename_i e; rw [e] at h2; exact h2
      ·exact ih _ _ h
   exact key _ _ _ h
theorem exLoop_okS (ch : Lst → List Mt) (ok : Lst → Bool) (p : Pl) (bud : Nat) (all : Bool) (n : Nat) (ext : Mt → Lst) : ∀ (ms : List Mt) (sp : Nat) (fs : List Lst),(all = false → fs = []) → okS all (exLoop (exam ch ok p bud all n) ext ok bud ms sp fs)
 | [],sp,fs,h=>h
 | m :: ms,sp,fs,h=>by
  simp only [exLoop]
  split
  ·exact .inl rfl
  ·split
   ·have h2:=exam_okS ch ok p bud all n (ext m) (sp + 1) fs h
    split
    ·rename_i e; rw [e] at h2; exact exLoop_okS ch ok p bud all n ext ms _ _ h2
    ·rename_i e; rw [e] at h2; exact h2
   ·exact exLoop_okS ch ok p bud all n ext ms _ _ h
def Sr.endB : Sr → Bool
 | .go _ _=>false
 | .stop _ _ _=>true
theorem rended_c (p : Pl) (bud : Nat) (all : Bool) (o : Sr) (X : List Blk) (ho : okS all o) (hk : k (B o.endB) (.cells (scS p bud all o) :: X)) : CallP C 149 [.ptr 0 0] (.cells (scS p bud all o) :: X) k:=by
 refine callP_of C_ok Tryz.func149 rfl rfl (n:=_) rfl (w18 rfl) (rs:=_) rfl ?_
 repeat' ((conv=>whnf); first|refine w0 ?_|refine w1 ?_|refine w2 (fun h=>?_) (fun h=>?_)|refine w3 ?_|refine w4 (fun h=>?_) (fun h=>?_)|refine w5 _ rfl ?_|refine w6 rfl ?_|refine w7 mixed rfl ?_)
 all_goals conv=>whnf
 all_goals refine FinP.same ?_
 ·have e : o.endB = true:=by cases o with
   | go a b=>exact absurd h (fun h : (0 : Int) = 3=>by omega)
   | stop e a b=>rfl
  rw [e] at hk; exact hk
 ·rename_i h3
  have e : o.endB = !all:=by cases o with
   | go a b =>
    cases all with
    | true=>rfl
    | false=>have:=ho rfl; subst this; exact absurd h (Int.lt_irrefl 0)
   | stop e a b =>
    rcases ho with ho | ⟨_,_,ho⟩
    ·exact absurd ho h3
    ·simp [ho,Sr.endB]
  rw [e] at hk; exact hk
 ·rename_i h3
  have e : o.endB = false:=by cases o with
   | go a b=>rfl
   | stop e a b =>
    rcases ho with ho | ⟨_,ho,_⟩
    ·exact absurd ho h3
    ·cases b with
     | nil=>exact absurd rfl ho
     | cons x b=>exact absurd (show (0 : Int) < ((x :: b).length : Int) by simp) h
  rw [e] at hk; exact hk
theorem ext_eq {l : Lst} {p : Pl} (h : (nxR l p).2.2 = true) (m : Mt) : extR l p m = extL l p m:=by
 unfold extR extL nxR at *
 rcases openR_spec l p with ⟨h1,h2⟩ | ⟨h1,r,h2,h3,h4,h5⟩
 ·rw [h1] at h ⊢
  simp only [Bool.true_eq_false,if_false] at h ⊢
  split at h
  ·rename_i hlt; rw [if_pos hlt,h2]; simp
  ·cases h
 ·rw [if_pos h1,h1]; rfl
theorem rchs_is {l : Lst} {p : Pl} {i : Nat} (h : i < (rchs l p).length) : (nxR l p).2.2 = true:=by
 unfold rchs at h
 split at h
 ·assumption
 ·simp at h
theorem full_eq {l : Lst} {p : Pl} (hP : PartR l p) : decide (FullR l p) = fullC l p:=by
 have hr1:=roundsN_pos p
 rw [Bool.eq_iff_iff,decide_eq_true_eq]
 constructor
 ·rintro ⟨_,h2,h3⟩
  have hl:=last_of (l:=l) (by omega)
  have h4:=h3 _ hl
  unfold fullC
  rw [hl,decide_eq_true h2]
  exact decide_eq_true h4
 ·intro h
  unfold fullC at h
  rw [Bool.and_eq_true] at h
  refine ⟨hP,of_decide_eq_true h.1,fun r hr=>?_⟩
  have h2:=h.2
  rw [hr] at h2
  exact of_decide_eq_true h2
def examR (p : Pl) (bud : Nat) (all : Bool) : Nat → Lst → Nat → List Lst → Sr:=exam (fun l=>rchs l p) (fun x=>decide (rdmA x p < 0)) p bud all
theorem rdmA_part {l : Lst} {p : Pl} (h : rdmA l p < 0) : checkP p = 0 ∧ PartR l p:=by
 unfold rdmA at h
 split at h
 ·assumption
 ·omega
theorem rexamine_c (p : Pl) (bud : Nat) (all : Bool) (h0 : checkP p = 0) (hs0 : Small [] p) (hbud : bud ≤ 1073741824) :
  ∀ (n : Nat) (l : Lst) (sp : Nat) (fs : List Lst),PartR l p → roundsN p * halfN p < l.flatten.length + n → sp ≤ bud → (fullC l p = true → fs.length + 1 ≤ sp) → fs.length ≤ sp → (all = false → fs = []) →
   CallP C 122 [.ptr 0 0,lisV l] [.cells (scS p bud all (.go sp fs))] fun X L'=>X = .tup [] ∧ L' = [.cells (scS p bud all (examR p bud all n l sp fs))]
 | 0,l,sp,fs,hP,hfu,_,_,_,_=>by have:=part_total ((PartP_iff l p (checkP_field h0)).2 hP); omega
 | n + 1,l,sp,fs,hP,hfu,hsp,hf1,hf2,hall=>by
  have hf:=checkP_field h0
  have hPP:=(PartP_iff l p hf).2 hP
  have hlen : 1 ≤ p.clubs.length ∧ p.clubs.length ≤ 1000:=by
   simp only [fieldOk,Bool.and_eq_true,decide_eq_true_eq] at hf; omega
  obtain ⟨hsl,-⟩:=part_small hs0 hlen.2 hPP ⟨0,0⟩
  have b1:=roundsN_le hlen.2
  have b2:=halfN_le hlen.2
  have b3:=hPP.1
  have b4 : l.flatten.length ≤ 1001000:=w23 (part_total hPP) (w23 (Nat.mul_le_mul b1 b2) (by decide))
  have hfe:=full_eq hP
  by_cases hfull : fullC l p = true
  ·have hF : decide (FullR l p) = true:=hfe.trans hfull
   have hroot : examR p bud all (n + 1) l sp fs = if all then .go sp (fs ++ [l]) else .stop 0 sp (fs ++ [l]):=by
    show exam _ _ _ _ _ (n + 1) l sp fs = _
    rw [exam,if_pos hfull]
   have hw : IntKind.i64.wrap ((fs.length : Int) + 1) = ((fs.length + 1 : Nat) : Int):=by have:=hf1 hfull; rw [wrap_in (by omega)]; omega
   refine callP_of C_ok Tryz.func122 rfl rfl (n:=_) rfl (w18 rfl) (rs:=_) rfl ?_
   repeat' ((conv=>whnf); first|refine w12 _ (rfull_c l p hf hsl.hl hsl.hr (by omega) ⟨rfl,rfl⟩) ?_|refine w8 hF ?_|refine w0 ?_|refine w1 ?_|refine w2 (fun h=>?_) (fun h=>?_)|refine w3 ?_|refine w4 (fun h=>?_) (fun h=>?_)|refine w5 _ rfl ?_|refine w6 rfl ?_|refine w7 mixed rfl ?_)
   all_goals conv=>whnf
   all_goals
    refine w15 (n:=1) (L':=[.cells [.d (ints p.clubs),B p.double,.d (.sl (p.demands.map Dm.cells)),I bud,B all,I sp,I (fs.length + 1 : Nat),fstV (fs ++ [l]),B false]]) ?_ (w21 _) rfl ?_ ⟨rfl,?_⟩
    rotate_left 2
    ·rw [hroot]
     have e : ((fs ++ [l]).length : Int) = ((fs.length + 1 : Nat) : Int):=by rw [List.length_append]; rfl
     cases all <;> (unfold scS; simp only [Bool.false_eq_true,if_false,if_true,Sr.sp,Sr.fs,Sr.e,e]; rfl)
    rotate_left 1
    ·cases fs <;> rfl
   ·have hz : fs = []:=List.eq_nil_of_length_eq_zero (by have : (fs.length : Int) = 0:=h; omega)
    subst hz
    exact congrArg (fun z : Int=>[Blk.cells [.d (ints p.clubs),B p.double,.d (.sl (p.demands.map Dm.cells)),I bud,B all,I sp,I z,.d (lisD l),B false]]) hw
   ·cases hfs : fs with
    | nil=>subst hfs; exact absurd rfl h
    | cons x r =>
     subst hfs
     exact congrArg (fun z : Int=>[Blk.cells [.d (ints p.clubs),B p.double,.d (.sl (p.demands.map Dm.cells)),I bud,B all,I sp,I z,.d (lisD x),B false]]) hw
  ·have hF : decide (FullR l p) = false:=hfe.trans (by simpa using hfull)
   have hroot : examR p bud all (n + 1) l sp fs = exLoop (examR p bud all n) (extL l p) (fun x=>decide (rdmA x p < 0)) bud (rchs l p) sp fs:=by
    show exam _ _ _ _ _ (n + 1) l sp fs = _
    rw [exam,if_neg hfull]; rfl
   have hsm:=fun m=>nx_small (l:=l) (p:=p) (by omega) (by omega) m
   refine callP_of C_ok Tryz.func122 rfl rfl (n:=_) rfl (w18 rfl) (rs:=_) rfl ?_
   repeat' ((conv=>whnf); first|refine w12 _ (rfull_c l p hf hsl.hl hsl.hr (by omega) ⟨rfl,rfl⟩) ?_|refine w9 hF ?_|refine w12 _ (rchoices_c l p hf (by omega) (by omega) ⟨rfl,rfl⟩) ?_|refine w12 _ (rnext_c l p (by omega) hlen ⟨rfl,rfl⟩) ?_|refine w0 ?_|refine w1 ?_|refine w2 (fun h=>?_) (fun h=>?_)|refine w3 ?_|refine w4 (fun h=>?_) (fun h=>?_)|refine w5 _ rfl ?_|refine w6 rfl ?_|refine w7 mixed rfl ?_)
   conv=>whnf
   obtain ⟨ms,hms⟩ : ∃ ms,ms = rchs l p:=⟨_,rfl⟩
   obtain ⟨f0,hf0⟩ : ∃ f0,f0 = examR p bud all n:=⟨_,rfl⟩
   have hmsl : ms.length ≤ 2000000:=by
    rw [hms]; unfold rchs; split
    ·have:=prs_len 1000 p.clubs hlen.2
     have h2:=List.length_filter_le (fun m=>decide (PartR (extR l p m) p)) (prs p.clubs)
     omega
    ·simp
   rw [← hms,← hf0] at hroot
   rw [← hms]
   refine LoopP.inv (fun s : Nat × Sr=>s.1 ≤ ms.length ∧ exLoop f0 (extL l p) (fun x=>decide (rdmA x p < 0)) bud (ms.take s.1) sp fs = s.2) (fun s=>⟨[(0,.ptr 0 0),(3,.ptr 1 0),(4,.d (mts ms)),(5,.d (mts (nxR l p).1)),(6,.d (lisD (nxR l p).2.1)),(8,I s.1)],Tryz.f122.ntmps,[.cells (scS p bud all s.2),.cells [.d (lisD l)]],[],none⟩) (fun s=>ms.length - s.1) (0,.go sp fs) ⟨w22 _,rfl⟩ ?_ ?_
   ·exact Weak.by ⟨rfl,rfl,rfl,rfl,rfl,rfl,trivial⟩
   rintro ⟨i,o⟩ ⟨hi,ho⟩
   simp only at hi ho
   have hok : okS all o:=by rw [← ho,hf0]; exact exLoop_okS _ _ p bud all n (extL l p) _ sp fs hall
   conv=>whnf
   refine w2 (fun hb=>?_) (fun hb=>?_)
   ·have hi' : i < ms.length:=by simp only [List.length_map] at hb; omega
    have hwi : IntKind.i64.wrap ((i : Int) + 1) = ((i + 1 : Nat) : Int):=by rw [wrap_in (by omega)]; omega
    cases o with
    | stop e a b =>
     have hst:=exLoop_stop f0 (extL l p) (fun x=>decide (rdmA x p < 0)) bud ho
     repeat' ((conv=>whnf); first|refine rended_c p bud all (.stop e a b) _ hok ?_|refine w3 ?_|refine w8 rfl ?_|refine w0 ?_|refine w1 ?_|refine w2 (fun h=>?_) (fun h=>?_)|refine w3 ?_|refine w4 (fun h=>?_) (fun h=>?_)|refine w5 _ rfl ?_|refine w6 rfl ?_|refine w7 mixed rfl ?_)
     conv=>whnf
     exact FinP.drop (n:=1) rfl (Nat.le_refl _) rfl (by cases b <;> rfl) ⟨rfl,by rw [hroot,hst]; rfl⟩
    | go a b =>
     obtain ⟨k1,k2,k3⟩:=exLoop_keep _ _ p bud all n (extL l p) _ sp fs hsp hf2 a b (by rw [hf0] at ho; exact ho)
     have hnext:=exLoop_next f0 (extL l p) (fun x=>decide (rdmA x p < 0)) bud hi' ho
     obtain ⟨m,hm⟩ : ∃ m,m = ms[i]:=⟨_,rfl⟩
     rw [← hm] at hnext
     have his:=rchs_is (l:=l) (p:=p) (i:=i) (hms ▸ hi')
     have hxx:=ext_eq his m
     obtain ⟨s1,s2,s3,s4,s5⟩:=hsm m
     have hallb : all = false → b = []:=hok
     subst hm
     by_cases hsb : a = bud
     ·have hst : exLoop f0 (extL l p) (fun x=>decide (rdmA x p < 0)) bud ms sp fs = .stop 3 a b:=by
       refine exLoop_stop _ _ _ _ (i:=i + 1) ?_
       rw [hnext,exLoop,if_pos hsb]
      repeat' ((conv=>whnf); first|refine rended_c p bud all (.go a b) _ hok ?_|refine w3 ?_|refine w9 (show (Sr.go a b).endB = false from rfl) ?_|refine w8 (w19 (show (a : Int) = (bud : Int) by omega)) ?_|refine w0 ?_|refine w1 ?_|refine w2 (fun h=>?_) (fun h=>?_)|refine w3 ?_|refine w4 (fun h=>?_) (fun h=>?_)|refine w5 _ rfl ?_|refine w6 rfl ?_|refine w7 mixed rfl ?_)
      conv=>whnf
      refine w15 (n:=1) (L':=[.cells (scS p bud all (.stop 3 a b))]) ?_ (w21 _) rfl (by cases b <;> rfl) ⟨rfl,by rw [hroot,hst]⟩
      cases b <;> rfl
     ·have hi64 : IntKind.i64.wrap ((a : Int) + 1) = ((a + 1 : Nat) : Int):=by rw [wrap_in (by omega)]; omega
      have hsx : SmallR (extR l p ms[i]) p:=⟨⟨s3,s4,hs0.hc,hs0.hd,hs0.hD⟩,s5⟩
      repeat' ((conv=>whnf); first|refine rended_c p bud all (.go a b) _ hok ?_|refine w3 ?_|refine w9 (show (Sr.go a b).endB = false from rfl) ?_|refine w9 (w20 (show ¬ (a : Int) = (bud : Int) by omega)) ?_|refine w11 i rfl hi' ?_|refine rext_c (nxR l p).1 (nxR l p).2.1 ms[i] (by omega) (by omega) ?_|refine w12 _ (rdmd_c (extR l p ms[i]) p hsx ⟨rfl,rfl⟩) ?_|refine w0 ?_|refine w1 ?_|refine w2 (fun h=>?_) (fun h=>?_)|refine w3 ?_|refine w4 (fun h=>?_) (fun h=>?_)|refine w5 _ rfl ?_|refine w6 rfl ?_|refine w7 mixed rfl ?_)
      all_goals conv=>whnf
      ·have hneg : rdmA (extR l p ms[i]) p < 0:=‹_›
       obtain ⟨-,hPx⟩:=rdmA_part hneg
       have hfx : roundsN p * halfN p < (extR l p ms[i]).flatten.length + n:=by rw [hxx,extL_flat,List.length_append]; simp only [List.length_singleton]; omega
       have hih:=rexamine_c p bud all h0 hs0 hbud n (extR l p ms[i]) (a + 1) b hPx hfx (by omega) (fun _=>by omega) (by omega) hallb
       obtain ⟨o2,ho2⟩ : ∃ o2,o2 = examR p bud all n (extR l p ms[i]) (a + 1) b:=⟨_,rfl⟩
       rw [← ho2] at hih
       have hF1 : exLoop f0 (extL l p) (fun x=>decide (rdmA x p < 0)) bud (ms.take (i + 1)) sp fs = o2:=by
        rw [hnext,exLoop,if_neg hsb,if_pos (by rw [← hxx]; simpa using hneg),← hxx,hf0,← ho2]
        cases o2 <;> rfl
       refine CallP.cnv (args':=[.ptr 0 0,lisV (extR l p ms[i])]) (L':=([Blk.cells (scS p bud all (Sr.go (a + 1) b))] : List Blk) ++ ([Blk.cells [V.d (lisD l)],Blk.cells [V.d (lisD (extR l p ms[i]))]] : List Blk)) rfl (congrArg (fun z : Int=>[Blk.cells [.d (ints p.clubs),B p.double,.d (.sl (p.demands.map Dm.cells)),I bud,B all,I z,I b.length,fstV b,B false],.cells [.d (lisD l)],.cells [.d (lisD (extR l p ms[i]))]]) hi64) ?_
       refine CallP.frameP (w22 _) hih (by cases b <;> rfl) rfl rfl ?_
       rintro X L1 ⟨rfl,rfl⟩
       refine ⟨rfl,by cases o2 <;> (rename_i bb; cases bb <;> rfl),rfl,?_⟩
       repeat' ((conv=>whnf); first|refine w0 ?_|refine w1 ?_|refine w2 (fun h=>?_) (fun h=>?_)|refine w3 ?_|refine w4 (fun h=>?_) (fun h=>?_)|refine w5 _ rfl ?_|refine w6 rfl ?_|refine w7 mixed rfl ?_)
       conv=>whnf
       exact ⟨(i + 1,o2),⟨hi',hF1⟩,by simp only []; omega,Weak.to 2 rfl (Nat.le_succ 1) (Nat.le_of_ble_eq_true rfl) ⟨rfl,rfl,rfl,rfl,rfl,congrArg I hwi,trivial⟩ (hB:=by cases o2 <;> (rename_i bb; cases bb <;> rfl))⟩
      ·have hneg : ¬ rdmA (extR l p ms[i]) p < 0:=‹_›
       have hF1 : exLoop f0 (extL l p) (fun x=>decide (rdmA x p < 0)) bud (ms.take (i + 1)) sp fs = .go (a + 1) b:=by
        rw [hnext,exLoop,if_neg hsb,if_neg (by rw [← hxx]; simpa using hneg)]; rfl
       refine ⟨(i + 1,.go (a + 1) b),⟨hi',hF1⟩,by simp only []; omega,Weak.to 2 ?_ (Nat.le_succ 1) (w18 rfl) ⟨rfl,rfl,rfl,rfl,rfl,congrArg I hwi,trivial⟩ (hB:=by cases b <;> rfl)⟩
       exact congrArg (fun z : Int=>[Blk.cells [.d (ints p.clubs),B p.double,.d (.sl (p.demands.map Dm.cells)),I bud,B all,I z,I b.length,fstV b,B false],.cells [.d (lisD l)]]) hi64
   ·have hie : i = ms.length:=by simp only [List.length_map] at hb; omega
    subst hie
    rw [List.take_length] at ho
    repeat' ((conv=>whnf); first|refine w0 ?_|refine w1 ?_|refine w2 (fun h=>?_) (fun h=>?_)|refine w3 ?_|refine w4 (fun h=>?_) (fun h=>?_)|refine w5 _ rfl ?_|refine w6 rfl ?_|refine w7 mixed rfl ?_)
    conv=>whnf
    exact FinP.drop (n:=1) rfl (Nat.le_refl _) rfl (by cases o <;> (rename_i b; cases b <;> rfl)) ⟨rfl,by rw [hroot,ho]; rfl⟩
end Go.Proofs.YtndlggbljkhfbaaGreat
namespace Go.Proofs.YtndlggbljkhfbaaGreat
open Go.Tidy
variable {L : List Blk} {k : V → List Blk → Prop}
theorem rarg_c (p : Pl) (most : Int) (hl : p.clubs.length ≤ 4611686018427387904) (hd : ∀ d ∈ p.demands,d.clubs.length ≤ 4611686018427387904) (hD : p.demands.length ≤ 4611686018427387904) (h : k (I (argE p most)) L) : CallP C 121 [plV p,I most] L k:=by
 refine CallP.pure ?_ rfl (fun _=>rfl) h
 clear h
 refine callP_of C_ok Tryz.func121 rfl rfl (n:=_) rfl (w18 rfl) (rs:=_) rfl ?_
 by_cases h0 : checkP p = 0
 ·repeat' (conv => whnf
           first|refine w0 ?_|refine w1 ?_|refine w2 (fun h=>?_) (fun h=>?_)|refine w3 ?_|refine w4 (fun h=>?_) (fun h=>?_)|refine w5 _ rfl ?_|refine w6 rfl ?_|refine w7 mixed rfl ?_|refine rcheck_c p hl hd hD ?_)
  all_goals first | exact absurd h0 ‹¬ checkP p = 0› | skip
  all_goals conv=>whnf
  all_goals refine w15 (n:=0) rfl (w21 0) rfl rfl ⟨rfl,congrArg I ?_⟩
  all_goals
   unfold argE
   rw [if_pos h0]
   first
   | (rw [if_pos (by omega)]; done)
   | (rw [if_neg (by omega)]; first | exact h0 | rfl)
 ·repeat' (conv => whnf
           first|refine w0 ?_|refine w1 ?_|refine w2 (fun h=>?_) (fun h=>?_)|refine w3 ?_|refine w4 (fun h=>?_) (fun h=>?_)|refine w5 _ rfl ?_|refine w6 rfl ?_|refine w7 mixed rfl ?_|refine rcheck_c p hl hd hD ?_)
  all_goals first | exact absurd ‹checkP p = 0› h0 | skip
  conv=>whnf
  exact FinP.drop (n:=0) rfl (w21 0) rfl rfl ⟨rfl,congrArg I (if_neg h0).symm⟩
theorem scS_rn (ρ : Nat → Nat) (p : Pl) (bud : Nat) (all : Bool) (o : Sr) : (Blk.cells (scS p bud all o)).rn ρ = .cells (scS p bud all o):=by
 unfold scS fstV; cases o.fs.head? <;> rfl
def runR (p : Pl) (most : Int) (all : Bool) : Sr:=examR p most.toNat all (fuelN p) [] 0 []
def rplanF (p : Pl) (most : Int) : PlanR := if argE p most = 0 then (match (runR p most false).fs.head? with
    | some l=>⟨l,(runR p most false).sp,0⟩
    | none=>⟨[],0,if (runR p most false).e = 3 then 3 else 320⟩) else ⟨[],0,argE p most⟩
theorem part_nilR {p : Pl} (hp : fieldOk p.clubs 2 = true) : PartR [] p:=(PartP_iff [] p hp).1 (part_nil p)
theorem rplan_c (p : Pl) (most : Int) (hs0 : Small [] p) (h : k (.tup [lisV (rplanF p most).l,I (rplanF p most).sp,I (rplanF p most).e]) L) : CallP C 66 [plV p,I most] L k:=by
 have hD:=hs0.hD
 refine CallP.pure ?_ rfl (fun _=>rfl) h
 clear h
 refine callP_of C_ok Tryz.func66 rfl rfl (n:=_) rfl (w18 rfl) (rs:=_) rfl ?_
 by_cases hA : argE p most = 0
 ·obtain ⟨h0,hm1,hm2⟩:=argE_zero hA
  have hp:=checkP_field h0
  obtain ⟨bud,hbud⟩ : ∃ bud : Nat,most = (bud : Int):=⟨most.toNat,by omega⟩
  subst hbud
  repeat' ((conv=>whnf); first|refine rarg_c p bud hs0.hc hs0.hd (by omega) ?_|refine w3 ?_|refine w8 (w19 hA) ?_|refine w0 ?_|refine w1 ?_|refine w2 (fun h=>?_) (fun h=>?_)|refine w3 ?_|refine w4 (fun h=>?_) (fun h=>?_)|refine w5 _ rfl ?_|refine w6 rfl ?_|refine w7 mixed rfl ?_)
  conv=>whnf
  refine CallP.freezeP (args:=[.ptr 2 0,.agg [.nil]]) (dargs:=[.ptr 2 0,lisV []]) [] rfl rfl (.keep (.cv (.aggL (.cons .nil .nil)) .nil)) ?_
  refine CallP.at1 (b:=2) ((rexamine_c p bud false h0 hs0 (by omega) (fuelN p) [] 0 [] (part_nilR hp) (by unfold fuelN; simp) (w22 _) (fun hf=>by rw [full_nil] at hf; cases hf) (w22 _) (fun _=>rfl)).mono fun X L' h=>⟨h.2,h.1⟩) rfl rfl rfl rfl ?_ rfl rfl rfl
  unfold rplanF
  rw [if_pos hA,scS_rn]
  have hok : okS false (runR p bud false):=exam_okS _ _ p bud false (fuelN p) [] 0 [] (fun _=>rfl)
  generalize ho : examR p bud false (fuelN p) [] 0 [] = o
  have ho2 : runR p bud false = o:=ho
  rw [ho2] at hok ⊢
  cases hg : o.fs with
  | nil =>
   have e1 : scS p bud false o = [.d (ints p.clubs),B p.double,.d (.sl (p.demands.map Dm.cells)),I bud,B false,I o.sp,I 0,.nil,B (decide (o.e = 3))]:=by unfold scS fstV; rw [hg]; rfl
   generalize scS p bud false o = z at e1 ⊢
   subst e1
   repeat' ((conv=>whnf); first|refine w9 (show decide ((0 : Int) < 0) = false from rfl) ?_|refine w0 ?_|refine w1 ?_|refine w2 (fun h=>?_) (fun h=>?_)|refine w3 ?_|refine w4 (fun h=>?_) (fun h=>?_)|refine w5 _ rfl ?_|refine w6 rfl ?_|refine w7 mixed rfl ?_)
   all_goals conv=>whnf
   all_goals refine w16 (L':=[]) (.triple (.aggL (.cons .nil .nil)) (.d (.d _)) (.d (.d _))) rfl rfl ⟨rfl,?_⟩
   ·show _ = V.tup [lisV [],I 0,I (if o.e = 3 then 3 else 320)]
    rw [if_pos ‹_›]; rfl
   ·show _ = V.tup [lisV [],I 0,I (if o.e = 3 then 3 else 320)]
    rw [if_neg ‹_›]; rfl
  | cons l r =>
   have e1 : scS p bud false o = [.d (ints p.clubs),B p.double,.d (.sl (p.demands.map Dm.cells)),I bud,B false,I o.sp,I ((l :: r).length : Nat),.d (lisD l),B (decide (o.e = 3))]:=by unfold scS fstV; rw [hg]; rfl
   generalize scS p bud false o = z at e1 ⊢
   subst e1
   repeat' ((conv=>whnf); first|refine w8 (w19 (show (0 : Int) < ((l :: r).length : Int) by simp)) ?_|refine w0 ?_|refine w1 ?_|refine w2 (fun h=>?_) (fun h=>?_)|refine w3 ?_|refine w4 (fun h=>?_) (fun h=>?_)|refine w5 _ rfl ?_|refine w6 rfl ?_|refine w7 mixed rfl ?_)
   conv=>whnf
   refine DrawP.por mixed [3,7] [[(0,0),(1,0),(2,0),(4,0),(5,0),(6,0),(3,2),(7,2),(8,0),(9,0),(10,0)],[(0,0),(1,0),(2,0),(4,0),(5,0),(6,0),(3,2),(8,0),(7,2),(9,0),(10,0)],[(0,0),(1,0),(2,0),(4,0),(5,0),(6,0),(7,2),(3,2),(8,0),(9,0),(10,0)]] (by kernel_rfl) ?_
   conv=>whnf
   refine And.intro ?_ ?_
   rotate_left 1
   conv=>whnf
   refine And.intro ?_ ?_
   all_goals
    repeat' ((conv=>whnf); first|refine w0 ?_|refine w1 ?_|refine w2 (fun h=>?_) (fun h=>?_)|refine w3 ?_|refine w4 (fun h=>?_) (fun h=>?_)|refine w5 _ rfl ?_|refine w6 rfl ?_|refine w7 mixed rfl ?_|refine w13 (I o.sp) _ ⟨rfl,rfl⟩ ?_|refine w13 (.agg [.d (lisD l)]) _ ⟨rfl,rfl⟩ ?_)
    conv=>whnf
    exact FinP.data (L':=[]) (.triple (.aggL (.cons (.d _) .nil)) (.d (.d _)) (.d (.d _))) rfl rfl ⟨rfl,rfl⟩
 ·repeat' (conv => whnf
           first|refine rarg_c p most hs0.hc hs0.hd (by omega) ?_|refine w3 ?_|refine w9 (w20 hA) ?_|refine w0 ?_|refine w1 ?_|refine w2 (fun h=>?_) (fun h=>?_)|refine w3 ?_|refine w4 (fun h=>?_) (fun h=>?_)|refine w5 _ rfl ?_|refine w6 rfl ?_|refine w7 mixed rfl ?_)
  conv=>whnf
  refine w16 (L':=[]) (.triple (.aggL (.cons .nil .nil)) (.d (.d _)) (.d (.d _))) rfl rfl ⟨rfl,?_⟩
  unfold rplanF; rw [if_neg hA]; rfl
end Go.Proofs.YtndlggbljkhfbaaGreat
namespace Go.Proofs.YtndlggbljkhfbaaGreat
open Go.Tidy
variable {L : List Blk} {k : V → List Blk → Prop}
theorem fvalid_c (l : List Int) (hl : l.length ≤ 4611686018427387904) (h : k (B (fieldOk l 2)) L) : CallP C 108 [.d (ints l)] L k:=by
 refine CallP.pure ?_ rfl (fun _=>rfl) h
 clear h
 refine callP_of C_ok Tryz.func108 rfl rfl (n:=_) rfl (w18 rfl) (rs:=_) rfl ?_
 by_cases hsz : 2 ≤ l.length ∧ l.length ≤ 24
 ·have e1 : ¬ ((l.map fun c=>[DI c]).length : Int) < 2:=by rw [List.length_map]; omega
  have e2 : ¬ (24 : Int) < ((l.map fun c=>[DI c]).length : Int):=by rw [List.length_map]; omega
  repeat' ((conv=>whnf); first|refine w9 (w20 e1) ?_|refine w9 (w20 e2) ?_|refine w0 ?_|refine w1 ?_|refine w2 (fun h=>?_) (fun h=>?_)|refine w3 ?_|refine w4 (fun h=>?_) (fun h=>?_)|refine w5 _ rfl ?_|refine w6 rfl ?_|refine w7 mixed rfl ?_)
  conv=>whnf
  refine LoopP.intro (ι:=FarOk l) (fun s=>⟨[(0,.d (ints l)),(13,.d (ints l)),(14,I l.length),(15,I s.i)],Tryz.f108.ntmps,[],[],none⟩) (fun s=>l.length - s.i) (FarOk.zero l) ?_ ?_
  ·exact Weak.forget ⟨rfl,rfl,congrArg I (by simp),rfl,trivial⟩
  intro s
  conv=>whnf
  refine w2 (fun h=>?_) (fun h=>?_)
  ·have hi : s.i < l.length:=by simpa using h
   conv=>whnf
   refine w11 s.i rfl hi ?_
   repeat' ((conv=>whnf); first|refine w0 ?_|refine w1 ?_|refine w2 (fun h=>?_) (fun h=>?_)|refine w3 ?_|refine w4 (fun h=>?_) (fun h=>?_)|refine w5 _ rfl ?_|refine w6 rfl ?_|refine w7 mixed rfl ?_|refine w11 (s.i - 1) (by rw [wrap_id] <;> omega) (by omega) ?_|refine w15 (n:=0) rfl (w21 0) rfl rfl ⟨rfl,congrArg B ?_⟩)
   ·exact fieldOk_no (j:=s.i) fun ho=>by have:=((okAt_at hi).1 ho).1; omega
   ·exact fieldOk_no (j:=s.i) fun ho=>by have:=((okAt_at hi).1 ho).1; omega
   ·rename_i h0 h2
    exact fieldOk_no (j:=s.i) fun ho=>by have:=((okAt_at hi).1 ho).2 (by omega); omega
   ·rename_i h3 h2 h1 h0
    exact ⟨s.next hi ((okAt_at hi).2 ⟨by omega,fun _=>by omega⟩),by simp only [FarOk.next]; omega,Weak.by ⟨rfl,rfl,rfl,congrArg I (by rw [wrap_id] <;> (try simp only [FarOk.next]) <;> omega),trivial⟩⟩
   ·rename_i h2 h1 h0
    exact ⟨s.next hi ((okAt_at hi).2 ⟨by omega,fun _=>by omega⟩),by simp only [FarOk.next]; omega,Weak.by ⟨rfl,rfl,rfl,congrArg I (by rw [wrap_id] <;> (try simp only [FarOk.next]) <;> omega),trivial⟩⟩
  ·have hi : ¬ s.i < l.length:=by simpa using h
   have hin:=s.all hi
   repeat' ((conv=>whnf); first|refine w0 ?_|refine w1 ?_|refine w2 (fun h=>?_) (fun h=>?_)|refine w3 ?_|refine w4 (fun h=>?_) (fun h=>?_)|refine w5 _ rfl ?_|refine w6 rfl ?_|refine w7 mixed rfl ?_)
   conv=>whnf
   refine w15 (n:=0) rfl (w21 0) rfl rfl ⟨rfl,congrArg B ?_⟩
   simp [fieldOk,hin]; omega
 ·have hno : fieldOk l 2 = false:=by
   simp only [fieldOk,Bool.and_eq_false_iff,decide_eq_false_iff_not]; omega
  rw [hno]
  repeat' ((conv=>whnf); first|refine w0 ?_|refine w1 ?_|refine w2 (fun h=>?_) (fun h=>?_)|refine w3 ?_|refine w4 (fun h=>?_) (fun h=>?_)|refine w5 _ rfl ?_|refine w6 rfl ?_|refine w7 mixed rfl ?_)
  all_goals conv=>whnf
  all_goals first
   | exact FinP.drop (n:=0) rfl (w21 0) rfl rfl ⟨rfl,rfl⟩
   | (exfalso; simp only [List.length_map] at *; omega)
@[irreducible] def bsA (ks : List Int) : List V:=(List.range 192).map fun i : Nat=>B (decide ((i : Int) ∈ ks))
theorem bsA_len (ks : List Int) : (bsA ks).length = 192:=by unfold bsA; simp
theorem bsA_nil : bsA [] = List.replicate 192 (B false):=by
 unfold bsA
 simp only [List.not_mem_nil,decide_false]
 rw [List.map_const']; simp
theorem bsA_at (ks : List Int) {h : Nat} (hh : h < 192) : (bsA ks)[h]? = some (B (decide ((h : Int) ∈ ks))):=by
 unfold bsA; rw [List.getElem?_map,List.getElem?_eq_getElem (by rw [List.length_range]; exact hh),List.getElem_range]; rfl
theorem bsA_get (ks : List Int) {h : Nat} (hh : h < 192) : ((bsA ks).drop (0 + h * 1)).take 1 = [B (decide ((h : Int) ∈ ks))]:=by
 have e:=bsA_at ks hh
 rw [Nat.zero_add,Nat.mul_one]
 have hl : h < (bsA ks).length:=by rw [bsA_len]; exact hh
 rw [List.drop_eq_getElem_cons hl]
 rw [List.getElem?_eq_getElem hl] at e
 rw [Option.some.inj e]; rfl
theorem bsA_set (ks : List Int) {h : Nat} (hh : h < 192) : setCells (bsA ks) (0 + h * 1) [B true] = bsA (ks ++ [(h : Int)]):=by
 rw [Nat.zero_add,Nat.mul_one,setCells_eq]
 have e : ∀ (l : List V),h < l.length → l.take h ++ [B true] ++ l.drop (h + 1) = l.set h (B true):=fun l hl=>by rw [List.set_eq_take_append_cons_drop,if_pos hl]; simp
 show (bsA ks).take h ++ [B true] ++ (bsA ks).drop (h + 1) = _
 rw [e _ (by rw [bsA_len]; exact hh)]
 apply List.ext_getElem?
 intro i
 rw [List.getElem?_set,bsA_len]
 by_cases hi : i < 192
 ·rw [bsA_at _ hi,bsA_at _ hi]
  by_cases e : h = i
  ·subst e; rw [if_pos rfl,if_pos hh]; simp
  ·rw [if_neg e]
   refine congrArg (fun b=>some (B b)) ?_
   rw [decide_eq_decide]
   simp only [List.mem_append,List.mem_singleton]
   constructor
   ·exact .inl
   ·rintro (h | h)
    ·exact h
    ·omega
 ·have e1 : (bsA ks)[i]? = none:=List.getElem?_eq_none (by rw [bsA_len]; omega)
  have e2 : (bsA (ks ++ [(h : Int)]))[i]? = none:=List.getElem?_eq_none (by rw [bsA_len]; omega)
  rw [e1,e2,if_neg (by omega)]
theorem bsA_put (ks : List Int) {h : Nat} (hh : h < 192) : setCells (bsA ks) (0 + h * 1) (cellsOf (V.d (D.bool true))) = bsA (ks ++ [(h : Int)]):=bsA_set ks hh
theorem bsA_bel (n : Nat) (ks : List Int) : V.belL n (bsA ks) = true:=by
 unfold bsA
 generalize List.range 192 = r
 induction r with
 | nil=>rfl
 | cons a r ih=>simp only [List.map_cons,V.belL,V.bel,Bool.true_and]; exact ih
theorem ble_192 {h : Nat} (hh : h < 192) : Nat.ble (0 + h * 1 + 1) 192 = true:=Nat.ble_eq_true_of_le (by omega)
def OkX (cs : List Int) (met r : List Mt) (k : Nat) (hk : k < r.length) : Prop :=
 r[k].home ≠ r[k].away ∧ r[k] ∉ met ++ r.take k ∧ r[k].home ∈ cs ∧ r[k].away ∈ cs ∧ r[k].home ∉ busyL (r.take k) ∧ r[k].away ∉ busyL (r.take k)
def FixP (l : List (List Mt)) (cs : List Int) : Prop:=∀ (i : Nat) (hi : i < l.length) (k : Nat) (hk : k < l[i].length),OkX cs (l.take i).flatten l[i] k hk
open Classical in
noncomputable def fixE (l : List (List Mt)) (cs : List Int) : Int:=if fieldOk cs 2 = true then (if l.length ≤ 46 then (if FixP l cs then 0 else 300) else 2) else 1
def MatK (l : List (List Mt)) (cs : List Int) (X : V) (L : List Blk) : Prop :=
 (fixE l cs ≠ 0 ∧ X = .tup [.d .nilmap,I (fixE l cs)] ∧ L = []) ∨ (fixE l cs = 0 ∧ X = .tup [.map 0,I 0] ∧ L = [.map (esM l.flatten)])
theorem field_192 {cs : List Int} (h : fieldOk cs 2 = true) {c : Int} (hc : c ∈ cs) : ∃ n : Nat,c = (n : Int) ∧ n < 192:=by
 simp only [fieldOk,Bool.and_eq_true] at h
 obtain ⟨j,hj,rfl⟩:=List.getElem_of_mem hc
 obtain ⟨h1,h2⟩:=((okAt_at hj).1 ((incr_iff cs).1 h.1.1 j)).1
 exact ⟨(cs[j]).toNat,by omega,by omega⟩
theorem esM_rn (ρ : Nat → Nat) (ks : List Mt) : (Blk.map (esM ks)).rn ρ = .map (esM ks):=by
 rw [Blk.rn]
 refine congrArg Blk.map ?_
 induction ks with
 | nil=>rfl
 | cons a ks ih=>unfold esM at ih ⊢; rw [List.map_cons,rnM,ih]; rfl
def xL (l : List (List Mt)) (i : Nat) : List Blk:=[.cells [.d (lisD l)],.map (esM (l.take i).flatten)]
def yL (l : List (List Mt)) (i : Nat) (r : List Mt) (k : Nat) : List Blk:=[.cells [.d (lisD l)],.map (esM ((l.take i).flatten ++ r.take k)),.cells (bsA (busyL (r.take k)))]
theorem xL_bel (n : Nat) (l : List (List Mt)) (i : Nat) : belB n (xL l i) = true:=by
 show (true && (belM n (esM (l.take i).flatten) && true)) = true
 rw [esM_bel]; rfl
theorem yL_bel (n : Nat) (l : List (List Mt)) (i : Nat) (r : List Mt) (k : Nat) : belB n (yL l i r k) = true:=by
 show (true && (belM n (esM ((l.take i).flatten ++ r.take k)) && (V.belL n (bsA (busyL (r.take k))) && true))) = true
 rw [esM_bel,bsA_bel]; rfl
theorem matches_c (l : List (List Mt)) (cs : List Int) (hl : l.length ≤ 1073741824) (hr : ∀ r ∈ l,r.length ≤ 4611686018427387904) (hcs : cs.length ≤ 4611686018427387904) :
  CallP C 51 [lisV l,.d (ints cs)] [] (MatK l cs):=by
 refine callP_of C_ok Tryz.func51 rfl rfl (n:=_) rfl (w18 rfl) (rs:=_) rfl ?_
 cases hv : fieldOk cs 2 with
 | false =>
  have e : fixE l cs = 1:=by unfold fixE; rw [if_neg (by rw [hv]; decide)]
  repeat' ((conv=>whnf); first|refine fvalid_c cs hcs ?_|refine w9 hv ?_|refine w0 ?_|refine w1 ?_|refine w2 (fun h=>?_) (fun h=>?_)|refine w3 ?_|refine w4 (fun h=>?_) (fun h=>?_)|refine w5 _ rfl ?_|refine w6 rfl ?_|refine w7 mixed rfl ?_)
  conv=>whnf
  exact FinP.drop (n:=0) rfl (Nat.le_refl 0) rfl rfl (.inl ⟨by rw [e]; decide,Eq.trans (b:=V.tup [.d .nilmap,I 1]) rfl (by rw [e]),rfl⟩)
 | true =>
  by_cases hl46 : l.length ≤ 46
  ·have h46 : ¬ (46 : Int) < ((l.map fun r=>[mts r]).length : Int):=by rw [List.length_map]; omega
   repeat' ((conv=>whnf); first|refine fvalid_c cs hcs ?_|refine w8 hv ?_|refine w9 (w20 h46) ?_|refine w0 ?_|refine w1 ?_|refine w2 (fun h=>?_) (fun h=>?_)|refine w3 ?_|refine w4 (fun h=>?_) (fun h=>?_)|refine w5 _ rfl ?_|refine w6 rfl ?_|refine w7 mixed rfl ?_)
   conv=>whnf
   have hfail : ∀ (i : Nat) (hi : i < l.length) (k : Nat) (hk : k < l[i].length),¬ OkX cs (l.take i).flatten l[i] k hk → fixE l cs = 300:=fun i hi k hk h=>by
    unfold fixE; rw [if_pos hv,if_pos hl46,if_neg fun hf=>h (hf i hi k hk)]
   refine LoopP.inv (fun i=>i ≤ l.length ∧ ∀ (j : Nat) (hj : j < l.length),j < i → ∀ (k : Nat) (hk : k < l[j].length),OkX cs (l.take j).flatten l[j] k hk) (fun i=>⟨[(1,.d (ints cs)),(2,.ptr 0 0),(4,.map 1),(20,.d (.sl (l.map fun r=>[mts r]))),(21,I l.length),(22,I i)],Tryz.f51.ntmps,xL l i,[],none⟩) (fun i=>l.length - i) 0 ⟨w22 _,fun j _ h=>absurd h (Nat.not_lt_zero j)⟩ ?_ ?_
   ·exact Weak.by ⟨rfl,rfl,rfl,rfl,congrArg I (by simp),rfl,trivial⟩
   rintro i ⟨hi,hok⟩
   by_cases hi' : i < l.length
   ·obtain ⟨r,hr1⟩ : ∃ r,r = l[i]:=⟨_,rfl⟩
    have hrl : r.length ≤ 4611686018427387904:=hr r (hr1 ▸ List.getElem_mem hi')
    have hlt : (i : Int) < (l.length : Int):=by omega
    have hw : IntKind.i64.wrap ((i : Int) + 1) = ((i + 1 : Nat) : Int):=by rw [wrap_in (by omega)]; omega
    have r1 : (l.map fun r=>[mts r])[i]? = some [mts r]:=by rw [List.getElem?_map,List.getElem?_eq_getElem hi',← hr1]; rfl
    repeat' ((conv=>whnf); first|refine w8 (w19 hlt) ?_|refine w10 i _ rfl r1 ?_|refine w0 ?_|refine w1 ?_|refine w2 (fun h=>?_) (fun h=>?_)|refine w3 ?_|refine w4 (fun h=>?_) (fun h=>?_)|refine w5 _ rfl ?_|refine w6 rfl ?_|refine w7 mixed rfl ?_)
    conv=>whnf
    refine LoopP.inv (fun k=>k ≤ r.length ∧ ∀ (j : Nat) (hj : j < r.length),j < k → OkX cs (l.take i).flatten r j hj) (fun k=>⟨[(1,.d (ints cs)),(2,.ptr 0 0),(4,.map 1),(20,.d (.sl (l.map fun r=>[mts r]))),(21,I l.length),(22,I i),(8,.ptr 2 0),(26,.d (mts r)),(27,I r.length),(28,I k)],Tryz.f51.ntmps,yL l i r k,[],none⟩) (fun k=>r.length - k) 0 ⟨w22 _,fun j _ h=>absurd h (Nat.not_lt_zero j)⟩ ?_ ?_
    ·exact Weak.by ⟨rfl,rfl,rfl,rfl,rfl,rfl,rfl,rfl,congrArg I (by simp),rfl,trivial⟩ (hL:=by unfold yL; rw [List.take_zero,List.append_nil]; show _ = [_,_,Blk.cells (bsA [])]; rw [bsA_nil]; rfl)
    rintro kk ⟨hk,hkok⟩
    by_cases hk' : kk < r.length
    ·have hlt2 : (kk : Int) < (r.length : Int):=by omega
     have hw2 : IntKind.i64.wrap ((kk : Int) + 1) = ((kk + 1 : Nat) : Int):=by rw [wrap_in (by omega)]; omega
     obtain ⟨m,hm⟩ : ∃ m,m = r[kk]:=⟨_,rfl⟩
     have r2 : (r.map Mt.cells)[kk]? = some m.cells:=by rw [List.getElem?_map,List.getElem?_eq_getElem hk',hm]; rfl
     have hfl : ¬ OkX cs (l.take i).flatten r kk hk' → fixE l cs = 300:=by subst hr1; exact hfail i hi' kk hk'
     have hO : (m.home ≠ m.away ∧ m ∉ (l.take i).flatten ++ r.take kk ∧ m.home ∈ cs ∧ m.away ∈ cs ∧ m.home ∉ busyL (r.take kk) ∧ m.away ∉ busyL (r.take kk)) ↔ OkX cs (l.take i).flatten r kk hk':=by subst hm; exact Iff.rfl
     have q1t : m.home = m.away → (decide (m.home = m.away) && (decide (m.away = m.home) && true)) = true:=fun h=>by simp [h]
     have q1f : m.home ≠ m.away → (decide (m.home = m.away) && (decide (m.away = m.home) && true)) = false:=fun h=>by simp [h]
     have cT : ∀ c,c ∈ cs → cs.contains c = true:=fun c h=>List.contains_iff_mem.2 h
     have cF : ∀ c,c ∉ cs → cs.contains c = false:=fun c h=>by
      cases e : cs.contains c with
      | false=>rfl
      | true=>exact absurd (List.contains_iff_mem.1 e) h
     by_cases c1 : m.home = m.away
     ·have e:=hfl fun h=>(hO.2 h).1 c1
      repeat' ((conv=>whnf); first|refine w8 (w19 hlt2) ?_|refine w10 kk _ rfl r2 ?_|refine w8 (q1t c1) ?_|refine w0 ?_|refine w1 ?_|refine w2 (fun h=>?_) (fun h=>?_)|refine w3 ?_|refine w4 (fun h=>?_) (fun h=>?_)|refine w5 _ rfl ?_|refine w6 rfl ?_|refine w7 mixed rfl ?_)
      all_goals conv=>whnf
      all_goals exact FinP.drop (n:=0) rfl (Nat.le_refl 0) rfl rfl (.inl ⟨by rw [e]; decide,Eq.trans (b:=V.tup [.d .nilmap,I 300]) rfl (by rw [e]),rfl⟩)
     by_cases c2 : m ∈ (l.take i).flatten ++ r.take kk
     ·have e:=hfl fun h=>(hO.2 h).2.1 c2
      repeat' ((conv=>whnf); first|refine w8 (w19 hlt2) ?_|refine w10 kk _ rfl r2 ?_|refine w9 (q1f c1) ?_|refine MapF.memM ((l.take i).flatten ++ r.take kk) m (fun h j=>?_) (fun h=>absurd c2 h)|refine w0 ?_|refine w1 ?_|refine w2 (fun h=>?_) (fun h=>?_)|refine w3 ?_|refine w4 (fun h=>?_) (fun h=>?_)|refine w5 _ rfl ?_|refine w6 rfl ?_|refine w7 mixed rfl ?_)
      all_goals conv=>whnf
      all_goals exact FinP.drop (n:=0) rfl (Nat.le_refl 0) rfl rfl (.inl ⟨by rw [e]; decide,Eq.trans (b:=V.tup [.d .nilmap,I 300]) rfl (by rw [e]),rfl⟩)
     by_cases c3 : m.home ∈ cs
     rotate_left
     ·have e:=hfl fun h=>c3 (hO.2 h).2.2.1
      repeat' ((conv=>whnf); first|refine w8 (w19 hlt2) ?_|refine w10 kk _ rfl r2 ?_|refine w9 (q1f c1) ?_|refine MapF.memM ((l.take i).flatten ++ r.take kk) m (fun h=>absurd h c2) (fun h=>?_)|refine contains_c cs _ hcs ?_|refine w9 (cF _ c3) ?_|refine w0 ?_|refine w1 ?_|refine w2 (fun h=>?_) (fun h=>?_)|refine w3 ?_|refine w4 (fun h=>?_) (fun h=>?_)|refine w5 _ rfl ?_|refine w6 rfl ?_|refine w7 mixed rfl ?_)
      all_goals conv=>whnf
      all_goals exact FinP.drop (n:=0) rfl (Nat.le_refl 0) rfl rfl (.inl ⟨by rw [e]; decide,Eq.trans (b:=V.tup [.d .nilmap,I 300]) rfl (by rw [e]),rfl⟩)
     by_cases c4 : m.away ∈ cs
     rotate_left
     ·have e:=hfl fun h=>c4 (hO.2 h).2.2.2.1
      repeat' ((conv=>whnf); first|refine w8 (w19 hlt2) ?_|refine w10 kk _ rfl r2 ?_|refine w9 (q1f c1) ?_|refine MapF.memM ((l.take i).flatten ++ r.take kk) m (fun h=>absurd h c2) (fun h=>?_)|refine contains_c cs _ hcs ?_|refine w8 (cT _ c3) ?_|refine w9 (cF _ c4) ?_|refine w0 ?_|refine w1 ?_|refine w2 (fun h=>?_) (fun h=>?_)|refine w3 ?_|refine w4 (fun h=>?_) (fun h=>?_)|refine w5 _ rfl ?_|refine w6 rfl ?_|refine w7 mixed rfl ?_)
      all_goals conv=>whnf
      all_goals exact FinP.drop (n:=0) rfl (Nat.le_refl 0) rfl rfl (.inl ⟨by rw [e]; decide,Eq.trans (b:=V.tup [.d .nilmap,I 300]) rfl (by rw [e]),rfl⟩)
     obtain ⟨hn,ehn,bhn⟩:=field_192 hv c3
     obtain ⟨an,ean,ban⟩:=field_192 hv c4
     by_cases c5 : (hn : Int) ∈ busyL (r.take kk)
     ·have e:=hfl fun h=>(hO.2 h).2.2.2.2.1 (by rw [ehn]; exact c5)
      repeat' ((conv=>whnf); first|refine w8 (w19 hlt2) ?_|refine w10 kk _ rfl r2 ?_|refine w9 (q1f c1) ?_|refine MapF.memM ((l.take i).flatten ++ r.take kk) m (fun h=>absurd h c2) (fun h=>?_)|refine contains_c cs _ hcs ?_|refine w8 (cT _ c3) ?_|refine w8 (cT _ c4) ?_|refine IdxN.intro hn ehn bhn ?_|refine IdxN.intro an ean ban ?_|simp only [bsA_len,ble_192 bhn,ble_192 ban,bsA_get _ bhn,bsA_get _ ban]|refine w8 (w19 c5) ?_|refine w0 ?_|refine w1 ?_|refine w2 (fun h=>?_) (fun h=>?_)|refine w3 ?_|refine w4 (fun h=>?_) (fun h=>?_)|refine w5 _ rfl ?_|refine w6 rfl ?_|refine w7 mixed rfl ?_)
      all_goals conv=>whnf
      all_goals exact FinP.drop (n:=0) rfl (Nat.le_refl 0) rfl rfl (.inl ⟨by rw [e]; decide,Eq.trans (b:=V.tup [.d .nilmap,I 300]) rfl (by rw [e]),rfl⟩)
     by_cases c6 : (an : Int) ∈ busyL (r.take kk)
     ·have e:=hfl fun h=>(hO.2 h).2.2.2.2.2 (by rw [ean]; exact c6)
      repeat' ((conv=>whnf); first|refine w8 (w19 hlt2) ?_|refine w10 kk _ rfl r2 ?_|refine w9 (q1f c1) ?_|refine MapF.memM ((l.take i).flatten ++ r.take kk) m (fun h=>absurd h c2) (fun h=>?_)|refine contains_c cs _ hcs ?_|refine w8 (cT _ c3) ?_|refine w8 (cT _ c4) ?_|refine IdxN.intro hn ehn bhn ?_|refine IdxN.intro an ean ban ?_|simp only [bsA_len,ble_192 bhn,ble_192 ban,bsA_get _ bhn,bsA_get _ ban]|refine w9 (w20 c5) ?_|refine w8 (w19 c6) ?_|refine w0 ?_|refine w1 ?_|refine w2 (fun h=>?_) (fun h=>?_)|refine w3 ?_|refine w4 (fun h=>?_) (fun h=>?_)|refine w5 _ rfl ?_|refine w6 rfl ?_|refine w7 mixed rfl ?_)
      all_goals conv=>whnf
      all_goals exact FinP.drop (n:=0) rfl (Nat.le_refl 0) rfl rfl (.inl ⟨by rw [e]; decide,Eq.trans (b:=V.tup [.d .nilmap,I 300]) rfl (by rw [e]),rfl⟩)
     repeat' ((conv=>whnf); first|refine w8 (w19 hlt2) ?_|refine w10 kk _ rfl r2 ?_|refine w9 (q1f c1) ?_|refine MapF.memM ((l.take i).flatten ++ r.take kk) m (fun h=>absurd h c2) (fun h=>?_)|refine contains_c cs _ hcs ?_|refine w8 (cT _ c3) ?_|refine w8 (cT _ c4) ?_|refine IdxN.intro hn ehn bhn ?_|refine IdxN.intro an ean ban ?_|simp only [bsA_len,ble_192 bhn,ble_192 ban,bsA_get _ bhn,bsA_get _ ban]|refine w9 (w20 c5) ?_|refine w9 (w20 c6) ?_|refine w0 ?_|refine w1 ?_|refine w2 (fun h=>?_) (fun h=>?_)|refine w3 ?_|refine w4 (fun h=>?_) (fun h=>?_)|refine w5 _ rfl ?_|refine w6 rfl ?_|refine w7 mixed rfl ?_)
     have hnext : [Blk.cells [.d (lisD l)],.map (esM ((l.take i).flatten ++ r.take kk) ++ [(mtV m,B true)]),.cells (bsA (busyL (r.take kk) ++ [(hn : Int)] ++ [(an : Int)]))] = yL l i r (kk + 1):=by
      have e1 : ∀ (A : List Mt) (x : Mt),esM (A ++ [x]) = esM A ++ [(mtV x,B true)]:=fun A x=>by unfold esM; rw [List.map_append]; rfl
      have e2 : ∀ (A : List Mt) (x : Mt),busyL (A ++ [x]) = busyL A ++ [x.home] ++ [x.away]:=fun A x=>by unfold busyL; rw [List.flatMap_append,List.append_assoc]; rfl
      unfold yL
      rw [take_next hk',← List.append_assoc,e1,e2,← hm,← ehn,← ean]
     refine DrawP.por mixed [1,3,5] [[(0,0),(2,0),(4,0),(1,2),(3,2),(5,2),(6,0),(7,0),(8,0),(9,0),(10,0)],[(0,0),(2,0),(4,0),(1,2),(3,2),(6,0),(7,1),(5,2),(8,0),(9,0),(10,0)],[(0,0),(2,0),(4,0),(1,2),(3,2),(6,0),(7,1),(8,0),(5,2),(9,0),(10,0)],[(0,0),(2,0),(4,0),(1,2),(5,2),(3,2),(6,0),(7,0),(8,0),(9,0),(10,0)],[(0,0),(2,0),(4,0),(1,2),(5,2),(6,0),(3,2),(7,0),(8,0),(9,0),(10,0)],[(0,0),(2,0),(4,0),(1,2),(6,0),(3,2),(7,1),(5,2),(8,0),(9,0),(10,0)],[(0,0),(2,0),(4,0),(1,2),(6,0),(3,2),(7,1),(8,0),(5,2),(9,0),(10,0)],[(0,0),(2,0),(4,0),(1,2),(6,0),(5,2),(3,2),(7,0),(8,0),(9,0),(10,0)],[(0,0),(2,0),(4,0),(3,2),(1,2),(5,2),(6,0),(7,0),(8,0),(9,0),(10,0)],[(0,0),(2,0),(4,0),(3,2),(1,2),(6,0),(7,1),(5,2),(8,0),(9,0),(10,0)],[(0,0),(2,0),(4,0),(3,2),(1,2),(6,0),(7,1),(8,0),(5,2),(9,0),(10,0)],[(0,0),(2,0),(4,0),(3,2),(5,2),(1,2),(6,0),(7,0),(8,0),(9,0),(10,0)],[(0,0),(2,0),(4,0),(5,2),(1,2),(3,2),(6,0),(7,0),(8,0),(9,0),(10,0)],[(0,0),(2,0),(4,0),(5,2),(1,2),(6,0),(3,2),(7,0),(8,0),(9,0),(10,0)],[(0,0),(2,0),(4,0),(5,2),(3,2),(1,2),(6,0),(7,0),(8,0),(9,0),(10,0)]] (by kernel_rfl) ?_
     conv=>whnf
     refine And.intro ?_ ?_
     rotate_left 1
     conv=>whnf
     refine And.intro ?_ ?_
     rotate_left 1
     conv=>whnf
     refine And.intro ?_ ?_
     rotate_left 1
     conv=>whnf
     refine And.intro ?_ ?_
     rotate_left 1
     conv=>whnf
     refine And.intro ?_ ?_
     rotate_left 1
     conv=>whnf
     refine And.intro ?_ ?_
     rotate_left 1
     conv=>whnf
     refine And.intro ?_ ?_
     rotate_left 1
     conv=>whnf
     refine And.intro ?_ ?_
     rotate_left 1
     conv=>whnf
     refine And.intro ?_ ?_
     rotate_left 1
     conv=>whnf
     refine And.intro ?_ ?_
     rotate_left 1
     conv=>whnf
     refine And.intro ?_ ?_
     rotate_left 1
     conv=>whnf
     refine And.intro ?_ ?_
     rotate_left 1
     conv=>whnf
     refine And.intro ?_ ?_
     rotate_left 1
     conv=>whnf
     refine And.intro ?_ ?_
     all_goals
      repeat' ((conv=>whnf); first|refine w13 (mtV m) _ ⟨rfl,rfl⟩ ?_|refine w13 (I m.home) _ ⟨rfl,rfl⟩ ?_|refine w13 (I m.away) _ ⟨rfl,rfl⟩ ?_|refine MapF.memM ((l.take i).flatten ++ r.take kk) m (fun h=>absurd h c2) (fun _=>?_)|refine IdxN.intro hn ehn bhn ?_|refine IdxN.intro an ean ban ?_|simp only [bsA_len,ble_192 bhn,ble_192 ban,bsA_put _ bhn,bsA_put _ ban]|refine w0 ?_|refine w1 ?_|refine w2 (fun h=>?_) (fun h=>?_)|refine w3 ?_|refine w4 (fun h=>?_) (fun h=>?_)|refine w5 _ rfl ?_|refine w6 rfl ?_|refine w7 mixed rfl ?_)
     all_goals conv=>whnf
     all_goals exact ⟨kk + 1,⟨hk',fun j hj hji=>by
      by_cases e : j = kk
      ·subst e; exact hO.1 ⟨c1,c2,c3,c4,fun h=>c5 (by rw [← ehn]; exact h),fun h=>c6 (by rw [← ean]; exact h)⟩
      ·exact hkok j hj (by omega)⟩,by omega,Weak.to 3 (Eq.trans rfl hnext) (w22 _) (w18 rfl) ⟨rfl,rfl,rfl,rfl,rfl,rfl,rfl,rfl,rfl,congrArg I hw2,trivial⟩ (hB:=yL_bel 3 l _ _ _)⟩
    ·have hlt2 : ¬ (kk : Int) < (r.length : Int):=by omega
     have hkr : r.take kk = r:=List.take_of_length_le (by omega)
     repeat' ((conv=>whnf); first|refine w9 (w20 hlt2) ?_|refine w0 ?_|refine w1 ?_|refine w2 (fun h=>?_) (fun h=>?_)|refine w3 ?_|refine w4 (fun h=>?_) (fun h=>?_)|refine w5 _ rfl ?_|refine w6 rfl ?_|refine w7 mixed rfl ?_)
     conv=>whnf
     have hfx : (l.take (i + 1)).flatten = (l.take i).flatten ++ r:=by rw [take_next hi',List.flatten_append,← hr1]; simp
     exact ⟨i + 1,⟨hi',fun j hj hji=>by
      by_cases e : j = i
      ·subst e; intro k hk3; subst hr1; exact hkok k hk3 (by omega)
      ·exact hok j hj (by omega)⟩,by omega,Weak.to 2 (Eq.trans (b:=[Blk.cells [.d (lisD l)],.map (esM ((l.take i).flatten ++ r.take kk))]) rfl (by rw [hkr,← hfx]; rfl)) (Nat.zero_le _) (Nat.le_of_ble_eq_true rfl) ⟨rfl,rfl,rfl,rfl,rfl,congrArg I hw,trivial⟩ (hB:=xL_bel 2 l _)⟩
   ·have hlt : ¬ (i : Int) < (l.length : Int):=by omega
    have e : fixE l cs = 0:=by
     unfold fixE; rw [if_pos hv,if_pos hl46,if_pos (show FixP l cs from fun j hj k hk=>hok j hj (by omega) k hk)]
    repeat' ((conv=>whnf); first|refine w9 (w20 hlt) ?_|refine w0 ?_|refine w1 ?_|refine w2 (fun h=>?_) (fun h=>?_)|refine w3 ?_|refine w4 (fun h=>?_) (fun h=>?_)|refine w5 _ rfl ?_|refine w6 rfl ?_|refine w7 mixed rfl ?_)
    conv=>whnf
    have ht : l.take i = l:=List.take_of_length_le (by omega)
    refine FinP.part [1] [.map (esM (l.take i).flatten)] (Part.one rfl (esM_rn _ _) (esM_bel _ _) rfl) (fun b hb=>absurd hb (Nat.not_lt_zero b)) (X':=.tup [.map 0,I 0]) rfl rfl (.inr ⟨e,rfl,by rw [ht]⟩)
  ·have e : fixE l cs = 2:=by unfold fixE; rw [if_pos hv,if_neg hl46]
   have h46 : (46 : Int) < ((l.map fun r=>[mts r]).length : Int):=by rw [List.length_map]; omega
   repeat' ((conv=>whnf); first|refine fvalid_c cs hcs ?_|refine w8 hv ?_|refine w8 (w19 h46) ?_|refine w0 ?_|refine w1 ?_|refine w2 (fun h=>?_) (fun h=>?_)|refine w3 ?_|refine w4 (fun h=>?_) (fun h=>?_)|refine w5 _ rfl ?_|refine w6 rfl ?_|refine w7 mixed rfl ?_)
   conv=>whnf
   exact FinP.drop (n:=0) rfl (Nat.le_refl 0) rfl rfl (.inl ⟨by rw [e]; decide,Eq.trans (b:=V.tup [.d .nilmap,I 2]) rfl (by rw [e]),rfl⟩)
end Go.Proofs.YtndlggbljkhfbaaGreat
namespace Go.Proofs.YtndlggbljkhfbaaGreat
open Go.Tidy
variable {L : List Blk} {k : V → List Blk → Prop}
def backM (m : Mt) : Mt:=⟨m.away,m.home⟩
end Go.Proofs.YtndlggbljkhfbaaGreat
namespace Go.Proofs.YtndlggbljkhfbaaGreat
open Go.Tidy
variable {L : List Blk} {k : V → List Blk → Prop}
def GamesP (met : List Mt) (dbl : Bool) (a b : Int) : Prop:=if dbl = true then (⟨a,b⟩ : Mt) ∈ met ∧ (⟨b,a⟩ : Mt) ∈ met else ((⟨a,b⟩ : Mt) ∈ met ↔ (⟨b,a⟩ : Mt) ∉ met)
def FullX (met : List Mt) (cs : List Int) (dbl : Bool) : Prop:=∀ (i : Nat) (hi : i < cs.length) (j : Nat) (hj : j < i),GamesP met dbl cs[i] (cs[j]'(by omega))
open Classical in
noncomputable def fullB (l : List (List Mt)) (cs : List Int) (dbl : Bool) : Bool:=if fixE l cs = 0 ∧ FullX l.flatten cs dbl then true else false
theorem esM_sh (m : Nat) (ks : List Mt) : (Blk.map (esM ks)).sh m = .map (esM ks):=by
 rw [Blk.sh]
 refine congrArg Blk.map ?_
 induction ks with
 | nil=>rfl
 | cons a ks ih=>unfold esM at ih ⊢; rw [List.map_cons,shM,ih]; rfl
theorem lenC (cs : List Int) : ∀ e ∈ cs.map (fun n=>[DI n]),e.length = 1:=by
 intro e he; obtain ⟨x,_,rfl⟩:=List.mem_map.1 he; rfl
def mapS (l : List (List Mt)) : List Blk:=[.cells [.d (lisD l)],.map (esM l.flatten)]
theorem ffull_c (l : List (List Mt)) (cs : List Int) (dbl : Bool) (hl : l.length ≤ 1073741824) (hr : ∀ r ∈ l,r.length ≤ 4611686018427387904) (hcs : cs.length ≤ 4611686018427387904) (h : k (.tup [B (fullB l cs dbl),I (fixE l cs)]) L) :
  CallP C 16 [lisV l,.d (ints cs),B dbl] L k:=by
 refine CallP.pure ?_ rfl (fun _=>rfl) h
 clear h
 refine callP_of C_ok Tryz.func16 rfl rfl (n:=_) rfl (w18 rfl) (rs:=_) rfl ?_
 conv=>whnf
 refine CallP.frame (matches_c l cs hl hr hcs) rfl ?_
 rintro X L' (⟨e,rfl,rfl⟩ | ⟨e,rfl,rfl⟩)
 ·have hf : fullB l cs dbl = false:=by unfold fullB; exact if_neg fun h=>e h.1
  rw [hf]
  repeat' ((conv=>whnf); first|refine w8 (w19 e) ?_|refine w9 (w20 e) ?_|refine w0 ?_|refine w1 ?_|refine w2 (fun h=>?_) (fun h=>?_)|refine w3 ?_|refine w4 (fun h=>?_) (fun h=>?_)|refine w5 _ rfl ?_|refine w6 rfl ?_|refine w7 mixed rfl ?_)
  all_goals conv=>whnf
  all_goals exact FinP.drop (n:=0) rfl (w21 0) rfl rfl ⟨rfl,rfl⟩
 ·have hno : ∀ (i : Nat) (hi : i < cs.length) (j : Nat) (hj : j < i),¬ GamesP l.flatten dbl cs[i] (cs[j]'(by omega)) → fullB l cs dbl = false:=fun i hi j hj h=>by
   unfold fullB; exact if_neg fun hh=>h (hh.2 i hi j hj)
  repeat' ((conv=>whnf); first|refine w8 (w19 (rfl : (0 : Int) = 0)) ?_|refine w0 ?_|refine w1 ?_|refine w2 (fun h=>?_) (fun h=>?_)|refine w3 ?_|refine w4 (fun h=>?_) (fun h=>?_)|refine w5 _ rfl ?_|refine w6 rfl ?_|refine w7 mixed rfl ?_)
  conv=>whnf
  refine LoopP.inv (fun i=>i ≤ cs.length ∧ ∀ (a : Nat) (ha : a < cs.length),a < i → ∀ (j : Nat) (hj : j < a),GamesP l.flatten dbl cs[a] (cs[j]'(by omega))) (fun i=>⟨[(1,.d (ints cs)),(2,B dbl),(8,.map 1),(24,.d (ints cs)),(25,I cs.length),(26,I i)],Tryz.f16.ntmps,mapS l,[],none⟩) (fun i=>cs.length - i) 0 ⟨w22 _,fun j _ h=>absurd h (Nat.not_lt_zero j)⟩ ?_ ?_
  ·exact Weak.by ⟨rfl,rfl,rfl,rfl,congrArg I (by simp),rfl,trivial⟩ (hL:=Eq.trans (b:=[Blk.cells [.d (lisD l)],(Blk.map (esM l.flatten)).sh _]) rfl (by rw [esM_sh]; rfl))
  rintro i ⟨hi,hok⟩
  by_cases hi' : i < cs.length
  ·have hlt : (i : Int) < (cs.length : Int):=by omega
   have hw : IntKind.i64.wrap ((i : Int) + 1) = ((i + 1 : Nat) : Int):=by rw [wrap_in (by omega)]; omega
   have r1 : (cs.map fun c=>[DI c])[i]? = some [DI cs[i]]:=by rw [List.getElem?_map,List.getElem?_eq_getElem hi']; rfl
   repeat' ((conv=>whnf); first|refine w8 (w19 hlt) ?_|refine w10 i _ rfl r1 ?_|refine w6 (lenC cs) ?_|refine SliceP.intro 0 i rfl rfl (w22 _) (by rw [List.length_map]; omega) ?_|refine w0 ?_|refine w1 ?_|refine w2 (fun h=>?_) (fun h=>?_)|refine w3 ?_|refine w4 (fun h=>?_) (fun h=>?_)|refine w5 _ rfl ?_|refine w6 rfl ?_|refine w7 mixed rfl ?_)
   conv=>whnf
   refine LoopP.inv (fun j=>j ≤ i ∧ ∀ (a : Nat) (ha : a < i),a < j → GamesP l.flatten dbl cs[i] (cs[a]'(by omega))) (fun j=>⟨[(1,.d (ints cs)),(2,B dbl),(8,.map 1),(24,.d (ints cs)),(25,I cs.length),(26,I i),(10,I cs[i]),(33,.d (ints (cs.take i))),(34,I i),(35,I j)],Tryz.f16.ntmps,mapS l,[],none⟩) (fun j=>i - j) 0 ⟨w22 _,fun j _ h=>absurd h (Nat.not_lt_zero j)⟩ ?_ ?_
   ·exact Weak.by ⟨rfl,rfl,rfl,rfl,rfl,rfl,rfl,congrArg (fun x=>V.d (D.sl x)) (by show ((cs.map fun c=>[DI c]).drop 0).take (i - 0) = (cs.take i).map fun c=>[DI c]; rw [List.drop_zero,Nat.sub_zero,List.map_take]),congrArg (fun n : Nat=>I (n : Int)) (by show (((cs.map fun c=>[DI c]).drop 0).take (i - 0)).length = i; simp; omega),rfl,trivial⟩
   rintro j ⟨hj,hjok⟩
   by_cases hj' : j < i
   ·have hlt2 : (j : Int) < (i : Int):=by omega
    have hw2 : IntKind.i64.wrap ((j : Int) + 1) = ((j + 1 : Nat) : Int):=by rw [wrap_in (by omega)]; omega
    have hjc : j < cs.length:=by omega
    obtain ⟨a,ha⟩ : ∃ a,a = cs[i]:=⟨_,rfl⟩
    obtain ⟨b,hb⟩ : ∃ b,b = cs[j]:=⟨_,rfl⟩
    have r2 : ((cs.take i).map fun c=>[DI c])[j]? = some [DI b]:=by rw [List.getElem?_map,List.getElem?_take,if_pos hj',List.getElem?_eq_getElem hjc,hb]; rfl
    have hnx : GamesP l.flatten dbl a b → ∀ (x : Nat) (hx : x < i),x < j + 1 → GamesP l.flatten dbl cs[i] (cs[x]'(by omega)):=fun hg x hx hxj=>by
     by_cases e : x = j
     ·subst e; rw [← ha,← hb]; exact hg
     ·exact hjok x hx (by omega)
    have hfl : ¬ GamesP l.flatten dbl a b → fullB l cs dbl = false:=fun h=>hno i hi' j hj' (by rw [← ha,← hb]; exact h)
    rw [← ha]
    by_cases c1 : (⟨a,b⟩ : Mt) ∈ l.flatten
    ·by_cases c2 : (⟨b,a⟩ : Mt) ∈ l.flatten
     ·cases dbl with
      | false =>
       repeat' ((conv=>whnf); first|refine w8 (w19 hlt2) ?_|refine w10 j _ rfl r2 ?_|refine MapF.memM l.flatten ⟨a,b⟩ (fun h y=>?_) (fun h=>absurd c1 h)|refine MapF.memM l.flatten ⟨b,a⟩ (fun h y=>?_) (fun h=>absurd c2 h)|refine w0 ?_|refine w1 ?_|refine w2 (fun h=>?_) (fun h=>?_)|refine w3 ?_|refine w4 (fun h=>?_) (fun h=>?_)|refine w5 _ rfl ?_|refine w6 rfl ?_|refine w7 mixed rfl ?_)
       all_goals conv=>whnf
       have hg : ¬ GamesP l.flatten false a b:=by unfold GamesP; rw [if_neg (by decide)]; exact fun h=>(h.1 c1) c2
       have hf:=hfl hg
       exact FinP.drop (n:=0) rfl (Nat.le_refl 0) rfl rfl ⟨rfl,Eq.trans (b:=V.tup [B false,I 0]) rfl (by rw [hf,e])⟩
      | true =>
       repeat' ((conv=>whnf); first|refine w8 (w19 hlt2) ?_|refine w10 j _ rfl r2 ?_|refine MapF.memM l.flatten ⟨a,b⟩ (fun h y=>?_) (fun h=>absurd c1 h)|refine MapF.memM l.flatten ⟨b,a⟩ (fun h y=>?_) (fun h=>absurd c2 h)|refine w0 ?_|refine w1 ?_|refine w2 (fun h=>?_) (fun h=>?_)|refine w3 ?_|refine w4 (fun h=>?_) (fun h=>?_)|refine w5 _ rfl ?_|refine w6 rfl ?_|refine w7 mixed rfl ?_)
       all_goals conv=>whnf
       have hg : GamesP l.flatten true a b:=by unfold GamesP; rw [if_pos rfl]; exact ⟨c1,c2⟩
       exact ⟨j + 1,⟨hj',by have:=hnx hg; rw [← ha] at this; exact this⟩,by omega,Weak.by ⟨rfl,rfl,rfl,rfl,rfl,rfl,rfl,rfl,rfl,congrArg I hw2,trivial⟩⟩
     ·cases dbl with
      | false =>
       repeat' ((conv=>whnf); first|refine w8 (w19 hlt2) ?_|refine w10 j _ rfl r2 ?_|refine MapF.memM l.flatten ⟨a,b⟩ (fun h y=>?_) (fun h=>absurd c1 h)|refine MapF.memM l.flatten ⟨b,a⟩ (fun h y=>absurd h c2) (fun h=>?_)|refine w0 ?_|refine w1 ?_|refine w2 (fun h=>?_) (fun h=>?_)|refine w3 ?_|refine w4 (fun h=>?_) (fun h=>?_)|refine w5 _ rfl ?_|refine w6 rfl ?_|refine w7 mixed rfl ?_)
       all_goals conv=>whnf
       have hg : GamesP l.flatten false a b:=by unfold GamesP; rw [if_neg (by decide)]; exact ⟨fun _=>c2,fun _=>c1⟩
       exact ⟨j + 1,⟨hj',by have:=hnx hg; rw [← ha] at this; exact this⟩,by omega,Weak.by ⟨rfl,rfl,rfl,rfl,rfl,rfl,rfl,rfl,rfl,congrArg I hw2,trivial⟩⟩
      | true =>
       repeat' ((conv=>whnf); first|refine w8 (w19 hlt2) ?_|refine w10 j _ rfl r2 ?_|refine MapF.memM l.flatten ⟨a,b⟩ (fun h y=>?_) (fun h=>absurd c1 h)|refine MapF.memM l.flatten ⟨b,a⟩ (fun h y=>absurd h c2) (fun h=>?_)|refine w0 ?_|refine w1 ?_|refine w2 (fun h=>?_) (fun h=>?_)|refine w3 ?_|refine w4 (fun h=>?_) (fun h=>?_)|refine w5 _ rfl ?_|refine w6 rfl ?_|refine w7 mixed rfl ?_)
       all_goals conv=>whnf
       have hg : ¬ GamesP l.flatten true a b:=by unfold GamesP; rw [if_pos rfl]; exact fun h=>c2 h.2
       have hf:=hfl hg
       exact FinP.drop (n:=0) rfl (Nat.le_refl 0) rfl rfl ⟨rfl,Eq.trans (b:=V.tup [B false,I 0]) rfl (by rw [hf,e])⟩
    ·by_cases c2 : (⟨b,a⟩ : Mt) ∈ l.flatten
     ·cases dbl with
      | false =>
       repeat' ((conv=>whnf); first|refine w8 (w19 hlt2) ?_|refine w10 j _ rfl r2 ?_|refine MapF.memM l.flatten ⟨a,b⟩ (fun h y=>absurd h c1) (fun h=>?_)|refine MapF.memM l.flatten ⟨b,a⟩ (fun h y=>?_) (fun h=>absurd c2 h)|refine w0 ?_|refine w1 ?_|refine w2 (fun h=>?_) (fun h=>?_)|refine w3 ?_|refine w4 (fun h=>?_) (fun h=>?_)|refine w5 _ rfl ?_|refine w6 rfl ?_|refine w7 mixed rfl ?_)
       all_goals conv=>whnf
       have hg : GamesP l.flatten false a b:=by unfold GamesP; rw [if_neg (by decide)]; exact ⟨fun h=>absurd h c1,fun h=>absurd c2 h⟩
       exact ⟨j + 1,⟨hj',by have:=hnx hg; rw [← ha] at this; exact this⟩,by omega,Weak.by ⟨rfl,rfl,rfl,rfl,rfl,rfl,rfl,rfl,rfl,congrArg I hw2,trivial⟩⟩
      | true =>
       repeat' ((conv=>whnf); first|refine w8 (w19 hlt2) ?_|refine w10 j _ rfl r2 ?_|refine MapF.memM l.flatten ⟨a,b⟩ (fun h y=>absurd h c1) (fun h=>?_)|refine MapF.memM l.flatten ⟨b,a⟩ (fun h y=>?_) (fun h=>absurd c2 h)|refine w0 ?_|refine w1 ?_|refine w2 (fun h=>?_) (fun h=>?_)|refine w3 ?_|refine w4 (fun h=>?_) (fun h=>?_)|refine w5 _ rfl ?_|refine w6 rfl ?_|refine w7 mixed rfl ?_)
       all_goals conv=>whnf
       have hg : ¬ GamesP l.flatten true a b:=by unfold GamesP; rw [if_pos rfl]; exact fun h=>c1 h.1
       have hf:=hfl hg
       exact FinP.drop (n:=0) rfl (Nat.le_refl 0) rfl rfl ⟨rfl,Eq.trans (b:=V.tup [B false,I 0]) rfl (by rw [hf,e])⟩
     ·cases dbl with
      | false =>
       repeat' ((conv=>whnf); first|refine w8 (w19 hlt2) ?_|refine w10 j _ rfl r2 ?_|refine MapF.memM l.flatten ⟨a,b⟩ (fun h y=>absurd h c1) (fun h=>?_)|refine MapF.memM l.flatten ⟨b,a⟩ (fun h y=>absurd h c2) (fun h=>?_)|refine w0 ?_|refine w1 ?_|refine w2 (fun h=>?_) (fun h=>?_)|refine w3 ?_|refine w4 (fun h=>?_) (fun h=>?_)|refine w5 _ rfl ?_|refine w6 rfl ?_|refine w7 mixed rfl ?_)
       all_goals conv=>whnf
       have hg : ¬ GamesP l.flatten false a b:=by unfold GamesP; rw [if_neg (by decide)]; exact fun h=>c1 (h.2 c2)
       have hf:=hfl hg
       exact FinP.drop (n:=0) rfl (Nat.le_refl 0) rfl rfl ⟨rfl,Eq.trans (b:=V.tup [B false,I 0]) rfl (by rw [hf,e])⟩
      | true =>
       repeat' ((conv=>whnf); first|refine w8 (w19 hlt2) ?_|refine w10 j _ rfl r2 ?_|refine MapF.memM l.flatten ⟨a,b⟩ (fun h y=>absurd h c1) (fun h=>?_)|refine MapF.memM l.flatten ⟨b,a⟩ (fun h y=>absurd h c2) (fun h=>?_)|refine w0 ?_|refine w1 ?_|refine w2 (fun h=>?_) (fun h=>?_)|refine w3 ?_|refine w4 (fun h=>?_) (fun h=>?_)|refine w5 _ rfl ?_|refine w6 rfl ?_|refine w7 mixed rfl ?_)
       all_goals conv=>whnf
       have hg : ¬ GamesP l.flatten true a b:=by unfold GamesP; rw [if_pos rfl]; exact fun h=>c1 h.1
       have hf:=hfl hg
       exact FinP.drop (n:=0) rfl (Nat.le_refl 0) rfl rfl ⟨rfl,Eq.trans (b:=V.tup [B false,I 0]) rfl (by rw [hf,e])⟩
   ·have hlt2 : ¬ (j : Int) < (i : Int):=by omega
    repeat' ((conv=>whnf); first|refine w9 (w20 hlt2) ?_|refine w0 ?_|refine w1 ?_|refine w2 (fun h=>?_) (fun h=>?_)|refine w3 ?_|refine w4 (fun h=>?_) (fun h=>?_)|refine w5 _ rfl ?_|refine w6 rfl ?_|refine w7 mixed rfl ?_)
    conv=>whnf
    exact ⟨i + 1,⟨hi',fun x hx hxi=>by
     by_cases e : x = i
     ·subst e; exact fun y hy=>hjok y hy (by omega)
     ·exact hok x hx (by omega)⟩,by omega,Weak.by ⟨rfl,rfl,rfl,rfl,rfl,congrArg I hw,trivial⟩⟩
  ·have hlt : ¬ (i : Int) < (cs.length : Int):=by omega
   have hf : fullB l cs dbl = true:=by
    unfold fullB; exact if_pos ⟨e,fun x hx y hy=>hok x hx (by omega) y hy⟩
   rw [hf,e]
   repeat' ((conv=>whnf); first|refine w9 (w20 hlt) ?_|refine w0 ?_|refine w1 ?_|refine w2 (fun h=>?_) (fun h=>?_)|refine w3 ?_|refine w4 (fun h=>?_) (fun h=>?_)|refine w5 _ rfl ?_|refine w6 rfl ?_|refine w7 mixed rfl ?_)
   conv=>whnf
   exact FinP.drop (n:=0) rfl (w21 0) rfl rfl ⟨rfl,rfl⟩
end Go.Proofs.YtndlggbljkhfbaaGreat
namespace Go.Proofs.YtndlggbljkhfbaaGreat
open Go.Tidy
theorem flat_ind {l : List (List Mt)} {S : List Mt → Prop} (h0 : S [])
  (hs : ∀ (i : Nat) (hi : i < l.length) (k : Nat) (hk : k < l[i].length),S ((l.take i).flatten ++ l[i].take k) → S ((l.take i).flatten ++ l[i].take k ++ [l[i][k]])) : S l.flatten:=by
 have key : ∀ i,i ≤ l.length → S (l.take i).flatten:=by
  intro i
  induction i with
  | zero=>intro _; exact h0
  | succ i ih =>
   intro hi
   have hi' : i < l.length:=by omega
   have inner : ∀ k,k ≤ l[i].length → S ((l.take i).flatten ++ l[i].take k):=by
    intro k
    induction k with
    | zero=>intro _; rw [List.take_zero,List.append_nil]; exact ih (by omega)
    | succ k ih2 =>
     intro hk
     have:=hs i hi' k (by omega) (ih2 (by omega))
     rw [take_next (by omega),← List.append_assoc]; exact this
   have:=inner l[i].length (w21 _)
   rw [List.take_length] at this
   rw [take_next hi',List.flatten_append]
   simpa using this
 have:=key l.length (w21 _)
 rwa [List.take_length] at this
theorem backM_back (m : Mt) : backM (backM m) = m:=rfl
def pairsL (cs : List Int) : List Mt:=cs.flatMap fun a=>(cs.filter fun b=>!decide (b = a)).map fun b=>⟨a,b⟩
theorem mem_pairs {cs : List Int} {m : Mt} (h1 : m.home ∈ cs) (h2 : m.away ∈ cs) (h3 : m.home ≠ m.away) : m ∈ pairsL cs:=by
 unfold pairsL
 refine List.mem_flatMap.2 ⟨m.home,h1,List.mem_map.2 ⟨m.away,List.mem_filter.2 ⟨h2,?_⟩,rfl⟩⟩
 simp only [Bool.not_eq_true',decide_eq_false_iff_not]
 exact fun e=>h3 e.symm
theorem filter_ne {cs : List Int} {a : Int} (h : a ∈ cs) : (cs.filter fun b=>!decide (b = a)).length ≤ cs.length - 1:=by
 induction cs with
 | nil=>simp at h
 | cons c cs ih =>
  have hle : (cs.filter fun b=>!decide (b = a)).length ≤ cs.length:=List.length_filter_le _ _
  by_cases e : c = a
  ·rw [List.filter_cons_of_neg (by simp [e])]; simpa using hle
  ·rw [List.filter_cons_of_pos (by simp [e])]
   have hm : a ∈ cs:=by
    rcases List.mem_cons.1 h with h | h
    ·exact absurd h.symm e
    ·exact h
   have:=ih hm
   have : 0 < cs.length:=List.length_pos_of_mem hm
   simp only [List.length_cons]; omega
theorem sum_le {α : Type} (f : α → Nat) (m : Nat) : ∀ l : List α,(∀ a ∈ l,f a ≤ m) → (l.map f).sum ≤ l.length * m
 | [],_=>by simp
 | a :: l,h=>by
  have:=sum_le f m l fun b hb=>h b (by simp [hb])
  have:=h a (by simp)
  simp only [List.map_cons,List.sum_cons,List.length_cons,Nat.add_mul,Nat.one_mul]; omega
theorem pairs_len (cs : List Int) : (pairsL cs).length ≤ cs.length * (cs.length - 1):=by
 unfold pairsL
 rw [List.length_flatMap]
 exact sum_le _ _ cs fun a ha=>by rw [List.length_map]; exact filter_ne ha
theorem sum_const {α : Type} (f : α → Nat) (m : Nat) : ∀ l : List α,(∀ a ∈ l,f a = m) → (l.map f).sum = l.length * m
 | [],_=>by simp
 | a :: l,h=>by
  have:=sum_const f m l fun b hb=>h b (by simp [hb])
  have:=h a (by simp)
  simp only [List.map_cons,List.sum_cons,List.length_cons,Nat.add_mul,Nat.one_mul]; omega
theorem all_of {N P : List Mt} (hn : N.Nodup) (hs : ∀ m ∈ N,m ∈ P) (hl : P.length ≤ N.length) {x : Mt} (hx : x ∈ P) : x ∈ N:=by
 refine Classical.byContradiction fun h=>?_
 have h2 : (x :: N).Nodup:=List.nodup_cons.2 ⟨h,hn⟩
 have h3 : (x :: N).length ≤ P.length:=List.Nodup.length_le_of_subset h2 (fun y hy=>by
  rcases List.mem_cons.1 hy with rfl | hy
  ·exact hx
  ·exact hs y hy)
 simp only [List.length_cons] at h3; omega
theorem full_len {l : List (List Mt)} {p : Pl} (hF : FullP l p) : l.flatten.length = roundsN p * halfN p:=by
 obtain ⟨hP,hl,hg⟩:=hF
 rw [List.length_flatten,← hl]
 refine sum_const _ _ l fun r hr=>?_
 obtain ⟨i,hi,rfl⟩:=List.getElem_of_mem hr
 obtain ⟨h1,h2,h3,_⟩:=hP.2 i hi
 by_cases e : i + 1 < l.length
 ·have:=h3 e; omega
 ·have : l.getLast? = some l[i]:=by
   rw [List.getLast?_eq_getElem?]
   have : l.length - 1 = i:=by omega
   rw [this,List.getElem?_eq_getElem hi]
  have:=hg _ this; omega
theorem rounds_half (n : Nat) (h : 2 ≤ n) : ((n - 1) / 2 * 2 + 1) * (n / 2) * 2 = n * (n - 1):=by
 have hk : ∃ k,n = 2 * k ∨ n = 2 * k + 1:=⟨n / 2,by omega⟩
 obtain ⟨k,rfl | rfl⟩:=hk
 ·obtain ⟨j,rfl⟩ : ∃ j,k = j + 1:=⟨k - 1,by omega⟩
  have e1 : (2 * (j + 1) - 1) / 2 = j:=by omega
  have e2 : 2 * (j + 1) / 2 = j + 1:=by omega
  have e3 : 2 * (j + 1) - 1 = j * 2 + 1:=by omega
  rw [e1,e2,e3,Nat.mul_comm 2 (j + 1),Nat.mul_assoc,Nat.mul_comm]
 ·have e1 : (2 * k + 1 - 1) / 2 = k:=by omega
  have e2 : (2 * k + 1) / 2 = k:=by omega
  have e3 : 2 * k + 1 - 1 = k * 2:=by omega
  rw [e1,e2,e3,Nat.mul_assoc,Nat.mul_comm k 2]
theorem full_fix {l : List (List Mt)} {p : Pl} (h0 : checkP p = 0) (hF : FullP l p) : FixP l p.clubs:=fun i hi k hk=>by
 obtain ⟨h1,h2,h3,h4,h5,h6,_⟩:=(hF.1.2 i hi).2.2.2.1 k hk
 exact ⟨h1,h6,h2,h3,h4,h5⟩
theorem full_fixE {l : List (List Mt)} {p : Pl} (h0 : checkP p = 0) (hF : FullP l p) : fixE l p.clubs = 0:=by
 have hf:=checkP_field h0
 have hn : p.clubs.length ≤ 24:=by simp only [fieldOk,Bool.and_eq_true,decide_eq_true_eq] at hf; omega
 have hl:=hF.2.1
 have h46 : l.length ≤ 46:=by
  rw [hl]; unfold roundsN
  split <;> omega
 unfold fixE; rw [if_pos hf,if_pos h46,if_pos (full_fix h0 hF)]
theorem full_games {l : List (List Mt)} {p : Pl} (h0 : checkP p = 0) (hF : FullP l p) : FullX l.flatten p.clubs p.double:=by
 have hf:=checkP_field h0
 have hn : 2 ≤ p.clubs.length:=by simp only [fieldOk,Bool.and_eq_true,decide_eq_true_eq] at hf; omega
 have hM:=full_len hF
 have hok : ∀ (i : Nat) (hi : i < l.length) (k : Nat) (hk : k < l[i].length),OkI p (l.take i).flatten l[i] k hk:=fun i hi=>(hF.1.2 i hi).2.2.2.1
 have hnd : l.flatten.Nodup:=flat_ind (S:=List.Nodup) List.nodup_nil fun i hi k hk hS=>by
  rw [List.nodup_append]
  refine ⟨hS,by simp,fun a ha b hb=>?_⟩
  rw [List.mem_singleton.1 hb]
  rintro rfl
  exact (hok i hi k hk).2.2.2.2.2.1 ha
 have hin : ∀ m ∈ l.flatten,m.home ∈ p.clubs ∧ m.away ∈ p.clubs ∧ m.home ≠ m.away:=flat_ind (S:=fun M=>∀ m ∈ M,m.home ∈ p.clubs ∧ m.away ∈ p.clubs ∧ m.home ≠ m.away) (by simp) fun i hi k hk hS m hm=>by
  rcases List.mem_append.1 hm with hm | hm
  ·exact hS m hm
  ·rw [List.mem_singleton.1 hm]
   obtain ⟨h1,h2,h3,_⟩:=hok i hi k hk
   exact ⟨h2,h3,h1⟩
 have hcs : ∀ (i : Nat) (hi : i < p.clubs.length) (j : Nat) (hj : j < i),p.clubs[i] ≠ p.clubs[j]'(by omega):=fun i hi j hj e=>by
  have hp : p.clubs.Pairwise (· < ·):=incr_lt (by simp only [fieldOk,Bool.and_eq_true] at hf; exact hf.1.1)
  have:=List.pairwise_iff_getElem.1 hp j i (by omega) hi hj
  omega
 have hrh:=rounds_half _ hn
 intro i hi j hj
 have ha : p.clubs[i] ∈ p.clubs:=List.getElem_mem hi
 have hb : p.clubs[j]'(by omega) ∈ p.clubs:=List.getElem_mem _
 have hab:=hcs i hi j hj
 unfold GamesP
 cases hd : p.double with
 | true =>
  rw [if_pos rfl]
  have hlen : (pairsL p.clubs).length ≤ l.flatten.length:=by
   rw [hM]
   refine w23 (pairs_len _) ?_
   unfold roundsN halfN; rw [if_pos hd,← hrh,Nat.mul_assoc 2,Nat.mul_comm 2]; exact Nat.le_refl _
  have all:=fun {x : Mt} (hx : x ∈ pairsL p.clubs)=>all_of hnd (fun m hm=>by obtain ⟨h1,h2,h3⟩:=hin m hm; exact mem_pairs h1 h2 h3) hlen hx
  exact ⟨all (mem_pairs ha hb hab),all (mem_pairs hb ha (Ne.symm hab))⟩
 | false =>
  rw [if_neg (by decide)]
  have hbk : ∀ m ∈ l.flatten,backM m ∉ l.flatten:=flat_ind (S:=fun M=>∀ m ∈ M,backM m ∉ M) (by simp) fun i hi k hk hS m hm=>by
   obtain ⟨h1,_,_,_,_,h6,h7,_⟩:=hok i hi k hk
   have h7:=h7 hd
   rcases List.mem_append.1 hm with hm | hm
   ·intro hx
    rcases List.mem_append.1 hx with hx | hx
    ·exact hS m hm hx
    ·have e:=List.mem_singleton.1 hx
     refine h7 ?_
     have : backM (l[i][k]) = m:=by rw [← e]; rfl
     show backM (l[i][k]) ∈ _
     rw [this]; exact hm
   ·rw [List.mem_singleton.1 hm]
    intro hx
    rcases List.mem_append.1 hx with hx | hx
    ·exact h7 hx
    ·have e:=List.mem_singleton.1 hx
     exact h1 (congrArg Mt.home e).symm
  have hN : (l.flatten ++ l.flatten.map backM).Nodup:=by
   rw [List.nodup_append]
   refine ⟨hnd,?_,fun a ha b hb=>?_⟩
   ·exact List.Pairwise.map backM (fun a b h e=>h (by rw [← backM_back a,e]; rfl)) hnd
   ·obtain ⟨m,hm,rfl⟩:=List.mem_map.1 hb
    rintro rfl
    exact hbk m hm ha
  have hlen : (pairsL p.clubs).length ≤ (l.flatten ++ l.flatten.map backM).length:=by
   rw [List.length_append,List.length_map,hM]
   refine w23 (pairs_len _) ?_
   unfold roundsN halfN; rw [if_neg (by rw [hd]; decide),← hrh,Nat.one_mul,Nat.mul_two]; exact Nat.le_refl _
  have all:=fun {x : Mt} (hx : x ∈ pairsL p.clubs)=>all_of hN (fun m hm=>by
   rcases List.mem_append.1 hm with hm | hm
   ·obtain ⟨h1,h2,h3⟩:=hin m hm; exact mem_pairs h1 h2 h3
   ·obtain ⟨y,hy,rfl⟩:=List.mem_map.1 hm
    obtain ⟨h1,h2,h3⟩:=hin y hy; exact mem_pairs h2 h1 (Ne.symm h3)) hlen hx
  constructor
  ·exact fun h=>hbk _ h
  ·intro h
   rcases List.mem_append.1 (all (mem_pairs (m:=⟨p.clubs[i],p.clubs[j]'(by omega)⟩) ha hb hab)) with h1 | h1
   ·exact h1
   ·obtain ⟨y,hy,e⟩:=List.mem_map.1 h1
    exfalso
    refine h ?_
    have : y = backM ⟨p.clubs[i],p.clubs[j]'(by omega)⟩:=by rw [← e]; rfl
    rw [this] at hy; exact hy
theorem full_fullB {l : List (List Mt)} {p : Pl} (h0 : checkP p = 0) (hF : FullP l p) : fullB l p.clubs p.double = true:=by
 unfold fullB; exact if_pos ⟨full_fixE h0 hF,full_games h0 hF⟩
end Go.Proofs.YtndlggbljkhfbaaGreat
namespace Go.Proofs.YtndlggbljkhfbaaGreat
open Go.Tidy
variable {L : List Blk} {k : V → List Blk → Prop}
def FewP (p : Pl) : Prop:=(∀ (i : Nat) (hi : i < p.demands.length),p.demands[i].clubs.length ≤ 30) ∧ p.clubs.length ≤ 5 ∧ p.demands.length ≤ 8
instance (p : Pl) : Decidable (FewP p):=by unfold FewP; infer_instance
def FewL (l : Lst) : Prop:=(l.map List.length).sum ≤ 30 ∧ l.length ≤ 14
instance (l : Lst) : Decidable (FewL l):=by unfold FewL; infer_instance
end Go.Proofs.YtndlggbljkhfbaaGreat
namespace Go.Proofs.YtndlggbljkhfbaaGreat
open Go.Tidy
theorem firstM_lt {a b : Int} (h : a < b) : firstM ⟨a,b⟩ = a ∧ firstM ⟨b,a⟩ = a:=by unfold firstM; constructor <;> (simp only; split <;> omega)
theorem prIn_mem {c : Int} {m : Mt} : ∀ {os : List Int},m ∈ prIn c os ↔ ∃ o ∈ os,m = ⟨c,o⟩ ∨ m = ⟨o,c⟩
 | []=>by simp [prIn]
 | o :: os=>by
  simp only [prIn,List.mem_cons,prIn_mem (os:=os)]
  constructor
  ·rintro (h | h | ⟨x,hx,h⟩)
   ·exact ⟨o,.inl rfl,.inl h⟩
   ·exact ⟨o,.inl rfl,.inr h⟩
   ·exact ⟨x,.inr hx,h⟩
  ·rintro ⟨x,rfl | hx,h⟩
   ·exact h.elim .inl fun h=>.inr (.inl h)
   ·exact .inr (.inr ⟨x,hx,h⟩)
theorem prs_mem {m : Mt} : ∀ {cs : List Int},cs.Pairwise (· < ·) → m ∈ prs cs → ∃ a b,a ∈ cs ∧ b ∈ cs ∧ a < b ∧ firstM m = a ∧ (m = ⟨a,b⟩ ∨ m = ⟨b,a⟩)
 | [],_,h=>by simp [prs] at h
 | c :: cs,hp,h=>by
  obtain ⟨hc,hp⟩:=List.pairwise_cons.1 hp
  rw [prs,List.mem_append] at h
  rcases h with h | h
  ·obtain ⟨o,ho,h⟩:=prIn_mem.1 h
   refine ⟨c,o,by simp,by simp [ho],hc o ho,?_,h⟩
   rcases h with rfl | rfl
   ·exact (firstM_lt (hc o ho)).1
   ·exact (firstM_lt (hc o ho)).2
  ·obtain ⟨a,b,h1,h2,h3⟩:=prs_mem hp h
   exact ⟨a,b,by simp [h1],by simp [h2],h3⟩
def cntF (bz : List Int) (x : Int) (cs : List Int) : Nat:=cs.countP fun c=>decide (c < x) && decide (c ∉ bz)
def Pch (bz : List Int) (tk : List Mt) (least : Int) (cs : List Int) (may : Nat) (m : Mt) : Bool:=decide (m.home ∉ bz ∧ m.away ∉ bz ∧ m ∉ tk ∧ least < firstM m ∧ cntF bz (firstM m) cs ≤ may)
theorem chIn_eq (bz : List Int) (tk : List Mt) (c : Int) (f : Mt → Bool) : ∀ os : List Int,(∀ o ∈ os,f ⟨c,o⟩ = decide (o ∉ bz ∧ (⟨c,o⟩ : Mt) ∉ tk) ∧ f ⟨o,c⟩ = decide (o ∉ bz ∧ (⟨o,c⟩ : Mt) ∉ tk)) → (prIn c os).filter f = chIn bz tk c os
 | [],_=>rfl
 | o :: os,h=>by
  obtain ⟨h1,h2⟩:=h o (by simp)
  have ih:=chIn_eq bz tk c f os fun x hx=>h x (by simp [hx])
  rw [prIn,chIn,← ih]
  by_cases hb : o ∈ bz
  ·rw [if_pos hb,List.filter_cons_of_neg (by rw [h1]; simp [hb]),List.filter_cons_of_neg (by rw [h2]; simp [hb])]
  ·rw [if_neg hb]
   simp only [List.filter_cons,h1,h2,hb,not_false_eq_true,true_and,List.filter_nil]
   split <;> split <;> simp
theorem cntF_zero {bz : List Int} {x : Int} {cs : List Int} (h : ∀ c ∈ cs,x ≤ c) : cntF bz x cs = 0:=by
 unfold cntF
 rw [List.countP_eq_zero]
 intro c hc
 have:=h c hc
 rw [decide_eq_false (by omega)]; simp
theorem chOut_eq (bz : List Int) (tk : List Mt) (least : Int) : ∀ (cs : List Int) (may : Nat),cs.Pairwise (· < ·) → chOut bz tk least may cs = (prs cs).filter (Pch bz tk least cs may)
 | [],_,_=>rfl
 | c :: cs,may,hp=>by
  obtain ⟨hc,hp'⟩:=List.pairwise_cons.1 hp
  rw [chOut_cons,prs,List.filter_append]
  have hcnt0 : cntF bz c (c :: cs) = 0:=cntF_zero fun x hx=>by
   rcases List.mem_cons.1 hx with rfl | hx
   ·exact Int.le_refl _
   ·have:=hc x hx; omega
  have hrest : ∀ m ∈ prs cs,cntF bz (firstM m) (c :: cs) = cntF bz (firstM m) cs + (if c ∈ bz then 0 else 1):=fun m hm=>by
   obtain ⟨a,b,ha,_,_,he,_⟩:=prs_mem hp' hm
   have hca:=hc a ha
   unfold cntF
   rw [List.countP_cons,he,decide_eq_true (by omega : c < a)]
   by_cases hb : c ∈ bz <;> simp [hb]
  by_cases hb : c ∈ bz
  ·rw [if_pos hb,chOut_eq bz tk least cs may hp']
   have e1 : (prIn c cs).filter (Pch bz tk least (c :: cs) may) = []:=by
    rw [List.filter_eq_nil_iff]
    intro m hm
    obtain ⟨o,ho,h⟩:=prIn_mem.1 hm
    rcases h with rfl | rfl <;> simp [Pch,hb]
   rw [e1,List.nil_append]
   refine List.filter_congr fun m hm=>?_
   unfold Pch
   rw [hrest m hm,if_pos hb,Nat.add_zero]
  ·rw [if_neg hb]
   have e1 : (prIn c cs).filter (Pch bz tk least (c :: cs) may) = if least < c then chIn bz tk c cs else []:=by
    split
    ·rename_i hl
     refine chIn_eq bz tk c _ cs fun o ho=>?_
     obtain ⟨f1,f2⟩:=firstM_lt (hc o ho)
     unfold Pch
     rw [f1,f2,hcnt0]
     refine ⟨decide_eq_decide.2 ⟨fun h=>⟨h.2.1,h.2.2.1⟩,fun h=>⟨hb,h.1,h.2,hl,Nat.zero_le _⟩⟩,decide_eq_decide.2 ⟨fun h=>⟨h.1,h.2.2.1⟩,fun h=>⟨h.1,hb,h.2,hl,Nat.zero_le _⟩⟩⟩
    ·rename_i hl
     rw [List.filter_eq_nil_iff]
     intro m hm
     obtain ⟨o,ho,h⟩:=prIn_mem.1 hm
     obtain ⟨f1,f2⟩:=firstM_lt (hc o ho)
     rcases h with rfl | rfl
     ·unfold Pch; rw [f1]; simp [hl]
     ·unfold Pch; rw [f2]; simp [hl]
   rw [e1]
   congr 1
   by_cases hm0 : may = 0
   ·rw [if_pos hm0]
    symm
    rw [List.filter_eq_nil_iff]
    intro m hm
    unfold Pch
    rw [hrest m hm,if_neg hb,hm0]; simp
   ·rw [if_neg hm0,chOut_eq bz tk least cs (may - 1) hp']
    refine List.filter_congr fun m hm=>?_
    unfold Pch
    rw [hrest m hm,if_neg hb]
    exact decide_eq_decide.2 ⟨fun h=>⟨h.1,h.2.1,h.2.2.1,h.2.2.2.1,by omega⟩,fun h=>⟨h.1,h.2.1,h.2.2.1,h.2.2.2.1,by omega⟩⟩
theorem snoc_all {α : Type} {P : Nat → List α → α → Prop} (l : List α) (m : α) : (∀ (k : Nat) (hk : k < (l ++ [m]).length),P k ((l ++ [m]).take k) (l ++ [m])[k]) ↔ (∀ (k : Nat) (hk : k < l.length),P k (l.take k) l[k]) ∧ P l.length l m:=by
 constructor
 ·intro h
  refine ⟨fun k hk=>?_,?_⟩
  ·have:=h k (by simp; omega)
   rwa [List.getElem_append_left hk,List.take_append_of_le_length (Nat.le_of_lt hk)] at this
  ·have:=h l.length (by simp)
   rw [List.getElem_append_right (Nat.le_refl _),List.take_left' rfl] at this
   simpa using this
 ·rintro ⟨h1,h2⟩ k hk
  by_cases h : k < l.length
  ·rw [List.getElem_append_left h,List.take_append_of_le_length (Nat.le_of_lt h)]; exact h1 k h
  ·have e : k = l.length:=by simp at hk; omega
   subst e
   rw [List.getElem_append_right (Nat.le_refl _),List.take_left' rfl]
   simpa using h2
def OkQ (p : Pl) (met t : List Mt) (m : Mt) : Prop:=m.home ≠ m.away ∧ m.home ∈ p.clubs ∧ m.away ∈ p.clubs ∧ m.home ∉ busyL t ∧ m.away ∉ busyL t ∧ m ∉ met ++ t ∧ (p.double = false → (⟨m.away,m.home⟩ : Mt) ∉ met ++ t) ∧ ∀ x,t.getLast? = some x → firstM x < firstM m
theorem OkI_Q {p : Pl} {met r : List Mt} {k : Nat} (hk : k < r.length) : OkI p met r k hk ↔ OkQ p met (r.take k) r[k]:=by
 unfold OkI OkQ
 have e : (0 < k → firstM (r[k - 1]'(by omega)) < firstM r[k]) ↔ ∀ x,(r.take k).getLast? = some x → firstM x < firstM r[k]:=by
  rw [List.getLast?_eq_getElem?,List.length_take,Nat.min_eq_left (Nat.le_of_lt hk)]
  by_cases h0 : 0 < k
  ·rw [List.getElem?_take_of_lt (by omega),List.getElem?_eq_getElem (by omega)]
   exact ⟨fun h x hx=>by cases hx; exact h h0,fun h _=>h _ rfl⟩
  ·have : k = 0:=by omega
   subst this
   simp
 rw [e]
def RQ (p : Pl) (row : List Mt) (met : List Mt) (more : Prop) : Prop:=row.length ≠ 0 ∧ row.length ≤ halfN p ∧ (more → halfN p ≤ row.length) ∧ (∀ (k : Nat) (hk : k < row.length),OkQ p met (row.take k) row[k]) ∧ leftGo (p.clubs.length % 2) (lastM row) (busyL row) p.clubs 0 = true
theorem RoundP_Q {l : List (List Mt)} {p : Pl} {i : Nat} (hi : i < l.length) : RoundP l p i hi ↔ RQ p l[i] (l.take i).flatten (i + 1 < l.length):=by
 unfold RoundP RQ
 exact and_congr_right fun _=>and_congr_right fun _=>and_congr_right fun _=>and_congr_left fun _=>forall_congr' fun k=>forall_congr' fun hk=>OkI_Q hk
theorem PartP_snoc {bf : Lst} {w : List Mt} {p : Pl} : PartP (bf ++ [w]) p ↔ bf.length + 1 ≤ roundsN p ∧ (∀ (i : Nat) (hi : i < bf.length),RQ p bf[i] (bf.take i).flatten True) ∧ RQ p w bf.flatten False:=by
 unfold PartP
 have e1 : (bf ++ [w]).length = bf.length + 1:=by simp
 have e2 : (∀ (i : Nat) (hi : i < (bf ++ [w]).length),RoundP (bf ++ [w]) p i hi) ↔ ∀ (i : Nat) (hi : i < (bf ++ [w]).length),RQ p (bf ++ [w])[i] ((bf ++ [w]).take i).flatten (i + 1 < bf.length + 1) :=
  forall_congr' fun i=>forall_congr' fun hi=>by rw [RoundP_Q,e1]
 rw [e2,snoc_all (P:=fun i t row=>RQ p row t.flatten (i + 1 < bf.length + 1)),e1]
 refine and_congr_right fun _=>and_congr ?_ ?_
 ·refine forall_congr' fun i=>forall_congr' fun hi=>?_
  unfold RQ
  have : (i + 1 < bf.length + 1) ↔ True:=iff_true_intro (by omega)
  rw [this]
 ·unfold RQ
  have : (bf.length + 1 < bf.length + 1) ↔ False:=iff_false_intro (by omega)
  rw [this]
theorem lastM_snoc (rd : List Mt) (m : Mt) : lastM (rd ++ [m]) = firstM m:=by unfold lastM; rw [List.getLast?_concat]
theorem firstM_le {m : Mt} {c : Int} (h : m.home = c ∨ m.away = c) : firstM m ≤ c:=by unfold firstM; split <;> rcases h with h | h <;> omega
theorem part_snoc {bf : Lst} {rd : List Mt} {p : Pl} (m : Mt) (hinc : p.clubs.Pairwise (· < ·)) (hb : ∀ (i : Nat) (hi : i < bf.length),RQ p bf[i] (bf.take i).flatten True) (hn : bf.length + 1 ≤ roundsN p) (hr : rd.length < halfN p)
  (hk : ∀ (k : Nat) (hk : k < rd.length),OkQ p bf.flatten (rd.take k) rd[k]) : PartP (bf ++ [rd ++ [m]]) p ↔ OkQ p bf.flatten rd m ∧ cntF (busyL rd) (firstM m) p.clubs ≤ p.clubs.length % 2:=by
 rw [PartP_snoc]
 have e : RQ p (rd ++ [m]) bf.flatten False ↔ OkQ p bf.flatten rd m ∧ cntF (busyL rd) (firstM m) p.clubs ≤ p.clubs.length % 2:=by
  unfold RQ
  have e0 : leftGo (p.clubs.length % 2) (lastM (rd ++ [m])) (busyL (rd ++ [m])) p.clubs 0 = true ↔ cntF (busyL rd) (firstM m) p.clubs ≤ p.clubs.length % 2:=by
   rw [leftGo_eq hinc (Nat.zero_le _),Nat.zero_add,decide_eq_true_eq,lastM_snoc]
   unfold cntF
   have : p.clubs.countP (fun c=>decide (c < firstM m) && !busyB (rd ++ [m]) c) = p.clubs.countP fun c=>decide (c < firstM m) && decide (c ∉ busyL rd):=by
    refine List.countP_congr fun c _=>?_
    simp only [Bool.and_eq_true,decide_eq_true_eq,Bool.not_eq_true',← Bool.not_eq_true,busyB_iff,busyL_append,List.mem_append,not_or]
    refine and_congr_right fun hc=>⟨fun h=>h.1,fun h=>⟨h,fun h'=>?_⟩⟩
    obtain ⟨x,hx,he⟩:=mem_busyL.1 h'
    rw [List.mem_singleton.1 hx] at he
    have:=firstM_le he
    omega
   rw [this]
  rw [e0,snoc_all (P:=fun k t x=>OkQ p bf.flatten t x)]
  have l1 : (rd ++ [m]).length = rd.length + 1:=by simp
  rw [l1]
  exact ⟨fun h=>⟨h.2.2.2.1.2,h.2.2.2.2⟩,fun h=>⟨by omega,by omega,False.elim,⟨hk,h.1⟩,h.2⟩⟩
 rw [e]
 exact ⟨fun h=>h.2.2,fun h=>⟨hn,hb,h⟩⟩
theorem open_of {l : Lst} {p : Pl} (hh : 0 < halfN p) (hP : PartP l p) (hx : (nxR l p).2.2 = true) :
  (∀ (i : Nat) (hi : i < (nxR l p).2.1.length),RQ p (nxR l p).2.1[i] ((nxR l p).2.1.take i).flatten True) ∧ (nxR l p).2.1.length + 1 ≤ roundsN p ∧ (nxR l p).1.length < halfN p ∧ (∀ (k : Nat) (hk : k < (nxR l p).1.length),OkQ p (nxR l p).2.1.flatten ((nxR l p).1.take k) (nxR l p).1[k]) ∧
  (nxR l p).1 = (openR l p).1 ∧ (nxR l p).2.1.flatten ++ (nxR l p).1 = l.flatten:=by
 rcases openR_spec l p with ⟨h1,h2⟩ | ⟨h1,r,h2,h3,h4,h5⟩
 ·have hlt : l.length < roundsN p:=by
   unfold nxR at hx
   rw [h1] at hx
   simp only [Bool.true_eq_false,if_false] at hx
   split at hx
   ·assumption
   ·cases hx
  have e : nxR l p = ([],l,true):=by unfold nxR; rw [h1]; simp only [Bool.true_eq_false,if_false,if_pos hlt]
  rw [e]
  refine ⟨fun i hi=>?_,hlt,hh,fun k hk=>absurd hk (Nat.not_lt_zero k),h2.symm,by simp⟩
  replace hi : i < l.length:=hi
  have hR:=(RoundP_Q hi).1 (hP.2 i hi)
  show RQ p l[i] (l.take i).flatten True
  refine ⟨hR.1,hR.2.1,fun _=>?_,hR.2.2.2⟩
  by_cases hl : i + 1 < l.length
  ·exact hR.2.2.1 hl
  ·have hi' : i = l.length - 1:=by omega
   have hla:=last_of (l:=l) (by omega)
   unfold openR at h1
   rw [hla] at h1
   simp only at h1
   split at h1
   ·cases h1
   ·rename_i hge
    subst hi'
    exact Nat.le_of_not_lt hge
 ·have e : nxR l p = (r,l.dropLast,true):=by unfold nxR; rw [if_pos h1,h3]
  rw [e]
  rw [h5] at hP
  obtain ⟨q1,q2,q3⟩:=PartP_snoc.1 hP
  exact ⟨q2,q1,h4,q3.2.2.2.1,h3.symm,by conv=>{ rhs; rw [h5] }; simp⟩
theorem nx_open {l : Lst} {p : Pl} : (nxR l p).2.2 = (openR l p).2.2:=by
 unfold nxR openR
 cases l.getLast? with
 | none=>simp only [Bool.true_eq_false,if_false]; by_cases h : l.length < roundsN p <;> simp [h]
 | some r =>
  simp only
  by_cases h : r.length < halfN p
  ·rw [if_pos h]; simp
  ·rw [if_neg h]; simp only [Bool.true_eq_false,if_false]; by_cases h : l.length < roundsN p <;> simp [h]
theorem mem_taken {p : Pl} {l : Lst} {m : Mt} : m ∉ takenOf l p ↔ m ∉ l.flatten ∧ (p.double = false → (⟨m.away,m.home⟩ : Mt) ∉ l.flatten):=by
 unfold takenOf tkM
 rw [List.mem_flatMap]
 cases hd : p.double with
 | true=>simp
 | false =>
  simp only [Bool.false_eq_true,if_false,List.mem_cons,List.not_mem_nil,or_false,not_exists,not_and,forall_const]
  constructor
  ·intro h
   refine ⟨fun hm=>h m hm (.inl rfl),fun hm=>h _ hm (.inr rfl)⟩
  ·rintro ⟨h1,h2⟩ x hx (rfl | rfl)
   ·exact h1 hx
   ·exact h2 hx
theorem chs_eq {l : Lst} {p : Pl} (h0 : checkP p = 0) (hP : PartP l p) : chs l p = rchs l p:=by
 have hp:=checkP_field h0
 have hp':=hp
 simp only [fieldOk,Bool.and_eq_true,decide_eq_true_eq] at hp'
 have hinc : p.clubs.Pairwise (· < ·):=incr_lt hp'.1.1
 have hnn : ∀ c ∈ p.clubs,(0 : Int) ≤ c:=fun c hc=>by
  obtain ⟨j,hj,rfl⟩:=List.getElem_of_mem hc
  exact ((okAt_at hj).1 ((incr_iff p.clubs).1 hp'.1.1 j)).1.1
 have hh : 0 < halfN p:=by unfold halfN; have:=hp'.1.2; omega
 unfold chs rchs
 rw [nx_open]
 by_cases hx : (openR l p).2.2 = true
 ·rw [if_pos hx,if_pos hx]
  rw [← nx_open] at hx
  obtain ⟨a1,a2,a3,a4,a5,a6⟩:=open_of hh hP hx
  rw [chOut_eq _ _ _ _ _ hinc]
  refine List.filter_congr fun m hm=>?_
  obtain ⟨a,b,ha,hb,hab,hf,hm'⟩:=prs_mem hinc hm
  unfold Pch extR
  rw [decide_eq_decide,← PartP_iff _ _ hp,part_snoc m hinc a1 a2 a3 a4,← a5]
  unfold OkQ
  rw [a6,mem_taken]
  have hm1 : m.home ≠ m.away ∧ m.home ∈ p.clubs ∧ m.away ∈ p.clubs:=by
   rcases hm' with rfl | rfl
   ·exact ⟨by show a ≠ b; omega,ha,hb⟩
   ·exact ⟨by show b ≠ a; omega,hb,ha⟩
  have hle : leastOf (nxR l p).1 < firstM m ↔ ∀ x,(nxR l p).1.getLast? = some x → firstM x < firstM m:=by
   unfold leastOf
   cases (nxR l p).1.getLast? with
   | none =>
    have:=hnn a ha
    simp only [reduceCtorEq,false_implies,implies_true,iff_true]
    omega
   | some x =>
    simp only [Option.some.injEq,forall_eq']
    unfold firstM
    split <;> omega
  rw [hle]
  show (m.home ∉ busyL (nxR l p).1 ∧ m.away ∉ busyL (nxR l p).1 ∧ _ ∧ _ ∧ cntF (busyL (nxR l p).1) _ _ ≤ _) ↔ _
  exact ⟨fun h=>⟨⟨hm1.1,hm1.2.1,hm1.2.2,h.1,h.2.1,h.2.2.1.1,h.2.2.1.2,h.2.2.2.1⟩,h.2.2.2.2⟩,fun ⟨⟨_,_,_,q1,q2,q3,q4,q5⟩,q6⟩=>⟨q1,q2,⟨q3,q4⟩,q5,q6⟩⟩
 ·rw [if_neg hx,if_neg hx]
end Go.Proofs.YtndlggbljkhfbaaGreat
namespace Go.Proofs.YtndlggbljkhfbaaGreat
open Go.Tidy
variable {L : List Blk} {k : V → List Blk → Prop}
theorem exLoop_cong {f f' : Lst → Nat → List Lst → Sr} {ext : Mt → Lst} {ok ok' : Lst → Bool} {bud : Nat} : ∀ (ms : List Mt) (sp : Nat) (fs : List Lst),(∀ m ∈ ms,ok (ext m) = ok' (ext m)) → (∀ m ∈ ms,ok (ext m) = true → ∀ sp fs,f (ext m) sp fs = f' (ext m) sp fs) →
  exLoop f ext ok bud ms sp fs = exLoop f' ext ok' bud ms sp fs
 | [],sp,fs,_,_=>rfl
 | m :: ms,sp,fs,h1,h2=>by
  have ih:=fun sp fs=>exLoop_cong (f:=f) (f':=f') (ext:=ext) (ok:=ok) (ok':=ok') (bud:=bud) ms sp fs (fun x hx=>h1 x (by simp [hx])) fun x hx=>h2 x (by simp [hx])
  simp only [exLoop]
  rw [← h1 m (by simp)]
  split
  ·rfl
  ·split
   ·rename_i hok
    rw [h2 m (by simp) hok]
    cases f' (ext m) (sp + 1) fs with
    | go sp fs=>exact ih _ _
    | stop e sp fs=>rfl
   ·exact ih _ _
theorem exam_cong {p p' : Pl} {ch ch' : Lst → List Mt} {ok ok' : Lst → Bool} {Q : Lst → Prop} {bud : Nat} {all : Bool} (hf : ∀ l,fullC l p = fullC l p') (he : ∀ l m,extL l p m = extL l p' m) (hch : ∀ l,Q l → ch l = ch' l) (hok : ∀ l m,Q l → ok (extL l p m) = ok' (extL l p m))
  (hQ : ∀ l m,Q l → ok (extL l p m) = true → Q (extL l p m)) : ∀ (n : Nat) (l : Lst) (sp : Nat) (fs : List Lst),Q l → exam ch ok p bud all n l sp fs = exam ch' ok' p' bud all n l sp fs
 | 0,l,sp,fs,_=>rfl
 | n + 1,l,sp,fs,h=>by
  unfold exam
  rw [← hf,← hch l h]
  split
  ·rfl
  ·have e : extL l p = extL l p':=funext (he l)
   rw [← e]
   exact exLoop_cong _ _ _ (fun m _=>hok l m h) fun m _ ho sp fs=>exam_cong hf he hch hok hQ n _ _ _ (hQ l m h ho)
theorem fewlen {p : Pl} (h0 : checkP p = 0) : p.clubs.length ≤ 1000:=by
 have hf:=checkP_field h0
 simp only [fieldOk,Bool.and_eq_true,decide_eq_true_eq] at hf; omega
theorem run_eq {p : Pl} (most : Int) (all : Bool) (h0 : checkP p = 0) (hs : Small [] p) : runP p most all = runR p most all :=
 exam_cong (Q:=fun l=>PartP l p) (fun _=>rfl) (fun _ _=>rfl) (fun l hl=>chs_eq h0 hl) (fun l m hl=>by rw [(dmd_eq (part_small hs (fewlen h0) hl m).2).1]) (fun l m hl ho=>(dmA_part (of_decide_eq_true ho)).2) _ _ _ _ (part_nil p)
def okT (all : Bool) : Sr → Prop
 | .go _ fs=>all = false → fs = []
 | .stop e _ fs=>(e = 3 ∧ (all = false → fs = [])) ∨ (e = 0 ∧ fs.length = 1 ∧ all = false)
theorem exam_okT (ch : Lst → List Mt) (ok : Lst → Bool) (p : Pl) (bud : Nat) (all : Bool) : ∀ (n : Nat) (l : Lst) (sp : Nat) (fs : List Lst),(all = false → fs = []) → okT all (exam ch ok p bud all n l sp fs)
 | 0,l,sp,fs,h=>h
 | n + 1,l,sp,fs,h=>by
  unfold exam
  split
  ·split
   ·rename_i ha; intro hb; rw [ha] at hb; cases hb
   ·rename_i ha
    have ha' : all = false:=by simpa using ha
    exact .inr ⟨rfl,by rw [h ha']; rfl,ha'⟩
  ·have key : ∀ (ms : List Mt) (sp : Nat) (fs : List Lst),(all = false → fs = []) → okT all (exLoop (exam ch ok p bud all n) (extL l p) ok bud ms sp fs):=by
    intro ms
    induction ms with
    | nil=>intro sp fs h; exact h
    | cons m ms ih =>
     intro sp fs h
     simp only [exLoop]
     split
     ·exact .inl ⟨rfl,h⟩
     ·split
      ·have h2:=exam_okT ch ok p bud all n (extL l p m) (sp + 1) fs h
       split
       ·rename_i e; rw [e] at h2; exact ih _ _ h2
       ·rename_i e; rw [e] at h2; exact h2
      ·exact ih _ _ h
   exact key _ _ _ h
theorem run_okT (p : Pl) (most : Int) (all : Bool) : okT all (runP p most all):=exam_okT _ _ _ _ _ _ _ _ _ fun _=>rfl
theorem plan_eq {p : Pl} (most : Int) (hs : Small [] p) : planF p most = rplanF p most:=by
 unfold planF rplanF
 by_cases hA : argE p most = 0
 ·rw [if_pos hA,if_pos hA,← run_eq most false (argE_zero hA).1 hs]
  have h:=run_okT p most false
  generalize runP p most false = o at h ⊢
  cases o with
  | go sp fs =>
   have : fs = []:=h rfl
   subst this; rfl
  | stop e sp fs =>
   rcases h with ⟨rfl,h⟩ | ⟨rfl,h,_⟩
   ·have : fs = []:=h rfl
    subst this; rfl
   ·obtain ⟨l,rfl⟩:=List.length_eq_one_iff.1 h; rfl
 ·rw [if_neg hA,if_neg hA]
theorem len6 {l : List (List D)} (h : l.all (fun e=>decide (e.length = 6)) = true) : ∀ e ∈ l,e.length = 6:=fun e he=>by simpa using List.all_eq_true.1 h e he
end Go.Proofs.YtndlggbljkhfbaaGreat
namespace Go.Proofs.YtndlggbljkhfbaaGreat
open Go.Tidy
end Go.Proofs.YtndlggbljkhfbaaGreat
namespace Go.Proofs.YtndlggbljkhfbaaGreat
open Go.Tidy
inductive Ev where
 | tick
 | found (l : Lst)
end Go.Proofs.YtndlggbljkhfbaaGreat
namespace Go.Proofs.YtndlggbljkhfbaaGreat
open Go.Tidy
theorem full_of {x : Lst} {p : Pl} (hP : PartP x p) (hf : fullC x p = true) : FullP x p:=by
 unfold fullC at hf
 rw [Bool.and_eq_true] at hf
 refine ⟨hP,of_decide_eq_true hf.1,fun r hr=>?_⟩
 have h2:=hf.2
 rw [hr] at h2
 exact Nat.le_of_eq (of_decide_eq_true h2).symm
end Go.Proofs.YtndlggbljkhfbaaGreat
namespace Go.Proofs.YtndlggbljkhfbaaGreat
open Go.Tidy
theorem sorted_of {p : Pl} (h0 : checkP p = 0) : p.clubs.Pairwise (· < ·):=by
 have hp:=checkP_field h0
 simp only [fieldOk,Bool.and_eq_true,decide_eq_true_eq] at hp
 exact incr_lt hp.1.1
theorem ch_mem {l : Lst} {p : Pl} (h0 : checkP p = 0) (hP : PartP l p) {m : Mt} (hm : m ∈ chs l p) : PartP (extL l p m) p:=by
 rw [chs_eq h0 hP] at hm
 unfold rchs at hm
 split at hm
 ·rename_i hx
  have:=of_decide_eq_true (List.mem_filter.1 hm).2
  rw [ext_eq hx] at this
  exact (PartP_iff _ _ (checkP_field h0)).2 this
 ·simp at hm
theorem dmE_of {l : Lst} {p : Pl} (h0 : checkP p = 0) (hP : PartP l p) : dmE l p = 0:=by unfold dmE; rw [if_pos h0,if_pos hP]
end Go.Proofs.YtndlggbljkhfbaaGreat
namespace Go.Proofs.YtndlggbljkhfbaaGreat
open Go.Tidy
variable {L : List Blk} {k : V → List Blk → Prop}
theorem ways_c (l : Lst) (p : Pl) (h : k (.d (.fn 98 [.rptr [lisD l],.rptr p.cells])) L) : CallP C 42 [lisV l,plV p] L k:=by
 refine CallP.pure ?_ rfl (fun _=>rfl) h
 clear h
 refine callP_of C_ok Tryz.func42 rfl rfl (n:=_) rfl (w18 rfl) (rs:=_) rfl ?_
 repeat' ((conv=>whnf); first|refine w0 ?_|refine w1 ?_|refine w2 (fun h=>?_) (fun h=>?_)|refine w3 ?_|refine w4 (fun h=>?_) (fun h=>?_)|refine w5 _ rfl ?_|refine w6 rfl ?_|refine w7 mixed rfl ?_)
 conv=>whnf
 exact FinP.data (L':=[]) (.d (.fnL (.cons (.ptrL (w22 _) rfl (.cons (.d _) .nil)) (.cons (.ptrL (w22 _) rfl (.cons (.d _) (.cons (.d _) (.cons (.d _) .nil)))) .nil)))) rfl rfl ⟨rfl,rfl⟩
theorem full_c (l : Lst) (p : Pl) (hs : Small l p) (h : k (B (fullB l p.clubs p.double)) L) : CallP C 44 [lisV l,plV p] L k:=by
 obtain ⟨f,hf⟩ : ∃ f,fullB l p.clubs p.double = f:=⟨_,rfl⟩
 rw [hf] at h
 refine CallP.pure ?_ rfl (fun _=>rfl) h
 clear h
 refine callP_of C_ok Tryz.func44 rfl rfl (n:=_) rfl (w18 rfl) (rs:=_) rfl ?_
 repeat' ((conv=>whnf); first|refine w0 ?_|refine w1 ?_|refine w2 (fun h=>?_) (fun h=>?_)|refine w3 ?_|refine w4 (fun h=>?_) (fun h=>?_)|refine w5 _ rfl ?_|refine w6 rfl ?_|refine w7 mixed rfl ?_|refine ffull_c l p.clubs p.double hs.hl hs.hr hs.hc (hf ▸ ?_))
 all_goals conv=>whnf
 all_goals exact FinP.drop (n:=0) rfl (w21 0) rfl rfl ⟨rfl,rfl⟩
theorem fullB_part {l : Lst} {p : Pl} (h0 : checkP p = 0) (hP : PartP l p) (hf : fullC l p = true) : fullB l p.clubs p.double = true:=full_fullB h0 (full_of hP hf)
inductive Brc where
 | mk (m : Mt) (r b : Int) (t : List Brc)
mutual
def Brc.cells : Brc → List D
 | .mk m r b t=>[DI m.home,DI m.away,DI r,DI b,.sl (brcs t)]
def brcs : List Brc → List (List D)
 | []=>[]
 | x :: t=>x.cells :: brcs t
end
theorem brcs_map : ∀ t : List Brc,brcs t = t.map Brc.cells
 | []=>rfl
 | x :: t=>by rw [brcs,brcs_map t]; rfl
inductive Bs where
 | go (sp : Nat) (us : List Int) (t : List Brc)
 | stop (e : Int)
def brLoop (f : Lst → Nat → List Int → Bs) (l : Lst) (p : Pl) (bud : Nat) : List Mt → Nat → List Int → List Brc → Bs
 | [],sp,us,t=>.go sp us t
 | m :: ms, sp, us, t => if sp = bud then .stop 3 else
     if 0 ≤ dmA (extL l p m) p then brLoop f l p bud ms (sp + 1) (if dmA (extL l p m) p ∈ us then us else us ++ [dmA (extL l p m) p]) (t ++ [.mk m (atN l p) (dmA (extL l p m) p) []])
     else if fullC (extL l p m) p then .stop 300
     else match f (extL l p m) (sp + 1) us with
      | .go sp us t'=>brLoop f l p bud ms sp us (t ++ [.mk m (atN l p) (dmA (extL l p m) p) t'])
      | .stop e=>.stop e
def brs (p : Pl) (bud : Nat) : Nat → Lst → Nat → List Int → Bs
 | 0,_,sp,us=>.go sp us []
 | n + 1,l,sp,us=>brLoop (brs p bud n) l p bud (chE l p) sp us []
end Go.Proofs.YtndlggbljkhfbaaGreat
namespace Go.Proofs.YtndlggbljkhfbaaGreat
open Go.Tidy
variable {L : List Blk} {k : V → List Blk → Prop}
def FewQ (p : Pl) : Prop:=(∀ (i : Nat) (hi : i < p.demands.length),p.demands[i].clubs.length ≤ 8) ∧ (p.clubs.length ≤ 3 ∨ p.clubs.length = 4 ∧ p.double = false) ∧ p.demands.length ≤ 6
instance (p : Pl) : Decidable (FewQ p):=by unfold FewQ; infer_instance
theorem fewQ_c (p : Pl) (hD : p.demands.length ≤ 4611686018427387904) (h : k (B (decide (FewQ p))) L) : CallP C 23 [plV p] L k:=by
 refine CallP.pure ?_ rfl (fun _=>rfl) h
 clear h
 refine callP_of C_ok Tryz.func23 rfl rfl (n:=_) rfl (w18 rfl) (rs:=_) rfl ?_
 conv=>whnf
 refine LoopP.inv (fun i=>i ≤ p.demands.length ∧ ∀ (j : Nat) (hj : j < p.demands.length),j < i → p.demands[j].clubs.length ≤ 8) (fun i=>⟨[(1,.ptr 0 0),(2,B false),(6,.d (.sl (p.demands.map Dm.cells))),(7,I p.demands.length),(8,I i)],Tryz.f23.ntmps,[.cells (p.cells.map .d)],[],none⟩) (fun i=>p.demands.length - i) 0 ⟨w22 _,fun j _ h=>absurd h (Nat.not_lt_zero j)⟩ ?_ ?_
 ·exact Weak.by ⟨rfl,rfl,rfl,congrArg (fun n : Nat=>I n) (List.length_map ..),rfl,trivial⟩
 rintro i ⟨hi,hok⟩
 by_cases hi' : i < p.demands.length
 ·have hlt : (i : Int) < (p.demands.length : Int):=by omega
  have hw : IntKind.i64.wrap ((i : Int) + 1) = ((i + 1 : Nat) : Int):=by rw [wrap_in (by omega)]; omega
  repeat' ((conv=>whnf); first|refine w8 (w19 hlt) ?_|refine w11 i rfl hi' ?_|refine w0 ?_|refine w1 ?_|refine w2 (fun h=>?_) (fun h=>?_)|refine w3 ?_|refine w4 (fun h=>?_) (fun h=>?_)|refine w5 _ rfl ?_|refine w6 rfl ?_|refine w7 mixed rfl ?_)
  all_goals conv=>whnf
  ·exact FinP.drop (n:=0) rfl (w21 0) rfl rfl ⟨rfl,congrArg B (w20 fun hf=>by
    have:=hf.1 i hi'
    rw [List.length_map] at h; omega).symm⟩
  ·refine ⟨i + 1,⟨hi',fun j hj hji=>?_⟩,by omega,Weak.to 1 rfl (w22 _) (w18 rfl) ⟨rfl,rfl,rfl,rfl,congrArg I hw,trivial⟩⟩
   by_cases e : j = i
   ·subst e; rw [List.length_map] at h; omega
   ·exact hok j hj (by omega)
 ·have hlt : ¬ (i : Int) < (p.demands.length : Int):=by omega
  have hie : i = p.demands.length:=by omega
  subst hie
  repeat' ((conv=>whnf); first|refine w9 (w20 hlt) ?_|refine w0 ?_|refine w1 ?_|refine w2 (fun h=>?_) (fun h=>?_)|refine w3 ?_|refine w4 (fun h=>?_) (fun h=>?_)|refine w5 _ rfl ?_|refine w6 rfl ?_|refine w7 mixed rfl ?_)
  all_goals conv=>whnf
  all_goals refine w15 (n:=0) rfl (w21 0) rfl rfl ⟨rfl,congrArg B ?_⟩
  all_goals
   simp only [List.length_map] at *
   unfold FewQ
   first
   | exact decide_eq_decide.2 ⟨fun h2=>⟨fun i hi=>hok i hi hi,by simp_all; try omega,by omega⟩,fun h2=>by have:=h2.2; omega⟩
   | exact (decide_eq_false fun hf=>by have:=hf.2.1; simp_all; try omega).symm
theorem rsameI_c (a b : List Int) (ha : a.length ≤ 4611686018427387904) (h : k (B (decide (a = b))) L) : CallP C 31 [.d (ints a),.d (ints b)] L k:=by
 refine CallP.pure ?_ rfl (fun _=>rfl) h
 clear h
 refine callP_of C_ok Tryz.func31 rfl rfl (n:=_) rfl (w18 rfl) (rs:=_) rfl ?_
 repeat' ((conv=>whnf); first|refine w0 ?_|refine w1 ?_|refine w2 (fun h=>?_) (fun h=>?_)|refine w3 ?_|refine w4 (fun h=>?_) (fun h=>?_)|refine w5 _ rfl ?_|refine w6 rfl ?_|refine w7 mixed rfl ?_)
 all_goals conv=>whnf
 ·simp only [List.length_map] at h
  refine LoopP.inv (fun i=>i ≤ a.length ∧ ∀ (j : Nat) (hj : j < a.length),j < i → a[j] = b[j]'(by omega)) (fun i=>⟨[(0,.d (ints a)),(1,.d (ints b)),(4,B false),(5,I i)],Tryz.f31.ntmps,[],[],none⟩) (fun i=>a.length - i) 0 ⟨w22 _,fun j _ h=>absurd h (Nat.not_lt_zero j)⟩ ?_ ?_
  ·exact Weak.by ⟨rfl,rfl,rfl,rfl,trivial⟩
  rintro i ⟨hi,hok⟩
  conv=>whnf
  refine w2 (fun hb=>?_) (fun hb=>?_)
  ·have hi' : i < a.length:=by simpa using hb
   have hib : i < b.length:=by omega
   have hw : IntKind.i64.wrap ((i : Int) + 1) = ((i + 1 : Nat) : Int):=by rw [wrap_in (by omega)]; omega
   have ra : (a.map fun n=>[DI n])[i]? = some [DI a[i]]:=by rw [List.getElem?_map,List.getElem?_eq_getElem hi']; rfl
   have rb : (b.map fun n=>[DI n])[i]? = some [DI b[i]]:=by rw [List.getElem?_map,List.getElem?_eq_getElem hib]; rfl
   repeat' ((conv=>whnf); first|refine w10 i _ rfl ra ?_|refine w10 i _ rfl rb ?_|refine w0 ?_|refine w1 ?_|refine w2 (fun h=>?_) (fun h=>?_)|refine w3 ?_|refine w4 (fun h=>?_) (fun h=>?_)|refine w5 _ rfl ?_|refine w6 rfl ?_|refine w7 mixed rfl ?_)
   all_goals conv=>whnf
   ·exact ⟨i + 1,⟨hi',fun j hj hji=>by
     by_cases e : j = i
     ·subst e; exact h
     ·exact hok j hj (by omega)⟩,by omega,Weak.by ⟨rfl,rfl,rfl,congrArg I hw,trivial⟩⟩
   ·exact FinP.drop (n:=0) rfl (w21 0) rfl rfl ⟨rfl,congrArg B (w20 fun e=>by subst e; exact h rfl).symm⟩
  ·have hie : i = a.length:=by simp at hb; omega
   repeat' ((conv=>whnf); first|refine w0 ?_|refine w1 ?_|refine w2 (fun h=>?_) (fun h=>?_)|refine w3 ?_|refine w4 (fun h=>?_) (fun h=>?_)|refine w5 _ rfl ?_|refine w6 rfl ?_|refine w7 mixed rfl ?_)
   conv=>whnf
   exact FinP.drop (n:=0) rfl (w21 0) rfl rfl ⟨rfl,congrArg B (w19 (List.ext_getElem (by omega) fun j h1 h2=>hok j h1 (by omega))).symm⟩
 ·exact FinP.drop (n:=0) rfl (w21 0) rfl rfl ⟨rfl,congrArg B (w20 fun e=>by subst e; exact h rfl).symm⟩
end Go.Proofs.YtndlggbljkhfbaaGreat
namespace Go.Proofs.YtndlggbljkhfbaaGreat
open Go.Tidy
end Go.Proofs.YtndlggbljkhfbaaGreat
namespace Go.Proofs.YtndlggbljkhfbaaGreat
open Go.Tidy
def errD (e : Int) : D:=.iface 27 false [DI e]
theorem prove1_n (M : List Blk) (hb : belB M.length M = true) {kd : List Blk → Prop} (h : kd M) : DefP C 40 [.ptr 2 0,.ptr 3 0] none M kd:=by
 refine defP_of C_ok (fun _=>false) Tryz.func40 rfl rfl (n:=_) rfl (w18 rfl) rfl rfl rfl rfl rfl rfl rfl (by decide) (by decide) (w22 _) ?_
 repeat' ((conv=>whnf); first|refine w0 ?_|refine w1 ?_|refine w2 (fun h=>?_) (fun h=>?_)|refine w3 ?_|refine w4 (fun h=>?_) (fun h=>?_)|refine w5 _ rfl ?_|refine w6 rfl ?_|refine w7 mixed rfl ?_)
 conv=>whnf
 exact FinP.drop (n:=M.length) (List.take_length ..) (w21 _) rfl hb h
theorem prove1_p (c0 c1 : Blk) (r0 r1 : V) (e x : Int) (hb : belB 4 [c0,c1,.cells [.nil,.nil],.cells [I e]] = true) {kd : List Blk → Prop} (h : kd [c0,c1,.cells [.nil,.nil],.cells [I e]]) :
  DefP C 40 [.ptr 2 0,.ptr 3 0] (some (.d (errD e))) [c0,c1,.cells [r0,r1],.cells [I x]] kd:=by
 refine defP_of C_ok (fun _=>false) Tryz.func40 rfl rfl (n:=_) rfl (w18 rfl) rfl rfl rfl rfl rfl rfl rfl (by decide) (by decide) (w22 _) ?_
 repeat' ((conv=>whnf); first|refine w0 ?_|refine w1 ?_|refine w2 (fun h=>?_) (fun h=>?_)|refine w3 ?_|refine w4 (fun h=>?_) (fun h=>?_)|refine w5 _ rfl ?_|refine w6 rfl ?_|refine w7 mixed rfl ?_)
 all_goals conv=>whnf
 all_goals refine w15 (n:=4) rfl (w21 _) rfl hb h
end Go.Proofs.YtndlggbljkhfbaaGreat
namespace Go.Proofs.YtndlggbljkhfbaaGreat
open Go.Tidy
variable {L : List Blk} {k : V → List Blk → Prop}
end Go.Proofs.YtndlggbljkhfbaaGreat
namespace Go.Proofs.YtndlggbljkhfbaaGreat
open Go.Tidy
variable {L : List Blk} {k : V → List Blk → Prop}
end Go.Proofs.YtndlggbljkhfbaaGreat
namespace Go.Proofs.YtndlggbljkhfbaaGreat
open Go.Tidy
variable {L : List Blk} {k : V → List Blk → Prop}
end Go.Proofs.YtndlggbljkhfbaaGreat
namespace Go.Proofs.YtndlggbljkhfbaaGreat
open Go.Tidy
theorem filter_ne_len {cs : List Int} (hn : cs.Nodup) {a : Int} (h : a ∈ cs) : cs.length - 1 ≤ (cs.filter fun b=>!decide (b = a)).length:=by
 induction cs with
 | nil=>simp at h
 | cons c cs ih =>
  obtain ⟨h1,h2⟩:=List.nodup_cons.1 hn
  by_cases e : c = a
  ·subst e
   rw [List.filter_cons_of_neg (by simp),List.filter_eq_self.2 fun b hb=>by
    simp only [Bool.not_eq_true',decide_eq_false_iff_not]; rintro rfl; exact h1 hb]
   simp
  ·rw [List.filter_cons_of_pos (by simp [e])]
   have hm : a ∈ cs:=(List.mem_cons.1 h).resolve_left fun h=>e h.symm
   have:=ih h2 hm
   have : 0 < cs.length:=List.length_pos_of_mem hm
   simp only [List.length_cons]; omega
theorem sum_ge {α : Type} (f : α → Nat) (m : Nat) : ∀ l : List α,(∀ a ∈ l,m ≤ f a) → l.length * m ≤ (l.map f).sum
 | [],_=>by simp
 | a :: l,h=>by
  have:=sum_ge f m l fun b hb=>h b (by simp [hb])
  have:=h a (by simp)
  simp only [List.map_cons,List.sum_cons,List.length_cons,Nat.add_mul,Nat.one_mul]; omega
theorem pairs_ge {cs : List Int} (hn : cs.Nodup) : cs.length * (cs.length - 1) ≤ (pairsL cs).length:=by
 unfold pairsL
 rw [List.length_flatMap]
 exact sum_ge _ _ cs fun a ha=>by rw [List.length_map]; exact filter_ne_len hn ha
theorem pairs_nodup {cs : List Int} (hn : cs.Nodup) : (pairsL cs).Nodup:=by
 unfold pairsL
 refine List.pairwise_flatMap.2 ⟨fun a ha=>?_,hn.imp fun {a b} hab x hx y hy e=>?_⟩
 ·exact List.Pairwise.map _ (fun x y h e=>h (by injection e)) (hn.filter _)
 ·subst e
  obtain ⟨u,_,rfl⟩:=List.mem_map.1 hx
  obtain ⟨v,_,e⟩:=List.mem_map.1 hy
  injection e with e1
  exact hab e1.symm
theorem pairs_in {cs : List Int} {m : Mt} (h : m ∈ pairsL cs) : m.home ∈ cs ∧ m.away ∈ cs ∧ m.home ≠ m.away:=by
 unfold pairsL at h
 obtain ⟨a,ha,h⟩:=List.mem_flatMap.1 h
 obtain ⟨b,hb,rfl⟩:=List.mem_map.1 h
 obtain ⟨h1,h2⟩:=List.mem_filter.1 hb
 simp only [Bool.not_eq_true',decide_eq_false_iff_not] at h2
 exact ⟨ha,h1,fun e=>h2 e.symm⟩
theorem sorted_nodup {p : Pl} (h0 : checkP p = 0) : p.clubs.Nodup:=(sorted_of h0).imp fun {a b} h=>by omega
theorem clubs_two {p : Pl} (h0 : checkP p = 0) : 2 ≤ p.clubs.length:=by
 have hf:=checkP_field h0
 simp only [fieldOk,Bool.and_eq_true,decide_eq_true_eq] at hf; omega
theorem fullC_len {l : Lst} {p : Pl} (h0 : checkP p = 0) (hP : PartP l p) (h : roundsN p * halfN p ≤ l.flatten.length) : fullC l p = true:=by
 have hh : 1 ≤ halfN p:=by have:=clubs_two h0; unfold halfN; omega
 have hr:=fun r hr=>part_row hP (r:=r) hr
 have h1:=sum_len hr
 have hl : l.length = roundsN p:=by
  refine Nat.le_antisymm hP.1 ?_
  exact Nat.le_of_mul_le_mul_right (w23 h h1) hh
 have hpos : 0 < l.length:=by rw [hl]; exact roundsN_pos p
 have hne : l ≠ []:=List.length_pos_iff.1 hpos
 unfold fullC
 rw [decide_eq_true hl,last_of hpos]
 simp only [Bool.true_and,decide_eq_true_eq]
 refine Nat.le_antisymm (hr _ (List.getElem_mem _)) ?_
 have hd:=List.dropLast_concat_getLast hne
 have hlast : l.getLast hne = l[l.length - 1]:=List.getLast_eq_getElem hne
 rw [hlast] at hd
 have h2 : l.dropLast.flatten.length ≤ l.dropLast.length * halfN p:=sum_len fun r hx=>hr r (List.dropLast_subset l hx)
 have h3 : l.flatten.length = l.dropLast.flatten.length + l[l.length - 1].length:=by
  conv=>lhs; rw [← hd]
  rw [List.flatten_append,List.length_append,List.flatten_singleton]
 rw [List.length_dropLast,hl] at h2
 obtain ⟨n,hn⟩ : ∃ n,roundsN p = n + 1:=⟨roundsN p - 1,by have:=roundsN_pos p; omega⟩
 rw [hn,Nat.add_sub_cancel] at h2
 rw [hn,Nat.add_mul,Nat.one_mul] at h
 omega
theorem fullB_len {l : Lst} {p : Pl} (h0 : checkP p = 0) (hX : FullX l.flatten p.clubs p.double) : roundsN p * halfN p ≤ l.flatten.length:=by
 have hn:=clubs_two h0
 have hrh:=rounds_half _ hn
 have hnd:=pairs_nodup (sorted_nodup h0)
 have hge:=pairs_ge (sorted_nodup h0)
 have hG : ∀ a ∈ p.clubs,∀ b ∈ p.clubs,a ≠ b → GamesP l.flatten p.double a b ∨ GamesP l.flatten p.double b a:=fun a ha b hb hab=>by
  obtain ⟨i,hi,rfl⟩:=List.getElem_of_mem ha
  obtain ⟨j,hj,rfl⟩:=List.getElem_of_mem hb
  rcases Nat.lt_trichotomy j i with h | h | h
  ·exact .inl (hX i hi j h)
  ·subst h; exact absurd rfl hab
  ·exact .inr (hX j hj i h)
 cases hd : p.double with
 | true =>
  have hs : ∀ m ∈ pairsL p.clubs,m ∈ l.flatten:=fun m hm=>by
   obtain ⟨h1,h2,h3⟩:=pairs_in hm
   rcases hG _ h1 _ h2 h3 with h | h
   ·unfold GamesP at h; rw [hd,if_pos rfl] at h; exact h.1
   ·unfold GamesP at h; rw [hd,if_pos rfl] at h; exact h.2
  have:=List.Nodup.length_le_of_subset hnd hs
  unfold roundsN halfN; rw [if_pos hd]
  rw [Nat.mul_assoc 2,Nat.mul_comm 2,hrh]; omega
 | false =>
  have hs : ∀ m ∈ pairsL p.clubs,m ∈ l.flatten ++ l.flatten.map backM:=fun m hm=>by
   obtain ⟨h1,h2,h3⟩:=pairs_in hm
   have key : m ∈ l.flatten ∨ backM m ∈ l.flatten:=by
    rcases hG _ h1 _ h2 h3 with h | h
    ·unfold GamesP at h; rw [hd,if_neg (by decide)] at h
     exact Classical.byCases (fun h4 : m ∈ l.flatten=>.inl h4) fun h4=>.inr (Classical.byContradiction fun h5=>h4 (h.2 h5))
    ·unfold GamesP at h; rw [hd,if_neg (by decide)] at h
     exact Classical.byCases (fun h4 : backM m ∈ l.flatten=>.inr h4) fun h4=>.inl (Classical.byContradiction fun h5=>h4 (h.2 h5))
   rcases key with h | h
   ·exact List.mem_append_left _ h
   ·exact List.mem_append_right _ (List.mem_map.2 ⟨_,h,backM_back m⟩)
  have:=List.Nodup.length_le_of_subset hnd hs
  rw [List.length_append,List.length_map] at this
  unfold roundsN halfN; rw [if_neg (by rw [hd]; decide),Nat.one_mul]
  omega
theorem fullB_eq {l : Lst} {p : Pl} (h0 : checkP p = 0) (hP : PartP l p) : fullB l p.clubs p.double = fullC l p:=by
 cases hc : fullC l p with
 | true=>exact fullB_part h0 hP hc
 | false =>
  cases hb : fullB l p.clubs p.double with
  | false=>rfl
  | true =>
   unfold fullB at hb
   split at hb
   ·rename_i h
    rw [fullC_len h0 hP (fullB_len h0 h.2)] at hc; cases hc
   ·cases hb
end Go.Proofs.YtndlggbljkhfbaaGreat
