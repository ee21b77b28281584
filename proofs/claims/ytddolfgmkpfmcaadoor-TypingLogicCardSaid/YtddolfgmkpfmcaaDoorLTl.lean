/-
  The statement TypingLogic.
-/
import Derived.Test.YtddolfgmkpfmcaaDoorTypZA
namespace Go.Proofs.YtddolfgmkpfmcaaDoor.typingLogic
open Go.Tidy Go.ChangeShapes Go.WideShapes Go.ChangeAt Go.RowKit
set_option maxRecDepth 100000
set_option maxHeartbeats 0
set_option linter.unusedSimpArgs false
set_option linter.unusedVariables false
variable {L : List Blk} {k : V → List Blk → Prop}
theorem len1 (a b c d : D) : ∀ x ∈ [[a, b, c, d]], x.length = 4 := fun x hx => by rw [List.mem_singleton.1 hx]; rfl
theorem len2 (a b c d a' b' c' d' : D) : ∀ x ∈ [[a, b, c, d], [a', b', c', d']], x.length = 4 := fun x hx => by
  simp only [List.mem_cons, List.not_mem_nil, or_false] at hx
  rcases hx with rfl | rfl <;> rfl
theorem len3 (a b c d a' b' c' d' a'' b'' c'' d'' : D) : ∀ x ∈ [[a, b, c, d], [a', b', c', d'], [a'', b'', c'', d'']], x.length = 4 := fun x hx => by
  simp only [List.mem_cons, List.not_mem_nil, or_false] at hx
  rcases hx with rfl | rfl | rfl <;> rfl
theorem not_c (a b c : Int) (d : D) (h : k (.agg [I 4, I 0, I 0, .d (.sl [[DI a, DI b, DI c, d]])]) L) : CallP C 30 [.agg [I a, I b, I c, .d d]] L k := by
  refine CallP.pure ?_ rfl (fun _ => rfl) h
  clear h
  refine callP_of C_ok Tryd.func30 rfl rfl (n := _) rfl (Nat.le_of_ble_eq_true rfl) (rs := _) rfl ?_
  repeat' (conv => whnf
           first | refine Br.tt ?_ | refine Br.ff ?_ | refine Br.dec (fun h => ?_) (fun h => ?_) | refine Br.not ?_ | refine Br.intro (fun h => ?_) (fun h => ?_) | refine GetE.intro _ rfl ?_ | refine Need.intro rfl ?_ | refine DrawP.go mixed rfl ?_)
  conv => whnf
  exact FinP.data (L' := []) (Cw.aggL (.cons (.d _) (.cons (.d _) (.cons (.d _) (.cons (.rowL (ds := [[DI a, DI b, DI c, d]]) (Nat.zero_le _) rfl (.cons (CvL.data [DI a, DI b, DI c, d]) .nil) rfl (len1 _ _ _ _)) .nil))))) rfl rfl ⟨rfl, rfl⟩
theorem join_c (kd : Int) (d : D) (h : k (.agg [I kd, I 0, I 0, .d d]) L) : CallP C 31 [I kd, .d d] L k := by
  refine CallP.pure ?_ rfl (fun _ => rfl) h
  clear h
  refine callP_of C_ok Tryd.func31 rfl rfl (n := _) rfl (Nat.le_of_ble_eq_true rfl) (rs := _) rfl ?_
  repeat' (conv => whnf
           first | refine Br.tt ?_ | refine Br.ff ?_ | refine Br.dec (fun h => ?_) (fun h => ?_) | refine Br.not ?_ | refine Br.intro (fun h => ?_) (fun h => ?_) | refine GetE.intro _ rfl ?_ | refine Need.intro rfl ?_ | refine DrawP.go mixed rfl ?_)
  conv => whnf
  exact FinP.drop (n := 0) rfl (Nat.le_refl 0) rfl rfl ⟨rfl, rfl⟩
theorem kill_eq {i g sz : Nat} {els : List (List V)} (h : L[i]? = some (.row g sz els)) : CellEq L (killB [i] L) := CellEq.set h
/-- The list of blocks, worked out. -/
def spine : List Blk → (List Blk → Prop) → Prop
  | [], K => K []
  | x :: r, K => spine r fun r => K (x :: r)
theorem spine_eq : ∀ (l : List Blk) (K : List Blk → Prop), spine l K = K l
  | [], K => rfl
  | x :: r, K => by simp only [spine, spine_eq r]
theorem QCallK.introF {f : (V → List Blk → Prop) → Prop} {L : List Blk} {k : V → List Blk → Prop} (v : V) (M : List Blk) (h : f fun x N => x = v ∧ N = M) (hc : CellEq L M) (hk : spine M fun M => k v M) : QCallK f L k := by
  rw [spine_eq] at hk
  exact QCallK.intro v M h hc hk
theorem joinK {kd : Int} {i gen n : Nat} {els : List (List V)} {ds : List (List D)} (hL : L[i]? = some (.row gen 4 els)) (hrows : CvLL (· ∈ [i]) L ((els.drop 0).take n) ds) (hn : n = ds.length) (hlen : ∀ e ∈ ds, e.length = 4) :
    CallP C 31 [I kd, .own i gen 0 n] L fun x N => x = .agg [I kd, I 0, I 0, .d (.sl ds)] ∧ N = killB [i] L :=
  CallP.freeze [i] rfl (by show ([i].all _) = true; simp only [List.all_cons, List.all_nil, Bool.and_true]; rw [hL]) (.keep (.cv (y := .d (.sl ds)) (.d (.rowL (List.mem_singleton.2 rfl) hL hrows hn hlen)) .nil)) (join_c kd _ ⟨rfl, rfl⟩)
def nt (c : Co) : Co := .mk 4 0 0 [c]
def jn (k : Int) (l : List Co) : Co := .mk k 0 0 l
theorem mk_cells (k v n : Int) (l : List Co) : (Co.mk k v n l).cells = [DI k, DI v, DI n, .sl (l.map Co.cells)] := by rw [Co.cells_eq]; rfl
theorem lco_mk {k v n : Int} {l : List Co} (h : l.length ≤ 4398046511104) (hs : ∀ c ∈ l, LCo c) : LCo (.mk k v n l) := .mk h hs
theorem ask_c (c : Co) (x : En) (hc : LCo c) (hv : checkF [.c c] = 0) (hx : envE x = 0) (h : k (B (hoF x c)) L) : CallP C 32 [.agg (c.cells.map .d), enV x] L k := by
  have e : holdsB c x = hoF x c ∧ holdsE c x = 0 := by
    unfold holdsB holdsE; rw [if_neg (fun h => h hv), hv, hx]; exact ⟨rfl, rfl⟩
  have hh : ∀ {L : List Blk} {k : V → List Blk → Prop}, k (.tup [B (hoF x c), I 0]) L → CallP C 28 [.agg (c.cells.map .d), enV x] L k := fun h => Holds_c c x hc (cond_hco hc) (by rw [e.1, e.2]; exact h)
  rw [Co.cells_eq] at hh ⊢
  refine CallP.pure ?_ rfl (fun _ => rfl) h
  clear h
  refine callP_of C_ok Tryd.func32 rfl rfl (n := _) rfl (Nat.le_of_ble_eq_true rfl) (rs := _) rfl ?_
  repeat' (conv => whnf
           first | refine Br.tt ?_ | refine Br.ff ?_ | refine Br.dec (fun h => ?_) (fun h => ?_) | refine Br.not ?_ | refine Br.intro (fun h => ?_) (fun h => ?_) | refine GetE.intro _ rfl ?_ | refine Need.intro rfl ?_ | refine DrawP.go mixed rfl ?_ | refine hh ?_)
  conv => whnf
  exact FinP.drop (n := 0) rfl (Nat.le_refl 0) rfl rfl ⟨rfl, rfl⟩
theorem down_c : ∀ (m : Nat) (c : Co), SizeOf.sizeOf c ≤ m → ∀ d, cN (d + 1) c ≤ 256 → cN d c = cN (d + 1) c
  | 0, c, h => absurd h (by cases c; simp)
  | m + 1, .mk kd v n ps, hsz => by
    intro d hf
    simp only [Co.mk.sizeOf_spec] at hsz
    have key : ∀ l : List Co, (∀ c ∈ l, SizeOf.sizeOf c ≤ m) → ∀ d, cNs (d + 1) l ≤ 256 → cNs d l = cNs (d + 1) l := by
      intro l
      induction l with
      | nil => intro _ d _; rw [cNs, cNs]
      | cons s ss ih =>
        intro hl d hf
        rw [cNs] at hf
        rw [cNs, cNs, down_c m s (hl s (by simp)) d (by omega), ih (fun s h => hl s (by simp [h])) d (by omega)]
    have hd : ¬ 16 < d + 1 := fun h => by rw [cN, if_pos h] at hf; omega
    rw [cN, if_neg hd] at hf
    rw [cN, cN, if_neg hd, if_neg (show ¬ 16 < d by omega), key ps (fun c h => by have := List.sizeOf_lt_of_mem h; omega) (d + 1) (by omega)]
theorem down (c : Co) (d : Nat) (h : cN (d + 1) c ≤ 256) : cN d c = cN (d + 1) c := down_c _ c (Nat.le_refl _) d h
theorem cN_mk (d : Nat) (h : d ≤ 16) (k v n : Int) (l : List Co) : cN d (.mk k v n l) = 1 + cNs (d + 1) l := by rw [cN, if_neg (by omega)]
theorem cN_pos (d : Nat) (c : Co) : 1 ≤ cN d c := by cases c; rw [cN]; split <;> omega
/-- All that is needed of the two conditions. -/
theorem all_ok {a b : Co} (h1 : checkF [.c (nt (jn 2 [a, b, a]))] = 0) (h2 : checkF [.c (jn 3 [nt a, nt b])] = 0) (h3 : checkF [.c (jn 2 [b, a, b])] = 0) :
    checkF [.c (nt a)] = 0 ∧ checkF [.c (jn 2 [a, b])] = 0 ∧ checkF [.c (jn 3 [a, b])] = 0 ∧ checkF [.c (jn 3 [b, a, b])] = 0 ∧ checkF [.c (nt (jn 2 [a, b]))] = 0 ∧ checkF [.c (jn 2 [a])] = 0 := by
  obtain ⟨c1, v1⟩ := cond_ok.1 h1
  obtain ⟨c2, v2⟩ := cond_ok.1 h2
  obtain ⟨c3, v3⟩ := cond_ok.1 h3
  unfold nt jn at *
  simp only [cN_mk _ (show 0 ≤ 16 by decide), cN_mk _ (show 0 + 1 ≤ 16 by decide), cNs] at c1 c2 c3
  have hva : vCo a = true := by rw [vCo, if_neg (by decide), if_neg (by decide), if_pos (by decide)] at v3; simp only [vCos, Bool.and_eq_true, Bool.and_true] at v3; exact v3.2.2.1
  have hvb : vCo b = true := by rw [vCo, if_neg (by decide), if_neg (by decide), if_pos (by decide)] at v3; simp only [vCos, Bool.and_eq_true, Bool.and_true] at v3; exact v3.2.1
  have d1 := down a 1
  have d2 := down b 1
  refine ⟨cond_ok.2 ⟨?_, ?_⟩, cond_ok.2 ⟨?_, ?_⟩, cond_ok.2 ⟨?_, ?_⟩, cond_ok.2 ⟨?_, ?_⟩, cond_ok.2 ⟨?_, ?_⟩, cond_ok.2 ⟨?_, ?_⟩⟩
  all_goals first
    | (simp only [cN_mk _ (show 0 ≤ 16 by decide), cN_mk _ (show 0 + 1 ≤ 16 by decide), cNs]; omega)
    | (simp [vCo, vCos, hva, hvb])
theorem law (a b : Co) (n : Int) (ha : LCo a) (hb : LCo b) : CallP C 8 [.agg (a.cells.map .d), .agg (b.cells.map .d), I n] [] fun X L => L = [] ∧ X = .d (.bool true) := by
  have f1 : ∀ {L : List Blk} {k : V → List Blk → Prop}, k (B (fewC a)) L → CallP C 12 [.agg (a.cells.map .d)] L k := fun h => fewc_c _ ha h
  have f2 : ∀ {L : List Blk} {k : V → List Blk → Prop}, k (B (fewC b)) L → CallP C 12 [.agg (b.cells.map .d)] L k := fun h => fewc_c _ hb h
  have cc : ∀ (c : Co) (v : Int), LCo c → checkF [.c c] = v → ∀ {L : List Blk} {k : V → List Blk → Prop}, k (I v) L → CallP C 17 [.agg (c.cells.map .d)] L k := fun c v hc hv _ _ h => cond_c c hc (by rw [hv]; exact h)
  obtain ⟨y, hy⟩ : ∃ y, y = En.at (envN n) := ⟨_, rfl⟩
  have hy0 : envE y = 0 := by rw [hy]; exact envAt_ok n
  have f3 : ∀ {L : List Blk} {k : V → List Blk → Prop}, k (enV y) L → CallP C 23 [I n] L k := fun h => env14_c n (by rw [← hy]; exact h)
  have kk : ∀ (c : Co) (t : Bool), LCo c → checkF [.c c] = 0 → hoF y c = t → ∀ {L : List Blk} {k : V → List Blk → Prop}, k (B t) L → CallP C 32 [.agg (c.cells.map .d), enV y] L k := fun c t hc hv ht _ _ h => ask_c c y hc hv hy0 (by rw [ht]; exact h)
  obtain ⟨k1, v1, m1, p1, hca⟩ : ∃ k1 v1 m1 p1, a.cells = [DI k1, DI v1, DI m1, p1] := ⟨_, _, _, _, Co.cells_eq a⟩
  obtain ⟨k2, v2, m2, p2, hcb⟩ : ∃ k1 v1 m1 p1, b.cells = [DI k1, DI v1, DI m1, p1] := ⟨_, _, _, _, Co.cells_eq b⟩
  obtain ⟨ca, hva⟩ : ∃ v, checkF [.c a] = v := ⟨_, rfl⟩
  obtain ⟨cb, hvb⟩ : ∃ v, checkF [.c b] = v := ⟨_, rfl⟩
  obtain ⟨x1, hx1⟩ : ∃ v, checkF [.c (nt (jn 2 [a, b, a]))] = v := ⟨_, rfl⟩
  obtain ⟨x2, hx2⟩ : ∃ v, checkF [.c (jn 3 [nt a, nt b])] = v := ⟨_, rfl⟩
  obtain ⟨x3, hx3⟩ : ∃ v, checkF [.c (jn 2 [b, a, b])] = v := ⟨_, rfl⟩
  have la2 : ∀ k, LCo (jn k [a, b]) := fun k => lco_mk (by simp) (by simp [ha, hb])
  have la3 : ∀ k, LCo (jn k [b, a, b]) := fun k => lco_mk (by simp) (by simp [ha, hb])
  have la4 : LCo (jn 2 [a, b, a]) := lco_mk (by simp) (by simp [ha, hb])
  have la1 : LCo (jn 2 [a]) := lco_mk (by simp) (by simp [ha])
  have lna : LCo (nt a) := lco_mk (by simp) (by simp [ha])
  have lnb : LCo (nt b) := lco_mk (by simp) (by simp [hb])
  have lnj : LCo (nt (jn 2 [a, b])) := lco_mk (by simp) (by simp [la2])
  have lnj3 : LCo (nt (jn 2 [a, b, a])) := lco_mk (by simp) (by simp [la4])
  have lor : LCo (jn 3 [nt a, nt b]) := lco_mk (by simp) (by simp [lna, lnb])
  have c1 := fun {L : List Blk} {k : V → List Blk → Prop} => cc a ca ha hva (L := L) (k := k)
  have c2 := fun {L : List Blk} {k : V → List Blk → Prop} => cc b cb hb hvb (L := L) (k := k)
  have c3 := fun {L : List Blk} {k : V → List Blk → Prop} => cc _ x1 lnj3 hx1 (L := L) (k := k)
  have c4 := fun {L : List Blk} {k : V → List Blk → Prop} => cc _ x2 lor hx2 (L := L) (k := k)
  have c5 := fun {L : List Blk} {k : V → List Blk → Prop} => cc _ x3 (la3 2) hx3 (L := L) (k := k)
  simp only [nt, jn, mk_cells, hca, hcb, List.map_cons, List.map_nil] at f1 f2 c1 c2 c3 c4 c5 ⊢
  refine callP_of C_ok Tryd.func8 rfl rfl (n := _) rfl (Nat.le_of_ble_eq_true rfl) (rs := _) rfl ?_
  cases h1 : fewC a with
  | false =>
    rw [h1] at f1
    repeat' (conv => whnf
             first | refine Br.tt ?_ | refine Br.ff ?_ | refine Br.dec (fun h => ?_) (fun h => ?_) | refine Br.not ?_ | refine Br.intro (fun h => ?_) (fun h => ?_) | refine GetE.intro _ rfl ?_ | refine Need.intro rfl ?_ | refine DrawP.go mixed rfl ?_ | refine sane_c ?_ | refine f1 ?_)
    conv => whnf
    exact FinP.drop (n := 0) rfl (Nat.le_refl 0) rfl rfl ⟨rfl, rfl⟩
  | true =>
  rw [h1] at f1
  cases h2 : fewC b with
  | false =>
    rw [h2] at f2
    repeat' (conv => whnf
             first | refine Br.tt ?_ | refine Br.ff ?_ | refine Br.dec (fun h => ?_) (fun h => ?_) | refine Br.not ?_ | refine Br.intro (fun h => ?_) (fun h => ?_) | refine GetE.intro _ rfl ?_ | refine Need.intro rfl ?_ | refine DrawP.go mixed rfl ?_ | refine sane_c ?_ | refine f1 ?_ | refine f2 ?_)
    conv => whnf
    exact FinP.drop (n := 0) rfl (Nat.le_refl 0) rfl rfl ⟨rfl, rfl⟩
  | true =>
  rw [h2] at f2
  by_cases a0 : ca = 0
  rotate_left
  · repeat' (conv => whnf
             first | refine Br.no (decide_eq_false a0) ?_ | refine Br.tt ?_ | refine Br.ff ?_ | refine Br.dec (fun h => ?_) (fun h => ?_) | refine Br.not ?_ | refine Br.intro (fun h => ?_) (fun h => ?_) | refine GetE.intro _ rfl ?_ | refine Need.intro rfl ?_ | refine DrawP.go mixed rfl ?_ | refine sane_c ?_ | refine f1 ?_ | refine f2 ?_ | refine c1 ?_)
    conv => whnf
    exact FinP.drop (n := 0) rfl (Nat.le_refl 0) rfl rfl ⟨rfl, rfl⟩
  by_cases b0 : cb = 0
  rotate_left
  · repeat' (conv => whnf
             first | refine Br.yes (decide_eq_true a0) ?_ | refine Br.no (decide_eq_false b0) ?_ | refine Br.tt ?_ | refine Br.ff ?_ | refine Br.dec (fun h => ?_) (fun h => ?_) | refine Br.not ?_ | refine Br.intro (fun h => ?_) (fun h => ?_) | refine GetE.intro _ rfl ?_ | refine Need.intro rfl ?_ | refine DrawP.go mixed rfl ?_ | refine sane_c ?_ | refine f1 ?_ | refine f2 ?_ | refine c1 ?_ | refine c2 ?_)
    conv => whnf
    exact FinP.drop (n := 0) rfl (Nat.le_refl 0) rfl rfl ⟨rfl, rfl⟩
  repeat' (conv => whnf
           first | refine Br.yes (decide_eq_true a0) ?_ | refine Br.yes (decide_eq_true b0) ?_ | refine Br.tt ?_ | refine Br.ff ?_ | refine Br.dec (fun h => ?_) (fun h => ?_) | refine Br.not ?_ | refine Br.intro (fun h => ?_) (fun h => ?_) | refine GetE.intro _ rfl ?_ | refine Need.intro rfl ?_ | refine sane_c ?_ | refine f1 ?_ | refine f2 ?_ | refine c1 ?_ | refine c2 ?_ | refine f3 ?_)
  conv => whnf
  refine DrawP.por mixed [1006, 1019, 1029] [[(0, 0), (1, 0), (2, 0), (3, 0), (4, 0), (5, 0), (6, 5), (7, 0), (8, 0), (9, 0), (10, 0), (11, 0), (12, 0), (13, 0), (14, 0), (15, 0), (16, 0), (17, 0), (18, 0), (19, 5), (20, 0), (21, 0), (22, 0), (23, 0), (24, 0), (25, 0), (26, 0), (27, 0), (28, 0), (29, 5), (30, 0), (31, 0), (32, 0)]] (by kernel_rfl) ?_
  by_cases x10 : x1 = 0
  rotate_left
  · repeat' (conv => whnf
             first | refine Br.no (decide_eq_false x10) ?_ | refine Br.tt ?_ | refine Br.ff ?_ | refine Br.dec (fun h => ?_) (fun h => ?_) | refine Br.not ?_ | refine Br.intro (fun h => ?_) (fun h => ?_) | refine GetE.intro _ rfl ?_ | refine Need.intro rfl ?_ | refine DrawP.go mixed rfl ?_ | refine QCallK.introF _ _ (joinK rfl (.cons (CvL.data [_, _, _, _]) .nil) rfl (len1 _ _ _ _)) (kill_eq rfl) ?_ | refine QCallK.introF _ _ (joinK rfl (.cons (CvL.data [_, _, _, _]) (.cons (CvL.data [_, _, _, _]) .nil)) rfl (len2 _ _ _ _ _ _ _ _)) (kill_eq rfl) ?_ | refine QCallK.introF _ _ (joinK rfl (.cons (CvL.data [_, _, _, _]) (.cons (CvL.data [_, _, _, _]) (.cons (CvL.data [_, _, _, _]) .nil))) rfl (len3 _ _ _ _ _ _ _ _ _ _ _ _)) (kill_eq rfl) ?_ | refine QCall.intro _ (not_c _ _ _ _ ⟨rfl, rfl⟩) ?_ | refine QCall.intro _ (c3 ⟨rfl, rfl⟩) ?_ | refine QCall.intro _ (c4 ⟨rfl, rfl⟩) ?_ | refine QCall.intro _ (c5 ⟨rfl, rfl⟩) ?_)
    conv => whnf
    exact FinP.drop (n := 0) rfl (Nat.zero_le _) rfl rfl ⟨rfl, rfl⟩
  by_cases x20 : x2 = 0
  rotate_left
  · repeat' (conv => whnf
             first | refine Br.yes (decide_eq_true x10) ?_ | refine Br.no (decide_eq_false x20) ?_ | refine Br.tt ?_ | refine Br.ff ?_ | refine Br.dec (fun h => ?_) (fun h => ?_) | refine Br.not ?_ | refine Br.intro (fun h => ?_) (fun h => ?_) | refine GetE.intro _ rfl ?_ | refine Need.intro rfl ?_ | refine DrawP.go mixed rfl ?_ | refine QCallK.introF _ _ (joinK rfl (.cons (CvL.data [_, _, _, _]) .nil) rfl (len1 _ _ _ _)) (kill_eq rfl) ?_ | refine QCallK.introF _ _ (joinK rfl (.cons (CvL.data [_, _, _, _]) (.cons (CvL.data [_, _, _, _]) .nil)) rfl (len2 _ _ _ _ _ _ _ _)) (kill_eq rfl) ?_ | refine QCallK.introF _ _ (joinK rfl (.cons (CvL.data [_, _, _, _]) (.cons (CvL.data [_, _, _, _]) (.cons (CvL.data [_, _, _, _]) .nil))) rfl (len3 _ _ _ _ _ _ _ _ _ _ _ _)) (kill_eq rfl) ?_ | refine QCall.intro _ (not_c _ _ _ _ ⟨rfl, rfl⟩) ?_ | refine QCall.intro _ (c3 ⟨rfl, rfl⟩) ?_ | refine QCall.intro _ (c4 ⟨rfl, rfl⟩) ?_ | refine QCall.intro _ (c5 ⟨rfl, rfl⟩) ?_)
    conv => whnf
    exact FinP.drop (n := 0) rfl (Nat.zero_le _) rfl rfl ⟨rfl, rfl⟩
  by_cases x30 : x3 = 0
  rotate_left
  · repeat' (conv => whnf
             first | refine Br.yes (decide_eq_true x10) ?_ | refine Br.yes (decide_eq_true x20) ?_ | refine Br.no (decide_eq_false x30) ?_ | refine Br.tt ?_ | refine Br.ff ?_ | refine Br.dec (fun h => ?_) (fun h => ?_) | refine Br.not ?_ | refine Br.intro (fun h => ?_) (fun h => ?_) | refine GetE.intro _ rfl ?_ | refine Need.intro rfl ?_ | refine DrawP.go mixed rfl ?_ | refine QCallK.introF _ _ (joinK rfl (.cons (CvL.data [_, _, _, _]) .nil) rfl (len1 _ _ _ _)) (kill_eq rfl) ?_ | refine QCallK.introF _ _ (joinK rfl (.cons (CvL.data [_, _, _, _]) (.cons (CvL.data [_, _, _, _]) .nil)) rfl (len2 _ _ _ _ _ _ _ _)) (kill_eq rfl) ?_ | refine QCallK.introF _ _ (joinK rfl (.cons (CvL.data [_, _, _, _]) (.cons (CvL.data [_, _, _, _]) (.cons (CvL.data [_, _, _, _]) .nil))) rfl (len3 _ _ _ _ _ _ _ _ _ _ _ _)) (kill_eq rfl) ?_ | refine QCall.intro _ (not_c _ _ _ _ ⟨rfl, rfl⟩) ?_ | refine QCall.intro _ (c3 ⟨rfl, rfl⟩) ?_ | refine QCall.intro _ (c4 ⟨rfl, rfl⟩) ?_ | refine QCall.intro _ (c5 ⟨rfl, rfl⟩) ?_)
    conv => whnf
    exact FinP.drop (n := 0) rfl (Nat.zero_le _) rfl rfl ⟨rfl, rfl⟩
  obtain ⟨o1, o2, o3, o4, o5, o6⟩ := all_ok (hx1.trans x10) (hx2.trans x20) (hx3.trans x30)
  obtain ⟨p, hp⟩ : ∃ p, hoF y a = p := ⟨_, rfl⟩
  obtain ⟨q, hq⟩ : ∃ p, hoF y b = p := ⟨_, rfl⟩
  have g1 := fun {L : List Blk} {k : V → List Blk → Prop} => kk a p ha (hva.trans a0) hp (L := L) (k := k)
  have g2 := fun {L : List Blk} {k : V → List Blk → Prop} => kk b q hb (hvb.trans b0) hq (L := L) (k := k)
  have g3 := fun {L : List Blk} {k : V → List Blk → Prop} => kk (nt a) (!p) lna o1 (by simp [nt, jn, hoF, hoHead, hoAll, hoAny, hp, hq]) (L := L) (k := k)
  have g4 := fun {L : List Blk} {k : V → List Blk → Prop} => kk (jn 2 [a, b]) (p && q) (la2 2) o2 (by simp [nt, jn, hoF, hoHead, hoAll, hoAny, hp, hq]) (L := L) (k := k)
  have g5 := fun {L : List Blk} {k : V → List Blk → Prop} => kk (jn 3 [a, b]) (p || q) (la2 3) o3 (by simp [nt, jn, hoF, hoHead, hoAll, hoAny, hp, hq]) (L := L) (k := k)
  have g6 := fun {L : List Blk} {k : V → List Blk → Prop} => kk (jn 2 [b, a, b]) (q && (p && q)) (la3 2) (hx3.trans x30) (by simp [nt, jn, hoF, hoHead, hoAll, hoAny, hp, hq]) (L := L) (k := k)
  have g7 := fun {L : List Blk} {k : V → List Blk → Prop} => kk (jn 3 [b, a, b]) (q || (p || q)) (la3 3) o4 (by simp [nt, jn, hoF, hoHead, hoAll, hoAny, hp, hq]) (L := L) (k := k)
  have g8 := fun {L : List Blk} {k : V → List Blk → Prop} => kk (nt (jn 2 [a, b])) (!(p && q)) lnj o5 (by simp [nt, jn, hoF, hoHead, hoAll, hoAny, hp, hq]) (L := L) (k := k)
  have g9 := fun {L : List Blk} {k : V → List Blk → Prop} => kk (jn 3 [nt a, nt b]) (!p || !q) lor (hx2.trans x20) (by simp [nt, jn, hoF, hoHead, hoAll, hoAny, hp, hq]) (L := L) (k := k)
  have g10 := fun {L : List Blk} {k : V → List Blk → Prop} => kk (jn 2 [a]) p la1 o6 (by simp [nt, jn, hoF, hoHead, hoAll, hoAny, hp, hq]) (L := L) (k := k)
  simp only [nt, jn, mk_cells, hca, hcb, List.map_cons, List.map_nil] at g1 g2 g3 g4 g5 g6 g7 g8 g9 g10
  clear hx1 hx2 hx3 hva hvb hp hq c1 c2 kk cc
  cases p <;> cases q
  all_goals
    repeat' (conv => whnf
             first | refine Br.yes (decide_eq_true x10) ?_ | refine Br.yes (decide_eq_true x20) ?_ | refine Br.yes (decide_eq_true x30) ?_ | refine Br.tt ?_ | refine Br.ff ?_ | refine Br.dec (fun h => ?_) (fun h => ?_) | refine Br.not ?_ | refine Br.intro (fun h => ?_) (fun h => ?_) | refine GetE.intro _ rfl ?_ | refine Need.intro rfl ?_ | refine QCallK.introF _ _ (joinK rfl (.cons (CvL.data [_, _, _, _]) .nil) rfl (len1 _ _ _ _)) (kill_eq rfl) ?_ | refine QCallK.introF _ _ (joinK rfl (.cons (CvL.data [_, _, _, _]) (.cons (CvL.data [_, _, _, _]) .nil)) rfl (len2 _ _ _ _ _ _ _ _)) (kill_eq rfl) ?_ | refine QCallK.introF _ _ (joinK rfl (.cons (CvL.data [_, _, _, _]) (.cons (CvL.data [_, _, _, _]) (.cons (CvL.data [_, _, _, _]) .nil))) rfl (len3 _ _ _ _ _ _ _ _ _ _ _ _)) (kill_eq rfl) ?_ | refine QCall.intro _ (not_c _ _ _ _ ⟨rfl, rfl⟩) ?_ | refine QCall.intro _ (c3 ⟨rfl, rfl⟩) ?_ | refine QCall.intro _ (c4 ⟨rfl, rfl⟩) ?_ | refine QCall.intro _ (c5 ⟨rfl, rfl⟩) ?_)
    conv => whnf
    refine DrawP.go mixed rfl ?_
    repeat' (conv => whnf
             first | refine Br.tt ?_ | refine Br.ff ?_ | refine Br.dec (fun h => ?_) (fun h => ?_) | refine Br.not ?_ | refine Br.intro (fun h => ?_) (fun h => ?_) | refine GetE.intro _ rfl ?_ | refine Need.intro rfl ?_ | refine QCall.intro _ (g1 ⟨rfl, rfl⟩) ?_ | refine QCall.intro _ (g2 ⟨rfl, rfl⟩) ?_)
    conv => whnf
    refine DrawP.por mixed [1013, 1027, 1042, 1057, 1072, 1084, 1093] [[(0, 0), (1, 0), (2, 0), (3, 0), (4, 0), (5, 0), (6, 0), (7, 0), (8, 0), (9, 0), (10, 0), (11, 0), (14, 4), (12, 0), (13, 5), (15, 0), (16, 0), (17, 0), (18, 0), (19, 0), (20, 0), (21, 0), (22, 0), (23, 0), (24, 0), (25, 0), (28, 4), (26, 0), (27, 5), (29, 0), (30, 0), (31, 0), (32, 0), (33, 0), (34, 0), (35, 0), (36, 0), (37, 0), (38, 0), (39, 0), (40, 0), (43, 4), (41, 0), (42, 5), (44, 0), (45, 0), (46, 0), (47, 0), (48, 0), (49, 0), (50, 0), (51, 0), (52, 0), (53, 0), (54, 0), (55, 0), (58, 4), (56, 0), (57, 5), (59, 0), (60, 0), (61, 0), (62, 0), (63, 0), (64, 0), (65, 0), (66, 0), (67, 0), (68, 0), (69, 0), (70, 0), (74, 4), (76, 0), (77, 0), (78, 4), (80, 0), (81, 4), (85, 4), (71, 0), (72, 5), (73, 0), (75, 0), (79, 0), (82, 0), (83, 0), (84, 5), (86, 0), (87, 0), (88, 0), (89, 0), (90, 0), (91, 0), (94, 4), (92, 0), (93, 5), (95, 0), (96, 0), (97, 0), (98, 0), (99, 0)]] (by kernel_rfl) ?_
    repeat' (conv => whnf
             first | refine Br.tt ?_ | refine Br.ff ?_ | refine Br.dec (fun h => ?_) (fun h => ?_) | refine Br.not ?_ | refine Br.intro (fun h => ?_) (fun h => ?_) | refine GetE.intro _ rfl ?_ | refine Need.intro rfl ?_ | refine QCall.intro _ (g1 ⟨rfl, rfl⟩) ?_ | refine QCall.intro _ (g2 ⟨rfl, rfl⟩) ?_ | refine QCallK.introF _ _ (joinK rfl (.cons (CvL.data [_, _, _, _]) .nil) rfl (len1 _ _ _ _)) (kill_eq rfl) ?_ | refine QCallK.introF _ _ (joinK rfl (.cons (CvL.data [_, _, _, _]) (.cons (CvL.data [_, _, _, _]) .nil)) rfl (len2 _ _ _ _ _ _ _ _)) (kill_eq rfl) ?_ | refine QCallK.introF _ _ (joinK rfl (.cons (CvL.data [_, _, _, _]) (.cons (CvL.data [_, _, _, _]) (.cons (CvL.data [_, _, _, _]) .nil))) rfl (len3 _ _ _ _ _ _ _ _ _ _ _ _)) (kill_eq rfl) ?_ | refine QCall.intro _ (not_c _ _ _ _ ⟨rfl, rfl⟩) ?_ | refine QCall.intro _ (g3 ⟨rfl, rfl⟩) ?_ | refine QCall.intro _ (g4 ⟨rfl, rfl⟩) ?_ | refine QCall.intro _ (g5 ⟨rfl, rfl⟩) ?_ | refine QCall.intro _ (g6 ⟨rfl, rfl⟩) ?_ | refine QCall.intro _ (g7 ⟨rfl, rfl⟩) ?_ | refine QCall.intro _ (g8 ⟨rfl, rfl⟩) ?_ | refine QCall.intro _ (g9 ⟨rfl, rfl⟩) ?_ | refine QCall.intro _ (g10 ⟨rfl, rfl⟩) ?_)
    conv => whnf
    exact FinP.drop (n := 0) rfl (Nat.zero_le _) rfl rfl ⟨rfl, rfl⟩
theorem call_closed : ∀ xss, TyA C.P Tryd.f8.params.toList xss → (∀ xs ∈ xss, ∀ y ∈ xs, Dsm reachBytes y) → CallP C 8 (argVs C.P Tryd.f8.params.toList xss) [] fun X L => L = [] ∧ X = .d (.bool true) := by
  intro xss h hsm
  match xss, h, hsm with
  | [x1, x2, x3], ⟨h1, h2, h3, _⟩, hsm =>
    obtain ⟨x1, rfl, b1⟩ := condT h1 (hsm _ (by simp))
    obtain ⟨x2, rfl, b2⟩ := condT h2 (hsm _ (by simp))
    obtain ⟨x3, rfl, b3⟩ := intT h3 (hsm _ (by simp))
    exact law x1 x2 x3 b1 b2
theorem contract (H : Type) (enc : TypeId × Value → H) (W : World) (base : Nat) (args : Array Value) (ds gs : List (DataW H)) (before : List MemPlace)
    (hval : ∀ (j : Nat) t v, Tryd.f8.params[j]? = some t → args[j]? = some v → Value.okWide Tryd.prog W .any base t v)
    (hW : DataW.Whole enc Tryd.prog Tryd.f8.params.toList Rows.typingLogicSpec.vars false W args.toList ds gs before)
    (hz : (DataW.weightsEach Tryd.prog (Tryd.f8.params.toList ++ Rows.typingLogicSpec.plain.varTypes Tryd.prog) (ds ++ gs)).all (· ≤ reachBytes) = true) (hL : laidMetH Tryd.prog Rows.typingLogicRow.laid W) :
    Calls Tryd.prog 8 args W fun e W' => ∃ v, e = .returned v ∧ Rows.typingLogicSpec.post enc Tryd.prog Tryd.f8 false true false false W args v W' := by
  refine law_ofB (C := C) (l := plainTys) kids full plainOk bytesOk plainLt (fun t ht => ?_) rfl rfl Tryd.underlying4 (fun ds hd => ?_) call_closed hval hW hz (glob_ok hL)
  · have : Tryd.f8.params.toList.all (fun t => plainTys.contains t) = true := by kernel_rfl
    simpa using List.all_eq_true.1 this t ht
  · match ds, hd with
    | [d1, d2, d3], _ => rfl
theorem laid_met (os : Os) : laidMet Tryd.prog Rows.typingLogicRow.laid ((laidWorld os).forCall (fun _ _ => 0) ⟨#[], #[.agg #[.int .i64 0, .int .i64 0, .int .i64 0, .slice none 0 0], .agg #[.int .i64 0, .int .i64 0, .int .i64 0, .slice none 0 0], .int .i64 0], []⟩).memory :=
  laidMet_of_run' 8 (by kernel_rfl) (by kernel_rfl)
theorem reads (os : Os) {H : Type} (enc : TypeId × Value → H) : ∃ places, DataW.whole enc Tryd.prog ((laidWorld os).forCall (fun _ _ => 0) ⟨#[], #[.agg #[.int .i64 0, .int .i64 0, .int .i64 0, .slice none 0 0], .agg #[.int .i64 0, .int .i64 0, .int .i64 0, .slice none 0 0], .int .i64 0], []⟩).memory Tryd.f8.params.toList Rows.typingLogicSpec.vars false #[.agg #[.int .i64 0, .int .i64 0, .int .i64 0, .slice none 0 0], .agg #[.int .i64 0, .int .i64 0, .int .i64 0, .slice none 0 0], .int .i64 0].toList 8 = some ([.agg [.lit (.int .i64 0), .lit (.int .i64 0), .lit (.int .i64 0), .nil], .agg [.lit (.int .i64 0), .lit (.int .i64 0), .lit (.int .i64 0), .nil], .lit (.int .i64 0)], [], places) :=
  ⟨[], by kernel_rfl⟩
set_option maxRecDepth 100000 in
theorem lifted (os : Os) (started : os.Started) (H : Type) (enc : TypeId × Value → H) (F : Stop.Interp) :
    ReturnsInHanded {} Tryd.checked os 8 .any ((OpenSpec.ofChange Rows.typingLogicSpec).preRow enc Tryd.prog Tryd.f8 Rows.typingLogicRow.domain false Rows.typingLogicRow.laid) (((OpenSpec.ofChange Rows.typingLogicSpec).at F).post enc Tryd.prog Tryd.f8 false true false false) := by
  obtain ⟨places, hx⟩ := reads os enc
  refine returnsInHanded_of_row (C := Tryd.checked) (s := OpenSpec.ofChange Rows.typingLogicSpec) own started (by kernel_rfl) Tryd.func8
    (witness_row_at (enc := enc) (C := Tryd.checked) false (laidWorld os) #[.agg #[.int .i64 0, .int .i64 0, .int .i64 0, .slice none 0 0], .agg #[.int .i64 0, .int .i64 0, .int .i64 0, .slice none 0 0], .int .i64 0] rfl (by kernel_rfl) (by kernel_rfl) (by kernel_rfl)
      (OpenSpec.preRow_of_cond 8 hx (by kernel_rfl) (fun k hk => by cases hk) (by kernel_rfl) (laid_met os))) ?_
  intro W base args ds gs before hval hW _ _ hz hL _ _
  exact contract H enc W base args ds gs before hval hW hz hL
theorem said : Rows.TypingLogicSaid :=
  OpenClaim.holds_of_cond 8 Tryd.f8 rfl rfl rfl rfl rfl rfl rfl ⟨rfl, rfl, rfl, rfl, rfl⟩ rfl rfl rfl rfl rfl (by kernel_rfl) Tryd.func8 (by kernel_rfl)
    (of_decide_eq_true (by kernel_rfl)) (by unfold Func.isWrapper; first | (rw [if_pos (by decide +kernel)]; kernel_rfl) | (rw [if_neg (by decide +kernel)]; exact ⟨rfl, rfl⟩))
    (fun os started H enc _ F => by rw [OpenClaim.pre_eq_preRow]; exact lifted os started H enc F)
theorem plain (f : FuncId) (fn : Func) (hf : Tryd.pinned.checked.prog.funcNamed "assize/assizelaw14.TypingLogic" = some f) (hfn : Tryd.pinned.checked.prog.funcs[f]? = some fn) :
    true = Tryd.pinned.checked.prog.looks [] ∧ ∀ (j : Nat) t, fn.params[j]? = some t → Tryd.pinned.checked.prog.wantsStandIn t = false := by
  obtain rfl : f = 8 := Option.some.inj ((show Tryd.prog.funcNamed "assize/assizelaw14.TypingLogic" = some 8 by kernel_rfl).symm.trans hf) |>.symm
  obtain rfl : fn = Tryd.f8 := (Option.some.inj (Tryd.func8.symm.trans hfn)).symm
  refine ⟨by kernel_rfl, fun j t ht => ?_⟩
  have hall : Tryd.f8.params.toList.all (fun t => !Tryd.prog.wantsStandIn t) = true := by kernel_rfl
  have := List.all_eq_true.1 hall t (by simpa using Array.mem_of_getElem? ht)
  show Tryd.prog.wantsStandIn t = false
  simpa using this
theorem proved : Rows.TypingLogicCardSaid :=
  Claim7.holds_tied_plain_at .later [] _ _ _ _ said (fun _ h => by cases h) (by kernel_rfl) (fun _ h => by cases h) typingLogic_row_tie rfl ⟨rfl, rfl⟩ (by kernel_rfl) rfl plain (by kernel_rfl)
end Go.Proofs.YtddolfgmkpfmcaaDoor.typingLogic
