/-
  Mini: searching and deleting.
-/
import Derived.Test.YtnkfifkgbkgcjaaStatsT
import Derived.Test.YtnkfifkgbkgcjaaTidyZ8
namespace Go.Proofs.Ytnkfifkgbkgcjaa
open Go.Tidy
set_option maxRecDepth 100000
set_option maxHeartbeats 0
set_option linter.unusedSimpArgs false
set_option linter.unusedVariables false
variable {L : List Blk} {k : V → List Blk → Prop}
theorem sindex_c (l : List Int) (n : Int) (hl : l.length ≤ 4611686018427387904) (h : k (I (findI (fun m => decide (n = m)) l)) L) : CallP C 52 [.d (ints l), I n] L k := by
  refine CallP.pure ?_ rfl (fun _ => rfl) h
  clear h
  refine callP_of C_ok Try.func52 rfl rfl (n := _) rfl (Nat.le_of_ble_eq_true rfl) (rs := _) rfl ?_
  conv => whnf
  refine LoopP.intro (ι := Far (fun m => decide (n = m)) l) (fun s => ⟨[(0, .d (ints l)), (1, I n), (7, I l.length), (8, I s.i)], 19, [], [], none⟩) (fun s => l.length - s.i) (Far.zero _ l) ?_ ?_
  · exact Weak.by ⟨rfl, rfl, congrArg I (by simp), rfl, trivial⟩
  intro s
  conv => whnf
  refine Br.dec (fun h => ?_) (fun h => ?_)
  · have hi : s.i < l.length := by simpa using h
    repeat' (conv => whnf
             first | refine Br.tt ?_ | refine Br.ff ?_ | refine Br.dec (fun h => ?_) (fun h => ?_) | refine Br.not ?_ | refine Br.intro (fun h => ?_) (fun h => ?_) | refine GetE.intro _ rfl ?_ | refine Need.intro rfl ?_ | refine DrawP.go mixed rfl ?_ | refine Idx.map s.i rfl hi ?_ | refine FinP.drop (n := 0) rfl (Nat.le_refl 0) rfl rfl ⟨rfl, congrArg I ?_⟩)
    · exact (findI_hit hi (decide_eq_true (by assumption)) s.no).symm
    · exact ⟨s.next hi (decide_eq_false (by assumption)), by simp only [Far.next]; omega, Weak.by ⟨rfl, rfl, rfl, congrArg I (by rw [wrap_id] <;> (try simp only [Far.next]) <;> omega), trivial⟩⟩
  · have hi : ¬ s.i < l.length := by simpa using h
    repeat' (conv => whnf
             first | refine Br.tt ?_ | refine Br.ff ?_ | refine Br.dec (fun h => ?_) (fun h => ?_) | refine Br.not ?_ | refine Br.intro (fun h => ?_) (fun h => ?_) | refine GetE.intro _ rfl ?_ | refine Need.intro rfl ?_ | refine DrawP.go mixed rfl ?_ | refine FinP.drop (n := 0) rfl (Nat.le_refl 0) rfl rfl ⟨rfl, congrArg I ?_⟩)
    exact (findI_miss fun j hj => s.no j hj (by omega)).symm
theorem contains_c (l : List Int) (n : Int) (hl : l.length ≤ 4611686018427387904) (h : k (B (l.contains n)) L) : CallP C 34 [.d (ints l), I n] L k := by
  refine CallP.pure ?_ rfl (fun _ => rfl) h
  clear h
  refine callP_of C_ok Try.func34 rfl rfl (n := _) rfl (Nat.le_of_ble_eq_true rfl) (rs := _) rfl ?_
  conv => whnf
  refine sindex_c l n hl ?_
  repeat' (conv => whnf
           first | refine Br.tt ?_ | refine Br.ff ?_ | refine Br.dec (fun h => ?_) (fun h => ?_) | refine Br.not ?_ | refine Br.intro (fun h => ?_) (fun h => ?_) | refine GetE.intro _ rfl ?_ | refine Need.intro rfl ?_ | refine DrawP.go mixed rfl ?_)
  conv => whnf
  refine FinP.drop (n := 0) rfl (Nat.le_refl 0) rfl rfl ⟨rfl, congrArg B ?_⟩
  rw [findI_any, List.contains_eq_any_beq]
  exact congrArg (fun f => List.any l f) (funext fun m => by simp [Bool.beq_eq_decide_eq])
theorem others_c (r : Res) (group : List Int) (hl : group.length ≤ 4611686018427387904) (h : k (B (!known group r)) L) : CallP C 33 [resV r, .d (.rptr [ints group])] L k := by
  refine CallP.pure ?_ rfl (fun _ => rfl) h
  clear h
  refine callP_of C_ok Try.func33 rfl rfl (n := _) rfl (Nat.le_of_ble_eq_true rfl) (rs := _) rfl ?_
  conv => whnf
  refine contains_c group _ hl ?_
  repeat' (conv => whnf
           first | refine Br.tt ?_ | refine Br.ff ?_ | refine Br.dec (fun h => ?_) (fun h => ?_) | refine Br.not ?_ | refine Br.intro (fun h => ?_) (fun h => ?_) | refine GetE.intro _ rfl ?_ | refine Need.intro rfl ?_ | refine DrawP.go mixed rfl ?_ | refine contains_c group _ hl ?_)
  all_goals conv => whnf
  all_goals refine FinP.drop (n := 0) rfl (Nat.le_refl 0) rfl rfl ⟨rfl, congrArg B ?_⟩
  all_goals simp_all [known]
theorem rindexFunc_c (l : List Res) (hl : l.length ≤ 4611686018427387904) (f : FuncId) (caps : List D) (p : Res → Bool) (hp : ∀ n (L : List Blk) (k : V → List Blk → Prop), k (B (p n)) L → CallP C f ([resV n] ++ caps.map .d) L k)
    (h : k (I (findI p l)) L) : CallP C 53 [.d (ress l), .d (.fn f caps)] L k := by
  refine CallP.pure ?_ rfl (fun _ => rfl) h
  clear h
  refine callP_of C_ok Try.func53 rfl rfl (n := _) rfl (Nat.le_of_ble_eq_true rfl) (rs := _) rfl ?_
  conv => whnf
  refine LoopP.intro (ι := Far p l) (fun s => ⟨[(0, .d (ress l)), (1, .d (.fn f caps)), (7, I l.length), (8, I s.i)], 19, [], [], none⟩) (fun s => l.length - s.i) (Far.zero p l) ?_ ?_
  · exact Weak.by ⟨rfl, rfl, congrArg I (by simp), rfl, trivial⟩
  intro s
  conv => whnf
  refine Br.intro (fun h => ?_) (fun h => ?_)
  · have hi : s.i < l.length := by simpa using h
    repeat' (conv => whnf
             first | refine Br.tt ?_ | refine Br.ff ?_ | refine Br.dec (fun h => ?_) (fun h => ?_) | refine Br.not ?_ | refine Br.intro (fun h => ?_) (fun h => ?_) | refine GetE.intro _ rfl ?_ | refine Need.intro rfl ?_ | refine DrawP.go mixed rfl ?_ | refine Idx.map s.i rfl hi ?_ | refine hp _ _ _ ?_)
    all_goals conv => whnf
    · exact FinP.drop (n := 0) rfl (Nat.le_refl 0) rfl rfl ⟨rfl, congrArg I (findI_hit hi h s.no).symm⟩
    · exact ⟨s.next hi h, by simp only [Far.next]; omega, Weak.by ⟨rfl, rfl, rfl, congrArg I (by rw [wrap_id] <;> (try simp only [Far.next]) <;> omega), trivial⟩⟩
  · have hi : ¬ s.i < l.length := by simpa using h
    repeat' (conv => whnf
             first | refine Br.tt ?_ | refine Br.ff ?_ | refine Br.dec (fun h => ?_) (fun h => ?_) | refine Br.not ?_ | refine Br.intro (fun h => ?_) (fun h => ?_) | refine GetE.intro _ rfl ?_ | refine Need.intro rfl ?_ | refine DrawP.go mixed rfl ?_)
    conv => whnf
    exact FinP.drop (n := 0) rfl (Nat.le_refl 0) rfl rfl ⟨rfl, congrArg I (findI_miss fun j hj => s.no j hj (by omega)).symm⟩
def resE (r : Res) : List V := r.cells.map V.d
theorem resE_map (l : List Res) : (l.map Res.cells).map (fun e => e.map V.d) = l.map resE := by rw [List.map_map]; rfl
theorem cells13 (l : List Res) : ∀ e ∈ l.map Res.cells, e.length = 13 := by
  intro e he
  obtain ⟨r, _, rfl⟩ := List.mem_map.1 he
  rfl
theorem shL_d (n : Nat) : ∀ c : List D, V.shL n (c.map V.d) = c.map V.d
  | [] => rfl
  | x :: c => by simp only [List.map_cons, V.shL, V.sh, shL_d n c]
theorem shR_res (n : Nat) : ∀ l : List Res, shR n (l.map resE) = l.map resE
  | [] => rfl
  | r :: l => by simp only [List.map_cons, shR, shR_res n l, resE, shL_d]
theorem res_bel (n g : Nat) (l : List Res) : belB n [.row g 13 (l.map resE)] = true := by
  simp only [belB, Blk.bel, Bool.and_true]
  refine belR_of fun x hx => ?_
  obtain ⟨c, _, rfl⟩ := List.mem_map.1 hx
  exact V.belL_d _ _
theorem clone_0 (l : List Res) (hl : l.length ≤ 4294967296) : CallP C 36 [.d (ress l)] [] fun X L' => L' = [.row 1 13 (l.map resE)] ∧ X = .own 0 1 0 l.length := by
  refine callP_of C_ok Try.func36 rfl rfl (n := _) rfl (Nat.le_of_ble_eq_true rfl) (rs := _) rfl ?_
  conv => whnf
  refine NilP.intro (fun h0 => ?_) ?_
  · have hn : l = [] := List.eq_nil_of_length_eq_zero (by simpa using h0)
    subst hn
    repeat' (conv => whnf
             first | refine Br.tt ?_ | refine Br.ff ?_ | refine Br.dec (fun h => ?_) (fun h => ?_) | refine Br.not ?_ | refine Br.intro (fun h => ?_) (fun h => ?_) | refine GetE.intro _ rfl ?_ | refine Need.intro rfl ?_ | refine DrawP.go mixed rfl ?_)
    conv => whnf
    exact FinP.nilOwn (sz := 13) (gen := 1) (by decide) ⟨rfl, rfl⟩
  · repeat' (conv => whnf
             first | refine Br.tt ?_ | refine Br.ff ?_ | refine Br.dec (fun h => ?_) (fun h => ?_) | refine Br.not ?_ | refine Br.intro (fun h => ?_) (fun h => ?_) | refine GetE.intro _ rfl ?_ | refine Need.intro rfl ?_ | refine DrawP.go mixed rfl ?_ | refine Need.intro (cells13 _) ?_ | refine Need.intro (by first | omega | (simp; omega)) ?_)
    conv => whnf
    refine FinP.drop (n := 1) (L' := [.row 1 13 (l.map resE)]) (congrArg (fun e => [Blk.row 1 13 e]) ?_) (Nat.le_of_ble_eq_true rfl) rfl (res_bel _ _ _) ⟨rfl, congrArg (V.own 0 1 0) ?_⟩
    · simp; intro a _; rfl
    · simp
theorem clone_c (l : List Res) (hl : l.length ≤ 4294967296) (h : k (.own L.length 1 0 l.length) (L ++ [.row 1 13 (l.map resE)])) : CallP C 36 [.d (ress l)] L k := by
  refine (clone_0 l hl).frame rfl fun X L' h' => ?_
  obtain ⟨rfl, rfl⟩ := h'
  simpa [V.sh, shB, Blk.sh, shR_res] using h
def zR : List V := (⟨⟨0, 0, 0, 0⟩, 0, 0, 0, 0, 0, 0, 0, false, false⟩ : Res).cells.map V.d
def inG (group : List Int) (l : List Res) : List Res := l.filter (known group)
theorem findI_all {group : List Int} {l : List Res} (h : findI (fun r => !known group r) l = -1) : inG group l = l := by
  refine List.filter_eq_self.2 fun r hr => ?_
  have h2 := findI_any (fun r => !known group r) l
  rw [h] at h2
  have h3 : l.any (fun r => !known group r) = false := by rw [← h2]; rfl
  simpa using List.any_eq_false.1 h3 r hr
theorem findI_some {group : List Int} {l : List Res} (h : findI (fun r => !known group r) l ≠ -1) : ∃ i : Nat, findI (fun r => !known group r) l = i ∧ ∃ hi : i < l.length, known group l[i] = false ∧ inG group (l.take i) = l.take i := by
  unfold findI at h ⊢
  cases e : l.findIdx? (fun r => !known group r) with
  | none => rw [e] at h; exact absurd rfl h
  | some i =>
    rw [List.findIdx?_eq_some_iff_getElem] at e
    obtain ⟨hi, h1, h2⟩ := e
    refine ⟨i, rfl, hi, by simpa using h1, List.filter_eq_self.2 fun r hr => ?_⟩
    obtain ⟨j, hj, rfl⟩ := List.getElem_of_mem hr
    simp only [List.length_take] at hj
    have := h2 j (by omega)
    simpa using this
/-- Where the deletion stands: what is kept lies ahead, what is not yet seen lies behind. -/
structure Del (group : List Int) (l : List Res) where
  i : Nat
  j : Nat
  cur : List Res
  len : cur.length = l.length
  ij : i < j
  jl : j ≤ l.length
  kept : cur.take i = inG group (l.take j)
  rest : cur.drop j = l.drop j
theorem Del.at {group : List Int} {l : List Res} (s : Del group l) (hj : s.j < l.length) : s.cur[s.j]'(by rw [s.len]; exact hj) = l[s.j] := by
  have h := congrArg (fun x => x[0]?) s.rest
  simp only [List.getElem?_drop, Nat.add_zero] at h
  rw [List.getElem?_eq_getElem hj, List.getElem?_eq_getElem (by rw [s.len]; exact hj)] at h
  exact Option.some.inj h
theorem drop_next {α : Type} {a b : List α} {j : Nat} (h : a.drop j = b.drop j) : a.drop (j + 1) = b.drop (j + 1) := by
  rw [← List.drop_drop, ← List.drop_drop, h]
def Del.skip {group : List Int} {l : List Res} (s : Del group l) (hj : s.j < l.length) (h : known group l[s.j] = false) : Del group l :=
  ⟨s.i, s.j + 1, s.cur, s.len, by have := s.ij; omega, hj, by rw [take_next hj, inG, List.filter_append, ← inG, ← s.kept]; simp [h], drop_next s.rest⟩
def Del.keep {group : List Int} {l : List Res} (s : Del group l) (hj : s.j < l.length) (h : known group l[s.j] = true) : Del group l :=
  ⟨s.i + 1, s.j + 1, s.cur.set s.i l[s.j], by rw [List.length_set]; exact s.len, by have := s.ij; omega, hj, by
    have hi : s.i < s.cur.length := by rw [s.len]; have := s.ij; omega
    rw [take_next (by rw [List.length_set]; exact hi), List.take_set_of_le (Nat.le_refl _), s.kept, List.getElem_set_self, take_next hj, inG, inG, List.filter_append]
    simp [h], by
    rw [List.drop_set_of_lt (by have := s.ij; omega)]; exact drop_next s.rest⟩
theorem res2_bel (n g m : Nat) (d : D) (l : List Res) : belB n [.cells [.d d], .row g 13 (l.map resE ++ List.replicate m zR)] = true := by
  simp only [belB, Blk.bel, V.belL, V.bel, Bool.and_true, Bool.true_and]
  refine belR_of fun x hx => ?_
  rcases List.mem_append.1 hx with hx | hx
  · obtain ⟨c, _, rfl⟩ := List.mem_map.1 hx
    exact V.belL_d _ _
  · rw [List.eq_of_mem_replicate hx]
    exact V.belL_d _ _
theorem res1_bel (n g : Nat) (d : D) (l : List Res) : belB n [.cells [.d d], .row g 13 (l.map resE)] = true := by
  simpa using res2_bel n g 0 d l
theorem delete_0 (l : List Res) (group : List Int) (hl : l.length ≤ 4294967296) (hg : group.length ≤ 4611686018427387904) :
    CallP C 35 [.own 1 1 0 l.length, .fn 33 [.ptr 0 0]] [.cells [.d (ints group)], .row 1 13 (l.map resE)] fun X L' =>
      L' = [.cells [.d (ints group)], .row 1 13 ((inG group l).map resE ++ List.replicate (l.length - (inG group l).length) zR)] ∧ X = .own 1 1 0 (inG group l).length := by
  refine callP_of C_ok Try.func35 rfl rfl (n := _) rfl (Nat.le_of_ble_eq_true rfl) (rs := _) rfl ?_
  conv => whnf
  refine CallP.lent (rindexFunc_c l (by omega) 33 [.rptr [ints group]] (fun r => !known group r) (fun n L k h => others_c n group hg h) ⟨rfl, rfl⟩)
    (.cv (.d (.row (l.map Res.cells) trivial rfl ?_ ?_ (cells13 l))) (.cv (.d (.fnL (.cons (.ptrL trivial rfl (.data [ints group])) .nil))) .nil)) rfl rfl ?_
  · rw [resE_map, List.drop_zero]; exact List.take_of_length_le (by simp)
  · simp
  by_cases h : findI (fun r => !known group r) l = -1
  · have hall := findI_all h
    rw [hall, h]
    repeat' (conv => whnf
             first | refine Br.tt ?_ | refine Br.ff ?_ | refine Br.dec (fun h => ?_) (fun h => ?_) | refine Br.not ?_ | refine Br.intro (fun h => ?_) (fun h => ?_) | refine GetE.intro _ rfl ?_ | refine Need.intro rfl ?_ | refine DrawP.go mixed rfl ?_)
    conv => whnf
    refine FinP.drop (n := 2) (L' := [.cells [.d (ints group)], .row 1 13 (l.map resE ++ List.replicate (l.length - l.length) zR)]) (congrArg (fun e => [Blk.cells [V.d (ints group)], Blk.row 1 13 e]) (by simp)) (Nat.le_refl 2) rfl (res2_bel _ _ _ _ _) ⟨rfl, rfl⟩
  · obtain ⟨i0, hi0, hil, hk, hpre⟩ := findI_some h
    rw [hi0]
    rw [hi0] at h
    repeat' (conv => whnf
             first | refine Br.tt ?_ | refine Br.ff ?_ | refine Br.dec (fun h => ?_) (fun h => ?_) | refine Br.not ?_ | refine Br.intro (fun h => ?_) (fun h => ?_) | refine GetE.intro _ rfl ?_ | refine Need.intro rfl ?_ | refine DrawP.go mixed rfl ?_ | refine Br.ff ?_)
    conv => whnf
    refine LoopP.intro (ι := Del group l) (fun s => ⟨[(0, .own 1 1 0 l.length), (1, .fn 33 [.ptr 0 0]), (5, I s.i), (6, I s.j)], 42, [.cells [.d (ints group)], .row 1 13 (s.cur.map resE)], [], none⟩) (fun s => l.length - s.j)
      ⟨i0, i0 + 1, l, rfl, Nat.lt_succ_self _, hil, by rw [take_next hil, inG, List.filter_append, ← inG, hpre]; simp [hk], rfl⟩ ?_ ?_
    · exact Weak.by ⟨rfl, rfl, rfl, congrArg I (by rw [wrap_in (by omega)]; simp), trivial⟩
    intro s
    conv => whnf
    refine Br.dec (fun hb' => ?_) (fun hb' => ?_)
    · have hj : s.j < l.length := by simpa using hb'
      have hgj : (s.cur.map resE)[s.j]? = some (resE l[s.j]) := by
        rw [List.getElem?_map, List.getElem?_eq_getElem (by rw [s.len]; exact hj), s.at hj]; rfl
      have hii : s.i < s.cur.length := by rw [s.len]; have := s.ij; omega
      have hgi : (s.cur.map resE)[s.i]? = some (resE s.cur[s.i]) := by
        rw [List.getElem?_map, List.getElem?_eq_getElem hii]; rfl
      have hgj0 : (s.cur.map resE)[0 + s.j]? = some (resE l[s.j]) := by rw [Nat.zero_add]; exact hgj
      have hgi0 : (s.cur.map resE)[0 + s.i]? = some (resE s.cur[s.i]) := by rw [Nat.zero_add]; exact hgi
      have hil' : s.i < l.length := by rw [← s.len]; exact hii
      repeat' (conv => whnf
               first | refine Br.tt ?_ | refine Br.ff ?_ | refine Br.dec (fun h => ?_) (fun h => ?_) | refine Br.not ?_ | refine Br.intro (fun h => ?_) (fun h => ?_) | refine GetE.intro _ rfl ?_ | refine Need.intro rfl ?_ | refine DrawP.go mixed rfl ?_ | refine IdxN.intro s.j rfl hj ?_ | refine GetE.intro _ hgj0 ?_ | simp only [Nat.beq_refl, Bool.and_self])
      conv => whnf
      refine CallP.lent (others_c l[s.j] group hg ⟨rfl, rfl⟩) (.keep (.cv (.d (.ptrL trivial rfl (.cons (.d _) .nil))) .nil)) rfl rfl ?_
      repeat' (conv => whnf
               first | refine Br.tt ?_ | refine Br.ff ?_ | refine Br.dec (fun h => ?_) (fun h => ?_) | refine Br.not ?_ | refine Br.intro (fun h => ?_) (fun h => ?_) | refine GetE.intro _ rfl ?_ | refine Need.intro rfl ?_ | refine DrawP.go mixed rfl ?_ | refine IdxN.intro s.i rfl hil' ?_ | refine GetE.intro _ hgi0 ?_ | simp only [Nat.beq_refl, Bool.and_self])
      all_goals conv => whnf
      · refine ⟨s.keep hj h, by simp only [Del.keep]; omega, Weak.to 2 (congrArg (fun e => [Blk.cells [V.d (ints group)], Blk.row 1 13 e]) (Eq.trans (b := (s.cur.map resE).set (0 + s.i) (resE l[s.j])) rfl ?_)) (Nat.le_refl 2) (Nat.le_of_ble_eq_true rfl)
          ⟨rfl, rfl, congrArg I (by rw [wrap_in (by omega)]; simp only [Del.keep]; omega), congrArg I (by rw [wrap_in (by omega)]; simp only [Del.keep]; omega), trivial⟩ (hB := res1_bel _ _ _ _)⟩
        rw [Nat.zero_add]; simp only [Del.keep, List.map_set]
      · exact ⟨s.skip hj h, by simp only [Del.skip]; omega, Weak.to 2 rfl (Nat.le_refl 2) (Nat.le_of_ble_eq_true rfl)
          ⟨rfl, rfl, congrArg I rfl, congrArg I (by rw [wrap_in (by omega)]; simp only [Del.skip]; omega), trivial⟩ (hB := res1_bel _ _ _ _)⟩
    · have hje : s.j = l.length := by have := s.jl; simp at hb'; omega
      have hii : s.i < l.length := by have := s.ij; omega
      have hkept : s.cur.take s.i = inG group l := by rw [s.kept, hje, List.take_length]
      have hlen : (inG group l).length = s.i := by rw [← hkept, List.length_take, s.len]; omega
      repeat' (conv => whnf
               first | refine Br.tt ?_ | refine Br.ff ?_ | refine Br.dec (fun h => ?_) (fun h => ?_) | refine Br.not ?_ | refine Br.intro (fun h => ?_) (fun h => ?_) | refine GetE.intro _ rfl ?_ | refine Need.intro rfl ?_ | refine DrawP.go mixed rfl ?_ | refine SliceP.intro s.i l.length rfl rfl (Nat.le_of_lt hii) (Nat.le_refl _) ?_ | refine SliceP.intro 0 s.i rfl rfl (Nat.zero_le _) (Nat.le_of_lt hii) ?_ | simp only [Nat.beq_refl, Bool.and_self])
      conv => whnf
      refine FinP.drop (n := 2) (L' := [.cells [.d (ints group)], .row 1 13 ((inG group l).map resE ++ List.replicate (l.length - (inG group l).length) zR)])
        (congrArg (fun e => [Blk.cells [V.d (ints group)], Blk.row 1 13 e]) (Eq.trans (b := List.take (0 + s.i) (s.cur.map resE) ++ (List.replicate (l.length - s.i) zR ++ List.drop (0 + s.i + (l.length - s.i)) (s.cur.map resE))) rfl ?_)) (Nat.le_refl 2) rfl (res2_bel _ _ _ _ _)
        ⟨rfl, congrArg (V.own 1 1 0) (Eq.trans (b := s.i - 0) rfl (by rw [hlen]; rfl))⟩
      rw [Nat.zero_add, ← List.map_take, hkept, hlen, List.drop_of_length_le (by rw [List.length_map, s.len]; omega), List.append_nil]
end Go.Proofs.Ytnkfifkgbkgcjaa
