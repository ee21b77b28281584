/-
  demands' reference: Holds, Few, Same.
-/
import Derived.Test.YtfhigmdfocbajaaDemQ
namespace Go.Proofs.Ytfhigmdfocbajaa
open Go.Tidy
set_option maxRecDepth 100000
set_option maxHeartbeats 0
set_option linter.unusedSimpArgs false
set_option linter.unusedVariables false
variable {L : List Blk} {k : V → List Blk → Prop}
theorem rsame_c (a b : List Int) (ha : a.length ≤ 4611686018427387904) (h : k (B (decide (a = b))) L) : CallP C 19 [.d (ints a), .d (ints b)] L k := by
  refine CallP.pure ?_ rfl (fun _ => rfl) h
  clear h
  refine callP_of C_ok Try.func19 rfl rfl (n := _) rfl (Nat.le_of_ble_eq_true rfl) (rs := _) rfl ?_
  repeat' (conv => whnf
           first | refine Br.tt ?_ | refine Br.ff ?_ | refine Br.dec (fun h => ?_) (fun h => ?_) | refine Br.not ?_ | refine Br.intro (fun h => ?_) (fun h => ?_) | refine GetE.intro _ rfl ?_ | refine Need.intro rfl ?_ | refine DrawP.go mixed rfl ?_)
  all_goals conv => whnf
  · simp only [List.length_map] at h
    refine LoopP.inv (fun i => i ≤ a.length ∧ ∀ (j : Nat) (hj : j < a.length), j < i → a[j] = b[j]'(by omega)) (fun i => ⟨[(0, .d (ints a)), (1, .d (ints b)), (4, B false), (5, I i)], Try.f19.ntmps, [], [], none⟩) (fun i => a.length - i) 0 ⟨Nat.zero_le _, fun j _ h => absurd h (Nat.not_lt_zero j)⟩ ?_ ?_
    · exact Weak.by ⟨rfl, rfl, rfl, rfl, trivial⟩
    rintro i ⟨hi, hok⟩
    conv => whnf
    refine Br.dec (fun hb => ?_) (fun hb => ?_)
    · have hi' : i < a.length := by simpa using hb
      have hib : i < b.length := by omega
      have hw : IntKind.i64.wrap ((i : Int) + 1) = ((i + 1 : Nat) : Int) := by rw [wrap_in (by omega)]; omega
      have ra : (a.map fun n => [DI n])[i]? = some [DI a[i]] := by rw [List.getElem?_map, List.getElem?_eq_getElem hi']; rfl
      have rb : (b.map fun n => [DI n])[i]? = some [DI b[i]] := by rw [List.getElem?_map, List.getElem?_eq_getElem hib]; rfl
      repeat' (conv => whnf
               first | refine Idx.intro i _ rfl ra ?_ | refine Idx.intro i _ rfl rb ?_ | refine Br.tt ?_ | refine Br.ff ?_ | refine Br.dec (fun h => ?_) (fun h => ?_) | refine Br.not ?_ | refine Br.intro (fun h => ?_) (fun h => ?_) | refine GetE.intro _ rfl ?_ | refine Need.intro rfl ?_ | refine DrawP.go mixed rfl ?_)
      all_goals conv => whnf
      · exact ⟨i + 1, ⟨hi', fun j hj hji => by
          by_cases e : j = i
          · subst e; exact h
          · exact hok j hj (by omega)⟩, by omega, Weak.by ⟨rfl, rfl, rfl, congrArg I hw, trivial⟩⟩
      · exact FinP.drop (n := 0) rfl (Nat.le_refl 0) rfl rfl ⟨rfl, congrArg B (decide_eq_false fun e => by subst e; exact h rfl).symm⟩
    · have hie : i = a.length := by simp at hb; omega
      repeat' (conv => whnf
               first | refine Br.tt ?_ | refine Br.ff ?_ | refine Br.dec (fun h => ?_) (fun h => ?_) | refine Br.not ?_ | refine Br.intro (fun h => ?_) (fun h => ?_) | refine GetE.intro _ rfl ?_ | refine Need.intro rfl ?_ | refine DrawP.go mixed rfl ?_)
      conv => whnf
      exact FinP.drop (n := 0) rfl (Nat.le_refl 0) rfl rfl ⟨rfl, congrArg B (decide_eq_true (List.ext_getElem (by omega) fun j h1 h2 => hok j h1 (by omega))).symm⟩
  · exact FinP.drop (n := 0) rfl (Nat.le_refl 0) rfl rfl ⟨rfl, congrArg B (decide_eq_false fun e => by subst e; exact h rfl).symm⟩
/-- How much there is. -/
def bulkN (l : List (List Mt)) (p : Pl) : Nat := l.length + p.clubs.length + p.demands.length + (l.map List.length).sum + (p.demands.map fun d => d.clubs.length).sum
theorem sum_take {α : Type} (f : α → Nat) {l : List α} {i : Nat} (h : i < l.length) : ((l.take (i + 1)).map f).sum = ((l.take i).map f).sum + f l[i] := by
  rw [take_next h, List.map_append, List.sum_append]; simp
theorem sum_take_le {α : Type} (f : α → Nat) (l : List α) (i : Nat) : ((l.take i).map f).sum ≤ (l.map f).sum := by
  conv => rhs; rw [← List.take_append_drop i l, List.map_append, List.sum_append]
  omega
structure Fits (l : List (List Mt)) (p : Pl) : Prop where
  hl : l.length ≤ 140737488355328
  hr : ∀ r ∈ l, r.length ≤ 140737488355328
  hc : p.clubs.length ≤ 140737488355328
  hd : ∀ d ∈ p.demands, d.clubs.length ≤ 140737488355328
  hD : p.demands.length ≤ 140737488355328
theorem rfew_c (l : List (List Mt)) (p : Pl) (hs : Fits l p) (h : k (B (decide (bulkN l p ≤ 200))) L) : CallP C 12 [lisV l, plV p] L k := by
  obtain ⟨h1, h2, h3, h4, h5⟩ := hs
  refine CallP.pure ?_ rfl (fun _ => rfl) h
  clear h
  refine callP_of C_ok Try.func12 rfl rfl (n := _) rfl (Nat.le_of_ble_eq_true rfl) (rs := _) rfl ?_
  conv => whnf
  have w0 : IntKind.i64.wrap (IntKind.i64.wrap (((l.map fun r => [mts r]).length : Int) + ((p.clubs.map fun n => [DI n]).length : Int)) + ((p.demands.map Dm.cells).length : Int)) = ((l.length + p.clubs.length + p.demands.length : Nat) : Int) := by
    rw [List.length_map, List.length_map, List.length_map, wrap_in (n := (l.length : Int) + (p.clubs.length : Int)) (by omega), wrap_in (by omega)]; omega
  refine LoopP.inv (fun i => i ≤ l.length ∧ (0 < i → ∃ m, m ≤ 200 ∧ l.length + p.clubs.length + p.demands.length + ((l.take i).map List.length).sum ≤ m + 140737488355328)) (fun i => ⟨[(2, .ptr 0 0), (3, .ptr 1 0), (4, B false), (5, I ((l.length + p.clubs.length + p.demands.length + ((l.take i).map List.length).sum : Nat) : Int)), (6, I i)], Try.f12.ntmps, [.cells [.d (lisD l)], .cells (p.cells.map .d)], [], none⟩) (fun i => l.length - i) 0 ⟨Nat.zero_le _, fun h => absurd h (Nat.lt_irrefl 0)⟩ ?_ ?_
  · exact Weak.by ⟨rfl, rfl, rfl, congrArg I w0, rfl, trivial⟩
  rintro i ⟨hi, hbd⟩
  have hbd' : l.length + p.clubs.length + p.demands.length + ((l.take i).map List.length).sum ≤ 562949953421312 := by
    by_cases e : 0 < i
    · obtain ⟨m, a, b⟩ := hbd e; omega
    · have : i = 0 := by omega
      subst this; simp; omega
  generalize hn : l.length + p.clubs.length + p.demands.length + ((l.take i).map List.length).sum = n at *
  have hle1 : n ≤ l.length + p.clubs.length + p.demands.length + (l.map List.length).sum := by have := sum_take_le List.length l i; omega
  repeat' (conv => whnf
           first | refine Br.dec (fun hb => ?_) (fun hb => ?_) | refine Br.tt ?_ | refine Br.ff ?_ | refine Br.dec (fun h => ?_) (fun h => ?_) | refine Br.not ?_ | refine Br.intro (fun h => ?_) (fun h => ?_) | refine GetE.intro _ rfl ?_ | refine Need.intro rfl ?_ | refine DrawP.go mixed rfl ?_)
  all_goals conv => whnf
  · rename_i hb0
    have hi' : i < l.length := by simp only [List.length_map] at hb0; omega
    have hw : IntKind.i64.wrap ((i : Int) + 1) = ((i + 1 : Nat) : Int) := by rw [wrap_in (by omega)]; omega
    have hrl := h2 _ (List.getElem_mem hi')
    have hw2 : IntKind.i64.wrap ((n : Int) + ((l[i].map Mt.cells).length : Int)) = ((n + l[i].length : Nat) : Int) := by rw [List.length_map, wrap_in (by omega)]; omega
    have hsm := sum_take List.length hi'
    repeat' (conv => whnf
             first | refine Idx.map i rfl hi' ?_ | refine Br.tt ?_ | refine Br.ff ?_ | refine Br.dec (fun h => ?_) (fun h => ?_) | refine Br.not ?_ | refine Br.intro (fun h => ?_) (fun h => ?_) | refine GetE.intro _ rfl ?_ | refine Need.intro rfl ?_ | refine DrawP.go mixed rfl ?_)
    conv => whnf
    exact ⟨i + 1, ⟨hi', fun _ => ⟨n, by omega, by omega⟩⟩, by omega, Weak.by ⟨rfl, rfl, rfl, congrArg I (hw2.trans (congrArg (fun n : Nat => (n : Int)) (by omega))), congrArg I hw, trivial⟩⟩
  all_goals
    have hend : i = l.length ∨ 200 < n := by simp only [List.length_map] at *; omega
    refine LoopP.inv (fun j => j ≤ p.demands.length ∧ (0 < j → ∃ m, m ≤ 200 ∧ n + ((p.demands.take j).map fun d => d.clubs.length).sum ≤ m + 140737488355328)) (fun j => ⟨[(2, .ptr 0 0), (3, .ptr 1 0), (4, B false), (5, I ((n + ((p.demands.take j).map fun d => d.clubs.length).sum : Nat) : Int)), (7, I j)], Try.f12.ntmps, [.cells [.d (lisD l)], .cells (p.cells.map .d)], [], none⟩) (fun j => p.demands.length - j) 0 ⟨Nat.zero_le _, fun h => absurd h (Nat.lt_irrefl 0)⟩ ?_ ?_
    · exact Weak.by ⟨rfl, rfl, rfl, rfl, rfl, trivial⟩
    rintro j ⟨hj, hbj⟩
    have hbj' : n + ((p.demands.take j).map fun d => d.clubs.length).sum ≤ 562949953421312 := by
      by_cases e : 0 < j
      · obtain ⟨m, a, b⟩ := hbj e; omega
      · have : j = 0 := by omega
        subst this; simp; omega
    have hle2 := sum_take_le (fun d : Dm => d.clubs.length) p.demands j
    generalize hm : n + ((p.demands.take j).map fun d => d.clubs.length).sum = m at *
    repeat' (conv => whnf
             first | refine Br.dec (fun hb => ?_) (fun hb => ?_) | refine Br.tt ?_ | refine Br.ff ?_ | refine Br.dec (fun h => ?_) (fun h => ?_) | refine Br.not ?_ | refine Br.intro (fun h => ?_) (fun h => ?_) | refine GetE.intro _ rfl ?_ | refine Need.intro rfl ?_ | refine DrawP.go mixed rfl ?_)
    all_goals conv => whnf
    · rename_i hb9
      have hj' : j < p.demands.length := by simp only [List.length_map] at hb9; omega
      have hw : IntKind.i64.wrap ((j : Int) + 1) = ((j + 1 : Nat) : Int) := by rw [wrap_in (by omega)]; omega
      have hrl := h4 _ (List.getElem_mem hj')
      have hw2 : IntKind.i64.wrap ((m : Int) + ((p.demands[j].clubs.map fun n => [DI n]).length : Int)) = ((m + p.demands[j].clubs.length : Nat) : Int) := by rw [List.length_map, wrap_in (by omega)]; omega
      have hsm := sum_take (fun d : Dm => d.clubs.length) hj'
      repeat' (conv => whnf
               first | refine Idx.map j rfl hj' ?_ | refine Br.tt ?_ | refine Br.ff ?_ | refine Br.dec (fun h => ?_) (fun h => ?_) | refine Br.not ?_ | refine Br.intro (fun h => ?_) (fun h => ?_) | refine GetE.intro _ rfl ?_ | refine Need.intro rfl ?_ | refine DrawP.go mixed rfl ?_)
      conv => whnf
      exact ⟨j + 1, ⟨hj', fun _ => ⟨m, by omega, by omega⟩⟩, by omega, Weak.by ⟨rfl, rfl, rfl, congrArg I (hw2.trans (congrArg (fun n : Nat => (n : Int)) (by omega))), congrArg I hw, trivial⟩⟩
    · refine FinP.drop (n := 0) rfl (Nat.le_refl 0) rfl rfl ⟨rfl, congrArg B ?_⟩
      exact decide_eq_decide.2 (by unfold bulkN; omega)
    · have hje : j = p.demands.length := by simp only [List.length_map] at hb; omega
      refine FinP.drop (n := 0) rfl (Nat.le_refl 0) rfl rfl ⟨rfl, congrArg B ?_⟩
      have e2 : ((p.demands.take j).map fun d => d.clubs.length).sum = (p.demands.map fun d => d.clubs.length).sum := by rw [hje, List.take_length]
      refine decide_eq_decide.2 ?_
      unfold bulkN
      rcases hend with he | he
      · have e1 : ((l.take i).map List.length).sum = (l.map List.length).sum := by rw [he, List.take_length]
        omega
      · omega
/-! ### Holds -/
def hV (l : List (List Mt)) : Vw := l.map fun r => ⟨r, true, 0⟩
def hoL (l : List (List Mt)) (x : List D) (i : Nat) : List Blk := [.cells [.d (lisD l)], .cells (x.map .d), .cells [.d (.sl (l.map fun r => [mts r])), .own 3 i 0 i, .own 4 i 0 i], .row i 1 (((hV l).take i).map fun r => [B r.full]), .row i 1 (((hV l).take i).map fun r => [I r.free])]
theorem hoL_bel (l : List (List Mt)) (x : List D) (i : Nat) : belB 5 (hoL l x i) = true := by
  show (true && (V.belL 5 (x.map .d) && (true && (belR 5 (((hV l).take i).map fun r => [B r.full]) && (belR 5 (((hV l).take i).map fun r => [I r.free]) && true))))) = true
  rw [V.belL_d, fullR_bel, freeR_bel]; rfl
theorem hV_len (l : List (List Mt)) : (hV l).length = l.length := List.length_map ..
theorem hV_ok {l : List (List Mt)} (hl : l.length ≤ 1073741824) (hr : ∀ r ∈ l, r.length ≤ 4611686018427387904) : VOk (hV l) := by
  refine ⟨by rw [hV_len]; exact hl, fun r h => ?_⟩
  obtain ⟨x, hx, rfl⟩ := List.mem_map.1 h
  exact hr x hx
theorem hV_cells (l : List (List Mt)) : vwV (hV l) = .agg ([.sl (l.map fun r => [mts r]), .sl ((hV l).map fun r => [.bool r.full]), .sl ((hV l).map fun r => [DI r.free])].map .d) := by
  have e : (hV l).map (fun r => [mts r.l]) = l.map fun r => [mts r] := by unfold hV; rw [List.map_map]; rfl
  unfold vwV Vw.cells; rw [e]
theorem hoL_new (l : List (List Mt)) (x : List D) (i : Nat) (hi : i < l.length) : [.cells [.d (lisD l)], .cells (x.map .d), .cells [.d (.sl (l.map fun r => [mts r])), .own 3 (i + 1) 0 (i + 1), .own 4 (i + 1) 0 (i + 1)],
    .row (i + 1) 1 ((((hV l).take i).map fun r => [B r.full]).take i ++ [[B true]]), .row (i + 1) 1 ((((hV l).take i).map fun r => [I r.free]).take i ++ [[I 0]])] = hoL l x (i + 1) := by
  have hiv : i < (hV l).length := by rw [hV_len]; exact hi
  have hvi : (hV l)[i] = ⟨l[i], true, 0⟩ := List.getElem_map ..
  have hlv := hV_len l
  unfold hoL
  rw [take_next hiv, List.map_append, List.map_append, hvi, List.take_of_length_le (l := ((hV l).take i).map fun r => [B r.full]) (by simp; omega), List.take_of_length_le (l := ((hV l).take i).map fun r => [I r.free]) (by simp; omega)]
  rfl
def rholdsF (l : List (List Mt)) (d : Dm) : Bool := decide (1 ≤ d.kind ∧ d.kind ≤ 10) && !(decide (d.kind ≤ 4) && (decide (d.round < 0) || decide ((l.length : Int) ≤ d.round))) && !vDooms (hV l) d
theorem rholds_c (l : List (List Mt)) (d : Dm) (hl : l.length ≤ 1073741824) (hr : ∀ r ∈ l, r.length ≤ 4611686018427387904) (hd : d.clubs.length ≤ 4611686018427387904) (h : k (B (rholdsF l d)) L) : CallP C 18 [lisV l, dmV d] L k := by
  refine CallP.pure ?_ rfl (fun _ => rfl) h
  clear h
  refine callP_of C_ok Try.func18 rfl rfl (n := _) rfl (Nat.le_of_ble_eq_true rfl) (rs := _) rfl ?_
  by_cases hk : 1 ≤ d.kind ∧ d.kind ≤ 10
  · have k1 : ¬ d.kind < 1 := by omega
    have k2 : ¬ 10 < d.kind := by omega
    have hlv := hV_len l
    have hF : rholdsF l d = (!(decide (d.kind ≤ 4) && (decide (d.round < 0) || decide ((l.length : Int) ≤ d.round))) && !vDooms (hV l) d) := by unfold rholdsF; rw [decide_eq_true hk]; rfl
    repeat' (conv => whnf
             first | refine Br.no (decide_eq_false k1) ?_ | refine Br.no (decide_eq_false k2) ?_ | refine Br.tt ?_ | refine Br.ff ?_ | refine Br.dec (fun h => ?_) (fun h => ?_) | refine Br.not ?_ | refine Br.intro (fun h => ?_) (fun h => ?_) | refine GetE.intro _ rfl ?_ | refine Need.intro rfl ?_ | refine DrawP.go mixed rfl ?_)
    all_goals conv => whnf
    all_goals first
      | exact FinP.drop (n := 0) rfl (Nat.le_refl 0) rfl rfl ⟨rfl, congrArg B (by rw [hF]; simp_all)⟩
      | skip
    all_goals
      have hfin : ∀ b, b = vDooms (hV l) d → (!b) = rholdsF l d := fun b hb => by
        rw [hF, hb]; simp_all
      refine LoopP.inv (fun i => i ≤ l.length) (fun i => ⟨[(2, .ptr 0 0), (3, .ptr 1 0), (5, .ptr 2 0), (6, I i)], Try.f18.ntmps, hoL l d.cells i, [], none⟩) (fun i => l.length - i) 0 (Nat.zero_le _) ?_ ?_
      · refine Weak.trans (σ' := ⟨[(2, .ptr 0 0), (3, .ptr 1 0), (5, .ptr 2 0), (6, I 0)], Try.f18.ntmps, [.cells [.d (lisD l)], .cells (d.cells.map .d), .cells [.d (.sl (l.map fun r => [mts r])), .own 3 0 0 0, .nil], .row 0 1 []], [], none⟩) ?_ ?_
        · exact Weak.nilCellTo 2 1 1 _ rfl rfl (by decide) rfl ⟨rfl, rfl, rfl, rfl, trivial⟩
        · exact Weak.nilCellTo 2 2 1 _ rfl rfl (by decide) rfl ⟨rfl, rfl, rfl, rfl, trivial⟩
      intro i hi
      conv => whnf
      refine Br.dec (fun hb => ?_) (fun hb => ?_)
      · have hi' : i < l.length := by simp only [List.length_map] at hb; omega
        have hw : IntKind.i64.wrap ((i : Int) + 1) = ((i + 1 : Nat) : Int) := by rw [wrap_in (by omega)]; omega
        repeat' (conv => whnf
                 first | simp only [Nat.beq_refl, Bool.and_self] | refine Need.intro (show i + 1 ≤ 4294967296 by omega) ?_ | refine Br.tt ?_ | refine Br.ff ?_ | refine Br.dec (fun h => ?_) (fun h => ?_) | refine Br.not ?_ | refine Br.intro (fun h => ?_) (fun h => ?_) | refine GetE.intro _ rfl ?_ | refine Need.intro rfl ?_ | refine DrawP.go mixed rfl ?_)
        conv => whnf
        exact ⟨i + 1, hi', by omega, Weak.to 5 (Eq.trans (b := [.cells [.d (lisD l)], .cells (d.cells.map .d), .cells [.d (.sl (l.map fun r => [mts r])), .own 3 (i + 1) 0 (i + 1), .own 4 (i + 1) 0 (i + 1)],
          .row (i + 1) 1 ((((hV l).take i).map fun r => [B r.full]).take i ++ [[B true]]), .row (i + 1) 1 ((((hV l).take i).map fun r => [I r.free]).take i ++ [[I 0]])]) rfl (hoL_new l d.cells i hi')) (Nat.zero_le _) (Nat.le_of_ble_eq_true rfl)
          ⟨rfl, rfl, rfl, congrArg I hw, trivial⟩ (hB := hoL_bel l d.cells (i + 1))⟩
      · have hie : i = l.length := by simp only [List.length_map] at hb; omega
        subst hie
        repeat' (conv => whnf
                 first | refine Br.tt ?_ | refine Br.ff ?_ | refine Br.dec (fun h => ?_) (fun h => ?_) | refine Br.not ?_ | refine Br.intro (fun h => ?_) (fun h => ?_) | refine GetE.intro _ rfl ?_ | refine Need.intro rfl ?_ | refine DrawP.go mixed rfl ?_)
        conv => whnf
        refine CallP.lent (vdooms_c (L := []) (hV l) d (hV_ok hl hr) hd ⟨rfl, rfl⟩) (.cv (y := vwV (hV l)) ?_ (.keep .nil)) rfl rfl ?_
        · rw [hV_cells]
          refine .aggL (.cons (.d _) (.cons (.rowL (ds := (hV l).map fun r => [.bool r.full]) trivial rfl ?_ ?_ ?_) (.cons (.rowL (ds := (hV l).map fun r => [DI r.free]) trivial rfl ?_ ?_ ?_) .nil)))
          · rw [List.drop_zero, List.take_of_length_le (by simp; omega), List.take_of_length_le (by omega)]; exact fullR_rows _
          · rw [List.length_map, hlv]
          · intro e he; obtain ⟨x, _, rfl⟩ := List.mem_map.1 he; rfl
          · rw [List.drop_zero, List.take_of_length_le (by simp; omega), List.take_of_length_le (by omega)]; exact freeR_rows _
          · rw [List.length_map, hlv]
          · intro e he; obtain ⟨x, _, rfl⟩ := List.mem_map.1 he; rfl
        repeat' (conv => whnf
                 first | refine Br.tt ?_ | refine Br.ff ?_ | refine Br.dec (fun h => ?_) (fun h => ?_) | refine Br.not ?_ | refine Br.intro (fun h => ?_) (fun h => ?_) | refine GetE.intro _ rfl ?_ | refine Need.intro rfl ?_ | refine DrawP.go mixed rfl ?_)
        conv => whnf
        exact FinP.drop (n := 0) rfl (Nat.le_refl 0) rfl rfl ⟨rfl, congrArg B (hfin _ rfl)⟩
  · have hF : rholdsF l d = false := by unfold rholdsF; rw [decide_eq_false hk]; rfl
    repeat' (conv => whnf
             first | refine Br.tt ?_ | refine Br.ff ?_ | refine Br.dec (fun h => ?_) (fun h => ?_) | refine Br.not ?_ | refine Br.intro (fun h => ?_) (fun h => ?_) | refine GetE.intro _ rfl ?_ | refine Need.intro rfl ?_ | refine DrawP.go mixed rfl ?_)
    all_goals conv => whnf
    · exact FinP.drop (n := 0) rfl (Nat.le_refl 0) rfl rfl ⟨rfl, congrArg B hF.symm⟩
    · exact FinP.drop (n := 0) rfl (Nat.le_refl 0) rfl rfl ⟨rfl, congrArg B hF.symm⟩
    all_goals (exfalso; omega)
end Go.Proofs.Ytfhigmdfocbajaa
