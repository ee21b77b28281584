/-
  demands' reference: what is seen of a list; Doomed, Broken, Holds.
-/
import Derived.Test.YtjknhbfcdjjbhaaDemP
namespace Go.Proofs.Ytjknhbfcdjjbhaa
open Go.Tidy
set_option maxRecDepth 100000
set_option maxHeartbeats 0
set_option linter.unusedSimpArgs false
set_option linter.unusedVariables false
variable {L : List Blk} {k : V → List Blk → Prop}
def seenR (p : Pl) (r : List Mt) : VR := ⟨r, decide (r.length = halfN p), lastM r⟩
def seenV (l : List (List Mt)) (p : Pl) : Vw := l.map (seenR p)
def seR (l : List VR) (i : Nat) : List Blk := [.row i 1 ((l.take i).map fun r => [B r.full]), .row i 1 ((l.take i).map fun r => [I r.free])]
def seL (l : List (List Mt)) (x : List D) (v : Vw) (i : Nat) : List Blk := [.cells [.d (lisD l)], .cells (x.map .d), .cells [.nil, .nil, .nil], .cells [.d (.sl (l.map fun r => [mts r])), .own 4 i 0 i, .own 5 i 0 i], .row i 1 ((v.take i).map fun r => [B r.full]), .row i 1 ((v.take i).map fun r => [I r.free])]
theorem fullR_bel (n : Nat) : ∀ v : Vw, belR n (v.map fun r => [B r.full]) = true
  | [] => rfl
  | _ :: v => by simp only [List.map_cons, belR, V.belL, V.bel, Bool.true_and]; exact fullR_bel n v
theorem freeR_bel (n : Nat) : ∀ v : Vw, belR n (v.map fun r => [I r.free]) = true
  | [] => rfl
  | _ :: v => by simp only [List.map_cons, belR, V.belL, V.bel, Bool.true_and]; exact freeR_bel n v
theorem seL_bel (l : List (List Mt)) (x : List D) (v : Vw) (i : Nat) : belB 6 (seL l x v i) = true := by
  show (true && (V.belL 6 (x.map .d) && (true && (true && (belR 6 ((v.take i).map fun r => [B r.full]) && (belR 6 ((v.take i).map fun r => [I r.free]) && true)))))) = true
  rw [V.belL_d, fullR_bel, freeR_bel]; rfl
theorem fullR_rows {S : Nat → Prop} {L : List Blk} : ∀ v : Vw, CvLL S L (v.map fun r => [B r.full]) (v.map fun r => [.bool r.full])
  | [] => .nil
  | x :: l => .cons (.cons (.d _) .nil) (fullR_rows l)
theorem freeR_rows {S : Nat → Prop} {L : List Blk} : ∀ v : Vw, CvLL S L (v.map fun r => [I r.free]) (v.map fun r => [DI r.free])
  | [] => .nil
  | x :: l => .cons (.cons (.d _) .nil) (freeR_rows l)
theorem seen_c (l : List (List Mt)) (p : Pl) (hc : p.clubs.length ≤ 1000) (hl : l.length ≤ 1073741824) (hr : ∀ r ∈ l, r.length ≤ 4611686018427387904) (hne : ∀ r ∈ l, r ≠ []) (h : k (vwV (seenV l p)) L) : CallP C 101 [lisV l, plV p] L k := by
  refine CallP.pure ?_ rfl (fun _ => rfl) h
  clear h
  refine callP_of C_ok Try.func101 rfl rfl (n := _) rfl (Nat.le_of_ble_eq_true rfl) (rs := _) rfl ?_
  have hhe := half_e p hc
  have hsl : (seenV l p).length = l.length := List.length_map ..
  have hnew : ∀ (i : Nat) (hi' : i < l.length) (r : List Mt), r = l[i] → (hrn : r.length ≠ 0) → [.cells [.d (lisD l)], .cells (p.cells.map .d), .cells [.nil, .nil, .nil], .cells [.d (.sl (l.map fun r => [mts r])), .own 4 (i + 1) 0 (i + 1), .own 5 (i + 1) 0 (i + 1)],
        .row (i + 1) 1 ((((seenV l p).take i).map fun r => [B r.full]).take i ++ [[B (decide (((r.map Mt.cells).length : Int) = IntKind.i64.wrap (((p.clubs.map fun c => [DI c]).length : Int).tdiv 2)))]]),
        .row (i + 1) 1 ((((seenV l p).take i).map fun r => [I r.free]).take i ++ [[I (firstM (r[r.length - 1]'(by omega)))]])] = seL l p.cells (seenV l p) (i + 1) := by
    intro i hi' r hr1 hrn
    have hlm : lastM r = firstM (r[r.length - 1]'(by omega)) := by unfold lastM; rw [List.getLast?_eq_getElem?, List.getElem?_eq_getElem (by omega)]
    have hiv : i < (seenV l p).length := by rw [hsl]; exact hi'
    have hvi : (seenV l p)[i] = seenR p r := by rw [hr1]; exact List.getElem_map ..
    have hdec : decide (((r.map Mt.cells).length : Int) = IntKind.i64.wrap (((p.clubs.map fun c => [DI c]).length : Int).tdiv 2)) = decide (r.length = halfN p) := by
      rw [hhe, List.length_map]; exact decide_eq_decide.2 (by omega)
    rw [← hlm, hdec]
    unfold seL
    rw [take_next hiv, List.map_append, List.map_append, hvi, List.take_of_length_le (l := ((seenV l p).take i).map fun r => [B r.full]) (by simp; omega), List.take_of_length_le (l := ((seenV l p).take i).map fun r => [I r.free]) (by simp; omega)]
    rfl
  conv => whnf
  refine LoopP.inv (fun i => i ≤ l.length) (fun i => ⟨[(2, .ptr 0 0), (3, .ptr 1 0), (4, .ptr 2 0), (5, .ptr 3 0), (6, I i)], Try.f101.ntmps, seL l p.cells (seenV l p) i, [], none⟩) (fun i => l.length - i) 0 (Nat.zero_le _) ?_ ?_
  · refine Weak.trans (σ' := ⟨[(2, .ptr 0 0), (3, .ptr 1 0), (4, .ptr 2 0), (5, .ptr 3 0), (6, I 0)], Try.f101.ntmps, [.cells [.d (lisD l)], .cells (p.cells.map .d), .cells [.nil, .nil, .nil], .cells [.d (.sl (l.map fun r => [mts r])), .own 4 0 0 0, .nil], .row 0 1 []], [], none⟩) ?_ ?_
    · exact Weak.nilCellTo 3 1 1 _ rfl rfl (by decide) rfl ⟨rfl, rfl, rfl, rfl, rfl, trivial⟩
    · exact Weak.nilCellTo 3 2 1 _ rfl rfl (by decide) rfl ⟨rfl, rfl, rfl, rfl, rfl, trivial⟩
  intro i hi
  conv => whnf
  refine Br.dec (fun hb => ?_) (fun hb => ?_)
  · have hi' : i < l.length := by simp only [List.length_map] at hb; omega
    have hw : IntKind.i64.wrap ((i : Int) + 1) = ((i + 1 : Nat) : Int) := by rw [wrap_in (by omega)]; omega
    obtain ⟨r, hr1⟩ : ∃ r, r = l[i] := ⟨_, rfl⟩
    have hmem : r ∈ l := hr1 ▸ List.getElem_mem hi'
    have hrl := hr r hmem
    have hrn : r.length ≠ 0 := fun e => hne r hmem (List.eq_nil_of_length_eq_zero e)
    have r1 : (l.map fun r => [mts r])[i]? = some [mts r] := by rw [List.getElem?_map, List.getElem?_eq_getElem hi', ← hr1]; rfl
    have hlm : lastM r = firstM (r[r.length - 1]'(by omega)) := by unfold lastM; rw [List.getLast?_eq_getElem?, List.getElem?_eq_getElem (by omega)]
    repeat' (conv => whnf
             first | refine Idx.intro i _ rfl r1 ?_ | refine Need.intro (show (2 : Int) ≠ 0 by decide) ?_ | simp only [Nat.beq_refl, Bool.and_self] | refine Need.intro (show i + 1 ≤ 4294967296 by omega) ?_ | refine Br.tt ?_ | refine Br.ff ?_ | refine Br.dec (fun h => ?_) (fun h => ?_) | refine Br.not ?_ | refine Br.intro (fun h => ?_) (fun h => ?_) | refine GetE.intro _ rfl ?_ | refine Need.intro rfl ?_ | refine DrawP.go mixed rfl ?_)
    conv => whnf
    refine DrawP.por mixed [1] [[(0, 0), (2, 0), (3, 0), (4, 1), (5, 0), (6, 1), (7, 1), (8, 1), (1, 2), (9, 0), (10, 0), (11, 0), (12, 0)], [(0, 0), (2, 0), (3, 0), (4, 1), (5, 0), (6, 1), (7, 1), (8, 1), (9, 0), (1, 2), (10, 0), (11, 0), (12, 0)]] (by kernel_rfl) ?_
    conv => whnf
    refine And.intro ?_ ?_
    all_goals
      repeat' (conv => whnf
               first | refine QCallW.intro (.own 5 i 0 i) _ ⟨rfl, rfl⟩ ?_ | refine QCall.intro _ (rfirst_c _ ⟨rfl, rfl⟩) ?_ | refine Idx.map (r.length - 1) (by rw [List.length_map, wrap_in] <;> omega) (by omega) ?_ | simp only [Nat.beq_refl, Bool.and_self] | refine Need.intro (show i + 1 ≤ 4294967296 by omega) ?_ | refine Br.tt ?_ | refine Br.ff ?_ | refine Br.dec (fun h => ?_) (fun h => ?_) | refine Br.not ?_ | refine Br.intro (fun h => ?_) (fun h => ?_) | refine GetE.intro _ rfl ?_ | refine Need.intro rfl ?_ | refine DrawP.go mixed rfl ?_)
    all_goals conv => whnf
    all_goals exact ⟨i + 1, hi', by omega, Weak.to 6 (Eq.trans (b := [.cells [.d (lisD l)], .cells (p.cells.map .d), .cells [.nil, .nil, .nil], .cells [.d (.sl (l.map fun r => [mts r])), .own 4 (i + 1) 0 (i + 1), .own 5 (i + 1) 0 (i + 1)],
        .row (i + 1) 1 ((((seenV l p).take i).map fun r => [B r.full]).take i ++ [[B (decide (((r.map Mt.cells).length : Int) = IntKind.i64.wrap (((p.clubs.map fun c => [DI c]).length : Int).tdiv 2)))]]),
        .row (i + 1) 1 ((((seenV l p).take i).map fun r => [I r.free]).take i ++ [[I (firstM (r[r.length - 1]'(by omega)))]])]) rfl (hnew i hi' r hr1 hrn)) (Nat.zero_le _) (Nat.le_of_ble_eq_true rfl)
      ⟨rfl, rfl, rfl, rfl, congrArg I hw, trivial⟩ (hB := seL_bel l p.cells (seenV l p) (i + 1))⟩
  · have hie : i = l.length := by simp only [List.length_map] at hb; omega
    subst hie
    repeat' (conv => whnf
             first | refine Br.tt ?_ | refine Br.ff ?_ | refine Br.dec (fun h => ?_) (fun h => ?_) | refine Br.not ?_ | refine Br.intro (fun h => ?_) (fun h => ?_) | refine GetE.intro _ rfl ?_ | refine Need.intro rfl ?_ | refine DrawP.go mixed rfl ?_)
    conv => whnf
    have hX : vwV (seenV l p) = .agg ([.sl (l.map fun r => [mts r]), .sl ((seenV l p).map fun r => [.bool r.full]), .sl ((seenV l p).map fun r => [DI r.free])].map .d) := by
      have e : (seenV l p).map (fun r => [mts r.l]) = l.map fun r => [mts r] := by unfold seenV; rw [List.map_map]; rfl
      unfold vwV Vw.cells; rw [e]
    refine FinP.data (L' := []) (.aggL (.cons (.d _) (.cons (.rowL (ds := (seenV l p).map fun r => [.bool r.full]) (Nat.zero_le _) rfl ?_ ?_ ?_) (.cons (.rowL (ds := (seenV l p).map fun r => [DI r.free]) (Nat.zero_le _) rfl ?_ ?_ ?_) .nil)))) rfl rfl ⟨rfl, hX.symm⟩
    · rw [List.drop_zero, List.take_of_length_le (by simp; omega), List.take_of_length_le (by omega)]; exact fullR_rows _
    · rw [List.length_map, hsl]
    · intro e he; obtain ⟨x, _, rfl⟩ := List.mem_map.1 he; rfl
    · rw [List.drop_zero, List.take_of_length_le (by simp; omega), List.take_of_length_le (by omega)]; exact freeR_rows _
    · rw [List.length_map, hsl]
    · intro e he; obtain ⟨x, _, rfl⟩ := List.mem_map.1 he; rfl
def rdoomGo (v : Vw) : List Dm → Nat → List Nat
  | [], _ => []
  | d :: ds, i => if vDooms v d then i :: rdoomGo v ds (i + 1) else rdoomGo v ds (i + 1)
def rdoomL (v : Vw) (p : Pl) : List Int := (rdoomGo v p.demands 0).map fun (i : Nat) => (i : Int)
structure SmallR (l : List (List Mt)) (p : Pl) : Prop extends Small l p where
  hF : l.flatten.length ≤ 4294967296
theorem PartR.ne {l : List (List Mt)} {p : Pl} (h : PartR l p) : ∀ r ∈ l, r ≠ [] := fun r hr => by
  obtain ⟨i, hi, rfl⟩ := List.getElem_of_mem hr
  exact (h.2.1 i hi).1.2.1
theorem seenV_ok {l : List (List Mt)} {p : Pl} (hs : Small l p) : VOk (seenV l p) := by
  refine ⟨by unfold seenV; rw [List.length_map]; exact hs.hl, fun r hr => ?_⟩
  obtain ⟨x, hx, rfl⟩ := List.mem_map.1 hr
  exact hs.hr x hx
def rdmE (l : List (List Mt)) (p : Pl) : Int := if checkP p = 0 then (if PartR l p then 0 else 300) else checkP p
def rdmA (l : List (List Mt)) (p : Pl) : Int := if checkP p = 0 ∧ PartR l p then (rdoomL (seenV l p) p).headD (-1) else 0
abbrev rdmV (l : List (List Mt)) (p : Pl) : V := .tup [I (rdmA l p), I (rdmE l p)]
theorem rdoom_drop {v : Vw} {ds : List Dm} {i : Nat} (h : i < ds.length) : rdoomGo v (ds.drop i) i = if vDooms v ds[i] then i :: rdoomGo v (ds.drop (i + 1)) (i + 1) else rdoomGo v (ds.drop (i + 1)) (i + 1) := by
  rw [List.drop_eq_getElem_cons h, rdoomGo]
theorem rdmd_c (l : List (List Mt)) (p : Pl) (hs : SmallR l p) (h : k (rdmV l p) L) : CallP C 64 [lisV l, plV p] L k := by
  have hD := hs.hD
  refine CallP.pure ?_ rfl (fun _ => rfl) h
  clear h
  refine callP_of C_ok Try.func64 rfl rfl (n := _) rfl (Nat.le_of_ble_eq_true rfl) (rs := _) rfl ?_
  by_cases h0 : checkP p = 0
  · have hf := checkP_field h0
    have hlen : 1 ≤ p.clubs.length ∧ p.clubs.length ≤ 1000 := by simp only [fieldOk, Bool.and_eq_true, decide_eq_true_eq] at hf; omega
    by_cases hP : PartR l p
    · have hy : rdmV l p = .tup [I ((rdoomL (seenV l p) p).headD (-1)), I 0] := by unfold rdmV rdmA rdmE; rw [if_pos h0, if_pos hP, if_pos ⟨h0, hP⟩]
      repeat' (conv => whnf
               first | refine Br.yes (decide_eq_true h0) ?_ | refine Br.yes (decide_eq_true hP) ?_ | refine rcheck_c p hs.hc hs.hd (by omega) ?_ | refine rpartial_c l p hf hs.hl hs.hr hs.hF ?_ | refine seen_c l p hlen.2 hs.hl hs.hr hP.ne ?_ | refine Br.tt ?_ | refine Br.ff ?_ | refine Br.dec (fun h => ?_) (fun h => ?_) | refine Br.not ?_ | refine Br.intro (fun h => ?_) (fun h => ?_) | refine GetE.intro _ rfl ?_ | refine Need.intro rfl ?_ | refine DrawP.go mixed rfl ?_)
      conv => whnf
      refine LoopP.inv (fun i => i ≤ p.demands.length ∧ rdoomGo (seenV l p) p.demands 0 = rdoomGo (seenV l p) (p.demands.drop i) i) (fun i => ⟨[(3, .ptr 1 0), (4, I 0), (5, I 0), (7, .ptr 2 0), (8, I i)], Try.f64.ntmps, [.cells [.d (lisD l)], .cells (p.cells.map .d), .cells ((seenV l p).cells.map .d)], [], none⟩) (fun i => p.demands.length - i) 0 ⟨Nat.zero_le _, rfl⟩ ?_ ?_
      · exact Weak.by ⟨rfl, rfl, rfl, rfl, rfl, trivial⟩
      rintro i ⟨hi, heq⟩
      conv => whnf
      refine Br.dec (fun hb => ?_) (fun hb => ?_)
      · have hi' : i < p.demands.length := by simp only [List.length_map] at hb; omega
        have hw : IntKind.i64.wrap ((i : Int) + 1) = ((i + 1 : Nat) : Int) := by rw [wrap_in (by omega)]; omega
        have hdd := hs.hd _ (List.getElem_mem hi')
        rw [rdoom_drop hi'] at heq
        repeat' (conv => whnf
                 first | refine Idx.map i rfl hi' ?_ | refine QCall.intro _ (vdooms_c (seenV l p) p.demands[i] (seenV_ok hs.toSmall) hdd ⟨rfl, rfl⟩) ?_ | refine Br.tt ?_ | refine Br.ff ?_ | refine Br.dec (fun h => ?_) (fun h => ?_) | refine Br.not ?_ | refine Br.intro (fun h => ?_) (fun h => ?_) | refine GetE.intro _ rfl ?_ | refine Need.intro rfl ?_ | refine DrawP.go mixed rfl ?_)
        all_goals conv => whnf
        · rw [if_pos h] at heq
          have hh : (rdoomL (seenV l p) p).headD (-1) = i := by unfold rdoomL; rw [heq]; rfl
          rw [hh] at hy
          exact FinP.drop (n := 0) rfl (Nat.le_refl 0) rfl rfl ⟨rfl, hy.symm⟩
        · rw [if_neg (by rw [h]; decide)] at heq
          exact ⟨i + 1, ⟨hi', heq⟩, by omega, Weak.to 3 rfl (Nat.zero_le _) (Nat.le_of_ble_eq_true rfl) ⟨rfl, rfl, rfl, rfl, congrArg I hw, trivial⟩⟩
      · have hie : i = p.demands.length := by simp only [List.length_map] at hb; omega
        rw [hie, List.drop_length, rdoomGo] at heq
        have hh : (rdoomL (seenV l p) p).headD (-1) = -1 := by unfold rdoomL; rw [heq]; rfl
        rw [hh] at hy
        repeat' (conv => whnf
                 first | refine Br.tt ?_ | refine Br.ff ?_ | refine Br.dec (fun h => ?_) (fun h => ?_) | refine Br.not ?_ | refine Br.intro (fun h => ?_) (fun h => ?_) | refine GetE.intro _ rfl ?_ | refine Need.intro rfl ?_ | refine DrawP.go mixed rfl ?_)
        conv => whnf
        exact FinP.drop (n := 0) rfl (Nat.le_refl 0) rfl rfl ⟨rfl, hy.symm⟩
    · have hn : rdmV l p = .tup [I 0, I 300] := by unfold rdmV rdmA rdmE; rw [if_pos h0, if_neg hP, if_neg (fun hh => hP hh.2)]
      repeat' (conv => whnf
               first | refine Br.yes (decide_eq_true h0) ?_ | refine Br.no (decide_eq_false hP) ?_ | refine rcheck_c p hs.hc hs.hd (by omega) ?_ | refine rpartial_c l p hf hs.hl hs.hr hs.hF ?_ | refine Br.tt ?_ | refine Br.ff ?_ | refine Br.dec (fun h => ?_) (fun h => ?_) | refine Br.not ?_ | refine Br.intro (fun h => ?_) (fun h => ?_) | refine GetE.intro _ rfl ?_ | refine Need.intro rfl ?_ | refine DrawP.go mixed rfl ?_)
      conv => whnf
      exact FinP.drop (n := 0) rfl (Nat.le_refl 0) rfl rfl ⟨rfl, hn.symm⟩
  · repeat' (conv => whnf
             first | refine Br.no (decide_eq_false h0) ?_ | refine rcheck_c p hs.hc hs.hd (by omega) ?_ | refine Br.tt ?_ | refine Br.ff ?_ | refine Br.dec (fun h => ?_) (fun h => ?_) | refine Br.not ?_ | refine Br.intro (fun h => ?_) (fun h => ?_) | refine GetE.intro _ rfl ?_ | refine Need.intro rfl ?_ | refine DrawP.go mixed rfl ?_)
    conv => whnf
    refine FinP.drop (n := 0) rfl (Nat.le_refl 0) rfl rfl ⟨rfl, ?_⟩
    unfold rdmV rdmA rdmE; rw [if_neg h0, if_neg (fun hh => h0 hh.1)]; rfl
def rbrkE (l : List (List Mt)) (p : Pl) : Int := if checkP p = 0 then (if FullR l p then 0 else 300) else checkP p
def rbrkL (l : List (List Mt)) (p : Pl) : List Int := if checkP p = 0 ∧ FullR l p then rdoomL (seenV l p) p else []
abbrev rbrkV (l : List (List Mt)) (p : Pl) : V := .tup [.d (ints (rbrkL l p)), I (rbrkE l p)]
def RbI (v : Vw) (p : Pl) (s : Nat × List Int) : Prop := s.1 ≤ p.demands.length ∧ s.2.length ≤ s.1 ∧ rdoomL v p = s.2 ++ (rdoomGo v (p.demands.drop s.1) s.1).map fun (i : Nat) => (i : Int)
def rbM (l : List (List Mt)) (p : Pl) (acc : List Int) : List Blk := [.cells [.d (lisD l)], .cells (p.cells.map .d), .cells ((seenV l p).cells.map .d), .row acc.length 1 (acc.map fun x => [I x])]
theorem rbM_bel {n : Nat} (l : List (List Mt)) (p : Pl) (acc : List Int) : belB n (rbM l p acc) = true := by
  show (true && (V.belL n (p.cells.map .d) && (V.belL n ((seenV l p).cells.map .d) && (belR n (acc.map fun x => [I x]) && true)))) = true
  rw [V.belL_d, V.belL_d, intR_bel]; rfl
end Go.Proofs.Ytjknhbfcdjjbhaa
