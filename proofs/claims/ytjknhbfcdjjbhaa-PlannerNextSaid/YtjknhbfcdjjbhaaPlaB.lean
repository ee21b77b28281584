/-
  planner: the choices as the code lists them; sets as maps.
-/
import Derived.Test.YtjknhbfcdjjbhaaPlaA
namespace Go.Proofs.Ytjknhbfcdjjbhaa
open Go.Tidy
set_option maxRecDepth 100000
set_option maxHeartbeats 0
set_option linter.unusedSimpArgs false
set_option linter.unusedVariables false
variable {L : List Blk} {k : V → List Blk → Prop}
def boolM (ks : List V) : List (V × V) := ks.map fun x => (x, B true)
theorem boolM_snoc (ks : List V) (x : V) : boolM ks ++ [(x, B true)] = boolM (ks ++ [x]) := by simp [boolM]
theorem firstIn {key : V} : ∀ {ks : List V}, key ∈ ks → ∃ i : Nat, ks[i]? = some key ∧ ∀ j : Nat, j < i → ks[j]? ≠ some key
  | a :: ks, h => by
    by_cases e : a = key
    · exact ⟨0, by simp [e], fun j hj => absurd hj (Nat.not_lt_zero j)⟩
    · obtain ⟨i, h1, h2⟩ := firstIn (ks := ks) ((List.mem_cons.1 h).resolve_left fun h => e h.symm)
      refine ⟨i + 1, by simpa using h1, fun j hj => ?_⟩
      cases j with
      | zero => simp [e]
      | succ j => simpa using h2 j (by omega)
theorem MapF.set {tk : TK} {es : List (V × V)} {key : V} {κ : Option (Nat × V) → Prop} (ks : List V) (he : es = boolM ks) (hk : ∀ x ∈ ks, keyV tk x = true) (h1 : ∀ i, key ∈ ks → es.set i (key, B true) = boolM ks → κ (some (i, B true))) (h2 : key ∉ ks → κ none) : MapF tk es key κ := by
  subst he
  have hall : ∀ kv ∈ boolM ks, keyV tk kv.1 = true := fun kv hkv => by
    obtain ⟨x, hx, rfl⟩ := List.mem_map.1 hkv; exact hk x hx
  by_cases hin : key ∈ ks
  · obtain ⟨i, e1, e2⟩ := firstIn hin
    have hi : (boolM ks)[i]? = some (key, B true) := by rw [boolM, List.getElem?_map, e1]; rfl
    refine MapF.hit i (B true) hall hi (fun j kv hj hkv he => ?_) (h1 i hin ?_)
    · rw [boolM, List.getElem?_map] at hkv
      cases hx : ks[j]? with
      | none => rw [hx] at hkv; cases hkv
      | some x => rw [hx] at hkv; cases hkv; exact e2 j hj (by rw [hx]; exact congrArg some he)
    · have hlt := lt_of_get hi
      rw [List.getElem?_eq_getElem hlt] at hi
      rw [← Option.some.inj hi, List.set_getElem_self]
  · refine MapF.miss hall (fun kv hkv he => ?_) (h2 hin)
    obtain ⟨x, hx, rfl⟩ := List.mem_map.1 hkv
    exact hin (he ▸ hx)
def intK (l : List Int) : List V := l.map fun n => I n
def mtK (l : List Mt) : List V := l.map mtV
theorem intK_ok (l : List Int) : ∀ x ∈ intK l, keyV (.int .i64) x = true := fun x hx => by
  obtain ⟨n, _, rfl⟩ := List.mem_map.1 hx; rfl
theorem mtK_ok (l : List Mt) : ∀ x ∈ mtK l, keyV (.keys [.i64, .i64]) x = true := fun x hx => by
  obtain ⟨n, _, rfl⟩ := List.mem_map.1 hx; rfl
theorem intK_mem (l : List Int) (n : Int) : I n ∈ intK l ↔ n ∈ l :=
  ⟨fun h => by obtain ⟨m, hm, e⟩ := List.mem_map.1 h; cases e; exact hm, fun h => List.mem_map.2 ⟨n, h, rfl⟩⟩
theorem mtK_mem (l : List Mt) (m : Mt) : mtV m ∈ mtK l ↔ m ∈ l :=
  ⟨fun h => by obtain ⟨x, hx, e⟩ := List.mem_map.1 h; exact mtV_inj _ _ e ▸ hx, fun h => List.mem_map.2 ⟨m, h, rfl⟩⟩
theorem intK_snoc (l : List Int) (n : Int) : intK l ++ [I n] = intK (l ++ [n]) := by simp [intK]
theorem mtK_snoc (l : List Mt) (m : Mt) : mtK l ++ [mtV m] = mtK (l ++ [m]) := by simp [mtK]
theorem intM_bel (n : Nat) : ∀ l : List Int, belM n (boolM (intK l)) = true
  | [] => rfl
  | _ :: l => by simp only [boolM, intK, List.map_cons, belM, V.bel, Bool.true_and]; exact intM_bel n l
theorem mtM_bel (n : Nat) : ∀ l : List Mt, belM n (boolM (mtK l)) = true
  | [] => rfl
  | m :: l => by
    simp only [boolM, mtK, List.map_cons, belM, V.bel, V.belL_d, Bool.true_and]; exact mtM_bel n l
theorem fewB_bel {n : Nat} {S X : List Blk} (hS : S.length = n) (hb : belB n S = true) (i : Nat) (hX : belB (n + i) X = true) : belB (n + i) (S ++ X) = true :=
  belB_append (belB_le (Nat.le_add_right n i) hb) hX
def Mt.swap (m : Mt) : Mt := ⟨m.away, m.home⟩
def clubsOf (r : List Mt) : List Int := r.flatMap fun m => [m.home, m.away]
def tkM (p : Pl) (m : Mt) : List Mt := if p.double then [m] else [m, m.swap]
def takenOf (l : List (List Mt)) (p : Pl) : List Mt := l.flatten.flatMap (tkM p)
theorem takenOf_snoc (l : List (List Mt)) (r : List Mt) (p : Pl) : takenOf (l ++ [r]) p = takenOf l p ++ r.flatMap (tkM p) := by
  rw [takenOf, List.flatten_append, List.flatMap_append, List.flatten_singleton]; rfl
def leastOf (r : List Mt) : Int := match r.getLast? with
  | some m => min m.home m.away
  | none => -1
def chIn (bz : List Int) (tk : List Mt) (c : Int) : List Int → List Mt
  | [] => []
  | o :: os => if o ∈ bz then chIn bz tk c os else ([⟨c, o⟩, ⟨o, c⟩] : List Mt).filter (fun m => decide (m ∉ tk)) ++ chIn bz tk c os
def chOut (bz : List Int) (tk : List Mt) (least : Int) : Nat → List Int → List Mt
  | _, [] => []
  | may, c :: cs => if c ∈ bz then chOut bz tk least may cs else
      (if least < c then chIn bz tk c cs else []) ++ (match may with
        | 0 => []
        | may + 1 => chOut bz tk least may cs)
theorem chOut_cons (bz : List Int) (tk : List Mt) (least : Int) (may : Nat) (c : Int) (cs : List Int) : chOut bz tk least may (c :: cs) = if c ∈ bz then chOut bz tk least may cs else
    (if least < c then chIn bz tk c cs else []) ++ (if may = 0 then [] else chOut bz tk least (may - 1) cs) := by
  cases may with
  | zero => rw [chOut, if_pos rfl]
  | succ may => rw [chOut, if_neg (Nat.succ_ne_zero may)]; rfl
def chs (l : List (List Mt)) (p : Pl) : List Mt :=
  if (openR l p).2.2 then chOut (clubsOf (openR l p).1) (takenOf l p) (leastOf (openR l p).1) (p.clubs.length % 2) p.clubs else []
theorem choices_c (l : List (List Mt)) (p : Pl) (h : k (.d (.fn 49 [.rptr [.rptr (planD p)], .rptr [lisD l]])) L) : CallP C 29 [.d (.rptr (planD p)), lisV l] L k := by
  refine CallP.pure ?_ rfl (fun _ => rfl) h
  clear h
  refine callP_of C_ok Try.func29 rfl rfl (n := _) rfl (Nat.le_of_ble_eq_true rfl) (rs := _) rfl ?_
  repeat' (conv => whnf
           first | refine Br.tt ?_ | refine Br.ff ?_ | refine Br.dec (fun h => ?_) (fun h => ?_) | refine Br.not ?_ | refine Br.intro (fun h => ?_) (fun h => ?_) | refine GetE.intro _ rfl ?_ | refine Need.intro rfl ?_ | refine DrawP.go mixed rfl ?_)
  conv => whnf
  exact FinP.data (L' := []) (.d (.fnL (.cons (.ptrL (Nat.zero_le _) rfl (.cons (.d _) .nil)) (.cons (.ptrL (Nat.zero_le _) rfl (.cons (.d _) .nil)) .nil)))) rfl rfl ⟨rfl, rfl⟩
end Go.Proofs.Ytjknhbfcdjjbhaa
