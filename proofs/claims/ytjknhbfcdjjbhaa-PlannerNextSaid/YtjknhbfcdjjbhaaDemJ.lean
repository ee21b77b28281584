/-
  demands: which lists are partial; the rounds of a partial list.
-/
import Derived.Test.YtjknhbfcdjjbhaaDemI
import Derived.Test.YtjknhbfcdjjbhaaBaseH
namespace Go.Proofs.Ytjknhbfcdjjbhaa
open Go.Tidy
set_option maxRecDepth 100000
set_option maxHeartbeats 0
set_option linter.unusedSimpArgs false
set_option linter.unusedVariables false
variable {L : List Blk} {k : V → List Blk → Prop}
def firstM (m : Mt) : Int := if m.away < m.home then m.away else m.home
def halfN (p : Pl) : Nat := p.clubs.length / 2
def lastM (r : List Mt) : Int := match r.getLast? with | some m => firstM m | none => 0
def busyL (l : List Mt) : List Int := l.flatMap fun m => [m.home, m.away]
theorem part1_c (n : Int) (r : List Mt) (half last : Int) (h : k (B (decide ((r.length : Int) = half) || decide (n < last))) L) : CallP C 92 [I n, .d (.rptr [mts r]), .d (.rptr [DI half]), .d (.rptr [DI last])] L k := by
  refine CallP.pure ?_ rfl (fun _ => rfl) h
  clear h
  refine callP_of C_ok Try.func92 rfl rfl (n := _) rfl (Nat.le_of_ble_eq_true rfl) (rs := _) rfl ?_
  repeat' (conv => whnf
           first | refine Br.tt ?_ | refine Br.ff ?_ | refine Br.dec (fun h => ?_) (fun h => ?_) | refine Br.not ?_ | refine Br.intro (fun h => ?_) (fun h => ?_) | refine GetE.intro _ rfl ?_ | refine Need.intro rfl ?_ | refine DrawP.go mixed rfl ?_)
  all_goals conv => whnf
  all_goals refine FinP.drop (n := 0) rfl (Nat.le_refl 0) rfl rfl ⟨rfl, congrArg B ?_⟩
  all_goals simp_all
def pE (p : Pl) (r : List Mt) : List D := [mts r, .fn 92 [.rptr [mts r], .rptr [DI (halfN p)], .rptr [DI (lastM r)]]]
def pRnd (p : Pl) (r : List Mt) : Rnd := if h : r.length ≤ 4611686018427387904 then
  ⟨r, fun c => decide ((r.length : Int) = halfN p) || decide (c < lastM r), 92, [.rptr [mts r], .rptr [DI (halfN p)], .rptr [DI (lastM r)]], h, fun n L k h => part1_c n r _ _ h⟩ else noRnd
theorem pRnd_cells {p : Pl} {r : List Mt} (h : r.length ≤ 4611686018427387904) : (pRnd p r).cells = pE p r := by unfold pRnd; rw [dif_pos h]; rfl
def leftGo (odd : Nat) (last : Int) (busy : List Int) : List Int → Nat → Bool
  | [], _ => true
  | c :: cs, n => if last ≤ c then true else if c ∈ busy then leftGo odd last busy cs n else if odd < n + 1 then false else leftGo odd last busy cs (n + 1)
def OkI (p : Pl) (met r : List Mt) (k : Nat) (hk : k < r.length) : Prop :=
  r[k].home ≠ r[k].away ∧ r[k].home ∈ p.clubs ∧ r[k].away ∈ p.clubs ∧ r[k].home ∉ busyL (r.take k) ∧ r[k].away ∉ busyL (r.take k) ∧ r[k] ∉ met ++ r.take k ∧ (p.double = false → (⟨r[k].away, r[k].home⟩ : Mt) ∉ met ++ r.take k) ∧
    (0 < k → firstM (r[k - 1]'(by omega)) < firstM r[k])
instance (p : Pl) (met r : List Mt) (k : Nat) (hk : k < r.length) : Decidable (OkI p met r k hk) := by unfold OkI; infer_instance
def RoundP (l : List (List Mt)) (p : Pl) (i : Nat) (hi : i < l.length) : Prop :=
  l[i].length ≠ 0 ∧ l[i].length ≤ halfN p ∧ (i + 1 < l.length → halfN p ≤ l[i].length) ∧ (∀ (k : Nat) (hk : k < l[i].length), OkI p (l.take i).flatten l[i] k hk) ∧ leftGo (p.clubs.length % 2) (lastM l[i]) (busyL l[i]) p.clubs 0 = true
instance (l : List (List Mt)) (p : Pl) (i : Nat) (hi : i < l.length) : Decidable (RoundP l p i hi) := by unfold RoundP; infer_instance
def PartP (l : List (List Mt)) (p : Pl) : Prop := l.length ≤ roundsN p ∧ ∀ (i : Nat) (hi : i < l.length), RoundP l p i hi
instance (l : List (List Mt)) (p : Pl) : Decidable (PartP l p) := by unfold PartP; infer_instance
def esI (ks : List Int) : List (V × V) := ks.map fun c => (I c, B true)
def esM (ks : List Mt) : List (V × V) := ks.map fun m => (mtV m, B true)
theorem first_of {α : Type} {a : α} : ∀ {ks : List α}, a ∈ ks → ∃ i : Nat, ks[i]? = some a ∧ ∀ j, j < i → ks[j]? ≠ some a
  | [], h => by simp at h
  | x :: ks, h => by
    by_cases e : x = a
    · subst e; exact ⟨0, rfl, fun j hj => absurd hj (Nat.not_lt_zero j)⟩
    · obtain ⟨i, h1, h2⟩ := first_of (ks := ks) (by simpa [Ne.symm e] using h)
      refine ⟨i + 1, by simpa using h1, fun j hj => ?_⟩
      cases j with
      | zero => simpa using e
      | succ j => simpa using h2 j (by omega)
theorem MapF.memG {α : Type} {tk : TK} (f : α → V) (hf : ∀ a b, f a = f b → a = b) (hk : ∀ a, keyV tk (f a) = true) (ks : List α) (a : α) {q : Option (Nat × V) → Prop} (h1 : a ∈ ks → ∀ i, q (some (i, B true))) (h2 : a ∉ ks → q none) :
    MapF tk (ks.map fun a => (f a, B true)) (f a) q := by
  have hall : ∀ kv ∈ ks.map (fun a => (f a, B true)), keyV tk kv.1 = true := fun kv h => by
    obtain ⟨b, _, rfl⟩ := List.mem_map.1 h; exact hk b
  rcases Classical.em (a ∈ ks) with h | h
  · obtain ⟨i, e1, e2⟩ := first_of h
    refine MapF.hit i (B true) hall (by rw [List.getElem?_map, e1]; rfl) (fun j kv hj hkv he => ?_) (h1 h i)
    rw [List.getElem?_map] at hkv
    cases hb : ks[j]? with
    | none => rw [hb] at hkv; cases hkv
    | some b =>
      rw [hb] at hkv
      simp only [Option.map_some, Option.some.injEq] at hkv
      subst hkv
      have := hf _ _ he
      subst this
      exact e2 j hj hb
  · refine MapF.miss hall (fun kv hkv he => ?_) (h2 h)
    obtain ⟨b, hb, rfl⟩ := List.mem_map.1 hkv
    exact h (hf _ _ he ▸ hb)
theorem mtV_inj (a b : Mt) (h : mtV a = mtV b) : a = b := by
  cases a; cases b
  simp [Mt.cells, mtV, DI] at h ⊢
  exact h
theorem MapF.memI (ks : List Int) (a : Int) {q : Option (Nat × V) → Prop} (h1 : a ∈ ks → ∀ i, q (some (i, B true))) (h2 : a ∉ ks → q none) : MapF (.int .i64) (esI ks) (I a) q :=
  MapF.memG (fun c : Int => I c) (fun a b h => by simpa using h) (fun a => rfl) ks a h1 h2
theorem MapF.memM (ks : List Mt) (a : Mt) {q : Option (Nat × V) → Prop} (h1 : a ∈ ks → ∀ i, q (some (i, B true))) (h2 : a ∉ ks → q none) : MapF (.keys [.i64, .i64]) (esM ks) (mtV a) q :=
  MapF.memG mtV mtV_inj (fun a => rfl) ks a h1 h2
end Go.Proofs.Ytjknhbfcdjjbhaa
