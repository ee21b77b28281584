/-
  The types of this seat, as the executor reads them; that they are the program's.
-/
import Derived.Test.YtddolfgmkpfmcaaDoorBaseD
import Derived.Test.YtddolfgmkpfmcaaDoorRows
namespace Go.Proofs.YtddolfgmkpfmcaaDoor
open Go.Tidy
def tab : List (Nat × TI) := [
  (1, ⟨1, 8, .nilFunc, .func, false⟩),
  (2, ⟨1, 8, .int .i64 0, .int .i64, false⟩),
  (3, ⟨1, 8, .int .i64 0, .int .i64, false⟩),
  (4, ⟨1, 1, .bool false, .bool, false⟩),
  (5, ⟨1, 1, .int .u8 0, .int .u8, false⟩),
  (9, ⟨1, 16, .string ⟨#[]⟩, .str, false⟩),
  (12, ⟨1, 8, .int .u64 0, .int .u64, false⟩),
  (20, ⟨1, 16, .nilIface, .iface true, false⟩),
  (21, ⟨1, 4, .int .i32 0, .int .i32, false⟩),
  (22, ⟨1, 24, .slice none 0 0, .sl 60, false⟩),
  (23, ⟨1, 24, .slice none 0 0, .sl 69, false⟩),
  (24, ⟨6, 88, .agg #[.string ⟨#[]⟩, .int .i64 0, .int .i64 0, .int .i64 0, .slice none 0 0, .slice none 0 0], .struct [(0, 9), (1, 3), (2, 3), (3, 3), (4, 22), (5, 23)], false⟩),
  (25, ⟨6, 88, .agg #[.string ⟨#[]⟩, .int .i64 0, .int .i64 0, .int .i64 0, .slice none 0 0, .slice none 0 0], .struct [(0, 9), (1, 3), (2, 3), (3, 3), (4, 22), (5, 23)], false⟩),
  (26, ⟨1, 24, .slice none 0 0, .sl 28, false⟩),
  (27, ⟨4, 48, .agg #[.int .i64 0, .int .i64 0, .int .i64 0, .slice none 0 0], .struct [(0, 3), (1, 3), (2, 3), (3, 26)], false⟩),
  (28, ⟨4, 48, .agg #[.int .i64 0, .int .i64 0, .int .i64 0, .slice none 0 0], .struct [(0, 3), (1, 3), (2, 3), (3, 26)], false⟩),
  (29, ⟨1, 8, .nilFunc, .func, false⟩),
  (30, ⟨1, 8, .nilFunc, .func, false⟩),
  (31, ⟨1, 8, .nilFunc, .func, false⟩),
  (32, ⟨1, 8, .int .i64 0, .int .i64, false⟩),
  (33, ⟨1, 8, .nilFunc, .func, false⟩),
  (34, ⟨1, 8, .nilFunc, .func, false⟩),
  (35, ⟨1, 8, .nilFunc, .func, false⟩),
  (36, ⟨1, 8, .nilFunc, .func, false⟩),
  (37, ⟨4, 32, .agg #[.int .i64 0, .int .i64 0, .int .i64 0, .int .i64 0], .struct [(0, 3), (1, 3), (2, 3), (3, 3)], true⟩),
  (38, ⟨4, 32, .agg #[.int .i64 0, .int .i64 0, .int .i64 0, .int .i64 0], .struct [(0, 3), (1, 3), (2, 3), (3, 3)], true⟩),
  (39, ⟨1, 24, .slice none 0 0, .sl 3, false⟩),
  (41, ⟨1, 8, .nilFunc, .func, false⟩),
  (42, ⟨1, 8, .nilFunc, .func, false⟩),
  (43, ⟨1, 8, .nilFunc, .func, false⟩),
  (44, ⟨1, 8, .nilFunc, .func, false⟩),
  (45, ⟨1, 8, .nilFunc, .func, false⟩),
  (47, ⟨1, 8, .nilFunc, .func, false⟩),
  (48, ⟨1, 8, .nilFunc, .func, false⟩),
  (49, ⟨1, 8, .nilFunc, .func, false⟩),
  (50, ⟨1, 8, .nilFunc, .func, false⟩),
  (51, ⟨1, 24, .slice none 0 0, .sl 38, false⟩),
  (53, ⟨1, 8, .nilFunc, .func, false⟩),
  (54, ⟨1, 8, .nilFunc, .func, false⟩),
  (55, ⟨1, 8, .nilFunc, .func, false⟩),
  (56, ⟨1, 8, .nilFunc, .func, false⟩),
  (57, ⟨1, 8, .nilFunc, .func, false⟩),
  (58, ⟨1, 8, .nilFunc, .func, false⟩),
  (59, ⟨8, 112, .agg #[.int .i64 0, .int .i64 0, .int .i64 0, .int .i64 0, .int .i64 0, .slice none 0 0, .slice none 0 0, .slice none 0 0], .struct [(0, 3), (1, 3), (2, 28), (6, 22), (7, 22)], false⟩),
  (60, ⟨8, 112, .agg #[.int .i64 0, .int .i64 0, .int .i64 0, .int .i64 0, .int .i64 0, .slice none 0 0, .slice none 0 0, .slice none 0 0], .struct [(0, 3), (1, 3), (2, 28), (6, 22), (7, 22)], false⟩),
  (61, ⟨1, 8, .nilFunc, .func, false⟩),
  (62, ⟨1, 8, .nilFunc, .func, false⟩),
  (63, ⟨1, 8, .nilFunc, .func, false⟩),
  (65, ⟨1, 8, .nilFunc, .func, false⟩),
  (66, ⟨1, 8, .nilFunc, .func, false⟩),
  (67, ⟨1, 8, .nilFunc, .func, false⟩),
  (68, ⟨3, 32, .agg #[.string ⟨#[]⟩, .int .i64 0, .int .i64 0], .struct [(0, 9), (1, 3), (2, 3)], true⟩),
  (69, ⟨3, 32, .agg #[.string ⟨#[]⟩, .int .i64 0, .int .i64 0], .struct [(0, 9), (1, 3), (2, 3)], true⟩),
  (70, ⟨1, 8, .nilFunc, .func, false⟩),
  (71, ⟨1, 8, .nilFunc, .func, false⟩),
  (72, ⟨1, 24, .slice none 0 0, .sl 91, false⟩),
  (73, ⟨1, 8, .nilFunc, .func, false⟩),
  (74, ⟨4, 48, .agg #[.int .i64 0, .int .i64 0, .int .i64 0, .slice none 0 0], .struct [(0, 28)], false⟩),
  (75, ⟨4, 48, .agg #[.int .i64 0, .int .i64 0, .int .i64 0, .slice none 0 0], .struct [(0, 28)], false⟩),
  (76, ⟨1, 24, .slice none 0 0, .sl 78, false⟩),
  (77, ⟨2, 16, .agg #[.int .i64 0, .int .i64 0], .struct [(0, 3), (1, 3)], true⟩),
  (78, ⟨2, 16, .agg #[.int .i64 0, .int .i64 0], .struct [(0, 3), (1, 3)], true⟩),
  (79, ⟨10, 80, .agg #[.int .i64 0, .int .i64 0, .int .i64 0, .int .i64 0, .int .i64 0, .int .i64 0, .int .i64 0, .int .i64 0, .int .i64 0, .int .i64 0], .arr 5 78, false⟩),
  (80, ⟨1, 8, .nilFunc, .func, false⟩),
  (81, ⟨5, 40, .agg #[.int .i64 0, .int .i64 0, .int .i64 0, .int .i64 0, .int .i64 0], .arr 5 3, false⟩),
  (82, ⟨1, 8, .nilFunc, .func, false⟩),
  (83, ⟨1, 8, .nilFunc, .func, false⟩),
  (84, ⟨1, 8, .nilFunc, .func, false⟩),
  (85, ⟨1, 8, .pointer none, .ptr 87, false⟩),
  (86, ⟨2, 16, .agg #[.int .i64 0, .int .i64 0], .struct [(0, 3), (1, 3)], true⟩),
  (87, ⟨2, 16, .agg #[.int .i64 0, .int .i64 0], .struct [(0, 3), (1, 3)], true⟩),
  (88, ⟨1, 8, .nilFunc, .func, false⟩),
  (89, ⟨1, 8, .nilFunc, .func, false⟩),
  (90, ⟨1, 16, .nilIface, .iface false, false⟩),
  (91, ⟨1, 16, .nilIface, .iface false, false⟩),
  (92, ⟨1, 8, .nilFunc, .func, false⟩),
  (93, ⟨8, 112, .agg #[.int .i64 0, .int .i64 0, .int .i64 0, .int .i64 0, .int .i64 0, .slice none 0 0, .slice none 0 0, .slice none 0 0], .struct [(0, 60)], false⟩),
  (94, ⟨8, 112, .agg #[.int .i64 0, .int .i64 0, .int .i64 0, .int .i64 0, .int .i64 0, .slice none 0 0, .slice none 0 0, .slice none 0 0], .struct [(0, 60)], false⟩),
  (95, ⟨1, 8, .nilFunc, .func, false⟩),
  (96, ⟨1, 8, .nilFunc, .func, false⟩),
  (97, ⟨1, 8, .nilFunc, .func, false⟩),
  (98, ⟨1, 8, .nilFunc, .func, false⟩),
  (99, ⟨1, 8, .nilFunc, .func, false⟩),
  (100, ⟨1, 8, .nilFunc, .func, false⟩),
  (101, ⟨1, 8, .nilFunc, .func, false⟩),
  (102, ⟨1, 8, .nilFunc, .func, false⟩),
  (108, ⟨1, 4, .int .u32 0, .int .u32, false⟩),
  (111, ⟨1, 8, .nilFunc, .func, false⟩),
  (112, ⟨1, 8, .pointer none, .ptr 5, false⟩)
]
def tlook : List (Nat × TI) → Nat → Option TI
  | [], _ => none
  | (j, v) :: r, i => bif Nat.beq j i then some v else tlook r i
noncomputable def C : Ctx := ⟨Tryd.prog, tlook tab⟩
def tabAll (P : Program) : List (Nat × TI) → Prop
  | [] => True
  | p :: r => TIok P p.1 p.2 ∧ tabAll P r
theorem tabAll.out {P : Program} : ∀ {l : List (Nat × TI)}, tabAll P l → ∀ t ti, tlook l t = some ti → TIok P t ti
  | [], _, t, ti, h => by simp [tlook] at h
  | (j, v) :: r, h, t, ti, ht => by
    simp only [tlook] at ht
    cases hb : Nat.beq j t with
    | true =>
      rw [hb] at ht
      cases ht
      have := Nat.eq_of_beq_eq_true hb
      subst this
      exact h.1
    | false => rw [hb] at ht; exact tabAll.out h.2 t ti ht
theorem ti1 : TIok Tryd.prog 1 ⟨1, 8, .nilFunc, .func, false⟩ :=
  ⟨by kernel_rfl, ⟨_, Tryd.underlying1, trivial⟩, fun _ => rfl, fun h => (by cases h)⟩
theorem ti2 : TIok Tryd.prog 2 ⟨1, 8, .int .i64 0, .int .i64, false⟩ :=
  ⟨by kernel_rfl, ⟨_, Tryd.underlying2, rfl⟩, fun _ => rfl, fun h => (by cases h)⟩
theorem ti3 : TIok Tryd.prog 3 ⟨1, 8, .int .i64 0, .int .i64, false⟩ :=
  ⟨by kernel_rfl, ⟨_, Tryd.underlying3, rfl⟩, fun _ => rfl, fun h => (by cases h)⟩
theorem ti4 : TIok Tryd.prog 4 ⟨1, 1, .bool false, .bool, false⟩ :=
  ⟨by kernel_rfl, ⟨_, Tryd.underlying4, trivial⟩, fun _ => rfl, fun h => (by cases h)⟩
theorem ti5 : TIok Tryd.prog 5 ⟨1, 1, .int .u8 0, .int .u8, false⟩ :=
  ⟨by kernel_rfl, ⟨_, Tryd.underlying5, rfl⟩, fun _ => rfl, fun h => (by cases h)⟩
theorem ti9 : TIok Tryd.prog 9 ⟨1, 16, .string ⟨#[]⟩, .str, false⟩ :=
  ⟨by kernel_rfl, ⟨_, Tryd.underlying9, trivial⟩, fun _ => rfl, fun h => (by cases h)⟩
theorem ti12 : TIok Tryd.prog 12 ⟨1, 8, .int .u64 0, .int .u64, false⟩ :=
  ⟨by kernel_rfl, ⟨_, Tryd.underlying12, rfl⟩, fun _ => rfl, fun h => (by cases h)⟩
theorem ti20 : TIok Tryd.prog 20 ⟨1, 16, .nilIface, .iface true, false⟩ :=
  ⟨by kernel_rfl, ⟨_, Tryd.underlying20, rfl⟩, fun _ => rfl, fun h => (by cases h)⟩
theorem ti21 : TIok Tryd.prog 21 ⟨1, 4, .int .i32 0, .int .i32, false⟩ :=
  ⟨by kernel_rfl, ⟨_, Tryd.underlying21, rfl⟩, fun _ => rfl, fun h => (by cases h)⟩
theorem ti22 : TIok Tryd.prog 22 ⟨1, 24, .slice none 0 0, .sl 60, false⟩ :=
  ⟨by kernel_rfl, ⟨_, Tryd.underlying22, rfl⟩, fun _ => rfl, fun h => (by cases h)⟩
theorem ti23 : TIok Tryd.prog 23 ⟨1, 24, .slice none 0 0, .sl 69, false⟩ :=
  ⟨by kernel_rfl, ⟨_, Tryd.underlying23, rfl⟩, fun _ => rfl, fun h => (by cases h)⟩
theorem ti24 : TIok Tryd.prog 24 ⟨6, 88, .agg #[.string ⟨#[]⟩, .int .i64 0, .int .i64 0, .int .i64 0, .slice none 0 0, .slice none 0 0], .struct [(0, 9), (1, 3), (2, 3), (3, 3), (4, 22), (5, 23)], false⟩ :=
  ⟨by kernel_rfl, ⟨_, Tryd.underlying24, ⟨rfl, rfl⟩⟩, fun h => (by cases h), fun h => (by cases h)⟩
theorem ti25 : TIok Tryd.prog 25 ⟨6, 88, .agg #[.string ⟨#[]⟩, .int .i64 0, .int .i64 0, .int .i64 0, .slice none 0 0, .slice none 0 0], .struct [(0, 9), (1, 3), (2, 3), (3, 3), (4, 22), (5, 23)], false⟩ :=
  ⟨by kernel_rfl, ⟨_, Tryd.underlying25, ⟨rfl, rfl⟩⟩, fun h => (by cases h), fun h => (by cases h)⟩
theorem ti26 : TIok Tryd.prog 26 ⟨1, 24, .slice none 0 0, .sl 28, false⟩ :=
  ⟨by kernel_rfl, ⟨_, Tryd.underlying26, rfl⟩, fun _ => rfl, fun h => (by cases h)⟩
theorem ti27 : TIok Tryd.prog 27 ⟨4, 48, .agg #[.int .i64 0, .int .i64 0, .int .i64 0, .slice none 0 0], .struct [(0, 3), (1, 3), (2, 3), (3, 26)], false⟩ :=
  ⟨by kernel_rfl, ⟨_, Tryd.underlying27, ⟨rfl, rfl⟩⟩, fun h => (by cases h), fun h => (by cases h)⟩
theorem ti28 : TIok Tryd.prog 28 ⟨4, 48, .agg #[.int .i64 0, .int .i64 0, .int .i64 0, .slice none 0 0], .struct [(0, 3), (1, 3), (2, 3), (3, 26)], false⟩ :=
  ⟨by kernel_rfl, ⟨_, Tryd.underlying28, ⟨rfl, rfl⟩⟩, fun h => (by cases h), fun h => (by cases h)⟩
theorem ti29 : TIok Tryd.prog 29 ⟨1, 8, .nilFunc, .func, false⟩ :=
  ⟨by kernel_rfl, ⟨_, Tryd.underlying29, trivial⟩, fun _ => rfl, fun h => (by cases h)⟩
theorem ti30 : TIok Tryd.prog 30 ⟨1, 8, .nilFunc, .func, false⟩ :=
  ⟨by kernel_rfl, ⟨_, Tryd.underlying30, trivial⟩, fun _ => rfl, fun h => (by cases h)⟩
theorem ti31 : TIok Tryd.prog 31 ⟨1, 8, .nilFunc, .func, false⟩ :=
  ⟨by kernel_rfl, ⟨_, Tryd.underlying31, trivial⟩, fun _ => rfl, fun h => (by cases h)⟩
theorem ti32 : TIok Tryd.prog 32 ⟨1, 8, .int .i64 0, .int .i64, false⟩ :=
  ⟨by kernel_rfl, ⟨_, Tryd.underlying32, rfl⟩, fun _ => rfl, fun h => (by cases h)⟩
theorem ti33 : TIok Tryd.prog 33 ⟨1, 8, .nilFunc, .func, false⟩ :=
  ⟨by kernel_rfl, ⟨_, Tryd.underlying33, trivial⟩, fun _ => rfl, fun h => (by cases h)⟩
theorem ti34 : TIok Tryd.prog 34 ⟨1, 8, .nilFunc, .func, false⟩ :=
  ⟨by kernel_rfl, ⟨_, Tryd.underlying34, trivial⟩, fun _ => rfl, fun h => (by cases h)⟩
theorem ti35 : TIok Tryd.prog 35 ⟨1, 8, .nilFunc, .func, false⟩ :=
  ⟨by kernel_rfl, ⟨_, Tryd.underlying35, trivial⟩, fun _ => rfl, fun h => (by cases h)⟩
theorem ti36 : TIok Tryd.prog 36 ⟨1, 8, .nilFunc, .func, false⟩ :=
  ⟨by kernel_rfl, ⟨_, Tryd.underlying36, trivial⟩, fun _ => rfl, fun h => (by cases h)⟩
theorem ti37 : TIok Tryd.prog 37 ⟨4, 32, .agg #[.int .i64 0, .int .i64 0, .int .i64 0, .int .i64 0], .struct [(0, 3), (1, 3), (2, 3), (3, 3)], true⟩ :=
  ⟨by kernel_rfl, ⟨_, Tryd.underlying37, ⟨rfl, rfl⟩⟩, fun h => (by cases h), fun _ => ⟨by kernel_rfl, by kernel_rfl⟩⟩
theorem ti38 : TIok Tryd.prog 38 ⟨4, 32, .agg #[.int .i64 0, .int .i64 0, .int .i64 0, .int .i64 0], .struct [(0, 3), (1, 3), (2, 3), (3, 3)], true⟩ :=
  ⟨by kernel_rfl, ⟨_, Tryd.underlying38, ⟨rfl, rfl⟩⟩, fun h => (by cases h), fun _ => ⟨by kernel_rfl, by kernel_rfl⟩⟩
theorem ti39 : TIok Tryd.prog 39 ⟨1, 24, .slice none 0 0, .sl 3, false⟩ :=
  ⟨by kernel_rfl, ⟨_, Tryd.underlying39, rfl⟩, fun _ => rfl, fun h => (by cases h)⟩
theorem ti41 : TIok Tryd.prog 41 ⟨1, 8, .nilFunc, .func, false⟩ :=
  ⟨by kernel_rfl, ⟨_, Tryd.underlying41, trivial⟩, fun _ => rfl, fun h => (by cases h)⟩
theorem ti42 : TIok Tryd.prog 42 ⟨1, 8, .nilFunc, .func, false⟩ :=
  ⟨by kernel_rfl, ⟨_, Tryd.underlying42, trivial⟩, fun _ => rfl, fun h => (by cases h)⟩
theorem ti43 : TIok Tryd.prog 43 ⟨1, 8, .nilFunc, .func, false⟩ :=
  ⟨by kernel_rfl, ⟨_, Tryd.underlying43, trivial⟩, fun _ => rfl, fun h => (by cases h)⟩
theorem ti44 : TIok Tryd.prog 44 ⟨1, 8, .nilFunc, .func, false⟩ :=
  ⟨by kernel_rfl, ⟨_, Tryd.underlying44, trivial⟩, fun _ => rfl, fun h => (by cases h)⟩
theorem ti45 : TIok Tryd.prog 45 ⟨1, 8, .nilFunc, .func, false⟩ :=
  ⟨by kernel_rfl, ⟨_, Tryd.underlying45, trivial⟩, fun _ => rfl, fun h => (by cases h)⟩
theorem ti47 : TIok Tryd.prog 47 ⟨1, 8, .nilFunc, .func, false⟩ :=
  ⟨by kernel_rfl, ⟨_, Tryd.underlying47, trivial⟩, fun _ => rfl, fun h => (by cases h)⟩
theorem ti48 : TIok Tryd.prog 48 ⟨1, 8, .nilFunc, .func, false⟩ :=
  ⟨by kernel_rfl, ⟨_, Tryd.underlying48, trivial⟩, fun _ => rfl, fun h => (by cases h)⟩
theorem ti49 : TIok Tryd.prog 49 ⟨1, 8, .nilFunc, .func, false⟩ :=
  ⟨by kernel_rfl, ⟨_, Tryd.underlying49, trivial⟩, fun _ => rfl, fun h => (by cases h)⟩
theorem ti50 : TIok Tryd.prog 50 ⟨1, 8, .nilFunc, .func, false⟩ :=
  ⟨by kernel_rfl, ⟨_, Tryd.underlying50, trivial⟩, fun _ => rfl, fun h => (by cases h)⟩
theorem ti51 : TIok Tryd.prog 51 ⟨1, 24, .slice none 0 0, .sl 38, false⟩ :=
  ⟨by kernel_rfl, ⟨_, Tryd.underlying51, rfl⟩, fun _ => rfl, fun h => (by cases h)⟩
theorem ti53 : TIok Tryd.prog 53 ⟨1, 8, .nilFunc, .func, false⟩ :=
  ⟨by kernel_rfl, ⟨_, Tryd.underlying53, trivial⟩, fun _ => rfl, fun h => (by cases h)⟩
theorem ti54 : TIok Tryd.prog 54 ⟨1, 8, .nilFunc, .func, false⟩ :=
  ⟨by kernel_rfl, ⟨_, Tryd.underlying54, trivial⟩, fun _ => rfl, fun h => (by cases h)⟩
theorem ti55 : TIok Tryd.prog 55 ⟨1, 8, .nilFunc, .func, false⟩ :=
  ⟨by kernel_rfl, ⟨_, Tryd.underlying55, trivial⟩, fun _ => rfl, fun h => (by cases h)⟩
theorem ti56 : TIok Tryd.prog 56 ⟨1, 8, .nilFunc, .func, false⟩ :=
  ⟨by kernel_rfl, ⟨_, Tryd.underlying56, trivial⟩, fun _ => rfl, fun h => (by cases h)⟩
theorem ti57 : TIok Tryd.prog 57 ⟨1, 8, .nilFunc, .func, false⟩ :=
  ⟨by kernel_rfl, ⟨_, Tryd.underlying57, trivial⟩, fun _ => rfl, fun h => (by cases h)⟩
theorem ti58 : TIok Tryd.prog 58 ⟨1, 8, .nilFunc, .func, false⟩ :=
  ⟨by kernel_rfl, ⟨_, Tryd.underlying58, trivial⟩, fun _ => rfl, fun h => (by cases h)⟩
theorem ti59 : TIok Tryd.prog 59 ⟨8, 112, .agg #[.int .i64 0, .int .i64 0, .int .i64 0, .int .i64 0, .int .i64 0, .slice none 0 0, .slice none 0 0, .slice none 0 0], .struct [(0, 3), (1, 3), (2, 28), (6, 22), (7, 22)], false⟩ :=
  ⟨by kernel_rfl, ⟨_, Tryd.underlying59, ⟨rfl, rfl⟩⟩, fun h => (by cases h), fun h => (by cases h)⟩
theorem ti60 : TIok Tryd.prog 60 ⟨8, 112, .agg #[.int .i64 0, .int .i64 0, .int .i64 0, .int .i64 0, .int .i64 0, .slice none 0 0, .slice none 0 0, .slice none 0 0], .struct [(0, 3), (1, 3), (2, 28), (6, 22), (7, 22)], false⟩ :=
  ⟨by kernel_rfl, ⟨_, Tryd.underlying60, ⟨rfl, rfl⟩⟩, fun h => (by cases h), fun h => (by cases h)⟩
theorem ti61 : TIok Tryd.prog 61 ⟨1, 8, .nilFunc, .func, false⟩ :=
  ⟨by kernel_rfl, ⟨_, Tryd.underlying61, trivial⟩, fun _ => rfl, fun h => (by cases h)⟩
theorem ti62 : TIok Tryd.prog 62 ⟨1, 8, .nilFunc, .func, false⟩ :=
  ⟨by kernel_rfl, ⟨_, Tryd.underlying62, trivial⟩, fun _ => rfl, fun h => (by cases h)⟩
theorem ti63 : TIok Tryd.prog 63 ⟨1, 8, .nilFunc, .func, false⟩ :=
  ⟨by kernel_rfl, ⟨_, Tryd.underlying63, trivial⟩, fun _ => rfl, fun h => (by cases h)⟩
theorem ti65 : TIok Tryd.prog 65 ⟨1, 8, .nilFunc, .func, false⟩ :=
  ⟨by kernel_rfl, ⟨_, Tryd.underlying65, trivial⟩, fun _ => rfl, fun h => (by cases h)⟩
theorem ti66 : TIok Tryd.prog 66 ⟨1, 8, .nilFunc, .func, false⟩ :=
  ⟨by kernel_rfl, ⟨_, Tryd.underlying66, trivial⟩, fun _ => rfl, fun h => (by cases h)⟩
theorem ti67 : TIok Tryd.prog 67 ⟨1, 8, .nilFunc, .func, false⟩ :=
  ⟨by kernel_rfl, ⟨_, Tryd.underlying67, trivial⟩, fun _ => rfl, fun h => (by cases h)⟩
theorem ti68 : TIok Tryd.prog 68 ⟨3, 32, .agg #[.string ⟨#[]⟩, .int .i64 0, .int .i64 0], .struct [(0, 9), (1, 3), (2, 3)], true⟩ :=
  ⟨by kernel_rfl, ⟨_, Tryd.underlying68, ⟨rfl, rfl⟩⟩, fun h => (by cases h), fun _ => ⟨by kernel_rfl, by kernel_rfl⟩⟩
theorem ti69 : TIok Tryd.prog 69 ⟨3, 32, .agg #[.string ⟨#[]⟩, .int .i64 0, .int .i64 0], .struct [(0, 9), (1, 3), (2, 3)], true⟩ :=
  ⟨by kernel_rfl, ⟨_, Tryd.underlying69, ⟨rfl, rfl⟩⟩, fun h => (by cases h), fun _ => ⟨by kernel_rfl, by kernel_rfl⟩⟩
theorem ti70 : TIok Tryd.prog 70 ⟨1, 8, .nilFunc, .func, false⟩ :=
  ⟨by kernel_rfl, ⟨_, Tryd.underlying70, trivial⟩, fun _ => rfl, fun h => (by cases h)⟩
theorem ti71 : TIok Tryd.prog 71 ⟨1, 8, .nilFunc, .func, false⟩ :=
  ⟨by kernel_rfl, ⟨_, Tryd.underlying71, trivial⟩, fun _ => rfl, fun h => (by cases h)⟩
theorem ti72 : TIok Tryd.prog 72 ⟨1, 24, .slice none 0 0, .sl 91, false⟩ :=
  ⟨by kernel_rfl, ⟨_, Tryd.underlying72, rfl⟩, fun _ => rfl, fun h => (by cases h)⟩
theorem ti73 : TIok Tryd.prog 73 ⟨1, 8, .nilFunc, .func, false⟩ :=
  ⟨by kernel_rfl, ⟨_, Tryd.underlying73, trivial⟩, fun _ => rfl, fun h => (by cases h)⟩
theorem ti74 : TIok Tryd.prog 74 ⟨4, 48, .agg #[.int .i64 0, .int .i64 0, .int .i64 0, .slice none 0 0], .struct [(0, 28)], false⟩ :=
  ⟨by kernel_rfl, ⟨_, Tryd.underlying74, ⟨rfl, rfl⟩⟩, fun h => (by cases h), fun h => (by cases h)⟩
theorem ti75 : TIok Tryd.prog 75 ⟨4, 48, .agg #[.int .i64 0, .int .i64 0, .int .i64 0, .slice none 0 0], .struct [(0, 28)], false⟩ :=
  ⟨by kernel_rfl, ⟨_, Tryd.underlying75, ⟨rfl, rfl⟩⟩, fun h => (by cases h), fun h => (by cases h)⟩
theorem ti76 : TIok Tryd.prog 76 ⟨1, 24, .slice none 0 0, .sl 78, false⟩ :=
  ⟨by kernel_rfl, ⟨_, Tryd.underlying76, rfl⟩, fun _ => rfl, fun h => (by cases h)⟩
theorem ti77 : TIok Tryd.prog 77 ⟨2, 16, .agg #[.int .i64 0, .int .i64 0], .struct [(0, 3), (1, 3)], true⟩ :=
  ⟨by kernel_rfl, ⟨_, Tryd.underlying77, ⟨rfl, rfl⟩⟩, fun h => (by cases h), fun _ => ⟨by kernel_rfl, by kernel_rfl⟩⟩
theorem ti78 : TIok Tryd.prog 78 ⟨2, 16, .agg #[.int .i64 0, .int .i64 0], .struct [(0, 3), (1, 3)], true⟩ :=
  ⟨by kernel_rfl, ⟨_, Tryd.underlying78, ⟨rfl, rfl⟩⟩, fun h => (by cases h), fun _ => ⟨by kernel_rfl, by kernel_rfl⟩⟩
theorem ti79 : TIok Tryd.prog 79 ⟨10, 80, .agg #[.int .i64 0, .int .i64 0, .int .i64 0, .int .i64 0, .int .i64 0, .int .i64 0, .int .i64 0, .int .i64 0, .int .i64 0, .int .i64 0], .arr 5 78, false⟩ :=
  ⟨by kernel_rfl, ⟨_, Tryd.underlying79, ⟨rfl, rfl⟩⟩, fun h => (by cases h), fun h => (by cases h)⟩
theorem ti80 : TIok Tryd.prog 80 ⟨1, 8, .nilFunc, .func, false⟩ :=
  ⟨by kernel_rfl, ⟨_, Tryd.underlying80, trivial⟩, fun _ => rfl, fun h => (by cases h)⟩
theorem ti81 : TIok Tryd.prog 81 ⟨5, 40, .agg #[.int .i64 0, .int .i64 0, .int .i64 0, .int .i64 0, .int .i64 0], .arr 5 3, false⟩ :=
  ⟨by kernel_rfl, ⟨_, Tryd.underlying81, ⟨rfl, rfl⟩⟩, fun h => (by cases h), fun h => (by cases h)⟩
theorem ti82 : TIok Tryd.prog 82 ⟨1, 8, .nilFunc, .func, false⟩ :=
  ⟨by kernel_rfl, ⟨_, Tryd.underlying82, trivial⟩, fun _ => rfl, fun h => (by cases h)⟩
theorem ti83 : TIok Tryd.prog 83 ⟨1, 8, .nilFunc, .func, false⟩ :=
  ⟨by kernel_rfl, ⟨_, Tryd.underlying83, trivial⟩, fun _ => rfl, fun h => (by cases h)⟩
theorem ti84 : TIok Tryd.prog 84 ⟨1, 8, .nilFunc, .func, false⟩ :=
  ⟨by kernel_rfl, ⟨_, Tryd.underlying84, trivial⟩, fun _ => rfl, fun h => (by cases h)⟩
theorem ti85 : TIok Tryd.prog 85 ⟨1, 8, .pointer none, .ptr 87, false⟩ :=
  ⟨by kernel_rfl, ⟨_, Tryd.underlying85, rfl⟩, fun _ => rfl, fun h => (by cases h)⟩
theorem ti86 : TIok Tryd.prog 86 ⟨2, 16, .agg #[.int .i64 0, .int .i64 0], .struct [(0, 3), (1, 3)], true⟩ :=
  ⟨by kernel_rfl, ⟨_, Tryd.underlying86, ⟨rfl, rfl⟩⟩, fun h => (by cases h), fun _ => ⟨by kernel_rfl, by kernel_rfl⟩⟩
theorem ti87 : TIok Tryd.prog 87 ⟨2, 16, .agg #[.int .i64 0, .int .i64 0], .struct [(0, 3), (1, 3)], true⟩ :=
  ⟨by kernel_rfl, ⟨_, Tryd.underlying87, ⟨rfl, rfl⟩⟩, fun h => (by cases h), fun _ => ⟨by kernel_rfl, by kernel_rfl⟩⟩
theorem ti88 : TIok Tryd.prog 88 ⟨1, 8, .nilFunc, .func, false⟩ :=
  ⟨by kernel_rfl, ⟨_, Tryd.underlying88, trivial⟩, fun _ => rfl, fun h => (by cases h)⟩
theorem ti89 : TIok Tryd.prog 89 ⟨1, 8, .nilFunc, .func, false⟩ :=
  ⟨by kernel_rfl, ⟨_, Tryd.underlying89, trivial⟩, fun _ => rfl, fun h => (by cases h)⟩
theorem ti90 : TIok Tryd.prog 90 ⟨1, 16, .nilIface, .iface false, false⟩ :=
  ⟨by kernel_rfl, ⟨_, Tryd.underlying90, rfl⟩, fun _ => rfl, fun h => (by cases h)⟩
theorem ti91 : TIok Tryd.prog 91 ⟨1, 16, .nilIface, .iface false, false⟩ :=
  ⟨by kernel_rfl, ⟨_, Tryd.underlying91, rfl⟩, fun _ => rfl, fun h => (by cases h)⟩
theorem ti92 : TIok Tryd.prog 92 ⟨1, 8, .nilFunc, .func, false⟩ :=
  ⟨by kernel_rfl, ⟨_, Tryd.underlying92, trivial⟩, fun _ => rfl, fun h => (by cases h)⟩
theorem ti93 : TIok Tryd.prog 93 ⟨8, 112, .agg #[.int .i64 0, .int .i64 0, .int .i64 0, .int .i64 0, .int .i64 0, .slice none 0 0, .slice none 0 0, .slice none 0 0], .struct [(0, 60)], false⟩ :=
  ⟨by kernel_rfl, ⟨_, Tryd.underlying93, ⟨rfl, rfl⟩⟩, fun h => (by cases h), fun h => (by cases h)⟩
theorem ti94 : TIok Tryd.prog 94 ⟨8, 112, .agg #[.int .i64 0, .int .i64 0, .int .i64 0, .int .i64 0, .int .i64 0, .slice none 0 0, .slice none 0 0, .slice none 0 0], .struct [(0, 60)], false⟩ :=
  ⟨by kernel_rfl, ⟨_, Tryd.underlying94, ⟨rfl, rfl⟩⟩, fun h => (by cases h), fun h => (by cases h)⟩
theorem ti95 : TIok Tryd.prog 95 ⟨1, 8, .nilFunc, .func, false⟩ :=
  ⟨by kernel_rfl, ⟨_, Tryd.underlying95, trivial⟩, fun _ => rfl, fun h => (by cases h)⟩
theorem ti96 : TIok Tryd.prog 96 ⟨1, 8, .nilFunc, .func, false⟩ :=
  ⟨by kernel_rfl, ⟨_, Tryd.underlying96, trivial⟩, fun _ => rfl, fun h => (by cases h)⟩
theorem ti97 : TIok Tryd.prog 97 ⟨1, 8, .nilFunc, .func, false⟩ :=
  ⟨by kernel_rfl, ⟨_, Tryd.underlying97, trivial⟩, fun _ => rfl, fun h => (by cases h)⟩
theorem ti98 : TIok Tryd.prog 98 ⟨1, 8, .nilFunc, .func, false⟩ :=
  ⟨by kernel_rfl, ⟨_, Tryd.underlying98, trivial⟩, fun _ => rfl, fun h => (by cases h)⟩
theorem ti99 : TIok Tryd.prog 99 ⟨1, 8, .nilFunc, .func, false⟩ :=
  ⟨by kernel_rfl, ⟨_, Tryd.underlying99, trivial⟩, fun _ => rfl, fun h => (by cases h)⟩
theorem ti100 : TIok Tryd.prog 100 ⟨1, 8, .nilFunc, .func, false⟩ :=
  ⟨by kernel_rfl, ⟨_, Tryd.underlying100, trivial⟩, fun _ => rfl, fun h => (by cases h)⟩
theorem ti101 : TIok Tryd.prog 101 ⟨1, 8, .nilFunc, .func, false⟩ :=
  ⟨by kernel_rfl, ⟨_, Tryd.underlying101, trivial⟩, fun _ => rfl, fun h => (by cases h)⟩
theorem ti102 : TIok Tryd.prog 102 ⟨1, 8, .nilFunc, .func, false⟩ :=
  ⟨by kernel_rfl, ⟨_, Tryd.underlying102, trivial⟩, fun _ => rfl, fun h => (by cases h)⟩
theorem ti108 : TIok Tryd.prog 108 ⟨1, 4, .int .u32 0, .int .u32, false⟩ :=
  ⟨by kernel_rfl, ⟨_, Tryd.underlying108, rfl⟩, fun _ => rfl, fun h => (by cases h)⟩
theorem ti111 : TIok Tryd.prog 111 ⟨1, 8, .nilFunc, .func, false⟩ :=
  ⟨by kernel_rfl, ⟨_, Tryd.underlying111, trivial⟩, fun _ => rfl, fun h => (by cases h)⟩
theorem ti112 : TIok Tryd.prog 112 ⟨1, 8, .pointer none, .ptr 5, false⟩ :=
  ⟨by kernel_rfl, ⟨_, Tryd.underlying112, rfl⟩, fun _ => rfl, fun h => (by cases h)⟩
theorem mixed : C.P.follows .mixedOrders = true := by kernel_rfl
theorem C_ok : C.OK := tabAll.out (P := Tryd.prog) (l := tab) ⟨ti1, ti2, ti3, ti4, ti5, ti9, ti12, ti20, ti21, ti22, ti23, ti24, ti25, ti26, ti27, ti28, ti29, ti30, ti31, ti32, ti33, ti34, ti35, ti36, ti37, ti38, ti39, ti41, ti42, ti43, ti44, ti45, ti47, ti48, ti49, ti50, ti51, ti53, ti54, ti55, ti56, ti57, ti58, ti59, ti60, ti61, ti62, ti63, ti65, ti66, ti67, ti68, ti69, ti70, ti71, ti72, ti73, ti74, ti75, ti76, ti77, ti78, ti79, ti80, ti81, ti82, ti83, ti84, ti85, ti86, ti87, ti88, ti89, ti90, ti91, ti92, ti93, ti94, ti95, ti96, ti97, ti98, ti99, ti100, ti101, ti102, ti108, ti111, ti112, trivial⟩
end Go.Proofs.YtddolfgmkpfmcaaDoor
