/-
  The types of this seat, as the executor reads them; that they are the program's.
-/
import Derived.Test.YtnkfifkgbkgcjaaTidyL
import Derived.Test.YtnkfifkgbkgcjaaRows
namespace Go.Proofs.Ytnkfifkgbkgcjaa
open Go.Tidy
def tab : List (Nat × TI) := [
  (1, ⟨1, 8, .nilFunc, .func, false⟩),
  (2, ⟨1, 8, .int .i64 0, .int .i64, false⟩),
  (3, ⟨1, 8, .int .i64 0, .int .i64, false⟩),
  (4, ⟨1, 1, .bool false, .bool, false⟩),
  (5, ⟨1, 1, .int .u8 0, .int .u8, false⟩),
  (9, ⟨1, 16, .string ⟨#[]⟩, .str, false⟩),
  (12, ⟨1, 8, .int .u64 0, .int .u64, false⟩),
  (20, ⟨1, 16, .nilIface, .iface true, false⟩),
  (21, ⟨1, 4, .int .i32 0, .int .i32, false⟩),
  (22, ⟨1, 24, .slice none 0 0, .sl 42, false⟩),
  (23, ⟨1, 24, .slice none 0 0, .sl 3, false⟩),
  (24, ⟨1, 8, .nilFunc, .func, false⟩),
  (25, ⟨1, 8, .nilFunc, .func, false⟩),
  (26, ⟨1, 24, .slice none 0 0, .sl 33, false⟩),
  (27, ⟨1, 8, .int .i64 0, .int .i64, false⟩),
  (29, ⟨1, 8, .nilFunc, .func, false⟩),
  (30, ⟨1, 8, .nilFunc, .func, false⟩),
  (31, ⟨1, 8, .nilFunc, .func, false⟩),
  (32, ⟨11, 88, .agg #[.int .i64 0, .int .i64 0, .int .i64 0, .int .i64 0, .int .i64 0, .int .i64 0, .int .i64 0, .int .i64 0, .int .i64 0, .int .i64 0, .int .i64 0], .struct [(0, 3), (1, 3), (2, 3), (3, 3), (4, 3), (5, 3), (6, 3), (7, 3), (8, 3), (9, 3), (10, 3)], true⟩),
  (33, ⟨11, 88, .agg #[.int .i64 0, .int .i64 0, .int .i64 0, .int .i64 0, .int .i64 0, .int .i64 0, .int .i64 0, .int .i64 0, .int .i64 0, .int .i64 0, .int .i64 0], .struct [(0, 3), (1, 3), (2, 3), (3, 3), (4, 3), (5, 3), (6, 3), (7, 3), (8, 3), (9, 3), (10, 3)], true⟩),
  (35, ⟨1, 8, .nilFunc, .func, false⟩),
  (36, ⟨1, 8, .nilFunc, .func, false⟩),
  (37, ⟨1, 8, .nilFunc, .func, false⟩),
  (38, ⟨1, 8, .nilFunc, .func, false⟩),
  (39, ⟨4, 32, .agg #[.int .i64 0, .int .i64 0, .int .i64 0, .int .i64 0], .struct [(0, 3), (1, 3), (2, 3), (3, 3)], true⟩),
  (40, ⟨4, 32, .agg #[.int .i64 0, .int .i64 0, .int .i64 0, .int .i64 0], .struct [(0, 3), (1, 3), (2, 3), (3, 3)], true⟩),
  (41, ⟨13, 96, .agg #[.int .i64 0, .int .i64 0, .int .i64 0, .int .i64 0, .int .i64 0, .int .i64 0, .int .i64 0, .int .i64 0, .int .i64 0, .int .i64 0, .int .i64 0, .bool false, .bool false], .struct [(0, 40), (4, 3), (5, 3), (6, 3), (7, 3), (8, 3), (9, 3), (10, 3), (11, 4), (12, 4)], true⟩),
  (42, ⟨13, 96, .agg #[.int .i64 0, .int .i64 0, .int .i64 0, .int .i64 0, .int .i64 0, .int .i64 0, .int .i64 0, .int .i64 0, .int .i64 0, .int .i64 0, .int .i64 0, .bool false, .bool false], .struct [(0, 40), (4, 3), (5, 3), (6, 3), (7, 3), (8, 3), (9, 3), (10, 3), (11, 4), (12, 4)], true⟩),
  (43, ⟨1, 8, .nilFunc, .func, false⟩),
  (44, ⟨1, 8, .nilFunc, .func, false⟩),
  (45, ⟨1, 8, .nilFunc, .func, false⟩),
  (46, ⟨3, 24, .agg #[.int .i64 0, .int .i64 0, .int .i64 0], .struct [(0, 3), (1, 3), (2, 3)], true⟩),
  (47, ⟨3, 24, .agg #[.int .i64 0, .int .i64 0, .int .i64 0], .struct [(0, 3), (1, 3), (2, 3)], true⟩),
  (48, ⟨1, 8, .nilFunc, .func, false⟩),
  (49, ⟨1, 8, .map none, .map 3 50, false⟩),
  (50, ⟨1, 8, .pointer none, .ptr 33, false⟩),
  (51, ⟨1, 8, .nilFunc, .func, false⟩),
  (52, ⟨1, 8, .nilFunc, .func, false⟩),
  (53, ⟨1, 8, .nilFunc, .func, false⟩),
  (54, ⟨6, 40, .agg #[.int .i64 0, .int .i64 0, .int .i64 0, .int .i64 0, .bool false, .bool false], .struct [(0, 3), (1, 3), (2, 3), (3, 3), (4, 4), (5, 4)], true⟩),
  (55, ⟨6, 40, .agg #[.int .i64 0, .int .i64 0, .int .i64 0, .int .i64 0, .bool false, .bool false], .struct [(0, 3), (1, 3), (2, 3), (3, 3), (4, 4), (5, 4)], true⟩),
  (57, ⟨1, 8, .nilFunc, .func, false⟩),
  (58, ⟨1, 8, .nilFunc, .func, false⟩),
  (59, ⟨1, 8, .nilFunc, .func, false⟩),
  (60, ⟨1, 8, .nilFunc, .func, false⟩),
  (61, ⟨1, 8, .nilFunc, .func, false⟩),
  (62, ⟨1, 8, .nilFunc, .func, false⟩),
  (63, ⟨1, 8, .agg #[.nilFunc], .struct [(0, 62)], false⟩),
  (64, ⟨1, 8, .agg #[.nilFunc], .struct [(0, 62)], false⟩),
  (66, ⟨1, 8, .map none, .map 3 64, false⟩),
  (67, ⟨1, 8, .nilFunc, .func, false⟩),
  (68, ⟨1, 8, .nilFunc, .func, false⟩),
  (69, ⟨1, 8, .nilFunc, .func, false⟩),
  (70, ⟨1, 8, .nilFunc, .func, false⟩),
  (71, ⟨1, 8, .nilFunc, .func, false⟩),
  (72, ⟨1, 8, .nilFunc, .func, false⟩),
  (73, ⟨1, 8, .nilFunc, .func, false⟩),
  (74, ⟨1, 8, .nilFunc, .func, false⟩),
  (75, ⟨1, 8, .nilFunc, .func, false⟩),
  (76, ⟨1, 8, .nilFunc, .func, false⟩),
  (77, ⟨1, 8, .nilFunc, .func, false⟩),
  (78, ⟨1, 8, .nilFunc, .func, false⟩),
  (79, ⟨1, 8, .nilFunc, .func, false⟩),
  (80, ⟨2, 2, .agg #[.bool false, .bool false], .arr 2 4, false⟩),
  (81, ⟨1, 8, .nilFunc, .func, false⟩),
  (82, ⟨1, 8, .nilFunc, .func, false⟩),
  (83, ⟨1, 8, .nilFunc, .func, false⟩),
  (84, ⟨1, 8, .nilFunc, .func, false⟩),
  (85, ⟨1, 8, .nilFunc, .func, false⟩),
  (91, ⟨1, 8, .nilFunc, .func, false⟩),
  (92, ⟨1, 4, .int .u32 0, .int .u32, false⟩),
  (95, ⟨1, 8, .nilFunc, .func, false⟩),
  (96, ⟨1, 8, .pointer none, .ptr 5, false⟩)
]
def tlook : List (Nat × TI) → Nat → Option TI
  | [], _ => none
  | (j, v) :: r, i => bif Nat.beq j i then some v else tlook r i
noncomputable def C : Ctx := ⟨Try.prog, tlook tab⟩
def tabAll (P : Program) : List (Nat × TI) → Prop
  | [] => True
  | p :: r => TIok P p.1 p.2 ∧ tabAll P r
theorem tabAll.out {P : Program} : ∀ {l : List (Nat × TI)}, tabAll P l → ∀ t ti, tlook l t = some ti → TIok P t ti
  | [], _, t, ti, h => by simp [tlook] at h
  | (j, v) :: r, h, t, ti, ht => by
    simp only [tlook] at ht
    cases hb : Nat.beq j t with
    | true =>
      rw [hb] at ht
      cases ht
      have := Nat.eq_of_beq_eq_true hb
      subst this
      exact h.1
    | false => rw [hb] at ht; exact tabAll.out h.2 t ti ht
theorem ti1 : TIok Try.prog 1 ⟨1, 8, .nilFunc, .func, false⟩ :=
  ⟨by kernel_rfl, ⟨_, Try.underlying1, trivial⟩, fun _ => rfl, fun h => (by cases h)⟩
theorem ti2 : TIok Try.prog 2 ⟨1, 8, .int .i64 0, .int .i64, false⟩ :=
  ⟨by kernel_rfl, ⟨_, Try.underlying2, rfl⟩, fun _ => rfl, fun h => (by cases h)⟩
theorem ti3 : TIok Try.prog 3 ⟨1, 8, .int .i64 0, .int .i64, false⟩ :=
  ⟨by kernel_rfl, ⟨_, Try.underlying3, rfl⟩, fun _ => rfl, fun h => (by cases h)⟩
theorem ti4 : TIok Try.prog 4 ⟨1, 1, .bool false, .bool, false⟩ :=
  ⟨by kernel_rfl, ⟨_, Try.underlying4, trivial⟩, fun _ => rfl, fun h => (by cases h)⟩
theorem ti5 : TIok Try.prog 5 ⟨1, 1, .int .u8 0, .int .u8, false⟩ :=
  ⟨by kernel_rfl, ⟨_, Try.underlying5, rfl⟩, fun _ => rfl, fun h => (by cases h)⟩
theorem ti9 : TIok Try.prog 9 ⟨1, 16, .string ⟨#[]⟩, .str, false⟩ :=
  ⟨by kernel_rfl, ⟨_, Try.underlying9, trivial⟩, fun _ => rfl, fun h => (by cases h)⟩
theorem ti12 : TIok Try.prog 12 ⟨1, 8, .int .u64 0, .int .u64, false⟩ :=
  ⟨by kernel_rfl, ⟨_, Try.underlying12, rfl⟩, fun _ => rfl, fun h => (by cases h)⟩
theorem ti20 : TIok Try.prog 20 ⟨1, 16, .nilIface, .iface true, false⟩ :=
  ⟨by kernel_rfl, ⟨_, Try.underlying20, rfl⟩, fun _ => rfl, fun h => (by cases h)⟩
theorem ti21 : TIok Try.prog 21 ⟨1, 4, .int .i32 0, .int .i32, false⟩ :=
  ⟨by kernel_rfl, ⟨_, Try.underlying21, rfl⟩, fun _ => rfl, fun h => (by cases h)⟩
theorem ti22 : TIok Try.prog 22 ⟨1, 24, .slice none 0 0, .sl 42, false⟩ :=
  ⟨by kernel_rfl, ⟨_, Try.underlying22, rfl⟩, fun _ => rfl, fun h => (by cases h)⟩
theorem ti23 : TIok Try.prog 23 ⟨1, 24, .slice none 0 0, .sl 3, false⟩ :=
  ⟨by kernel_rfl, ⟨_, Try.underlying23, rfl⟩, fun _ => rfl, fun h => (by cases h)⟩
theorem ti24 : TIok Try.prog 24 ⟨1, 8, .nilFunc, .func, false⟩ :=
  ⟨by kernel_rfl, ⟨_, Try.underlying24, trivial⟩, fun _ => rfl, fun h => (by cases h)⟩
theorem ti25 : TIok Try.prog 25 ⟨1, 8, .nilFunc, .func, false⟩ :=
  ⟨by kernel_rfl, ⟨_, Try.underlying25, trivial⟩, fun _ => rfl, fun h => (by cases h)⟩
theorem ti26 : TIok Try.prog 26 ⟨1, 24, .slice none 0 0, .sl 33, false⟩ :=
  ⟨by kernel_rfl, ⟨_, Try.underlying26, rfl⟩, fun _ => rfl, fun h => (by cases h)⟩
theorem ti27 : TIok Try.prog 27 ⟨1, 8, .int .i64 0, .int .i64, false⟩ :=
  ⟨by kernel_rfl, ⟨_, Try.underlying27, rfl⟩, fun _ => rfl, fun h => (by cases h)⟩
theorem ti29 : TIok Try.prog 29 ⟨1, 8, .nilFunc, .func, false⟩ :=
  ⟨by kernel_rfl, ⟨_, Try.underlying29, trivial⟩, fun _ => rfl, fun h => (by cases h)⟩
theorem ti30 : TIok Try.prog 30 ⟨1, 8, .nilFunc, .func, false⟩ :=
  ⟨by kernel_rfl, ⟨_, Try.underlying30, trivial⟩, fun _ => rfl, fun h => (by cases h)⟩
theorem ti31 : TIok Try.prog 31 ⟨1, 8, .nilFunc, .func, false⟩ :=
  ⟨by kernel_rfl, ⟨_, Try.underlying31, trivial⟩, fun _ => rfl, fun h => (by cases h)⟩
theorem ti32 : TIok Try.prog 32 ⟨11, 88, .agg #[.int .i64 0, .int .i64 0, .int .i64 0, .int .i64 0, .int .i64 0, .int .i64 0, .int .i64 0, .int .i64 0, .int .i64 0, .int .i64 0, .int .i64 0], .struct [(0, 3), (1, 3), (2, 3), (3, 3), (4, 3), (5, 3), (6, 3), (7, 3), (8, 3), (9, 3), (10, 3)], true⟩ :=
  ⟨by kernel_rfl, ⟨_, Try.underlying32, ⟨rfl, rfl⟩⟩, fun h => (by cases h), fun _ => ⟨by kernel_rfl, by kernel_rfl⟩⟩
theorem ti33 : TIok Try.prog 33 ⟨11, 88, .agg #[.int .i64 0, .int .i64 0, .int .i64 0, .int .i64 0, .int .i64 0, .int .i64 0, .int .i64 0, .int .i64 0, .int .i64 0, .int .i64 0, .int .i64 0], .struct [(0, 3), (1, 3), (2, 3), (3, 3), (4, 3), (5, 3), (6, 3), (7, 3), (8, 3), (9, 3), (10, 3)], true⟩ :=
  ⟨by kernel_rfl, ⟨_, Try.underlying33, ⟨rfl, rfl⟩⟩, fun h => (by cases h), fun _ => ⟨by kernel_rfl, by kernel_rfl⟩⟩
theorem ti35 : TIok Try.prog 35 ⟨1, 8, .nilFunc, .func, false⟩ :=
  ⟨by kernel_rfl, ⟨_, Try.underlying35, trivial⟩, fun _ => rfl, fun h => (by cases h)⟩
theorem ti36 : TIok Try.prog 36 ⟨1, 8, .nilFunc, .func, false⟩ :=
  ⟨by kernel_rfl, ⟨_, Try.underlying36, trivial⟩, fun _ => rfl, fun h => (by cases h)⟩
theorem ti37 : TIok Try.prog 37 ⟨1, 8, .nilFunc, .func, false⟩ :=
  ⟨by kernel_rfl, ⟨_, Try.underlying37, trivial⟩, fun _ => rfl, fun h => (by cases h)⟩
theorem ti38 : TIok Try.prog 38 ⟨1, 8, .nilFunc, .func, false⟩ :=
  ⟨by kernel_rfl, ⟨_, Try.underlying38, trivial⟩, fun _ => rfl, fun h => (by cases h)⟩
theorem ti39 : TIok Try.prog 39 ⟨4, 32, .agg #[.int .i64 0, .int .i64 0, .int .i64 0, .int .i64 0], .struct [(0, 3), (1, 3), (2, 3), (3, 3)], true⟩ :=
  ⟨by kernel_rfl, ⟨_, Try.underlying39, ⟨rfl, rfl⟩⟩, fun h => (by cases h), fun _ => ⟨by kernel_rfl, by kernel_rfl⟩⟩
theorem ti40 : TIok Try.prog 40 ⟨4, 32, .agg #[.int .i64 0, .int .i64 0, .int .i64 0, .int .i64 0], .struct [(0, 3), (1, 3), (2, 3), (3, 3)], true⟩ :=
  ⟨by kernel_rfl, ⟨_, Try.underlying40, ⟨rfl, rfl⟩⟩, fun h => (by cases h), fun _ => ⟨by kernel_rfl, by kernel_rfl⟩⟩
theorem ti41 : TIok Try.prog 41 ⟨13, 96, .agg #[.int .i64 0, .int .i64 0, .int .i64 0, .int .i64 0, .int .i64 0, .int .i64 0, .int .i64 0, .int .i64 0, .int .i64 0, .int .i64 0, .int .i64 0, .bool false, .bool false], .struct [(0, 40), (4, 3), (5, 3), (6, 3), (7, 3), (8, 3), (9, 3), (10, 3), (11, 4), (12, 4)], true⟩ :=
  ⟨by kernel_rfl, ⟨_, Try.underlying41, ⟨rfl, rfl⟩⟩, fun h => (by cases h), fun _ => ⟨by kernel_rfl, by kernel_rfl⟩⟩
theorem ti42 : TIok Try.prog 42 ⟨13, 96, .agg #[.int .i64 0, .int .i64 0, .int .i64 0, .int .i64 0, .int .i64 0, .int .i64 0, .int .i64 0, .int .i64 0, .int .i64 0, .int .i64 0, .int .i64 0, .bool false, .bool false], .struct [(0, 40), (4, 3), (5, 3), (6, 3), (7, 3), (8, 3), (9, 3), (10, 3), (11, 4), (12, 4)], true⟩ :=
  ⟨by kernel_rfl, ⟨_, Try.underlying42, ⟨rfl, rfl⟩⟩, fun h => (by cases h), fun _ => ⟨by kernel_rfl, by kernel_rfl⟩⟩
theorem ti43 : TIok Try.prog 43 ⟨1, 8, .nilFunc, .func, false⟩ :=
  ⟨by kernel_rfl, ⟨_, Try.underlying43, trivial⟩, fun _ => rfl, fun h => (by cases h)⟩
theorem ti44 : TIok Try.prog 44 ⟨1, 8, .nilFunc, .func, false⟩ :=
  ⟨by kernel_rfl, ⟨_, Try.underlying44, trivial⟩, fun _ => rfl, fun h => (by cases h)⟩
theorem ti45 : TIok Try.prog 45 ⟨1, 8, .nilFunc, .func, false⟩ :=
  ⟨by kernel_rfl, ⟨_, Try.underlying45, trivial⟩, fun _ => rfl, fun h => (by cases h)⟩
theorem ti46 : TIok Try.prog 46 ⟨3, 24, .agg #[.int .i64 0, .int .i64 0, .int .i64 0], .struct [(0, 3), (1, 3), (2, 3)], true⟩ :=
  ⟨by kernel_rfl, ⟨_, Try.underlying46, ⟨rfl, rfl⟩⟩, fun h => (by cases h), fun _ => ⟨by kernel_rfl, by kernel_rfl⟩⟩
theorem ti47 : TIok Try.prog 47 ⟨3, 24, .agg #[.int .i64 0, .int .i64 0, .int .i64 0], .struct [(0, 3), (1, 3), (2, 3)], true⟩ :=
  ⟨by kernel_rfl, ⟨_, Try.underlying47, ⟨rfl, rfl⟩⟩, fun h => (by cases h), fun _ => ⟨by kernel_rfl, by kernel_rfl⟩⟩
theorem ti48 : TIok Try.prog 48 ⟨1, 8, .nilFunc, .func, false⟩ :=
  ⟨by kernel_rfl, ⟨_, Try.underlying48, trivial⟩, fun _ => rfl, fun h => (by cases h)⟩
theorem ti49 : TIok Try.prog 49 ⟨1, 8, .map none, .map 3 50, false⟩ :=
  ⟨by kernel_rfl, ⟨_, Try.underlying49, ⟨rfl, rfl⟩⟩, fun _ => rfl, fun h => (by cases h)⟩
theorem ti50 : TIok Try.prog 50 ⟨1, 8, .pointer none, .ptr 33, false⟩ :=
  ⟨by kernel_rfl, ⟨_, Try.underlying50, rfl⟩, fun _ => rfl, fun h => (by cases h)⟩
theorem ti51 : TIok Try.prog 51 ⟨1, 8, .nilFunc, .func, false⟩ :=
  ⟨by kernel_rfl, ⟨_, Try.underlying51, trivial⟩, fun _ => rfl, fun h => (by cases h)⟩
theorem ti52 : TIok Try.prog 52 ⟨1, 8, .nilFunc, .func, false⟩ :=
  ⟨by kernel_rfl, ⟨_, Try.underlying52, trivial⟩, fun _ => rfl, fun h => (by cases h)⟩
theorem ti53 : TIok Try.prog 53 ⟨1, 8, .nilFunc, .func, false⟩ :=
  ⟨by kernel_rfl, ⟨_, Try.underlying53, trivial⟩, fun _ => rfl, fun h => (by cases h)⟩
theorem ti54 : TIok Try.prog 54 ⟨6, 40, .agg #[.int .i64 0, .int .i64 0, .int .i64 0, .int .i64 0, .bool false, .bool false], .struct [(0, 3), (1, 3), (2, 3), (3, 3), (4, 4), (5, 4)], true⟩ :=
  ⟨by kernel_rfl, ⟨_, Try.underlying54, ⟨rfl, rfl⟩⟩, fun h => (by cases h), fun _ => ⟨by kernel_rfl, by kernel_rfl⟩⟩
theorem ti55 : TIok Try.prog 55 ⟨6, 40, .agg #[.int .i64 0, .int .i64 0, .int .i64 0, .int .i64 0, .bool false, .bool false], .struct [(0, 3), (1, 3), (2, 3), (3, 3), (4, 4), (5, 4)], true⟩ :=
  ⟨by kernel_rfl, ⟨_, Try.underlying55, ⟨rfl, rfl⟩⟩, fun h => (by cases h), fun _ => ⟨by kernel_rfl, by kernel_rfl⟩⟩
theorem ti57 : TIok Try.prog 57 ⟨1, 8, .nilFunc, .func, false⟩ :=
  ⟨by kernel_rfl, ⟨_, Try.underlying57, trivial⟩, fun _ => rfl, fun h => (by cases h)⟩
theorem ti58 : TIok Try.prog 58 ⟨1, 8, .nilFunc, .func, false⟩ :=
  ⟨by kernel_rfl, ⟨_, Try.underlying58, trivial⟩, fun _ => rfl, fun h => (by cases h)⟩
theorem ti59 : TIok Try.prog 59 ⟨1, 8, .nilFunc, .func, false⟩ :=
  ⟨by kernel_rfl, ⟨_, Try.underlying59, trivial⟩, fun _ => rfl, fun h => (by cases h)⟩
theorem ti60 : TIok Try.prog 60 ⟨1, 8, .nilFunc, .func, false⟩ :=
  ⟨by kernel_rfl, ⟨_, Try.underlying60, trivial⟩, fun _ => rfl, fun h => (by cases h)⟩
theorem ti61 : TIok Try.prog 61 ⟨1, 8, .nilFunc, .func, false⟩ :=
  ⟨by kernel_rfl, ⟨_, Try.underlying61, trivial⟩, fun _ => rfl, fun h => (by cases h)⟩
theorem ti62 : TIok Try.prog 62 ⟨1, 8, .nilFunc, .func, false⟩ :=
  ⟨by kernel_rfl, ⟨_, Try.underlying62, trivial⟩, fun _ => rfl, fun h => (by cases h)⟩
theorem ti63 : TIok Try.prog 63 ⟨1, 8, .agg #[.nilFunc], .struct [(0, 62)], false⟩ :=
  ⟨by kernel_rfl, ⟨_, Try.underlying63, ⟨rfl, rfl⟩⟩, fun h => (by cases h), fun h => (by cases h)⟩
theorem ti64 : TIok Try.prog 64 ⟨1, 8, .agg #[.nilFunc], .struct [(0, 62)], false⟩ :=
  ⟨by kernel_rfl, ⟨_, Try.underlying64, ⟨rfl, rfl⟩⟩, fun h => (by cases h), fun h => (by cases h)⟩
theorem ti66 : TIok Try.prog 66 ⟨1, 8, .map none, .map 3 64, false⟩ :=
  ⟨by kernel_rfl, ⟨_, Try.underlying66, ⟨rfl, rfl⟩⟩, fun _ => rfl, fun h => (by cases h)⟩
theorem ti67 : TIok Try.prog 67 ⟨1, 8, .nilFunc, .func, false⟩ :=
  ⟨by kernel_rfl, ⟨_, Try.underlying67, trivial⟩, fun _ => rfl, fun h => (by cases h)⟩
theorem ti68 : TIok Try.prog 68 ⟨1, 8, .nilFunc, .func, false⟩ :=
  ⟨by kernel_rfl, ⟨_, Try.underlying68, trivial⟩, fun _ => rfl, fun h => (by cases h)⟩
theorem ti69 : TIok Try.prog 69 ⟨1, 8, .nilFunc, .func, false⟩ :=
  ⟨by kernel_rfl, ⟨_, Try.underlying69, trivial⟩, fun _ => rfl, fun h => (by cases h)⟩
theorem ti70 : TIok Try.prog 70 ⟨1, 8, .nilFunc, .func, false⟩ :=
  ⟨by kernel_rfl, ⟨_, Try.underlying70, trivial⟩, fun _ => rfl, fun h => (by cases h)⟩
theorem ti71 : TIok Try.prog 71 ⟨1, 8, .nilFunc, .func, false⟩ :=
  ⟨by kernel_rfl, ⟨_, Try.underlying71, trivial⟩, fun _ => rfl, fun h => (by cases h)⟩
theorem ti72 : TIok Try.prog 72 ⟨1, 8, .nilFunc, .func, false⟩ :=
  ⟨by kernel_rfl, ⟨_, Try.underlying72, trivial⟩, fun _ => rfl, fun h => (by cases h)⟩
theorem ti73 : TIok Try.prog 73 ⟨1, 8, .nilFunc, .func, false⟩ :=
  ⟨by kernel_rfl, ⟨_, Try.underlying73, trivial⟩, fun _ => rfl, fun h => (by cases h)⟩
theorem ti74 : TIok Try.prog 74 ⟨1, 8, .nilFunc, .func, false⟩ :=
  ⟨by kernel_rfl, ⟨_, Try.underlying74, trivial⟩, fun _ => rfl, fun h => (by cases h)⟩
theorem ti75 : TIok Try.prog 75 ⟨1, 8, .nilFunc, .func, false⟩ :=
  ⟨by kernel_rfl, ⟨_, Try.underlying75, trivial⟩, fun _ => rfl, fun h => (by cases h)⟩
theorem ti76 : TIok Try.prog 76 ⟨1, 8, .nilFunc, .func, false⟩ :=
  ⟨by kernel_rfl, ⟨_, Try.underlying76, trivial⟩, fun _ => rfl, fun h => (by cases h)⟩
theorem ti77 : TIok Try.prog 77 ⟨1, 8, .nilFunc, .func, false⟩ :=
  ⟨by kernel_rfl, ⟨_, Try.underlying77, trivial⟩, fun _ => rfl, fun h => (by cases h)⟩
theorem ti78 : TIok Try.prog 78 ⟨1, 8, .nilFunc, .func, false⟩ :=
  ⟨by kernel_rfl, ⟨_, Try.underlying78, trivial⟩, fun _ => rfl, fun h => (by cases h)⟩
theorem ti79 : TIok Try.prog 79 ⟨1, 8, .nilFunc, .func, false⟩ :=
  ⟨by kernel_rfl, ⟨_, Try.underlying79, trivial⟩, fun _ => rfl, fun h => (by cases h)⟩
theorem ti80 : TIok Try.prog 80 ⟨2, 2, .agg #[.bool false, .bool false], .arr 2 4, false⟩ :=
  ⟨by kernel_rfl, ⟨_, Try.underlying80, ⟨rfl, rfl⟩⟩, fun h => (by cases h), fun h => (by cases h)⟩
theorem ti81 : TIok Try.prog 81 ⟨1, 8, .nilFunc, .func, false⟩ :=
  ⟨by kernel_rfl, ⟨_, Try.underlying81, trivial⟩, fun _ => rfl, fun h => (by cases h)⟩
theorem ti82 : TIok Try.prog 82 ⟨1, 8, .nilFunc, .func, false⟩ :=
  ⟨by kernel_rfl, ⟨_, Try.underlying82, trivial⟩, fun _ => rfl, fun h => (by cases h)⟩
theorem ti83 : TIok Try.prog 83 ⟨1, 8, .nilFunc, .func, false⟩ :=
  ⟨by kernel_rfl, ⟨_, Try.underlying83, trivial⟩, fun _ => rfl, fun h => (by cases h)⟩
theorem ti84 : TIok Try.prog 84 ⟨1, 8, .nilFunc, .func, false⟩ :=
  ⟨by kernel_rfl, ⟨_, Try.underlying84, trivial⟩, fun _ => rfl, fun h => (by cases h)⟩
theorem ti85 : TIok Try.prog 85 ⟨1, 8, .nilFunc, .func, false⟩ :=
  ⟨by kernel_rfl, ⟨_, Try.underlying85, trivial⟩, fun _ => rfl, fun h => (by cases h)⟩
theorem ti91 : TIok Try.prog 91 ⟨1, 8, .nilFunc, .func, false⟩ :=
  ⟨by kernel_rfl, ⟨_, Try.underlying91, trivial⟩, fun _ => rfl, fun h => (by cases h)⟩
theorem ti92 : TIok Try.prog 92 ⟨1, 4, .int .u32 0, .int .u32, false⟩ :=
  ⟨by kernel_rfl, ⟨_, Try.underlying92, rfl⟩, fun _ => rfl, fun h => (by cases h)⟩
theorem ti95 : TIok Try.prog 95 ⟨1, 8, .nilFunc, .func, false⟩ :=
  ⟨by kernel_rfl, ⟨_, Try.underlying95, trivial⟩, fun _ => rfl, fun h => (by cases h)⟩
theorem ti96 : TIok Try.prog 96 ⟨1, 8, .pointer none, .ptr 5, false⟩ :=
  ⟨by kernel_rfl, ⟨_, Try.underlying96, rfl⟩, fun _ => rfl, fun h => (by cases h)⟩
theorem mixed : C.P.follows .mixedOrders = true := by kernel_rfl
theorem C_ok : C.OK := tabAll.out (P := Try.prog) (l := tab) ⟨ti1, ti2, ti3, ti4, ti5, ti9, ti12, ti20, ti21, ti22, ti23, ti24, ti25, ti26, ti27, ti29, ti30, ti31, ti32, ti33, ti35, ti36, ti37, ti38, ti39, ti40, ti41, ti42, ti43, ti44, ti45, ti46, ti47, ti48, ti49, ti50, ti51, ti52, ti53, ti54, ti55, ti57, ti58, ti59, ti60, ti61, ti62, ti63, ti64, ti66, ti67, ti68, ti69, ti70, ti71, ti72, ti73, ti74, ti75, ti76, ti77, ti78, ti79, ti80, ti81, ti82, ti83, ti84, ti85, ti91, ti92, ti95, ti96, trivial⟩
end Go.Proofs.Ytnkfifkgbkgcjaa
