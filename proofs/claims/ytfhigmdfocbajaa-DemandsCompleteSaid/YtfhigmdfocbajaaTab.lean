/-
  The types of this seat, as the executor reads them; that they are the program's.
-/
import Derived.Test.YtfhigmdfocbajaaBaseD
import Derived.Test.YtfhigmdfocbajaaRows
namespace Go.Proofs.Ytfhigmdfocbajaa
open Go.Tidy
def tab : List (Nat × TI) := [
  (1, ⟨1, 8, .nilFunc, .func, false⟩),
  (2, ⟨1, 8, .int .i64 0, .int .i64, false⟩),
  (3, ⟨1, 8, .int .i64 0, .int .i64, false⟩),
  (4, ⟨1, 1, .bool false, .bool, false⟩),
  (5, ⟨1, 1, .int .u8 0, .int .u8, false⟩),
  (9, ⟨1, 16, .string ⟨#[]⟩, .str, false⟩),
  (12, ⟨1, 8, .int .u64 0, .int .u64, false⟩),
  (20, ⟨1, 16, .nilIface, .iface true, false⟩),
  (21, ⟨1, 4, .int .i32 0, .int .i32, false⟩),
  (22, ⟨1, 24, .slice none 0 0, .sl 3, false⟩),
  (23, ⟨1, 24, .slice none 0 0, .sl 35, false⟩),
  (24, ⟨3, 56, .agg #[.slice none 0 0, .bool false, .slice none 0 0], .struct [(0, 22), (1, 4), (2, 23)], false⟩),
  (25, ⟨3, 56, .agg #[.slice none 0 0, .bool false, .slice none 0 0], .struct [(0, 22), (1, 4), (2, 23)], false⟩),
  (26, ⟨1, 8, .nilFunc, .func, false⟩),
  (27, ⟨1, 8, .nilFunc, .func, false⟩),
  (28, ⟨1, 24, .slice none 0 0, .sl 54, false⟩),
  (29, ⟨1, 24, .agg #[.slice none 0 0], .struct [(0, 28)], false⟩),
  (30, ⟨1, 24, .agg #[.slice none 0 0], .struct [(0, 28)], false⟩),
  (31, ⟨1, 8, .int .i64 0, .int .i64, false⟩),
  (32, ⟨1, 8, .nilFunc, .func, false⟩),
  (33, ⟨1, 8, .nilFunc, .func, false⟩),
  (34, ⟨6, 64, .agg #[.int .i64 0, .int .i64 0, .int .i64 0, .int .i64 0, .int .i64 0, .slice none 0 0], .struct [(0, 3), (1, 3), (2, 3), (3, 3), (4, 3), (5, 22)], false⟩),
  (35, ⟨6, 64, .agg #[.int .i64 0, .int .i64 0, .int .i64 0, .int .i64 0, .int .i64 0, .slice none 0 0], .struct [(0, 3), (1, 3), (2, 3), (3, 3), (4, 3), (5, 22)], false⟩),
  (37, ⟨1, 8, .nilFunc, .func, false⟩),
  (38, ⟨1, 8, .nilFunc, .func, false⟩),
  (39, ⟨1, 8, .nilFunc, .func, false⟩),
  (40, ⟨1, 8, .nilFunc, .func, false⟩),
  (42, ⟨1, 8, .nilFunc, .func, false⟩),
  (43, ⟨1, 8, .nilFunc, .func, false⟩),
  (44, ⟨1, 8, .nilFunc, .func, false⟩),
  (45, ⟨1, 8, .int .u64 0, .int .u64, false⟩),
  (46, ⟨1, 8, .nilFunc, .func, false⟩),
  (47, ⟨1, 8, .nilFunc, .func, false⟩),
  (48, ⟨1, 8, .nilFunc, .func, false⟩),
  (49, ⟨1, 8, .nilFunc, .func, false⟩),
  (50, ⟨1, 8, .nilFunc, .func, false⟩),
  (51, ⟨1, 8, .nilFunc, .func, false⟩),
  (53, ⟨1, 8, .nilFunc, .func, false⟩),
  (54, ⟨1, 24, .slice none 0 0, .sl 56, false⟩),
  (55, ⟨2, 16, .agg #[.int .i64 0, .int .i64 0], .struct [(0, 3), (1, 3)], true⟩),
  (56, ⟨2, 16, .agg #[.int .i64 0, .int .i64 0], .struct [(0, 3), (1, 3)], true⟩),
  (57, ⟨1, 8, .nilFunc, .func, false⟩),
  (58, ⟨1, 8, .map none, .map 3 63, false⟩),
  (59, ⟨1, 8, .nilFunc, .func, false⟩),
  (60, ⟨1, 8, .nilFunc, .func, false⟩),
  (61, ⟨1, 8, .nilFunc, .func, false⟩),
  (62, ⟨2, 16, .agg #[.nilFunc, .nilFunc], .struct [(0, 60), (1, 61)], false⟩),
  (63, ⟨2, 16, .agg #[.nilFunc, .nilFunc], .struct [(0, 60), (1, 61)], false⟩),
  (65, ⟨1, 24, .slice none 0 0, .sl 72, false⟩),
  (66, ⟨1, 24, .slice none 0 0, .sl 72, false⟩),
  (68, ⟨1, 8, .nilFunc, .func, false⟩),
  (69, ⟨1, 8, .nilFunc, .func, false⟩),
  (70, ⟨1, 8, .nilFunc, .func, false⟩),
  (71, ⟨2, 32, .agg #[.slice none 0 0, .nilFunc], .struct [(0, 54), (1, 70)], false⟩),
  (72, ⟨2, 32, .agg #[.slice none 0 0, .nilFunc], .struct [(0, 54), (1, 70)], false⟩),
  (73, ⟨1, 8, .nilFunc, .func, false⟩),
  (74, ⟨1, 8, .nilFunc, .func, false⟩),
  (75, ⟨1, 8, .nilFunc, .func, false⟩),
  (76, ⟨1, 8, .nilFunc, .func, false⟩),
  (77, ⟨1, 24, .slice none 0 0, .sl 4, false⟩),
  (78, ⟨3, 72, .agg #[.slice none 0 0, .slice none 0 0, .slice none 0 0], .struct [(0, 28), (1, 77), (2, 22)], false⟩),
  (79, ⟨3, 72, .agg #[.slice none 0 0, .slice none 0 0, .slice none 0 0], .struct [(0, 28), (1, 77), (2, 22)], false⟩),
  (80, ⟨1, 8, .nilFunc, .func, false⟩),
  (81, ⟨1, 8, .nilFunc, .func, false⟩),
  (82, ⟨1, 8, .map none, .map 56 4, false⟩),
  (84, ⟨1, 8, .nilFunc, .func, false⟩),
  (85, ⟨1, 8, .nilFunc, .func, false⟩),
  (86, ⟨1, 8, .nilFunc, .func, false⟩),
  (87, ⟨1, 8, .nilFunc, .func, false⟩),
  (88, ⟨1, 8, .pointer none, .ptr 35, false⟩),
  (89, ⟨1, 8, .nilFunc, .func, false⟩),
  (90, ⟨1, 8, .nilFunc, .func, false⟩),
  (91, ⟨1, 8, .nilFunc, .func, false⟩),
  (92, ⟨1, 8, .nilFunc, .func, false⟩),
  (93, ⟨1, 8, .nilFunc, .func, false⟩),
  (94, ⟨1, 8, .nilFunc, .func, false⟩),
  (95, ⟨1, 8, .nilFunc, .func, false⟩),
  (96, ⟨1, 8, .nilFunc, .func, false⟩),
  (97, ⟨1, 8, .nilFunc, .func, false⟩),
  (98, ⟨1, 8, .map none, .map 3 4, false⟩),
  (99, ⟨1, 8, .nilFunc, .func, false⟩),
  (100, ⟨1, 8, .nilFunc, .func, false⟩),
  (101, ⟨1, 8, .nilFunc, .func, false⟩),
  (102, ⟨1, 8, .nilFunc, .func, false⟩),
  (103, ⟨1, 8, .nilFunc, .func, false⟩),
  (104, ⟨1, 8, .nilFunc, .func, false⟩),
  (105, ⟨1, 8, .nilFunc, .func, false⟩),
  (106, ⟨192, 192, .agg #[.bool false, .bool false, .bool false, .bool false, .bool false, .bool false, .bool false, .bool false, .bool false, .bool false, .bool false, .bool false, .bool false, .bool false, .bool false, .bool false, .bool false, .bool false, .bool false, .bool false, .bool false, .bool false, .bool false, .bool false, .bool false, .bool false, .bool false, .bool false, .bool false, .bool false, .bool false, .bool false, .bool false, .bool false, .bool false, .bool false, .bool false, .bool false, .bool false, .bool false, .bool false, .bool false, .bool false, .bool false, .bool false, .bool false, .bool false, .bool false, .bool false, .bool false, .bool false, .bool false, .bool false, .bool false, .bool false, .bool false, .bool false, .bool false, .bool false, .bool false, .bool false, .bool false, .bool false, .bool false, .bool false, .bool false, .bool false, .bool false, .bool false, .bool false, .bool false, .bool false, .bool false, .bool false, .bool false, .bool false, .bool false, .bool false, .bool false, .bool false, .bool false, .bool false, .bool false, .bool false, .bool false, .bool false, .bool false, .bool false, .bool false, .bool false, .bool false, .bool false, .bool false, .bool false, .bool false, .bool false, .bool false, .bool false, .bool false, .bool false, .bool false, .bool false, .bool false, .bool false, .bool false, .bool false, .bool false, .bool false, .bool false, .bool false, .bool false, .bool false, .bool false, .bool false, .bool false, .bool false, .bool false, .bool false, .bool false, .bool false, .bool false, .bool false, .bool false, .bool false, .bool false, .bool false, .bool false, .bool false, .bool false, .bool false, .bool false, .bool false, .bool false, .bool false, .bool false, .bool false, .bool false, .bool false, .bool false, .bool false, .bool false, .bool false, .bool false, .bool false, .bool false, .bool false, .bool false, .bool false, .bool false, .bool false, .bool false, .bool false, .bool false, .bool false, .bool false, .bool false, .bool false, .bool false, .bool false, .bool false, .bool false, .bool false, .bool false, .bool false, .bool false, .bool false, .bool false, .bool false, .bool false, .bool false, .bool false, .bool false, .bool false, .bool false, .bool false, .bool false, .bool false, .bool false, .bool false, .bool false, .bool false, .bool false, .bool false, .bool false, .bool false, .bool false, .bool false, .bool false, .bool false, .bool false, .bool false, .bool false], .arr 192 4, false⟩),
  (107, ⟨1, 8, .nilFunc, .func, false⟩),
  (108, ⟨1, 8, .nilFunc, .func, false⟩),
  (109, ⟨1, 8, .nilFunc, .func, false⟩),
  (110, ⟨1, 24, .slice none 0 0, .sl 60, false⟩),
  (111, ⟨1, 8, .nilFunc, .func, false⟩),
  (112, ⟨1, 8, .nilFunc, .func, false⟩),
  (113, ⟨1, 8, .nilFunc, .func, false⟩),
  (114, ⟨1, 8, .nilFunc, .func, false⟩),
  (115, ⟨1, 8, .nilFunc, .func, false⟩),
  (116, ⟨1, 8, .nilFunc, .func, false⟩),
  (117, ⟨1, 8, .nilFunc, .func, false⟩),
  (118, ⟨1, 8, .nilFunc, .func, false⟩),
  (119, ⟨1, 8, .nilFunc, .func, false⟩),
  (120, ⟨1, 8, .nilFunc, .func, false⟩),
  (121, ⟨1, 8, .nilFunc, .func, false⟩),
  (122, ⟨1, 8, .nilFunc, .func, false⟩),
  (123, ⟨1, 8, .nilFunc, .func, false⟩),
  (124, ⟨1, 8, .nilFunc, .func, false⟩),
  (130, ⟨1, 8, .nilFunc, .func, false⟩),
  (131, ⟨1, 4, .int .u32 0, .int .u32, false⟩),
  (134, ⟨1, 8, .nilFunc, .func, false⟩),
  (135, ⟨1, 8, .pointer none, .ptr 5, false⟩)
]
def tlook : List (Nat × TI) → Nat → Option TI
  | [], _ => none
  | (j, v) :: r, i => bif Nat.beq j i then some v else tlook r i
noncomputable def C : Ctx := ⟨Try.prog, tlook tab⟩
def tabAll (P : Program) : List (Nat × TI) → Prop
  | [] => True
  | p :: r => TIok P p.1 p.2 ∧ tabAll P r
theorem tabAll.out {P : Program} : ∀ {l : List (Nat × TI)}, tabAll P l → ∀ t ti, tlook l t = some ti → TIok P t ti
  | [], _, t, ti, h => by simp [tlook] at h
  | (j, v) :: r, h, t, ti, ht => by
    simp only [tlook] at ht
    cases hb : Nat.beq j t with
    | true =>
      rw [hb] at ht
      cases ht
      have := Nat.eq_of_beq_eq_true hb
      subst this
      exact h.1
    | false => rw [hb] at ht; exact tabAll.out h.2 t ti ht
theorem ti1 : TIok Try.prog 1 ⟨1, 8, .nilFunc, .func, false⟩ :=
  ⟨by kernel_rfl, ⟨_, Try.underlying1, trivial⟩, fun _ => rfl, fun h => (by cases h)⟩
theorem ti2 : TIok Try.prog 2 ⟨1, 8, .int .i64 0, .int .i64, false⟩ :=
  ⟨by kernel_rfl, ⟨_, Try.underlying2, rfl⟩, fun _ => rfl, fun h => (by cases h)⟩
theorem ti3 : TIok Try.prog 3 ⟨1, 8, .int .i64 0, .int .i64, false⟩ :=
  ⟨by kernel_rfl, ⟨_, Try.underlying3, rfl⟩, fun _ => rfl, fun h => (by cases h)⟩
theorem ti4 : TIok Try.prog 4 ⟨1, 1, .bool false, .bool, false⟩ :=
  ⟨by kernel_rfl, ⟨_, Try.underlying4, trivial⟩, fun _ => rfl, fun h => (by cases h)⟩
theorem ti5 : TIok Try.prog 5 ⟨1, 1, .int .u8 0, .int .u8, false⟩ :=
  ⟨by kernel_rfl, ⟨_, Try.underlying5, rfl⟩, fun _ => rfl, fun h => (by cases h)⟩
theorem ti9 : TIok Try.prog 9 ⟨1, 16, .string ⟨#[]⟩, .str, false⟩ :=
  ⟨by kernel_rfl, ⟨_, Try.underlying9, trivial⟩, fun _ => rfl, fun h => (by cases h)⟩
theorem ti12 : TIok Try.prog 12 ⟨1, 8, .int .u64 0, .int .u64, false⟩ :=
  ⟨by kernel_rfl, ⟨_, Try.underlying12, rfl⟩, fun _ => rfl, fun h => (by cases h)⟩
theorem ti20 : TIok Try.prog 20 ⟨1, 16, .nilIface, .iface true, false⟩ :=
  ⟨by kernel_rfl, ⟨_, Try.underlying20, rfl⟩, fun _ => rfl, fun h => (by cases h)⟩
theorem ti21 : TIok Try.prog 21 ⟨1, 4, .int .i32 0, .int .i32, false⟩ :=
  ⟨by kernel_rfl, ⟨_, Try.underlying21, rfl⟩, fun _ => rfl, fun h => (by cases h)⟩
theorem ti22 : TIok Try.prog 22 ⟨1, 24, .slice none 0 0, .sl 3, false⟩ :=
  ⟨by kernel_rfl, ⟨_, Try.underlying22, rfl⟩, fun _ => rfl, fun h => (by cases h)⟩
theorem ti23 : TIok Try.prog 23 ⟨1, 24, .slice none 0 0, .sl 35, false⟩ :=
  ⟨by kernel_rfl, ⟨_, Try.underlying23, rfl⟩, fun _ => rfl, fun h => (by cases h)⟩
theorem ti24 : TIok Try.prog 24 ⟨3, 56, .agg #[.slice none 0 0, .bool false, .slice none 0 0], .struct [(0, 22), (1, 4), (2, 23)], false⟩ :=
  ⟨by kernel_rfl, ⟨_, Try.underlying24, ⟨rfl, rfl⟩⟩, fun h => (by cases h), fun h => (by cases h)⟩
theorem ti25 : TIok Try.prog 25 ⟨3, 56, .agg #[.slice none 0 0, .bool false, .slice none 0 0], .struct [(0, 22), (1, 4), (2, 23)], false⟩ :=
  ⟨by kernel_rfl, ⟨_, Try.underlying25, ⟨rfl, rfl⟩⟩, fun h => (by cases h), fun h => (by cases h)⟩
theorem ti26 : TIok Try.prog 26 ⟨1, 8, .nilFunc, .func, false⟩ :=
  ⟨by kernel_rfl, ⟨_, Try.underlying26, trivial⟩, fun _ => rfl, fun h => (by cases h)⟩
theorem ti27 : TIok Try.prog 27 ⟨1, 8, .nilFunc, .func, false⟩ :=
  ⟨by kernel_rfl, ⟨_, Try.underlying27, trivial⟩, fun _ => rfl, fun h => (by cases h)⟩
theorem ti28 : TIok Try.prog 28 ⟨1, 24, .slice none 0 0, .sl 54, false⟩ :=
  ⟨by kernel_rfl, ⟨_, Try.underlying28, rfl⟩, fun _ => rfl, fun h => (by cases h)⟩
theorem ti29 : TIok Try.prog 29 ⟨1, 24, .agg #[.slice none 0 0], .struct [(0, 28)], false⟩ :=
  ⟨by kernel_rfl, ⟨_, Try.underlying29, ⟨rfl, rfl⟩⟩, fun h => (by cases h), fun h => (by cases h)⟩
theorem ti30 : TIok Try.prog 30 ⟨1, 24, .agg #[.slice none 0 0], .struct [(0, 28)], false⟩ :=
  ⟨by kernel_rfl, ⟨_, Try.underlying30, ⟨rfl, rfl⟩⟩, fun h => (by cases h), fun h => (by cases h)⟩
theorem ti31 : TIok Try.prog 31 ⟨1, 8, .int .i64 0, .int .i64, false⟩ :=
  ⟨by kernel_rfl, ⟨_, Try.underlying31, rfl⟩, fun _ => rfl, fun h => (by cases h)⟩
theorem ti32 : TIok Try.prog 32 ⟨1, 8, .nilFunc, .func, false⟩ :=
  ⟨by kernel_rfl, ⟨_, Try.underlying32, trivial⟩, fun _ => rfl, fun h => (by cases h)⟩
theorem ti33 : TIok Try.prog 33 ⟨1, 8, .nilFunc, .func, false⟩ :=
  ⟨by kernel_rfl, ⟨_, Try.underlying33, trivial⟩, fun _ => rfl, fun h => (by cases h)⟩
theorem ti34 : TIok Try.prog 34 ⟨6, 64, .agg #[.int .i64 0, .int .i64 0, .int .i64 0, .int .i64 0, .int .i64 0, .slice none 0 0], .struct [(0, 3), (1, 3), (2, 3), (3, 3), (4, 3), (5, 22)], false⟩ :=
  ⟨by kernel_rfl, ⟨_, Try.underlying34, ⟨rfl, rfl⟩⟩, fun h => (by cases h), fun h => (by cases h)⟩
theorem ti35 : TIok Try.prog 35 ⟨6, 64, .agg #[.int .i64 0, .int .i64 0, .int .i64 0, .int .i64 0, .int .i64 0, .slice none 0 0], .struct [(0, 3), (1, 3), (2, 3), (3, 3), (4, 3), (5, 22)], false⟩ :=
  ⟨by kernel_rfl, ⟨_, Try.underlying35, ⟨rfl, rfl⟩⟩, fun h => (by cases h), fun h => (by cases h)⟩
theorem ti37 : TIok Try.prog 37 ⟨1, 8, .nilFunc, .func, false⟩ :=
  ⟨by kernel_rfl, ⟨_, Try.underlying37, trivial⟩, fun _ => rfl, fun h => (by cases h)⟩
theorem ti38 : TIok Try.prog 38 ⟨1, 8, .nilFunc, .func, false⟩ :=
  ⟨by kernel_rfl, ⟨_, Try.underlying38, trivial⟩, fun _ => rfl, fun h => (by cases h)⟩
theorem ti39 : TIok Try.prog 39 ⟨1, 8, .nilFunc, .func, false⟩ :=
  ⟨by kernel_rfl, ⟨_, Try.underlying39, trivial⟩, fun _ => rfl, fun h => (by cases h)⟩
theorem ti40 : TIok Try.prog 40 ⟨1, 8, .nilFunc, .func, false⟩ :=
  ⟨by kernel_rfl, ⟨_, Try.underlying40, trivial⟩, fun _ => rfl, fun h => (by cases h)⟩
theorem ti42 : TIok Try.prog 42 ⟨1, 8, .nilFunc, .func, false⟩ :=
  ⟨by kernel_rfl, ⟨_, Try.underlying42, trivial⟩, fun _ => rfl, fun h => (by cases h)⟩
theorem ti43 : TIok Try.prog 43 ⟨1, 8, .nilFunc, .func, false⟩ :=
  ⟨by kernel_rfl, ⟨_, Try.underlying43, trivial⟩, fun _ => rfl, fun h => (by cases h)⟩
theorem ti44 : TIok Try.prog 44 ⟨1, 8, .nilFunc, .func, false⟩ :=
  ⟨by kernel_rfl, ⟨_, Try.underlying44, trivial⟩, fun _ => rfl, fun h => (by cases h)⟩
theorem ti45 : TIok Try.prog 45 ⟨1, 8, .int .u64 0, .int .u64, false⟩ :=
  ⟨by kernel_rfl, ⟨_, Try.underlying45, rfl⟩, fun _ => rfl, fun h => (by cases h)⟩
theorem ti46 : TIok Try.prog 46 ⟨1, 8, .nilFunc, .func, false⟩ :=
  ⟨by kernel_rfl, ⟨_, Try.underlying46, trivial⟩, fun _ => rfl, fun h => (by cases h)⟩
theorem ti47 : TIok Try.prog 47 ⟨1, 8, .nilFunc, .func, false⟩ :=
  ⟨by kernel_rfl, ⟨_, Try.underlying47, trivial⟩, fun _ => rfl, fun h => (by cases h)⟩
theorem ti48 : TIok Try.prog 48 ⟨1, 8, .nilFunc, .func, false⟩ :=
  ⟨by kernel_rfl, ⟨_, Try.underlying48, trivial⟩, fun _ => rfl, fun h => (by cases h)⟩
theorem ti49 : TIok Try.prog 49 ⟨1, 8, .nilFunc, .func, false⟩ :=
  ⟨by kernel_rfl, ⟨_, Try.underlying49, trivial⟩, fun _ => rfl, fun h => (by cases h)⟩
theorem ti50 : TIok Try.prog 50 ⟨1, 8, .nilFunc, .func, false⟩ :=
  ⟨by kernel_rfl, ⟨_, Try.underlying50, trivial⟩, fun _ => rfl, fun h => (by cases h)⟩
theorem ti51 : TIok Try.prog 51 ⟨1, 8, .nilFunc, .func, false⟩ :=
  ⟨by kernel_rfl, ⟨_, Try.underlying51, trivial⟩, fun _ => rfl, fun h => (by cases h)⟩
theorem ti53 : TIok Try.prog 53 ⟨1, 8, .nilFunc, .func, false⟩ :=
  ⟨by kernel_rfl, ⟨_, Try.underlying53, trivial⟩, fun _ => rfl, fun h => (by cases h)⟩
theorem ti54 : TIok Try.prog 54 ⟨1, 24, .slice none 0 0, .sl 56, false⟩ :=
  ⟨by kernel_rfl, ⟨_, Try.underlying54, rfl⟩, fun _ => rfl, fun h => (by cases h)⟩
theorem ti55 : TIok Try.prog 55 ⟨2, 16, .agg #[.int .i64 0, .int .i64 0], .struct [(0, 3), (1, 3)], true⟩ :=
  ⟨by kernel_rfl, ⟨_, Try.underlying55, ⟨rfl, rfl⟩⟩, fun h => (by cases h), fun _ => ⟨by kernel_rfl, by kernel_rfl⟩⟩
theorem ti56 : TIok Try.prog 56 ⟨2, 16, .agg #[.int .i64 0, .int .i64 0], .struct [(0, 3), (1, 3)], true⟩ :=
  ⟨by kernel_rfl, ⟨_, Try.underlying56, ⟨rfl, rfl⟩⟩, fun h => (by cases h), fun _ => ⟨by kernel_rfl, by kernel_rfl⟩⟩
theorem ti57 : TIok Try.prog 57 ⟨1, 8, .nilFunc, .func, false⟩ :=
  ⟨by kernel_rfl, ⟨_, Try.underlying57, trivial⟩, fun _ => rfl, fun h => (by cases h)⟩
theorem ti58 : TIok Try.prog 58 ⟨1, 8, .map none, .map 3 63, false⟩ :=
  ⟨by kernel_rfl, ⟨_, Try.underlying58, ⟨rfl, rfl⟩⟩, fun _ => rfl, fun h => (by cases h)⟩
theorem ti59 : TIok Try.prog 59 ⟨1, 8, .nilFunc, .func, false⟩ :=
  ⟨by kernel_rfl, ⟨_, Try.underlying59, trivial⟩, fun _ => rfl, fun h => (by cases h)⟩
theorem ti60 : TIok Try.prog 60 ⟨1, 8, .nilFunc, .func, false⟩ :=
  ⟨by kernel_rfl, ⟨_, Try.underlying60, trivial⟩, fun _ => rfl, fun h => (by cases h)⟩
theorem ti61 : TIok Try.prog 61 ⟨1, 8, .nilFunc, .func, false⟩ :=
  ⟨by kernel_rfl, ⟨_, Try.underlying61, trivial⟩, fun _ => rfl, fun h => (by cases h)⟩
theorem ti62 : TIok Try.prog 62 ⟨2, 16, .agg #[.nilFunc, .nilFunc], .struct [(0, 60), (1, 61)], false⟩ :=
  ⟨by kernel_rfl, ⟨_, Try.underlying62, ⟨rfl, rfl⟩⟩, fun h => (by cases h), fun h => (by cases h)⟩
theorem ti63 : TIok Try.prog 63 ⟨2, 16, .agg #[.nilFunc, .nilFunc], .struct [(0, 60), (1, 61)], false⟩ :=
  ⟨by kernel_rfl, ⟨_, Try.underlying63, ⟨rfl, rfl⟩⟩, fun h => (by cases h), fun h => (by cases h)⟩
theorem ti65 : TIok Try.prog 65 ⟨1, 24, .slice none 0 0, .sl 72, false⟩ :=
  ⟨by kernel_rfl, ⟨_, Try.underlying65, rfl⟩, fun _ => rfl, fun h => (by cases h)⟩
theorem ti66 : TIok Try.prog 66 ⟨1, 24, .slice none 0 0, .sl 72, false⟩ :=
  ⟨by kernel_rfl, ⟨_, Try.underlying66, rfl⟩, fun _ => rfl, fun h => (by cases h)⟩
theorem ti68 : TIok Try.prog 68 ⟨1, 8, .nilFunc, .func, false⟩ :=
  ⟨by kernel_rfl, ⟨_, Try.underlying68, trivial⟩, fun _ => rfl, fun h => (by cases h)⟩
theorem ti69 : TIok Try.prog 69 ⟨1, 8, .nilFunc, .func, false⟩ :=
  ⟨by kernel_rfl, ⟨_, Try.underlying69, trivial⟩, fun _ => rfl, fun h => (by cases h)⟩
theorem ti70 : TIok Try.prog 70 ⟨1, 8, .nilFunc, .func, false⟩ :=
  ⟨by kernel_rfl, ⟨_, Try.underlying70, trivial⟩, fun _ => rfl, fun h => (by cases h)⟩
theorem ti71 : TIok Try.prog 71 ⟨2, 32, .agg #[.slice none 0 0, .nilFunc], .struct [(0, 54), (1, 70)], false⟩ :=
  ⟨by kernel_rfl, ⟨_, Try.underlying71, ⟨rfl, rfl⟩⟩, fun h => (by cases h), fun h => (by cases h)⟩
theorem ti72 : TIok Try.prog 72 ⟨2, 32, .agg #[.slice none 0 0, .nilFunc], .struct [(0, 54), (1, 70)], false⟩ :=
  ⟨by kernel_rfl, ⟨_, Try.underlying72, ⟨rfl, rfl⟩⟩, fun h => (by cases h), fun h => (by cases h)⟩
theorem ti73 : TIok Try.prog 73 ⟨1, 8, .nilFunc, .func, false⟩ :=
  ⟨by kernel_rfl, ⟨_, Try.underlying73, trivial⟩, fun _ => rfl, fun h => (by cases h)⟩
theorem ti74 : TIok Try.prog 74 ⟨1, 8, .nilFunc, .func, false⟩ :=
  ⟨by kernel_rfl, ⟨_, Try.underlying74, trivial⟩, fun _ => rfl, fun h => (by cases h)⟩
theorem ti75 : TIok Try.prog 75 ⟨1, 8, .nilFunc, .func, false⟩ :=
  ⟨by kernel_rfl, ⟨_, Try.underlying75, trivial⟩, fun _ => rfl, fun h => (by cases h)⟩
theorem ti76 : TIok Try.prog 76 ⟨1, 8, .nilFunc, .func, false⟩ :=
  ⟨by kernel_rfl, ⟨_, Try.underlying76, trivial⟩, fun _ => rfl, fun h => (by cases h)⟩
theorem ti77 : TIok Try.prog 77 ⟨1, 24, .slice none 0 0, .sl 4, false⟩ :=
  ⟨by kernel_rfl, ⟨_, Try.underlying77, rfl⟩, fun _ => rfl, fun h => (by cases h)⟩
theorem ti78 : TIok Try.prog 78 ⟨3, 72, .agg #[.slice none 0 0, .slice none 0 0, .slice none 0 0], .struct [(0, 28), (1, 77), (2, 22)], false⟩ :=
  ⟨by kernel_rfl, ⟨_, Try.underlying78, ⟨rfl, rfl⟩⟩, fun h => (by cases h), fun h => (by cases h)⟩
theorem ti79 : TIok Try.prog 79 ⟨3, 72, .agg #[.slice none 0 0, .slice none 0 0, .slice none 0 0], .struct [(0, 28), (1, 77), (2, 22)], false⟩ :=
  ⟨by kernel_rfl, ⟨_, Try.underlying79, ⟨rfl, rfl⟩⟩, fun h => (by cases h), fun h => (by cases h)⟩
theorem ti80 : TIok Try.prog 80 ⟨1, 8, .nilFunc, .func, false⟩ :=
  ⟨by kernel_rfl, ⟨_, Try.underlying80, trivial⟩, fun _ => rfl, fun h => (by cases h)⟩
theorem ti81 : TIok Try.prog 81 ⟨1, 8, .nilFunc, .func, false⟩ :=
  ⟨by kernel_rfl, ⟨_, Try.underlying81, trivial⟩, fun _ => rfl, fun h => (by cases h)⟩
theorem ti82 : TIok Try.prog 82 ⟨1, 8, .map none, .map 56 4, false⟩ :=
  ⟨by kernel_rfl, ⟨_, Try.underlying82, ⟨rfl, rfl⟩⟩, fun _ => rfl, fun h => (by cases h)⟩
theorem ti84 : TIok Try.prog 84 ⟨1, 8, .nilFunc, .func, false⟩ :=
  ⟨by kernel_rfl, ⟨_, Try.underlying84, trivial⟩, fun _ => rfl, fun h => (by cases h)⟩
theorem ti85 : TIok Try.prog 85 ⟨1, 8, .nilFunc, .func, false⟩ :=
  ⟨by kernel_rfl, ⟨_, Try.underlying85, trivial⟩, fun _ => rfl, fun h => (by cases h)⟩
theorem ti86 : TIok Try.prog 86 ⟨1, 8, .nilFunc, .func, false⟩ :=
  ⟨by kernel_rfl, ⟨_, Try.underlying86, trivial⟩, fun _ => rfl, fun h => (by cases h)⟩
theorem ti87 : TIok Try.prog 87 ⟨1, 8, .nilFunc, .func, false⟩ :=
  ⟨by kernel_rfl, ⟨_, Try.underlying87, trivial⟩, fun _ => rfl, fun h => (by cases h)⟩
theorem ti88 : TIok Try.prog 88 ⟨1, 8, .pointer none, .ptr 35, false⟩ :=
  ⟨by kernel_rfl, ⟨_, Try.underlying88, rfl⟩, fun _ => rfl, fun h => (by cases h)⟩
theorem ti89 : TIok Try.prog 89 ⟨1, 8, .nilFunc, .func, false⟩ :=
  ⟨by kernel_rfl, ⟨_, Try.underlying89, trivial⟩, fun _ => rfl, fun h => (by cases h)⟩
theorem ti90 : TIok Try.prog 90 ⟨1, 8, .nilFunc, .func, false⟩ :=
  ⟨by kernel_rfl, ⟨_, Try.underlying90, trivial⟩, fun _ => rfl, fun h => (by cases h)⟩
theorem ti91 : TIok Try.prog 91 ⟨1, 8, .nilFunc, .func, false⟩ :=
  ⟨by kernel_rfl, ⟨_, Try.underlying91, trivial⟩, fun _ => rfl, fun h => (by cases h)⟩
theorem ti92 : TIok Try.prog 92 ⟨1, 8, .nilFunc, .func, false⟩ :=
  ⟨by kernel_rfl, ⟨_, Try.underlying92, trivial⟩, fun _ => rfl, fun h => (by cases h)⟩
theorem ti93 : TIok Try.prog 93 ⟨1, 8, .nilFunc, .func, false⟩ :=
  ⟨by kernel_rfl, ⟨_, Try.underlying93, trivial⟩, fun _ => rfl, fun h => (by cases h)⟩
theorem ti94 : TIok Try.prog 94 ⟨1, 8, .nilFunc, .func, false⟩ :=
  ⟨by kernel_rfl, ⟨_, Try.underlying94, trivial⟩, fun _ => rfl, fun h => (by cases h)⟩
theorem ti95 : TIok Try.prog 95 ⟨1, 8, .nilFunc, .func, false⟩ :=
  ⟨by kernel_rfl, ⟨_, Try.underlying95, trivial⟩, fun _ => rfl, fun h => (by cases h)⟩
theorem ti96 : TIok Try.prog 96 ⟨1, 8, .nilFunc, .func, false⟩ :=
  ⟨by kernel_rfl, ⟨_, Try.underlying96, trivial⟩, fun _ => rfl, fun h => (by cases h)⟩
theorem ti97 : TIok Try.prog 97 ⟨1, 8, .nilFunc, .func, false⟩ :=
  ⟨by kernel_rfl, ⟨_, Try.underlying97, trivial⟩, fun _ => rfl, fun h => (by cases h)⟩
theorem ti98 : TIok Try.prog 98 ⟨1, 8, .map none, .map 3 4, false⟩ :=
  ⟨by kernel_rfl, ⟨_, Try.underlying98, ⟨rfl, rfl⟩⟩, fun _ => rfl, fun h => (by cases h)⟩
theorem ti99 : TIok Try.prog 99 ⟨1, 8, .nilFunc, .func, false⟩ :=
  ⟨by kernel_rfl, ⟨_, Try.underlying99, trivial⟩, fun _ => rfl, fun h => (by cases h)⟩
theorem ti100 : TIok Try.prog 100 ⟨1, 8, .nilFunc, .func, false⟩ :=
  ⟨by kernel_rfl, ⟨_, Try.underlying100, trivial⟩, fun _ => rfl, fun h => (by cases h)⟩
theorem ti101 : TIok Try.prog 101 ⟨1, 8, .nilFunc, .func, false⟩ :=
  ⟨by kernel_rfl, ⟨_, Try.underlying101, trivial⟩, fun _ => rfl, fun h => (by cases h)⟩
theorem ti102 : TIok Try.prog 102 ⟨1, 8, .nilFunc, .func, false⟩ :=
  ⟨by kernel_rfl, ⟨_, Try.underlying102, trivial⟩, fun _ => rfl, fun h => (by cases h)⟩
theorem ti103 : TIok Try.prog 103 ⟨1, 8, .nilFunc, .func, false⟩ :=
  ⟨by kernel_rfl, ⟨_, Try.underlying103, trivial⟩, fun _ => rfl, fun h => (by cases h)⟩
theorem ti104 : TIok Try.prog 104 ⟨1, 8, .nilFunc, .func, false⟩ :=
  ⟨by kernel_rfl, ⟨_, Try.underlying104, trivial⟩, fun _ => rfl, fun h => (by cases h)⟩
theorem ti105 : TIok Try.prog 105 ⟨1, 8, .nilFunc, .func, false⟩ :=
  ⟨by kernel_rfl, ⟨_, Try.underlying105, trivial⟩, fun _ => rfl, fun h => (by cases h)⟩
theorem ti106 : TIok Try.prog 106 ⟨192, 192, .agg #[.bool false, .bool false, .bool false, .bool false, .bool false, .bool false, .bool false, .bool false, .bool false, .bool false, .bool false, .bool false, .bool false, .bool false, .bool false, .bool false, .bool false, .bool false, .bool false, .bool false, .bool false, .bool false, .bool false, .bool false, .bool false, .bool false, .bool false, .bool false, .bool false, .bool false, .bool false, .bool false, .bool false, .bool false, .bool false, .bool false, .bool false, .bool false, .bool false, .bool false, .bool false, .bool false, .bool false, .bool false, .bool false, .bool false, .bool false, .bool false, .bool false, .bool false, .bool false, .bool false, .bool false, .bool false, .bool false, .bool false, .bool false, .bool false, .bool false, .bool false, .bool false, .bool false, .bool false, .bool false, .bool false, .bool false, .bool false, .bool false, .bool false, .bool false, .bool false, .bool false, .bool false, .bool false, .bool false, .bool false, .bool false, .bool false, .bool false, .bool false, .bool false, .bool false, .bool false, .bool false, .bool false, .bool false, .bool false, .bool false, .bool false, .bool false, .bool false, .bool false, .bool false, .bool false, .bool false, .bool false, .bool false, .bool false, .bool false, .bool false, .bool false, .bool false, .bool false, .bool false, .bool false, .bool false, .bool false, .bool false, .bool false, .bool false, .bool false, .bool false, .bool false, .bool false, .bool false, .bool false, .bool false, .bool false, .bool false, .bool false, .bool false, .bool false, .bool false, .bool false, .bool false, .bool false, .bool false, .bool false, .bool false, .bool false, .bool false, .bool false, .bool false, .bool false, .bool false, .bool false, .bool false, .bool false, .bool false, .bool false, .bool false, .bool false, .bool false, .bool false, .bool false, .bool false, .bool false, .bool false, .bool false, .bool false, .bool false, .bool false, .bool false, .bool false, .bool false, .bool false, .bool false, .bool false, .bool false, .bool false, .bool false, .bool false, .bool false, .bool false, .bool false, .bool false, .bool false, .bool false, .bool false, .bool false, .bool false, .bool false, .bool false, .bool false, .bool false, .bool false, .bool false, .bool false, .bool false, .bool false, .bool false, .bool false, .bool false, .bool false, .bool false, .bool false, .bool false, .bool false, .bool false, .bool false, .bool false, .bool false], .arr 192 4, false⟩ :=
  ⟨by kernel_rfl, ⟨_, Try.underlying106, ⟨rfl, rfl⟩⟩, fun h => (by cases h), fun h => (by cases h)⟩
theorem ti107 : TIok Try.prog 107 ⟨1, 8, .nilFunc, .func, false⟩ :=
  ⟨by kernel_rfl, ⟨_, Try.underlying107, trivial⟩, fun _ => rfl, fun h => (by cases h)⟩
theorem ti108 : TIok Try.prog 108 ⟨1, 8, .nilFunc, .func, false⟩ :=
  ⟨by kernel_rfl, ⟨_, Try.underlying108, trivial⟩, fun _ => rfl, fun h => (by cases h)⟩
theorem ti109 : TIok Try.prog 109 ⟨1, 8, .nilFunc, .func, false⟩ :=
  ⟨by kernel_rfl, ⟨_, Try.underlying109, trivial⟩, fun _ => rfl, fun h => (by cases h)⟩
theorem ti110 : TIok Try.prog 110 ⟨1, 24, .slice none 0 0, .sl 60, false⟩ :=
  ⟨by kernel_rfl, ⟨_, Try.underlying110, rfl⟩, fun _ => rfl, fun h => (by cases h)⟩
theorem ti111 : TIok Try.prog 111 ⟨1, 8, .nilFunc, .func, false⟩ :=
  ⟨by kernel_rfl, ⟨_, Try.underlying111, trivial⟩, fun _ => rfl, fun h => (by cases h)⟩
theorem ti112 : TIok Try.prog 112 ⟨1, 8, .nilFunc, .func, false⟩ :=
  ⟨by kernel_rfl, ⟨_, Try.underlying112, trivial⟩, fun _ => rfl, fun h => (by cases h)⟩
theorem ti113 : TIok Try.prog 113 ⟨1, 8, .nilFunc, .func, false⟩ :=
  ⟨by kernel_rfl, ⟨_, Try.underlying113, trivial⟩, fun _ => rfl, fun h => (by cases h)⟩
theorem ti114 : TIok Try.prog 114 ⟨1, 8, .nilFunc, .func, false⟩ :=
  ⟨by kernel_rfl, ⟨_, Try.underlying114, trivial⟩, fun _ => rfl, fun h => (by cases h)⟩
theorem ti115 : TIok Try.prog 115 ⟨1, 8, .nilFunc, .func, false⟩ :=
  ⟨by kernel_rfl, ⟨_, Try.underlying115, trivial⟩, fun _ => rfl, fun h => (by cases h)⟩
theorem ti116 : TIok Try.prog 116 ⟨1, 8, .nilFunc, .func, false⟩ :=
  ⟨by kernel_rfl, ⟨_, Try.underlying116, trivial⟩, fun _ => rfl, fun h => (by cases h)⟩
theorem ti117 : TIok Try.prog 117 ⟨1, 8, .nilFunc, .func, false⟩ :=
  ⟨by kernel_rfl, ⟨_, Try.underlying117, trivial⟩, fun _ => rfl, fun h => (by cases h)⟩
theorem ti118 : TIok Try.prog 118 ⟨1, 8, .nilFunc, .func, false⟩ :=
  ⟨by kernel_rfl, ⟨_, Try.underlying118, trivial⟩, fun _ => rfl, fun h => (by cases h)⟩
theorem ti119 : TIok Try.prog 119 ⟨1, 8, .nilFunc, .func, false⟩ :=
  ⟨by kernel_rfl, ⟨_, Try.underlying119, trivial⟩, fun _ => rfl, fun h => (by cases h)⟩
theorem ti120 : TIok Try.prog 120 ⟨1, 8, .nilFunc, .func, false⟩ :=
  ⟨by kernel_rfl, ⟨_, Try.underlying120, trivial⟩, fun _ => rfl, fun h => (by cases h)⟩
theorem ti121 : TIok Try.prog 121 ⟨1, 8, .nilFunc, .func, false⟩ :=
  ⟨by kernel_rfl, ⟨_, Try.underlying121, trivial⟩, fun _ => rfl, fun h => (by cases h)⟩
theorem ti122 : TIok Try.prog 122 ⟨1, 8, .nilFunc, .func, false⟩ :=
  ⟨by kernel_rfl, ⟨_, Try.underlying122, trivial⟩, fun _ => rfl, fun h => (by cases h)⟩
theorem ti123 : TIok Try.prog 123 ⟨1, 8, .nilFunc, .func, false⟩ :=
  ⟨by kernel_rfl, ⟨_, Try.underlying123, trivial⟩, fun _ => rfl, fun h => (by cases h)⟩
theorem ti124 : TIok Try.prog 124 ⟨1, 8, .nilFunc, .func, false⟩ :=
  ⟨by kernel_rfl, ⟨_, Try.underlying124, trivial⟩, fun _ => rfl, fun h => (by cases h)⟩
theorem ti130 : TIok Try.prog 130 ⟨1, 8, .nilFunc, .func, false⟩ :=
  ⟨by kernel_rfl, ⟨_, Try.underlying130, trivial⟩, fun _ => rfl, fun h => (by cases h)⟩
theorem ti131 : TIok Try.prog 131 ⟨1, 4, .int .u32 0, .int .u32, false⟩ :=
  ⟨by kernel_rfl, ⟨_, Try.underlying131, rfl⟩, fun _ => rfl, fun h => (by cases h)⟩
theorem ti134 : TIok Try.prog 134 ⟨1, 8, .nilFunc, .func, false⟩ :=
  ⟨by kernel_rfl, ⟨_, Try.underlying134, trivial⟩, fun _ => rfl, fun h => (by cases h)⟩
theorem ti135 : TIok Try.prog 135 ⟨1, 8, .pointer none, .ptr 5, false⟩ :=
  ⟨by kernel_rfl, ⟨_, Try.underlying135, rfl⟩, fun _ => rfl, fun h => (by cases h)⟩
theorem mixed : C.P.follows .mixedOrders = true := by kernel_rfl
theorem C_ok : C.OK := tabAll.out (P := Try.prog) (l := tab) ⟨ti1, ti2, ti3, ti4, ti5, ti9, ti12, ti20, ti21, ti22, ti23, ti24, ti25, ti26, ti27, ti28, ti29, ti30, ti31, ti32, ti33, ti34, ti35, ti37, ti38, ti39, ti40, ti42, ti43, ti44, ti45, ti46, ti47, ti48, ti49, ti50, ti51, ti53, ti54, ti55, ti56, ti57, ti58, ti59, ti60, ti61, ti62, ti63, ti65, ti66, ti68, ti69, ti70, ti71, ti72, ti73, ti74, ti75, ti76, ti77, ti78, ti79, ti80, ti81, ti82, ti84, ti85, ti86, ti87, ti88, ti89, ti90, ti91, ti92, ti93, ti94, ti95, ti96, ti97, ti98, ti99, ti100, ti101, ti102, ti103, ti104, ti105, ti106, ti107, ti108, ti109, ti110, ti111, ti112, ti113, ti114, ti115, ti116, ti117, ti118, ti119, ti120, ti121, ti122, ti123, ti124, ti130, ti131, ti134, ti135, trivial⟩
end Go.Proofs.Ytfhigmdfocbajaa
