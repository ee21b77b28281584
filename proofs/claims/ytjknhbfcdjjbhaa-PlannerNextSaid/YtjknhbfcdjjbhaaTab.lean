/-
  The types of this seat, as the executor reads them; that they are the program's.
-/
import Derived.Test.YtjknhbfcdjjbhaaBaseD
import Derived.Test.YtjknhbfcdjjbhaaRows
namespace Go.Proofs.Ytjknhbfcdjjbhaa
open Go.Tidy
def tab : List (Nat × TI) := [
  (1, ⟨1, 8, .nilFunc, .func, false⟩),
  (2, ⟨1, 8, .int .i64 0, .int .i64, false⟩),
  (3, ⟨1, 8, .int .i64 0, .int .i64, false⟩),
  (4, ⟨1, 1, .bool false, .bool, false⟩),
  (5, ⟨1, 1, .int .u8 0, .int .u8, false⟩),
  (9, ⟨1, 16, .string ⟨#[]⟩, .str, false⟩),
  (12, ⟨1, 8, .int .u64 0, .int .u64, false⟩),
  (20, ⟨1, 16, .nilIface, .iface true, false⟩),
  (21, ⟨1, 4, .int .i32 0, .int .i32, false⟩),
  (22, ⟨1, 24, .slice none 0 0, .sl 32, false⟩),
  (23, ⟨1, 24, .agg #[.slice none 0 0], .struct [(0, 22)], false⟩),
  (24, ⟨1, 24, .agg #[.slice none 0 0], .struct [(0, 22)], false⟩),
  (25, ⟨1, 24, .slice none 0 0, .sl 3, false⟩),
  (26, ⟨1, 24, .slice none 0 0, .sl 46, false⟩),
  (27, ⟨3, 56, .agg #[.slice none 0 0, .bool false, .slice none 0 0], .struct [(0, 25), (1, 4), (2, 26)], false⟩),
  (28, ⟨3, 56, .agg #[.slice none 0 0, .bool false, .slice none 0 0], .struct [(0, 25), (1, 4), (2, 26)], false⟩),
  (29, ⟨1, 8, .nilFunc, .func, false⟩),
  (30, ⟨1, 8, .nilFunc, .func, false⟩),
  (31, ⟨1, 8, .nilFunc, .func, false⟩),
  (32, ⟨1, 24, .slice none 0 0, .sl 51, false⟩),
  (33, ⟨1, 8, .int .i64 0, .int .i64, false⟩),
  (35, ⟨1, 8, .nilFunc, .func, false⟩),
  (36, ⟨1, 8, .nilFunc, .func, false⟩),
  (37, ⟨1, 8, .nilFunc, .func, false⟩),
  (39, ⟨1, 8, .nilFunc, .func, false⟩),
  (41, ⟨1, 8, .nilFunc, .func, false⟩),
  (42, ⟨1, 8, .nilFunc, .func, false⟩),
  (43, ⟨1, 8, .nilFunc, .func, false⟩),
  (44, ⟨1, 8, .nilFunc, .func, false⟩),
  (45, ⟨6, 64, .agg #[.int .i64 0, .int .i64 0, .int .i64 0, .int .i64 0, .int .i64 0, .slice none 0 0], .struct [(0, 3), (1, 3), (2, 3), (3, 3), (4, 3), (5, 25)], false⟩),
  (46, ⟨6, 64, .agg #[.int .i64 0, .int .i64 0, .int .i64 0, .int .i64 0, .int .i64 0, .slice none 0 0], .struct [(0, 3), (1, 3), (2, 3), (3, 3), (4, 3), (5, 25)], false⟩),
  (47, ⟨1, 8, .nilFunc, .func, false⟩),
  (49, ⟨1, 8, .nilFunc, .func, false⟩),
  (50, ⟨2, 16, .agg #[.int .i64 0, .int .i64 0], .struct [(0, 3), (1, 3)], true⟩),
  (51, ⟨2, 16, .agg #[.int .i64 0, .int .i64 0], .struct [(0, 3), (1, 3)], true⟩),
  (52, ⟨1, 8, .nilFunc, .func, false⟩),
  (54, ⟨1, 8, .nilFunc, .func, false⟩),
  (55, ⟨1, 8, .nilFunc, .func, false⟩),
  (56, ⟨1, 8, .nilFunc, .func, false⟩),
  (57, ⟨1, 8, .nilFunc, .func, false⟩),
  (58, ⟨1, 8, .nilFunc, .func, false⟩),
  (59, ⟨1, 8, .pointer none, .ptr 97, false⟩),
  (60, ⟨1, 8, .nilFunc, .func, false⟩),
  (61, ⟨1, 8, .nilFunc, .func, false⟩),
  (62, ⟨1, 8, .nilFunc, .func, false⟩),
  (63, ⟨1, 8, .nilFunc, .func, false⟩),
  (64, ⟨1, 8, .nilFunc, .func, false⟩),
  (65, ⟨1, 8, .agg #[.int .i64 0], .struct [(0, 33)], true⟩),
  (66, ⟨1, 8, .agg #[.int .i64 0], .struct [(0, 33)], true⟩),
  (67, ⟨1, 8, .nilFunc, .func, false⟩),
  (68, ⟨1, 8, .pointer none, .ptr 70, false⟩),
  (69, ⟨9, 120, .agg #[.slice none 0 0, .bool false, .slice none 0 0, .int .i64 0, .bool false, .int .i64 0, .int .i64 0, .slice none 0 0, .bool false], .struct [(0, 28), (3, 3), (4, 4), (5, 3), (6, 3), (7, 24), (8, 4)], false⟩),
  (70, ⟨9, 120, .agg #[.slice none 0 0, .bool false, .slice none 0 0, .int .i64 0, .bool false, .int .i64 0, .int .i64 0, .slice none 0 0, .bool false], .struct [(0, 28), (3, 3), (4, 4), (5, 3), (6, 3), (7, 24), (8, 4)], false⟩),
  (71, ⟨1, 8, .nilFunc, .func, false⟩),
  (72, ⟨1, 8, .map none, .map 3 77, false⟩),
  (73, ⟨1, 8, .nilFunc, .func, false⟩),
  (74, ⟨1, 8, .nilFunc, .func, false⟩),
  (75, ⟨1, 8, .nilFunc, .func, false⟩),
  (76, ⟨2, 16, .agg #[.nilFunc, .nilFunc], .struct [(0, 74), (1, 75)], false⟩),
  (77, ⟨2, 16, .agg #[.nilFunc, .nilFunc], .struct [(0, 74), (1, 75)], false⟩),
  (79, ⟨1, 8, .map none, .map 51 4, false⟩),
  (81, ⟨1, 8, .nilFunc, .func, false⟩),
  (82, ⟨1, 24, .slice none 0 0, .sl 89, false⟩),
  (83, ⟨1, 24, .slice none 0 0, .sl 89, false⟩),
  (85, ⟨1, 8, .nilFunc, .func, false⟩),
  (86, ⟨1, 8, .nilFunc, .func, false⟩),
  (87, ⟨1, 8, .nilFunc, .func, false⟩),
  (88, ⟨2, 32, .agg #[.slice none 0 0, .nilFunc], .struct [(0, 32), (1, 87)], false⟩),
  (89, ⟨2, 32, .agg #[.slice none 0 0, .nilFunc], .struct [(0, 32), (1, 87)], false⟩),
  (90, ⟨1, 8, .nilFunc, .func, false⟩),
  (91, ⟨1, 8, .nilFunc, .func, false⟩),
  (92, ⟨1, 8, .nilFunc, .func, false⟩),
  (93, ⟨1, 8, .nilFunc, .func, false⟩),
  (94, ⟨1, 8, .nilFunc, .func, false⟩),
  (95, ⟨1, 8, .nilFunc, .func, false⟩),
  (96, ⟨5, 72, .agg #[.slice none 0 0, .bool false, .slice none 0 0, .int .i64 0, .int .i64 0], .struct [(0, 28), (3, 3), (4, 3)], false⟩),
  (97, ⟨5, 72, .agg #[.slice none 0 0, .bool false, .slice none 0 0, .int .i64 0, .int .i64 0], .struct [(0, 28), (3, 3), (4, 3)], false⟩),
  (98, ⟨1, 8, .nilFunc, .func, false⟩),
  (100, ⟨1, 8, .nilFunc, .func, false⟩),
  (101, ⟨1, 8, .map none, .map 3 4, false⟩),
  (102, ⟨1, 8, .nilFunc, .func, false⟩),
  (103, ⟨1, 8, .nilFunc, .func, false⟩),
  (105, ⟨1, 8, .nilFunc, .func, false⟩),
  (106, ⟨1, 8, .nilFunc, .func, false⟩),
  (108, ⟨1, 8, .nilFunc, .func, false⟩),
  (109, ⟨1, 8, .nilFunc, .func, false⟩),
  (110, ⟨1, 8, .nilFunc, .func, false⟩),
  (111, ⟨1, 8, .pointer none, .ptr 46, false⟩),
  (112, ⟨1, 8, .nilFunc, .func, false⟩),
  (113, ⟨1, 8, .nilFunc, .func, false⟩),
  (114, ⟨1, 8, .nilFunc, .func, false⟩),
  (115, ⟨1, 8, .nilFunc, .func, false⟩),
  (116, ⟨1, 8, .nilFunc, .func, false⟩),
  (117, ⟨1, 8, .nilFunc, .func, false⟩),
  (118, ⟨1, 8, .nilFunc, .func, false⟩),
  (119, ⟨192, 192, .agg #[.bool false, .bool false, .bool false, .bool false, .bool false, .bool false, .bool false, .bool false, .bool false, .bool false, .bool false, .bool false, .bool false, .bool false, .bool false, .bool false, .bool false, .bool false, .bool false, .bool false, .bool false, .bool false, .bool false, .bool false, .bool false, .bool false, .bool false, .bool false, .bool false, .bool false, .bool false, .bool false, .bool false, .bool false, .bool false, .bool false, .bool false, .bool false, .bool false, .bool false, .bool false, .bool false, .bool false, .bool false, .bool false, .bool false, .bool false, .bool false, .bool false, .bool false, .bool false, .bool false, .bool false, .bool false, .bool false, .bool false, .bool false, .bool false, .bool false, .bool false, .bool false, .bool false, .bool false, .bool false, .bool false, .bool false, .bool false, .bool false, .bool false, .bool false, .bool false, .bool false, .bool false, .bool false, .bool false, .bool false, .bool false, .bool false, .bool false, .bool false, .bool false, .bool false, .bool false, .bool false, .bool false, .bool false, .bool false, .bool false, .bool false, .bool false, .bool false, .bool false, .bool false, .bool false, .bool false, .bool false, .bool false, .bool false, .bool false, .bool false, .bool false, .bool false, .bool false, .bool false, .bool false, .bool false, .bool false, .bool false, .bool false, .bool false, .bool false, .bool false, .bool false, .bool false, .bool false, .bool false, .bool false, .bool false, .bool false, .bool false, .bool false, .bool false, .bool false, .bool false, .bool false, .bool false, .bool false, .bool false, .bool false, .bool false, .bool false, .bool false, .bool false, .bool false, .bool false, .bool false, .bool false, .bool false, .bool false, .bool false, .bool false, .bool false, .bool false, .bool false, .bool false, .bool false, .bool false, .bool false, .bool false, .bool false, .bool false, .bool false, .bool false, .bool false, .bool false, .bool false, .bool false, .bool false, .bool false, .bool false, .bool false, .bool false, .bool false, .bool false, .bool false, .bool false, .bool false, .bool false, .bool false, .bool false, .bool false, .bool false, .bool false, .bool false, .bool false, .bool false, .bool false, .bool false, .bool false, .bool false, .bool false, .bool false, .bool false, .bool false, .bool false, .bool false, .bool false, .bool false, .bool false, .bool false, .bool false, .bool false], .arr 192 4, false⟩),
  (120, ⟨1, 8, .nilFunc, .func, false⟩),
  (121, ⟨1, 8, .nilFunc, .func, false⟩),
  (122, ⟨1, 8, .nilFunc, .func, false⟩),
  (123, ⟨1, 8, .nilFunc, .func, false⟩),
  (124, ⟨1, 8, .nilFunc, .func, false⟩),
  (125, ⟨1, 8, .nilFunc, .func, false⟩),
  (126, ⟨1, 24, .slice none 0 0, .sl 4, false⟩),
  (127, ⟨3, 72, .agg #[.slice none 0 0, .slice none 0 0, .slice none 0 0], .struct [(0, 22), (1, 126), (2, 25)], false⟩),
  (128, ⟨3, 72, .agg #[.slice none 0 0, .slice none 0 0, .slice none 0 0], .struct [(0, 22), (1, 126), (2, 25)], false⟩),
  (129, ⟨1, 8, .nilFunc, .func, false⟩),
  (130, ⟨1, 8, .nilFunc, .func, false⟩),
  (131, ⟨1, 24, .slice none 0 0, .sl 74, false⟩),
  (132, ⟨1, 8, .nilFunc, .func, false⟩),
  (133, ⟨1, 8, .nilFunc, .func, false⟩),
  (134, ⟨1, 8, .nilFunc, .func, false⟩),
  (135, ⟨1, 8, .nilFunc, .func, false⟩),
  (136, ⟨1, 8, .nilFunc, .func, false⟩),
  (137, ⟨1, 8, .nilFunc, .func, false⟩),
  (138, ⟨1, 8, .nilFunc, .func, false⟩),
  (139, ⟨1, 8, .nilFunc, .func, false⟩),
  (140, ⟨1, 8, .nilFunc, .func, false⟩),
  (141, ⟨1, 8, .nilFunc, .func, false⟩),
  (142, ⟨1, 8, .nilFunc, .func, false⟩),
  (143, ⟨1, 8, .nilFunc, .func, false⟩),
  (144, ⟨1, 8, .nilFunc, .func, false⟩),
  (145, ⟨1, 8, .nilFunc, .func, false⟩),
  (146, ⟨1, 8, .nilFunc, .func, false⟩),
  (152, ⟨1, 8, .nilFunc, .func, false⟩),
  (153, ⟨1, 4, .int .u32 0, .int .u32, false⟩),
  (156, ⟨1, 8, .nilFunc, .func, false⟩),
  (157, ⟨1, 8, .pointer none, .ptr 5, false⟩)
]
def tlook : List (Nat × TI) → Nat → Option TI
  | [], _ => none
  | (j, v) :: r, i => bif Nat.beq j i then some v else tlook r i
noncomputable def C : Ctx := { P := Try.prog, tt := tlook tab }
def tabAll (P : Program) : List (Nat × TI) → Prop
  | [] => True
  | p :: r => TIok P p.1 p.2 ∧ tabAll P r
theorem tabAll.out {P : Program} : ∀ {l : List (Nat × TI)}, tabAll P l → ∀ t ti, tlook l t = some ti → TIok P t ti
  | [], _, t, ti, h => by simp [tlook] at h
  | (j, v) :: r, h, t, ti, ht => by
    simp only [tlook] at ht
    cases hb : Nat.beq j t with
    | true =>
      rw [hb] at ht
      cases ht
      have := Nat.eq_of_beq_eq_true hb
      subst this
      exact h.1
    | false => rw [hb] at ht; exact tabAll.out h.2 t ti ht
theorem ti1 : TIok Try.prog 1 ⟨1, 8, .nilFunc, .func, false⟩ :=
  ⟨by kernel_rfl, ⟨_, Try.underlying1, trivial⟩, fun _ => rfl, fun h => (by cases h)⟩
theorem ti2 : TIok Try.prog 2 ⟨1, 8, .int .i64 0, .int .i64, false⟩ :=
  ⟨by kernel_rfl, ⟨_, Try.underlying2, rfl⟩, fun _ => rfl, fun h => (by cases h)⟩
theorem ti3 : TIok Try.prog 3 ⟨1, 8, .int .i64 0, .int .i64, false⟩ :=
  ⟨by kernel_rfl, ⟨_, Try.underlying3, rfl⟩, fun _ => rfl, fun h => (by cases h)⟩
theorem ti4 : TIok Try.prog 4 ⟨1, 1, .bool false, .bool, false⟩ :=
  ⟨by kernel_rfl, ⟨_, Try.underlying4, trivial⟩, fun _ => rfl, fun h => (by cases h)⟩
theorem ti5 : TIok Try.prog 5 ⟨1, 1, .int .u8 0, .int .u8, false⟩ :=
  ⟨by kernel_rfl, ⟨_, Try.underlying5, rfl⟩, fun _ => rfl, fun h => (by cases h)⟩
theorem ti9 : TIok Try.prog 9 ⟨1, 16, .string ⟨#[]⟩, .str, false⟩ :=
  ⟨by kernel_rfl, ⟨_, Try.underlying9, trivial⟩, fun _ => rfl, fun h => (by cases h)⟩
theorem ti12 : TIok Try.prog 12 ⟨1, 8, .int .u64 0, .int .u64, false⟩ :=
  ⟨by kernel_rfl, ⟨_, Try.underlying12, rfl⟩, fun _ => rfl, fun h => (by cases h)⟩
theorem ti20 : TIok Try.prog 20 ⟨1, 16, .nilIface, .iface true, false⟩ :=
  ⟨by kernel_rfl, ⟨_, Try.underlying20, rfl⟩, fun _ => rfl, fun h => (by cases h)⟩
theorem ti21 : TIok Try.prog 21 ⟨1, 4, .int .i32 0, .int .i32, false⟩ :=
  ⟨by kernel_rfl, ⟨_, Try.underlying21, rfl⟩, fun _ => rfl, fun h => (by cases h)⟩
theorem ti22 : TIok Try.prog 22 ⟨1, 24, .slice none 0 0, .sl 32, false⟩ :=
  ⟨by kernel_rfl, ⟨_, Try.underlying22, rfl⟩, fun _ => rfl, fun h => (by cases h)⟩
theorem ti23 : TIok Try.prog 23 ⟨1, 24, .agg #[.slice none 0 0], .struct [(0, 22)], false⟩ :=
  ⟨by kernel_rfl, ⟨_, Try.underlying23, ⟨rfl, rfl⟩⟩, fun h => (by cases h), fun h => (by cases h)⟩
theorem ti24 : TIok Try.prog 24 ⟨1, 24, .agg #[.slice none 0 0], .struct [(0, 22)], false⟩ :=
  ⟨by kernel_rfl, ⟨_, Try.underlying24, ⟨rfl, rfl⟩⟩, fun h => (by cases h), fun h => (by cases h)⟩
theorem ti25 : TIok Try.prog 25 ⟨1, 24, .slice none 0 0, .sl 3, false⟩ :=
  ⟨by kernel_rfl, ⟨_, Try.underlying25, rfl⟩, fun _ => rfl, fun h => (by cases h)⟩
theorem ti26 : TIok Try.prog 26 ⟨1, 24, .slice none 0 0, .sl 46, false⟩ :=
  ⟨by kernel_rfl, ⟨_, Try.underlying26, rfl⟩, fun _ => rfl, fun h => (by cases h)⟩
theorem ti27 : TIok Try.prog 27 ⟨3, 56, .agg #[.slice none 0 0, .bool false, .slice none 0 0], .struct [(0, 25), (1, 4), (2, 26)], false⟩ :=
  ⟨by kernel_rfl, ⟨_, Try.underlying27, ⟨rfl, rfl⟩⟩, fun h => (by cases h), fun h => (by cases h)⟩
theorem ti28 : TIok Try.prog 28 ⟨3, 56, .agg #[.slice none 0 0, .bool false, .slice none 0 0], .struct [(0, 25), (1, 4), (2, 26)], false⟩ :=
  ⟨by kernel_rfl, ⟨_, Try.underlying28, ⟨rfl, rfl⟩⟩, fun h => (by cases h), fun h => (by cases h)⟩
theorem ti29 : TIok Try.prog 29 ⟨1, 8, .nilFunc, .func, false⟩ :=
  ⟨by kernel_rfl, ⟨_, Try.underlying29, trivial⟩, fun _ => rfl, fun h => (by cases h)⟩
theorem ti30 : TIok Try.prog 30 ⟨1, 8, .nilFunc, .func, false⟩ :=
  ⟨by kernel_rfl, ⟨_, Try.underlying30, trivial⟩, fun _ => rfl, fun h => (by cases h)⟩
theorem ti31 : TIok Try.prog 31 ⟨1, 8, .nilFunc, .func, false⟩ :=
  ⟨by kernel_rfl, ⟨_, Try.underlying31, trivial⟩, fun _ => rfl, fun h => (by cases h)⟩
theorem ti32 : TIok Try.prog 32 ⟨1, 24, .slice none 0 0, .sl 51, false⟩ :=
  ⟨by kernel_rfl, ⟨_, Try.underlying32, rfl⟩, fun _ => rfl, fun h => (by cases h)⟩
theorem ti33 : TIok Try.prog 33 ⟨1, 8, .int .i64 0, .int .i64, false⟩ :=
  ⟨by kernel_rfl, ⟨_, Try.underlying33, rfl⟩, fun _ => rfl, fun h => (by cases h)⟩
theorem ti35 : TIok Try.prog 35 ⟨1, 8, .nilFunc, .func, false⟩ :=
  ⟨by kernel_rfl, ⟨_, Try.underlying35, trivial⟩, fun _ => rfl, fun h => (by cases h)⟩
theorem ti36 : TIok Try.prog 36 ⟨1, 8, .nilFunc, .func, false⟩ :=
  ⟨by kernel_rfl, ⟨_, Try.underlying36, trivial⟩, fun _ => rfl, fun h => (by cases h)⟩
theorem ti37 : TIok Try.prog 37 ⟨1, 8, .nilFunc, .func, false⟩ :=
  ⟨by kernel_rfl, ⟨_, Try.underlying37, trivial⟩, fun _ => rfl, fun h => (by cases h)⟩
theorem ti39 : TIok Try.prog 39 ⟨1, 8, .nilFunc, .func, false⟩ :=
  ⟨by kernel_rfl, ⟨_, Try.underlying39, trivial⟩, fun _ => rfl, fun h => (by cases h)⟩
theorem ti41 : TIok Try.prog 41 ⟨1, 8, .nilFunc, .func, false⟩ :=
  ⟨by kernel_rfl, ⟨_, Try.underlying41, trivial⟩, fun _ => rfl, fun h => (by cases h)⟩
theorem ti42 : TIok Try.prog 42 ⟨1, 8, .nilFunc, .func, false⟩ :=
  ⟨by kernel_rfl, ⟨_, Try.underlying42, trivial⟩, fun _ => rfl, fun h => (by cases h)⟩
theorem ti43 : TIok Try.prog 43 ⟨1, 8, .nilFunc, .func, false⟩ :=
  ⟨by kernel_rfl, ⟨_, Try.underlying43, trivial⟩, fun _ => rfl, fun h => (by cases h)⟩
theorem ti44 : TIok Try.prog 44 ⟨1, 8, .nilFunc, .func, false⟩ :=
  ⟨by kernel_rfl, ⟨_, Try.underlying44, trivial⟩, fun _ => rfl, fun h => (by cases h)⟩
theorem ti45 : TIok Try.prog 45 ⟨6, 64, .agg #[.int .i64 0, .int .i64 0, .int .i64 0, .int .i64 0, .int .i64 0, .slice none 0 0], .struct [(0, 3), (1, 3), (2, 3), (3, 3), (4, 3), (5, 25)], false⟩ :=
  ⟨by kernel_rfl, ⟨_, Try.underlying45, ⟨rfl, rfl⟩⟩, fun h => (by cases h), fun h => (by cases h)⟩
theorem ti46 : TIok Try.prog 46 ⟨6, 64, .agg #[.int .i64 0, .int .i64 0, .int .i64 0, .int .i64 0, .int .i64 0, .slice none 0 0], .struct [(0, 3), (1, 3), (2, 3), (3, 3), (4, 3), (5, 25)], false⟩ :=
  ⟨by kernel_rfl, ⟨_, Try.underlying46, ⟨rfl, rfl⟩⟩, fun h => (by cases h), fun h => (by cases h)⟩
theorem ti47 : TIok Try.prog 47 ⟨1, 8, .nilFunc, .func, false⟩ :=
  ⟨by kernel_rfl, ⟨_, Try.underlying47, trivial⟩, fun _ => rfl, fun h => (by cases h)⟩
theorem ti49 : TIok Try.prog 49 ⟨1, 8, .nilFunc, .func, false⟩ :=
  ⟨by kernel_rfl, ⟨_, Try.underlying49, trivial⟩, fun _ => rfl, fun h => (by cases h)⟩
theorem ti50 : TIok Try.prog 50 ⟨2, 16, .agg #[.int .i64 0, .int .i64 0], .struct [(0, 3), (1, 3)], true⟩ :=
  ⟨by kernel_rfl, ⟨_, Try.underlying50, ⟨rfl, rfl⟩⟩, fun h => (by cases h), fun _ => ⟨by kernel_rfl, by kernel_rfl⟩⟩
theorem ti51 : TIok Try.prog 51 ⟨2, 16, .agg #[.int .i64 0, .int .i64 0], .struct [(0, 3), (1, 3)], true⟩ :=
  ⟨by kernel_rfl, ⟨_, Try.underlying51, ⟨rfl, rfl⟩⟩, fun h => (by cases h), fun _ => ⟨by kernel_rfl, by kernel_rfl⟩⟩
theorem ti52 : TIok Try.prog 52 ⟨1, 8, .nilFunc, .func, false⟩ :=
  ⟨by kernel_rfl, ⟨_, Try.underlying52, trivial⟩, fun _ => rfl, fun h => (by cases h)⟩
theorem ti54 : TIok Try.prog 54 ⟨1, 8, .nilFunc, .func, false⟩ :=
  ⟨by kernel_rfl, ⟨_, Try.underlying54, trivial⟩, fun _ => rfl, fun h => (by cases h)⟩
theorem ti55 : TIok Try.prog 55 ⟨1, 8, .nilFunc, .func, false⟩ :=
  ⟨by kernel_rfl, ⟨_, Try.underlying55, trivial⟩, fun _ => rfl, fun h => (by cases h)⟩
theorem ti56 : TIok Try.prog 56 ⟨1, 8, .nilFunc, .func, false⟩ :=
  ⟨by kernel_rfl, ⟨_, Try.underlying56, trivial⟩, fun _ => rfl, fun h => (by cases h)⟩
theorem ti57 : TIok Try.prog 57 ⟨1, 8, .nilFunc, .func, false⟩ :=
  ⟨by kernel_rfl, ⟨_, Try.underlying57, trivial⟩, fun _ => rfl, fun h => (by cases h)⟩
theorem ti58 : TIok Try.prog 58 ⟨1, 8, .nilFunc, .func, false⟩ :=
  ⟨by kernel_rfl, ⟨_, Try.underlying58, trivial⟩, fun _ => rfl, fun h => (by cases h)⟩
theorem ti59 : TIok Try.prog 59 ⟨1, 8, .pointer none, .ptr 97, false⟩ :=
  ⟨by kernel_rfl, ⟨_, Try.underlying59, rfl⟩, fun _ => rfl, fun h => (by cases h)⟩
theorem ti60 : TIok Try.prog 60 ⟨1, 8, .nilFunc, .func, false⟩ :=
  ⟨by kernel_rfl, ⟨_, Try.underlying60, trivial⟩, fun _ => rfl, fun h => (by cases h)⟩
theorem ti61 : TIok Try.prog 61 ⟨1, 8, .nilFunc, .func, false⟩ :=
  ⟨by kernel_rfl, ⟨_, Try.underlying61, trivial⟩, fun _ => rfl, fun h => (by cases h)⟩
theorem ti62 : TIok Try.prog 62 ⟨1, 8, .nilFunc, .func, false⟩ :=
  ⟨by kernel_rfl, ⟨_, Try.underlying62, trivial⟩, fun _ => rfl, fun h => (by cases h)⟩
theorem ti63 : TIok Try.prog 63 ⟨1, 8, .nilFunc, .func, false⟩ :=
  ⟨by kernel_rfl, ⟨_, Try.underlying63, trivial⟩, fun _ => rfl, fun h => (by cases h)⟩
theorem ti64 : TIok Try.prog 64 ⟨1, 8, .nilFunc, .func, false⟩ :=
  ⟨by kernel_rfl, ⟨_, Try.underlying64, trivial⟩, fun _ => rfl, fun h => (by cases h)⟩
theorem ti65 : TIok Try.prog 65 ⟨1, 8, .agg #[.int .i64 0], .struct [(0, 33)], true⟩ :=
  ⟨by kernel_rfl, ⟨_, Try.underlying65, ⟨rfl, rfl⟩⟩, fun h => (by cases h), fun _ => ⟨by kernel_rfl, by kernel_rfl⟩⟩
theorem ti66 : TIok Try.prog 66 ⟨1, 8, .agg #[.int .i64 0], .struct [(0, 33)], true⟩ :=
  ⟨by kernel_rfl, ⟨_, Try.underlying66, ⟨rfl, rfl⟩⟩, fun h => (by cases h), fun _ => ⟨by kernel_rfl, by kernel_rfl⟩⟩
theorem ti67 : TIok Try.prog 67 ⟨1, 8, .nilFunc, .func, false⟩ :=
  ⟨by kernel_rfl, ⟨_, Try.underlying67, trivial⟩, fun _ => rfl, fun h => (by cases h)⟩
theorem ti68 : TIok Try.prog 68 ⟨1, 8, .pointer none, .ptr 70, false⟩ :=
  ⟨by kernel_rfl, ⟨_, Try.underlying68, rfl⟩, fun _ => rfl, fun h => (by cases h)⟩
theorem ti69 : TIok Try.prog 69 ⟨9, 120, .agg #[.slice none 0 0, .bool false, .slice none 0 0, .int .i64 0, .bool false, .int .i64 0, .int .i64 0, .slice none 0 0, .bool false], .struct [(0, 28), (3, 3), (4, 4), (5, 3), (6, 3), (7, 24), (8, 4)], false⟩ :=
  ⟨by kernel_rfl, ⟨_, Try.underlying69, ⟨rfl, rfl⟩⟩, fun h => (by cases h), fun h => (by cases h)⟩
theorem ti70 : TIok Try.prog 70 ⟨9, 120, .agg #[.slice none 0 0, .bool false, .slice none 0 0, .int .i64 0, .bool false, .int .i64 0, .int .i64 0, .slice none 0 0, .bool false], .struct [(0, 28), (3, 3), (4, 4), (5, 3), (6, 3), (7, 24), (8, 4)], false⟩ :=
  ⟨by kernel_rfl, ⟨_, Try.underlying70, ⟨rfl, rfl⟩⟩, fun h => (by cases h), fun h => (by cases h)⟩
theorem ti71 : TIok Try.prog 71 ⟨1, 8, .nilFunc, .func, false⟩ :=
  ⟨by kernel_rfl, ⟨_, Try.underlying71, trivial⟩, fun _ => rfl, fun h => (by cases h)⟩
theorem ti72 : TIok Try.prog 72 ⟨1, 8, .map none, .map 3 77, false⟩ :=
  ⟨by kernel_rfl, ⟨_, Try.underlying72, ⟨rfl, rfl⟩⟩, fun _ => rfl, fun h => (by cases h)⟩
theorem ti73 : TIok Try.prog 73 ⟨1, 8, .nilFunc, .func, false⟩ :=
  ⟨by kernel_rfl, ⟨_, Try.underlying73, trivial⟩, fun _ => rfl, fun h => (by cases h)⟩
theorem ti74 : TIok Try.prog 74 ⟨1, 8, .nilFunc, .func, false⟩ :=
  ⟨by kernel_rfl, ⟨_, Try.underlying74, trivial⟩, fun _ => rfl, fun h => (by cases h)⟩
theorem ti75 : TIok Try.prog 75 ⟨1, 8, .nilFunc, .func, false⟩ :=
  ⟨by kernel_rfl, ⟨_, Try.underlying75, trivial⟩, fun _ => rfl, fun h => (by cases h)⟩
theorem ti76 : TIok Try.prog 76 ⟨2, 16, .agg #[.nilFunc, .nilFunc], .struct [(0, 74), (1, 75)], false⟩ :=
  ⟨by kernel_rfl, ⟨_, Try.underlying76, ⟨rfl, rfl⟩⟩, fun h => (by cases h), fun h => (by cases h)⟩
theorem ti77 : TIok Try.prog 77 ⟨2, 16, .agg #[.nilFunc, .nilFunc], .struct [(0, 74), (1, 75)], false⟩ :=
  ⟨by kernel_rfl, ⟨_, Try.underlying77, ⟨rfl, rfl⟩⟩, fun h => (by cases h), fun h => (by cases h)⟩
theorem ti79 : TIok Try.prog 79 ⟨1, 8, .map none, .map 51 4, false⟩ :=
  ⟨by kernel_rfl, ⟨_, Try.underlying79, ⟨rfl, rfl⟩⟩, fun _ => rfl, fun h => (by cases h)⟩
theorem ti81 : TIok Try.prog 81 ⟨1, 8, .nilFunc, .func, false⟩ :=
  ⟨by kernel_rfl, ⟨_, Try.underlying81, trivial⟩, fun _ => rfl, fun h => (by cases h)⟩
theorem ti82 : TIok Try.prog 82 ⟨1, 24, .slice none 0 0, .sl 89, false⟩ :=
  ⟨by kernel_rfl, ⟨_, Try.underlying82, rfl⟩, fun _ => rfl, fun h => (by cases h)⟩
theorem ti83 : TIok Try.prog 83 ⟨1, 24, .slice none 0 0, .sl 89, false⟩ :=
  ⟨by kernel_rfl, ⟨_, Try.underlying83, rfl⟩, fun _ => rfl, fun h => (by cases h)⟩
theorem ti85 : TIok Try.prog 85 ⟨1, 8, .nilFunc, .func, false⟩ :=
  ⟨by kernel_rfl, ⟨_, Try.underlying85, trivial⟩, fun _ => rfl, fun h => (by cases h)⟩
theorem ti86 : TIok Try.prog 86 ⟨1, 8, .nilFunc, .func, false⟩ :=
  ⟨by kernel_rfl, ⟨_, Try.underlying86, trivial⟩, fun _ => rfl, fun h => (by cases h)⟩
theorem ti87 : TIok Try.prog 87 ⟨1, 8, .nilFunc, .func, false⟩ :=
  ⟨by kernel_rfl, ⟨_, Try.underlying87, trivial⟩, fun _ => rfl, fun h => (by cases h)⟩
theorem ti88 : TIok Try.prog 88 ⟨2, 32, .agg #[.slice none 0 0, .nilFunc], .struct [(0, 32), (1, 87)], false⟩ :=
  ⟨by kernel_rfl, ⟨_, Try.underlying88, ⟨rfl, rfl⟩⟩, fun h => (by cases h), fun h => (by cases h)⟩
theorem ti89 : TIok Try.prog 89 ⟨2, 32, .agg #[.slice none 0 0, .nilFunc], .struct [(0, 32), (1, 87)], false⟩ :=
  ⟨by kernel_rfl, ⟨_, Try.underlying89, ⟨rfl, rfl⟩⟩, fun h => (by cases h), fun h => (by cases h)⟩
theorem ti90 : TIok Try.prog 90 ⟨1, 8, .nilFunc, .func, false⟩ :=
  ⟨by kernel_rfl, ⟨_, Try.underlying90, trivial⟩, fun _ => rfl, fun h => (by cases h)⟩
theorem ti91 : TIok Try.prog 91 ⟨1, 8, .nilFunc, .func, false⟩ :=
  ⟨by kernel_rfl, ⟨_, Try.underlying91, trivial⟩, fun _ => rfl, fun h => (by cases h)⟩
theorem ti92 : TIok Try.prog 92 ⟨1, 8, .nilFunc, .func, false⟩ :=
  ⟨by kernel_rfl, ⟨_, Try.underlying92, trivial⟩, fun _ => rfl, fun h => (by cases h)⟩
theorem ti93 : TIok Try.prog 93 ⟨1, 8, .nilFunc, .func, false⟩ :=
  ⟨by kernel_rfl, ⟨_, Try.underlying93, trivial⟩, fun _ => rfl, fun h => (by cases h)⟩
theorem ti94 : TIok Try.prog 94 ⟨1, 8, .nilFunc, .func, false⟩ :=
  ⟨by kernel_rfl, ⟨_, Try.underlying94, trivial⟩, fun _ => rfl, fun h => (by cases h)⟩
theorem ti95 : TIok Try.prog 95 ⟨1, 8, .nilFunc, .func, false⟩ :=
  ⟨by kernel_rfl, ⟨_, Try.underlying95, trivial⟩, fun _ => rfl, fun h => (by cases h)⟩
theorem ti96 : TIok Try.prog 96 ⟨5, 72, .agg #[.slice none 0 0, .bool false, .slice none 0 0, .int .i64 0, .int .i64 0], .struct [(0, 28), (3, 3), (4, 3)], false⟩ :=
  ⟨by kernel_rfl, ⟨_, Try.underlying96, ⟨rfl, rfl⟩⟩, fun h => (by cases h), fun h => (by cases h)⟩
theorem ti97 : TIok Try.prog 97 ⟨5, 72, .agg #[.slice none 0 0, .bool false, .slice none 0 0, .int .i64 0, .int .i64 0], .struct [(0, 28), (3, 3), (4, 3)], false⟩ :=
  ⟨by kernel_rfl, ⟨_, Try.underlying97, ⟨rfl, rfl⟩⟩, fun h => (by cases h), fun h => (by cases h)⟩
theorem ti98 : TIok Try.prog 98 ⟨1, 8, .nilFunc, .func, false⟩ :=
  ⟨by kernel_rfl, ⟨_, Try.underlying98, trivial⟩, fun _ => rfl, fun h => (by cases h)⟩
theorem ti100 : TIok Try.prog 100 ⟨1, 8, .nilFunc, .func, false⟩ :=
  ⟨by kernel_rfl, ⟨_, Try.underlying100, trivial⟩, fun _ => rfl, fun h => (by cases h)⟩
theorem ti101 : TIok Try.prog 101 ⟨1, 8, .map none, .map 3 4, false⟩ :=
  ⟨by kernel_rfl, ⟨_, Try.underlying101, ⟨rfl, rfl⟩⟩, fun _ => rfl, fun h => (by cases h)⟩
theorem ti102 : TIok Try.prog 102 ⟨1, 8, .nilFunc, .func, false⟩ :=
  ⟨by kernel_rfl, ⟨_, Try.underlying102, trivial⟩, fun _ => rfl, fun h => (by cases h)⟩
theorem ti103 : TIok Try.prog 103 ⟨1, 8, .nilFunc, .func, false⟩ :=
  ⟨by kernel_rfl, ⟨_, Try.underlying103, trivial⟩, fun _ => rfl, fun h => (by cases h)⟩
theorem ti105 : TIok Try.prog 105 ⟨1, 8, .nilFunc, .func, false⟩ :=
  ⟨by kernel_rfl, ⟨_, Try.underlying105, trivial⟩, fun _ => rfl, fun h => (by cases h)⟩
theorem ti106 : TIok Try.prog 106 ⟨1, 8, .nilFunc, .func, false⟩ :=
  ⟨by kernel_rfl, ⟨_, Try.underlying106, trivial⟩, fun _ => rfl, fun h => (by cases h)⟩
theorem ti108 : TIok Try.prog 108 ⟨1, 8, .nilFunc, .func, false⟩ :=
  ⟨by kernel_rfl, ⟨_, Try.underlying108, trivial⟩, fun _ => rfl, fun h => (by cases h)⟩
theorem ti109 : TIok Try.prog 109 ⟨1, 8, .nilFunc, .func, false⟩ :=
  ⟨by kernel_rfl, ⟨_, Try.underlying109, trivial⟩, fun _ => rfl, fun h => (by cases h)⟩
theorem ti110 : TIok Try.prog 110 ⟨1, 8, .nilFunc, .func, false⟩ :=
  ⟨by kernel_rfl, ⟨_, Try.underlying110, trivial⟩, fun _ => rfl, fun h => (by cases h)⟩
theorem ti111 : TIok Try.prog 111 ⟨1, 8, .pointer none, .ptr 46, false⟩ :=
  ⟨by kernel_rfl, ⟨_, Try.underlying111, rfl⟩, fun _ => rfl, fun h => (by cases h)⟩
theorem ti112 : TIok Try.prog 112 ⟨1, 8, .nilFunc, .func, false⟩ :=
  ⟨by kernel_rfl, ⟨_, Try.underlying112, trivial⟩, fun _ => rfl, fun h => (by cases h)⟩
theorem ti113 : TIok Try.prog 113 ⟨1, 8, .nilFunc, .func, false⟩ :=
  ⟨by kernel_rfl, ⟨_, Try.underlying113, trivial⟩, fun _ => rfl, fun h => (by cases h)⟩
theorem ti114 : TIok Try.prog 114 ⟨1, 8, .nilFunc, .func, false⟩ :=
  ⟨by kernel_rfl, ⟨_, Try.underlying114, trivial⟩, fun _ => rfl, fun h => (by cases h)⟩
theorem ti115 : TIok Try.prog 115 ⟨1, 8, .nilFunc, .func, false⟩ :=
  ⟨by kernel_rfl, ⟨_, Try.underlying115, trivial⟩, fun _ => rfl, fun h => (by cases h)⟩
theorem ti116 : TIok Try.prog 116 ⟨1, 8, .nilFunc, .func, false⟩ :=
  ⟨by kernel_rfl, ⟨_, Try.underlying116, trivial⟩, fun _ => rfl, fun h => (by cases h)⟩
theorem ti117 : TIok Try.prog 117 ⟨1, 8, .nilFunc, .func, false⟩ :=
  ⟨by kernel_rfl, ⟨_, Try.underlying117, trivial⟩, fun _ => rfl, fun h => (by cases h)⟩
theorem ti118 : TIok Try.prog 118 ⟨1, 8, .nilFunc, .func, false⟩ :=
  ⟨by kernel_rfl, ⟨_, Try.underlying118, trivial⟩, fun _ => rfl, fun h => (by cases h)⟩
theorem ti119 : TIok Try.prog 119 ⟨192, 192, .agg #[.bool false, .bool false, .bool false, .bool false, .bool false, .bool false, .bool false, .bool false, .bool false, .bool false, .bool false, .bool false, .bool false, .bool false, .bool false, .bool false, .bool false, .bool false, .bool false, .bool false, .bool false, .bool false, .bool false, .bool false, .bool false, .bool false, .bool false, .bool false, .bool false, .bool false, .bool false, .bool false, .bool false, .bool false, .bool false, .bool false, .bool false, .bool false, .bool false, .bool false, .bool false, .bool false, .bool false, .bool false, .bool false, .bool false, .bool false, .bool false, .bool false, .bool false, .bool false, .bool false, .bool false, .bool false, .bool false, .bool false, .bool false, .bool false, .bool false, .bool false, .bool false, .bool false, .bool false, .bool false, .bool false, .bool false, .bool false, .bool false, .bool false, .bool false, .bool false, .bool false, .bool false, .bool false, .bool false, .bool false, .bool false, .bool false, .bool false, .bool false, .bool false, .bool false, .bool false, .bool false, .bool false, .bool false, .bool false, .bool false, .bool false, .bool false, .bool false, .bool false, .bool false, .bool false, .bool false, .bool false, .bool false, .bool false, .bool false, .bool false, .bool false, .bool false, .bool false, .bool false, .bool false, .bool false, .bool false, .bool false, .bool false, .bool false, .bool false, .bool false, .bool false, .bool false, .bool false, .bool false, .bool false, .bool false, .bool false, .bool false, .bool false, .bool false, .bool false, .bool false, .bool false, .bool false, .bool false, .bool false, .bool false, .bool false, .bool false, .bool false, .bool false, .bool false, .bool false, .bool false, .bool false, .bool false, .bool false, .bool false, .bool false, .bool false, .bool false, .bool false, .bool false, .bool false, .bool false, .bool false, .bool false, .bool false, .bool false, .bool false, .bool false, .bool false, .bool false, .bool false, .bool false, .bool false, .bool false, .bool false, .bool false, .bool false, .bool false, .bool false, .bool false, .bool false, .bool false, .bool false, .bool false, .bool false, .bool false, .bool false, .bool false, .bool false, .bool false, .bool false, .bool false, .bool false, .bool false, .bool false, .bool false, .bool false, .bool false, .bool false, .bool false, .bool false, .bool false, .bool false, .bool false, .bool false, .bool false, .bool false], .arr 192 4, false⟩ :=
  ⟨by kernel_rfl, ⟨_, Try.underlying119, ⟨rfl, rfl⟩⟩, fun h => (by cases h), fun h => (by cases h)⟩
theorem ti120 : TIok Try.prog 120 ⟨1, 8, .nilFunc, .func, false⟩ :=
  ⟨by kernel_rfl, ⟨_, Try.underlying120, trivial⟩, fun _ => rfl, fun h => (by cases h)⟩
theorem ti121 : TIok Try.prog 121 ⟨1, 8, .nilFunc, .func, false⟩ :=
  ⟨by kernel_rfl, ⟨_, Try.underlying121, trivial⟩, fun _ => rfl, fun h => (by cases h)⟩
theorem ti122 : TIok Try.prog 122 ⟨1, 8, .nilFunc, .func, false⟩ :=
  ⟨by kernel_rfl, ⟨_, Try.underlying122, trivial⟩, fun _ => rfl, fun h => (by cases h)⟩
theorem ti123 : TIok Try.prog 123 ⟨1, 8, .nilFunc, .func, false⟩ :=
  ⟨by kernel_rfl, ⟨_, Try.underlying123, trivial⟩, fun _ => rfl, fun h => (by cases h)⟩
theorem ti124 : TIok Try.prog 124 ⟨1, 8, .nilFunc, .func, false⟩ :=
  ⟨by kernel_rfl, ⟨_, Try.underlying124, trivial⟩, fun _ => rfl, fun h => (by cases h)⟩
theorem ti125 : TIok Try.prog 125 ⟨1, 8, .nilFunc, .func, false⟩ :=
  ⟨by kernel_rfl, ⟨_, Try.underlying125, trivial⟩, fun _ => rfl, fun h => (by cases h)⟩
theorem ti126 : TIok Try.prog 126 ⟨1, 24, .slice none 0 0, .sl 4, false⟩ :=
  ⟨by kernel_rfl, ⟨_, Try.underlying126, rfl⟩, fun _ => rfl, fun h => (by cases h)⟩
theorem ti127 : TIok Try.prog 127 ⟨3, 72, .agg #[.slice none 0 0, .slice none 0 0, .slice none 0 0], .struct [(0, 22), (1, 126), (2, 25)], false⟩ :=
  ⟨by kernel_rfl, ⟨_, Try.underlying127, ⟨rfl, rfl⟩⟩, fun h => (by cases h), fun h => (by cases h)⟩
theorem ti128 : TIok Try.prog 128 ⟨3, 72, .agg #[.slice none 0 0, .slice none 0 0, .slice none 0 0], .struct [(0, 22), (1, 126), (2, 25)], false⟩ :=
  ⟨by kernel_rfl, ⟨_, Try.underlying128, ⟨rfl, rfl⟩⟩, fun h => (by cases h), fun h => (by cases h)⟩
theorem ti129 : TIok Try.prog 129 ⟨1, 8, .nilFunc, .func, false⟩ :=
  ⟨by kernel_rfl, ⟨_, Try.underlying129, trivial⟩, fun _ => rfl, fun h => (by cases h)⟩
theorem ti130 : TIok Try.prog 130 ⟨1, 8, .nilFunc, .func, false⟩ :=
  ⟨by kernel_rfl, ⟨_, Try.underlying130, trivial⟩, fun _ => rfl, fun h => (by cases h)⟩
theorem ti131 : TIok Try.prog 131 ⟨1, 24, .slice none 0 0, .sl 74, false⟩ :=
  ⟨by kernel_rfl, ⟨_, Try.underlying131, rfl⟩, fun _ => rfl, fun h => (by cases h)⟩
theorem ti132 : TIok Try.prog 132 ⟨1, 8, .nilFunc, .func, false⟩ :=
  ⟨by kernel_rfl, ⟨_, Try.underlying132, trivial⟩, fun _ => rfl, fun h => (by cases h)⟩
theorem ti133 : TIok Try.prog 133 ⟨1, 8, .nilFunc, .func, false⟩ :=
  ⟨by kernel_rfl, ⟨_, Try.underlying133, trivial⟩, fun _ => rfl, fun h => (by cases h)⟩
theorem ti134 : TIok Try.prog 134 ⟨1, 8, .nilFunc, .func, false⟩ :=
  ⟨by kernel_rfl, ⟨_, Try.underlying134, trivial⟩, fun _ => rfl, fun h => (by cases h)⟩
theorem ti135 : TIok Try.prog 135 ⟨1, 8, .nilFunc, .func, false⟩ :=
  ⟨by kernel_rfl, ⟨_, Try.underlying135, trivial⟩, fun _ => rfl, fun h => (by cases h)⟩
theorem ti136 : TIok Try.prog 136 ⟨1, 8, .nilFunc, .func, false⟩ :=
  ⟨by kernel_rfl, ⟨_, Try.underlying136, trivial⟩, fun _ => rfl, fun h => (by cases h)⟩
theorem ti137 : TIok Try.prog 137 ⟨1, 8, .nilFunc, .func, false⟩ :=
  ⟨by kernel_rfl, ⟨_, Try.underlying137, trivial⟩, fun _ => rfl, fun h => (by cases h)⟩
theorem ti138 : TIok Try.prog 138 ⟨1, 8, .nilFunc, .func, false⟩ :=
  ⟨by kernel_rfl, ⟨_, Try.underlying138, trivial⟩, fun _ => rfl, fun h => (by cases h)⟩
theorem ti139 : TIok Try.prog 139 ⟨1, 8, .nilFunc, .func, false⟩ :=
  ⟨by kernel_rfl, ⟨_, Try.underlying139, trivial⟩, fun _ => rfl, fun h => (by cases h)⟩
theorem ti140 : TIok Try.prog 140 ⟨1, 8, .nilFunc, .func, false⟩ :=
  ⟨by kernel_rfl, ⟨_, Try.underlying140, trivial⟩, fun _ => rfl, fun h => (by cases h)⟩
theorem ti141 : TIok Try.prog 141 ⟨1, 8, .nilFunc, .func, false⟩ :=
  ⟨by kernel_rfl, ⟨_, Try.underlying141, trivial⟩, fun _ => rfl, fun h => (by cases h)⟩
theorem ti142 : TIok Try.prog 142 ⟨1, 8, .nilFunc, .func, false⟩ :=
  ⟨by kernel_rfl, ⟨_, Try.underlying142, trivial⟩, fun _ => rfl, fun h => (by cases h)⟩
theorem ti143 : TIok Try.prog 143 ⟨1, 8, .nilFunc, .func, false⟩ :=
  ⟨by kernel_rfl, ⟨_, Try.underlying143, trivial⟩, fun _ => rfl, fun h => (by cases h)⟩
theorem ti144 : TIok Try.prog 144 ⟨1, 8, .nilFunc, .func, false⟩ :=
  ⟨by kernel_rfl, ⟨_, Try.underlying144, trivial⟩, fun _ => rfl, fun h => (by cases h)⟩
theorem ti145 : TIok Try.prog 145 ⟨1, 8, .nilFunc, .func, false⟩ :=
  ⟨by kernel_rfl, ⟨_, Try.underlying145, trivial⟩, fun _ => rfl, fun h => (by cases h)⟩
theorem ti146 : TIok Try.prog 146 ⟨1, 8, .nilFunc, .func, false⟩ :=
  ⟨by kernel_rfl, ⟨_, Try.underlying146, trivial⟩, fun _ => rfl, fun h => (by cases h)⟩
theorem ti152 : TIok Try.prog 152 ⟨1, 8, .nilFunc, .func, false⟩ :=
  ⟨by kernel_rfl, ⟨_, Try.underlying152, trivial⟩, fun _ => rfl, fun h => (by cases h)⟩
theorem ti153 : TIok Try.prog 153 ⟨1, 4, .int .u32 0, .int .u32, false⟩ :=
  ⟨by kernel_rfl, ⟨_, Try.underlying153, rfl⟩, fun _ => rfl, fun h => (by cases h)⟩
theorem ti156 : TIok Try.prog 156 ⟨1, 8, .nilFunc, .func, false⟩ :=
  ⟨by kernel_rfl, ⟨_, Try.underlying156, trivial⟩, fun _ => rfl, fun h => (by cases h)⟩
theorem ti157 : TIok Try.prog 157 ⟨1, 8, .pointer none, .ptr 5, false⟩ :=
  ⟨by kernel_rfl, ⟨_, Try.underlying157, rfl⟩, fun _ => rfl, fun h => (by cases h)⟩
theorem mixed : C.P.follows .mixedOrders = true := by kernel_rfl
theorem C_ok : C.OK := ⟨tabAll.out (P := Try.prog) (l := tab) ⟨ti1, ti2, ti3, ti4, ti5, ti9, ti12, ti20, ti21, ti22, ti23, ti24, ti25, ti26, ti27, ti28, ti29, ti30, ti31, ti32, ti33, ti35, ti36, ti37, ti39, ti41, ti42, ti43, ti44, ti45, ti46, ti47, ti49, ti50, ti51, ti52, ti54, ti55, ti56, ti57, ti58, ti59, ti60, ti61, ti62, ti63, ti64, ti65, ti66, ti67, ti68, ti69, ti70, ti71, ti72, ti73, ti74, ti75, ti76, ti77, ti79, ti81, ti82, ti83, ti85, ti86, ti87, ti88, ti89, ti90, ti91, ti92, ti93, ti94, ti95, ti96, ti97, ti98, ti100, ti101, ti102, ti103, ti105, ti106, ti108, ti109, ti110, ti111, ti112, ti113, ti114, ti115, ti116, ti117, ti118, ti119, ti120, ti121, ti122, ti123, ti124, ti125, ti126, ti127, ti128, ti129, ti130, ti131, ti132, ti133, ti134, ti135, ti136, ti137, ti138, ti139, ti140, ti141, ti142, ti143, ti144, ti145, ti146, ti152, ti153, ti156, ti157, trivial⟩, fun _ fn h => ⟨fn, h⟩, fun _ h => h⟩
instance : Quiet C := ⟨fun _ _ h => h⟩
end Go.Proofs.Ytjknhbfcdjjbhaa
