import Derived.Test.YtihibgcojdfndaaGreatDoorJBB
import Derived.Test.YtihibgcojdfndaaGreatDoorRows
import Derived.Orders
import Derived.ReadAgain
import Derived.ChangeArms
import Derived.ChangeSame
import Derived.ChangeShapes
import Derived.RowKit3
import Derived.WideShapes
import Derived.Below
import Derived.RowKit
set_option maxRecDepth 100000
set_option maxHeartbeats 0
set_option linter.unusedSimpArgs false
set_option linter.unusedVariables false
namespace Go.Proofs.YtihibgcojdfndaaGreatDoor
open Go.Tidy
def tab : List (Nat × TI):=[
 (1,⟨1,8,.nilFunc,.func,false⟩),
 (2,⟨1,8,.int .i64 0,.int .i64,false⟩),
 (3,⟨1,8,.int .i64 0,.int .i64,false⟩),
 (4,⟨1,1,.bool false,.bool,false⟩),
 (5,⟨1,1,.int .u8 0,.int .u8,false⟩),
 (9,⟨1,16,.string ⟨#[]⟩,.str,false⟩),
 (12,⟨1,8,.int .u64 0,.int .u64,false⟩),
 (20,⟨1,16,.nilIface,.iface true,false⟩),
 (21,⟨1,4,.int .i32 0,.int .i32,false⟩),
 (22,⟨1,24,.slice none 0 0,.sl 64,false⟩),
 (23,⟨1,24,.slice none 0 0,.sl 3,false⟩),
 (24,⟨1,24,.slice none 0 0,.sl 54,false⟩),
 (25,⟨1,24,.slice none 0 0,.sl 185,false⟩),
 (26,⟨6,88,.agg #[.string ⟨#[]⟩,.int .i64 0,.int .i64 0,.int .i64 0,.slice none 0 0,.slice none 0 0],.struct [(0,9),(1,3),(2,3),(3,3),(4,24),(5,25)],false⟩),
 (27,⟨6,88,.agg #[.string ⟨#[]⟩,.int .i64 0,.int .i64 0,.int .i64 0,.slice none 0 0,.slice none 0 0],.struct [(0,9),(1,3),(2,3),(3,3),(4,24),(5,25)],false⟩),
 (28,⟨1,8,.nilFunc,.func,false⟩),
 (29,⟨1,8,.nilFunc,.func,false⟩),
 (30,⟨1,24,.slice none 0 0,.sl 23,false⟩),
 (31,⟨1,8,.int .i64 0,.int .i64,false⟩),
 (33,⟨1,8,.nilFunc,.func,false⟩),
 (34,⟨1,8,.nilFunc,.func,false⟩),
 (35,⟨1,8,.nilFunc,.func,false⟩),
 (36,⟨1,8,.nilFunc,.func,false⟩),
 (38,⟨1,8,.nilFunc,.func,false⟩),
 (40,⟨1,8,.nilFunc,.func,false⟩),
 (41,⟨4,32,.agg #[.int .i64 0,.int .i64 0,.int .i64 0,.int .i64 0],.struct [(0,3),(1,3),(2,3),(3,3)],true⟩),
 (42,⟨4,32,.agg #[.int .i64 0,.int .i64 0,.int .i64 0,.int .i64 0],.struct [(0,3),(1,3),(2,3),(3,3)],true⟩),
 (44,⟨1,8,.nilFunc,.func,false⟩),
 (45,⟨1,8,.nilFunc,.func,false⟩),
 (47,⟨1,8,.nilFunc,.func,false⟩),
 (48,⟨1,8,.nilFunc,.func,false⟩),
 (49,⟨1,8,.nilFunc,.func,false⟩),
 (50,⟨1,24,.slice none 0 0,.sl 52,false⟩),
 (51,⟨4,48,.agg #[.int .i64 0,.int .i64 0,.int .i64 0,.slice none 0 0],.struct [(0,3),(1,3),(2,3),(3,50)],false⟩),
 (52,⟨4,48,.agg #[.int .i64 0,.int .i64 0,.int .i64 0,.slice none 0 0],.struct [(0,3),(1,3),(2,3),(3,50)],false⟩),
 (53,⟨8,112,.agg #[.int .i64 0,.int .i64 0,.int .i64 0,.int .i64 0,.int .i64 0,.slice none 0 0,.slice none 0 0,.slice none 0 0],.struct [(0,3),(1,3),(2,52),(6,24),(7,24)],false⟩),
 (54,⟨8,112,.agg #[.int .i64 0,.int .i64 0,.int .i64 0,.int .i64 0,.int .i64 0,.slice none 0 0,.slice none 0 0,.slice none 0 0],.struct [(0,3),(1,3),(2,52),(6,24),(7,24)],false⟩),
 (55,⟨1,24,.slice none 0 0,.sl 59,false⟩),
 (57,⟨1,8,.nilFunc,.func,false⟩),
 (58,⟨11,88,.agg #[.int .i64 0,.int .i64 0,.int .i64 0,.int .i64 0,.int .i64 0,.int .i64 0,.int .i64 0,.int .i64 0,.int .i64 0,.int .i64 0,.int .i64 0],.struct [(0,3),(1,3),(2,3),(3,3),(4,3),(5,3),(6,3),(7,3),(8,3),(9,3),(10,3)],true⟩),
 (59,⟨11,88,.agg #[.int .i64 0,.int .i64 0,.int .i64 0,.int .i64 0,.int .i64 0,.int .i64 0,.int .i64 0,.int .i64 0,.int .i64 0,.int .i64 0,.int .i64 0],.struct [(0,3),(1,3),(2,3),(3,3),(4,3),(5,3),(6,3),(7,3),(8,3),(9,3),(10,3)],true⟩),
 (60,⟨1,8,.int .u64 0,.int .u64,false⟩),
 (61,⟨4,32,.agg #[.int .i64 0,.int .i64 0,.int .i64 0,.int .i64 0],.struct [(0,3),(1,3),(2,3),(3,3)],true⟩),
 (62,⟨4,32,.agg #[.int .i64 0,.int .i64 0,.int .i64 0,.int .i64 0],.struct [(0,3),(1,3),(2,3),(3,3)],true⟩),
 (63,⟨13,96,.agg #[.int .i64 0,.int .i64 0,.int .i64 0,.int .i64 0,.int .i64 0,.int .i64 0,.int .i64 0,.int .i64 0,.int .i64 0,.int .i64 0,.int .i64 0,.bool false,.bool false],.struct [(0,62),(4,3),(5,3),(6,3),(7,3),(8,3),(9,3),(10,3),(11,4),(12,4)],true⟩),
 (64,⟨13,96,.agg #[.int .i64 0,.int .i64 0,.int .i64 0,.int .i64 0,.int .i64 0,.int .i64 0,.int .i64 0,.int .i64 0,.int .i64 0,.int .i64 0,.int .i64 0,.bool false,.bool false],.struct [(0,62),(4,3),(5,3),(6,3),(7,3),(8,3),(9,3),(10,3),(11,4),(12,4)],true⟩),
 (65,⟨1,8,.nilFunc,.func,false⟩),
 (66,⟨1,8,.nilFunc,.func,false⟩),
 (67,⟨1,24,.slice none 0 0,.sl 136,false⟩),
 (68,⟨1,24,.agg #[.slice none 0 0],.struct [(0,67)],false⟩),
 (69,⟨1,24,.agg #[.slice none 0 0],.struct [(0,67)],false⟩),
 (71,⟨1,8,.nilFunc,.func,false⟩),
 (73,⟨1,8,.nilFunc,.func,false⟩),
 (74,⟨1,8,.nilFunc,.func,false⟩),
 (75,⟨1,8,.nilFunc,.func,false⟩),
 (76,⟨1,8,.nilFunc,.func,false⟩),
 (77,⟨1,8,.nilFunc,.func,false⟩),
 (78,⟨1,8,.nilFunc,.func,false⟩),
 (79,⟨1,8,.pointer none,.ptr 146,false⟩),
 (81,⟨1,8,.nilFunc,.func,false⟩),
 (82,⟨1,8,.nilFunc,.func,false⟩),
 (83,⟨1,8,.nilFunc,.func,false⟩),
 (84,⟨2,48,.agg #[.slice none 0 0,.slice none 0 0],.struct [(0,30),(1,23)],false⟩),
 (85,⟨2,48,.agg #[.slice none 0 0,.slice none 0 0],.struct [(0,30),(1,23)],false⟩),
 (86,⟨1,8,.nilFunc,.func,false⟩),
 (87,⟨1,8,.nilFunc,.func,false⟩),
 (88,⟨1,8,.nilFunc,.func,false⟩),
 (89,⟨1,8,.pointer none,.ptr 93,false⟩),
 (90,⟨1,8,.nilFunc,.func,false⟩),
 (91,⟨1,8,.map none,.map 99 3,false⟩),
 (92,⟨13,224,.agg #[.slice none 0 0,.slice none 0 0,.string ⟨#[]⟩,.int .i64 0,.int .i64 0,.int .i64 0,.slice none 0 0,.slice none 0 0,.bool false,.slice none 0 0,.slice none 0 0,.slice none 0 0,.map none],.struct [(0,22),(1,23),(2,27),(8,4),(9,23),(10,30),(11,23),(12,91)],false⟩),
 (93,⟨13,224,.agg #[.slice none 0 0,.slice none 0 0,.string ⟨#[]⟩,.int .i64 0,.int .i64 0,.int .i64 0,.slice none 0 0,.slice none 0 0,.bool false,.slice none 0 0,.slice none 0 0,.slice none 0 0,.map none],.struct [(0,22),(1,23),(2,27),(8,4),(9,23),(10,30),(11,23),(12,91)],false⟩),
 (94,⟨1,8,.nilFunc,.func,false⟩),
 (95,⟨1,8,.nilFunc,.func,false⟩),
 (96,⟨1,8,.nilFunc,.func,false⟩),
 (97,⟨1,8,.nilFunc,.func,false⟩),
 (98,⟨1,8,.nilFunc,.func,false⟩),
 (99,⟨2,16,.agg #[.int .i64 0,.int .i64 0],.arr 2 3,false⟩),
 (100,⟨1,8,.nilFunc,.func,false⟩),
 (101,⟨1,8,.nilFunc,.func,false⟩),
 (102,⟨1,8,.nilFunc,.func,false⟩),
 (103,⟨1,8,.nilFunc,.func,false⟩),
 (104,⟨1,8,.nilFunc,.func,false⟩),
 (105,⟨1,8,.nilFunc,.func,false⟩),
 (106,⟨1,8,.nilFunc,.func,false⟩),
 (107,⟨1,8,.nilFunc,.func,false⟩),
 (108,⟨3,24,.agg #[.int .i64 0,.int .i64 0,.int .i64 0],.struct [(0,3),(1,3),(2,3)],true⟩),
 (109,⟨3,24,.agg #[.int .i64 0,.int .i64 0,.int .i64 0],.struct [(0,3),(1,3),(2,3)],true⟩),
 (110,⟨1,8,.nilFunc,.func,false⟩),
 (111,⟨1,8,.map none,.map 3 112,false⟩),
 (112,⟨1,8,.pointer none,.ptr 59,false⟩),
 (113,⟨1,8,.nilFunc,.func,false⟩),
 (114,⟨1,8,.nilFunc,.func,false⟩),
 (115,⟨1,8,.nilFunc,.func,false⟩),
 (116,⟨6,40,.agg #[.int .i64 0,.int .i64 0,.int .i64 0,.int .i64 0,.bool false,.bool false],.struct [(0,3),(1,3),(2,3),(3,3),(4,4),(5,4)],true⟩),
 (117,⟨6,40,.agg #[.int .i64 0,.int .i64 0,.int .i64 0,.int .i64 0,.bool false,.bool false],.struct [(0,3),(1,3),(2,3),(3,3),(4,4),(5,4)],true⟩),
 (119,⟨1,8,.nilFunc,.func,false⟩),
 (120,⟨5,120,.agg #[.slice none 0 0,.slice none 0 0,.slice none 0 0,.slice none 0 0,.slice none 0 0],.arr 5 23,false⟩),
 (121,⟨1,8,.nilFunc,.func,false⟩),
 (122,⟨1,8,.pointer none,.ptr 120,false⟩),
 (124,⟨1,8,.nilFunc,.func,false⟩),
 (125,⟨1,8,.nilFunc,.func,false⟩),
 (126,⟨1,8,.nilFunc,.func,false⟩),
 (127,⟨1,8,.pointer none,.ptr 130,false⟩),
 (128,⟨1,8,.map none,.map 176 3,false⟩),
 (129,⟨2,32,.agg #[.slice none 0 0,.map none],.struct [(0,67),(1,128)],false⟩),
 (130,⟨2,32,.agg #[.slice none 0 0,.map none],.struct [(0,67),(1,128)],false⟩),
 (131,⟨1,8,.pointer none,.ptr 3,false⟩),
 (132,⟨5,40,.agg #[.pointer none,.pointer none,.pointer none,.pointer none,.pointer none],.arr 5 131,false⟩),
 (133,⟨1,8,.nilFunc,.func,false⟩),
 (134,⟨1,8,.nilFunc,.func,false⟩),
 (135,⟨5,56,.agg #[.int .i64 0,.int .i64 0,.int .i64 0,.int .i64 0,.slice none 0 0],.struct [(0,3),(1,3),(2,3),(3,3),(4,23)],false⟩),
 (136,⟨5,56,.agg #[.int .i64 0,.int .i64 0,.int .i64 0,.int .i64 0,.slice none 0 0],.struct [(0,3),(1,3),(2,3),(3,3),(4,23)],false⟩),
 (137,⟨1,8,.nilFunc,.func,false⟩),
 (138,⟨1,8,.nilFunc,.func,false⟩),
 (139,⟨1,8,.nilFunc,.func,false⟩),
 (140,⟨1,8,.nilFunc,.func,false⟩),
 (141,⟨1,8,.map none,.map 3 3,false⟩),
 (142,⟨1,8,.nilFunc,.func,false⟩),
 (143,⟨1,8,.nilFunc,.func,false⟩),
 (144,⟨1,8,.nilFunc,.func,false⟩),
 (145,⟨10,152,.agg #[.slice none 0 0,.slice none 0 0,.map none,.string ⟨#[]⟩,.int .i64 0,.int .i64 0,.int .i64 0,.slice none 0 0,.slice none 0 0,.map none],.struct [(0,22),(1,23),(2,141),(3,27),(9,141)],false⟩),
 (146,⟨10,152,.agg #[.slice none 0 0,.slice none 0 0,.map none,.string ⟨#[]⟩,.int .i64 0,.int .i64 0,.int .i64 0,.slice none 0 0,.slice none 0 0,.map none],.struct [(0,22),(1,23),(2,141),(3,27),(9,141)],false⟩),
 (147,⟨1,8,.map none,.map 3 4,false⟩),
 (148,⟨1,8,.nilFunc,.func,false⟩),
 (149,⟨1,8,.nilFunc,.func,false⟩),
 (150,⟨1,8,.nilFunc,.func,false⟩),
 (151,⟨1,8,.nilFunc,.func,false⟩),
 (152,⟨13,104,.agg #[.nilFunc,.nilFunc,.nilFunc,.nilFunc,.nilFunc,.nilFunc,.nilFunc,.nilFunc,.nilFunc,.nilFunc,.nilFunc,.nilFunc,.nilFunc],.arr 13 151,false⟩),
 (153,⟨1,8,.nilFunc,.func,false⟩),
 (154,⟨1,8,.nilFunc,.func,false⟩),
 (155,⟨1,8,.nilFunc,.func,false⟩),
 (156,⟨1,8,.nilFunc,.func,false⟩),
 (157,⟨1,8,.nilFunc,.func,false⟩),
 (158,⟨1,8,.map none,.map 62 4,false⟩),
 (159,⟨1,8,.nilFunc,.func,false⟩),
 (160,⟨1,8,.nilFunc,.func,false⟩),
 (161,⟨1,8,.nilFunc,.func,false⟩),
 (162,⟨1,8,.nilFunc,.func,false⟩),
 (163,⟨1,24,.slice none 0 0,.sl 206,false⟩),
 (164,⟨1,8,.nilFunc,.func,false⟩),
 (165,⟨2,16,.agg #[.int .i64 0,.int .i64 0],.struct [(0,3),(1,3)],true⟩),
 (166,⟨2,16,.agg #[.int .i64 0,.int .i64 0],.struct [(0,3),(1,3)],true⟩),
 (167,⟨10,80,.agg #[.int .i64 0,.int .i64 0,.int .i64 0,.int .i64 0,.int .i64 0,.int .i64 0,.int .i64 0,.int .i64 0,.int .i64 0,.int .i64 0],.arr 5 166,false⟩),
 (168,⟨1,8,.nilFunc,.func,false⟩),
 (169,⟨1,8,.nilFunc,.func,false⟩),
 (170,⟨1,8,.nilFunc,.func,false⟩),
 (171,⟨1,8,.nilFunc,.func,false⟩),
 (172,⟨1,8,.nilFunc,.func,false⟩),
 (173,⟨1,8,.nilFunc,.func,false⟩),
 (174,⟨1,8,.nilFunc,.func,false⟩),
 (175,⟨5,48,.agg #[.int .i64 0,.int .i64 0,.int .i64 0,.int .i64 0,.string ⟨#[]⟩],.struct [(0,3),(1,3),(2,3),(3,3),(4,9)],true⟩),
 (176,⟨5,48,.agg #[.int .i64 0,.int .i64 0,.int .i64 0,.int .i64 0,.string ⟨#[]⟩],.struct [(0,3),(1,3),(2,3),(3,3),(4,9)],true⟩),
 (177,⟨1,8,.nilFunc,.func,false⟩),
 (179,⟨1,8,.nilFunc,.func,false⟩),
 (180,⟨1,24,.slice none 0 0,.sl 4,false⟩),
 (181,⟨1,8,.nilFunc,.func,false⟩),
 (182,⟨1,8,.nilFunc,.func,false⟩),
 (183,⟨1,8,.nilFunc,.func,false⟩),
 (184,⟨3,32,.agg #[.string ⟨#[]⟩,.int .i64 0,.int .i64 0],.struct [(0,9),(1,3),(2,3)],true⟩),
 (185,⟨3,32,.agg #[.string ⟨#[]⟩,.int .i64 0,.int .i64 0],.struct [(0,9),(1,3),(2,3)],true⟩),
 (186,⟨1,8,.nilFunc,.func,false⟩),
 (187,⟨1,8,.nilFunc,.func,false⟩),
 (188,⟨1,8,.nilFunc,.func,false⟩),
 (189,⟨1,24,.slice none 0 0,.sl 191,false⟩),
 (190,⟨2,16,.agg #[.int .i64 0,.int .i64 0],.struct [(0,3),(1,3)],true⟩),
 (191,⟨2,16,.agg #[.int .i64 0,.int .i64 0],.struct [(0,3),(1,3)],true⟩),
 (192,⟨1,8,.nilFunc,.func,false⟩),
 (193,⟨1,8,.nilFunc,.func,false⟩),
 (194,⟨1,8,.nilFunc,.func,false⟩),
 (195,⟨1,8,.nilFunc,.func,false⟩),
 (196,⟨1,8,.nilFunc,.func,false⟩),
 (197,⟨1,8,.nilFunc,.func,false⟩),
 (198,⟨1,8,.nilFunc,.func,false⟩),
 (199,⟨2,2,.agg #[.bool false,.bool false],.arr 2 4,false⟩),
 (200,⟨1,8,.pointer none,.ptr 202,false⟩),
 (201,⟨2,16,.agg #[.int .i64 0,.int .i64 0],.struct [(0,3),(1,3)],true⟩),
 (202,⟨2,16,.agg #[.int .i64 0,.int .i64 0],.struct [(0,3),(1,3)],true⟩),
 (203,⟨1,8,.nilFunc,.func,false⟩),
 (204,⟨1,8,.nilFunc,.func,false⟩),
 (205,⟨1,16,.nilIface,.iface false,false⟩),
 (206,⟨1,16,.nilIface,.iface false,false⟩),
 (207,⟨1,8,.nilFunc,.func,false⟩),
 (208,⟨8,112,.agg #[.int .i64 0,.int .i64 0,.int .i64 0,.int .i64 0,.int .i64 0,.slice none 0 0,.slice none 0 0,.slice none 0 0],.struct [(0,54)],false⟩),
 (209,⟨8,112,.agg #[.int .i64 0,.int .i64 0,.int .i64 0,.int .i64 0,.int .i64 0,.slice none 0 0,.slice none 0 0,.slice none 0 0],.struct [(0,54)],false⟩),
 (210,⟨1,8,.nilFunc,.func,false⟩),
 (211,⟨1,8,.nilFunc,.func,false⟩),
 (212,⟨1,8,.int .i64 0,.int .i64,false⟩),
 (214,⟨1,8,.nilFunc,.func,false⟩),
 (215,⟨1,8,.nilFunc,.func,false⟩),
 (216,⟨1,8,.nilFunc,.func,false⟩),
 (217,⟨1,8,.nilFunc,.func,false⟩),
 (218,⟨1,8,.nilFunc,.func,false⟩),
 (219,⟨1,4,.int .u32 0,.int .u32,false⟩),
 (220,⟨1,8,.nilFunc,.func,false⟩),
 (221,⟨1,8,.int .u64 0,.int .u64,false⟩),
 (222,⟨1,24,.slice none 0 0,.sl 5,false⟩),
 (223,⟨1,8,.map none,.map 176 4,false⟩),
 (224,⟨1,8,.nilFunc,.func,false⟩),
 (225,⟨1,8,.nilFunc,.func,false⟩),
 (226,⟨1,8,.nilFunc,.func,false⟩),
 (227,⟨1,8,.nilFunc,.func,false⟩),
 (228,⟨1,8,.nilFunc,.func,false⟩),
 (229,⟨1,8,.nilFunc,.func,false⟩),
 (230,⟨1,8,.nilFunc,.func,false⟩),
 (231,⟨1,8,.nilFunc,.func,false⟩),
 (233,⟨1,8,.nilFunc,.func,false⟩),
 (234,⟨1,8,.nilFunc,.func,false⟩),
 (235,⟨1,8,.nilFunc,.func,false⟩),
 (236,⟨4,48,.agg #[.int .i64 0,.int .i64 0,.int .i64 0,.slice none 0 0],.struct [(0,52)],false⟩),
 (237,⟨4,48,.agg #[.int .i64 0,.int .i64 0,.int .i64 0,.slice none 0 0],.struct [(0,52)],false⟩),
 (238,⟨1,8,.nilFunc,.func,false⟩),
 (239,⟨1,8,.nilFunc,.func,false⟩),
 (240,⟨1,8,.int .u64 0,.int .u64,false⟩),
 (241,⟨1,8,.nilFunc,.func,false⟩),
 (242,⟨1,8,.nilFunc,.func,false⟩),
 (243,⟨1,8,.nilFunc,.func,false⟩),
 (244,⟨1,8,.nilFunc,.func,false⟩),
 (245,⟨5,40,.agg #[.int .i64 0,.int .i64 0,.int .i64 0,.int .i64 0,.int .i64 0],.arr 5 3,false⟩),
 (246,⟨1,8,.nilFunc,.func,false⟩),
 (247,⟨1,8,.nilFunc,.func,false⟩),
 (248,⟨1,8,.nilFunc,.func,false⟩),
 (249,⟨1,8,.nilFunc,.func,false⟩),
 (250,⟨1,8,.agg #[.nilFunc],.struct [(0,249)],false⟩),
 (251,⟨1,8,.agg #[.nilFunc],.struct [(0,249)],false⟩),
 (253,⟨1,8,.map none,.map 3 251,false⟩),
 (254,⟨1,8,.nilFunc,.func,false⟩),
 (255,⟨1,8,.nilFunc,.func,false⟩),
 (256,⟨1,8,.nilFunc,.func,false⟩),
 (257,⟨1,8,.nilFunc,.func,false⟩),
 (258,⟨1,8,.nilFunc,.func,false⟩),
 (259,⟨1,8,.nilFunc,.func,false⟩),
 (260,⟨1,8,.pointer none,.ptr 240,false⟩),
 (261,⟨1,8,.nilFunc,.func,false⟩),
 (262,⟨1,8,.nilFunc,.func,false⟩),
 (263,⟨1,8,.nilFunc,.func,false⟩),
 (264,⟨1,8,.nilFunc,.func,false⟩),
 (270,⟨1,8,.nilFunc,.func,false⟩),
 (273,⟨1,8,.nilFunc,.func,false⟩),
 (274,⟨1,8,.pointer none,.ptr 5,false⟩)
]
def tlook : List (Nat × TI) → Nat → Option TI
 | [],_=>none
 | (j,v) :: r,i=>bif Nat.beq j i then some v else tlook r i
noncomputable def C : Ctx:={ P:=Tryz.prog,tt:=tlook tab }
def tabAll (P : Program) : List (Nat × TI) → Prop
 | []=>True
 | p :: r=>TIok P p.1 p.2 ∧ tabAll P r
theorem tabAll.out {P : Program} : ∀ {l : List (Nat × TI)},tabAll P l → ∀ t ti,tlook l t = some ti → TIok P t ti
 | [],_,t,ti,h=>by simp [tlook] at h
 | (j,v) :: r,h,t,ti,ht=>by
  simp only [tlook] at ht
  cases hb : Nat.beq j t with
  | true =>
   rw [hb] at ht
   cases ht
   have:=Nat.eq_of_beq_eq_true hb
   subst this
   exact h.1
  | false=>rw [hb] at ht; exact tabAll.out h.2 t ti ht
theorem ti1 : TIok Tryz.prog 1 ⟨1,8,.nilFunc,.func,false⟩ :=
 ⟨by kernel_rfl,⟨_,Tryz.underlying1,trivial⟩,fun _=>rfl,fun h=>(by cases h)⟩
theorem ti2 : TIok Tryz.prog 2 ⟨1,8,.int .i64 0,.int .i64,false⟩ :=
 ⟨by kernel_rfl,⟨_,Tryz.underlying2,rfl⟩,fun _=>rfl,fun h=>(by cases h)⟩
theorem ti3 : TIok Tryz.prog 3 ⟨1,8,.int .i64 0,.int .i64,false⟩ :=
 ⟨by kernel_rfl,⟨_,Tryz.underlying3,rfl⟩,fun _=>rfl,fun h=>(by cases h)⟩
theorem ti4 : TIok Tryz.prog 4 ⟨1,1,.bool false,.bool,false⟩ :=
 ⟨by kernel_rfl,⟨_,Tryz.underlying4,trivial⟩,fun _=>rfl,fun h=>(by cases h)⟩
theorem ti5 : TIok Tryz.prog 5 ⟨1,1,.int .u8 0,.int .u8,false⟩ :=
 ⟨by kernel_rfl,⟨_,Tryz.underlying5,rfl⟩,fun _=>rfl,fun h=>(by cases h)⟩
theorem ti9 : TIok Tryz.prog 9 ⟨1,16,.string ⟨#[]⟩,.str,false⟩ :=
 ⟨by kernel_rfl,⟨_,Tryz.underlying9,trivial⟩,fun _=>rfl,fun h=>(by cases h)⟩
theorem ti12 : TIok Tryz.prog 12 ⟨1,8,.int .u64 0,.int .u64,false⟩ :=
 ⟨by kernel_rfl,⟨_,Tryz.underlying12,rfl⟩,fun _=>rfl,fun h=>(by cases h)⟩
theorem ti20 : TIok Tryz.prog 20 ⟨1,16,.nilIface,.iface true,false⟩ :=
 ⟨by kernel_rfl,⟨_,Tryz.underlying20,rfl⟩,fun _=>rfl,fun h=>(by cases h)⟩
theorem ti21 : TIok Tryz.prog 21 ⟨1,4,.int .i32 0,.int .i32,false⟩ :=
 ⟨by kernel_rfl,⟨_,Tryz.underlying21,rfl⟩,fun _=>rfl,fun h=>(by cases h)⟩
theorem ti22 : TIok Tryz.prog 22 ⟨1,24,.slice none 0 0,.sl 64,false⟩ :=
 ⟨by kernel_rfl,⟨_,Tryz.underlying22,rfl⟩,fun _=>rfl,fun h=>(by cases h)⟩
theorem ti23 : TIok Tryz.prog 23 ⟨1,24,.slice none 0 0,.sl 3,false⟩ :=
 ⟨by kernel_rfl,⟨_,Tryz.underlying23,rfl⟩,fun _=>rfl,fun h=>(by cases h)⟩
theorem ti24 : TIok Tryz.prog 24 ⟨1,24,.slice none 0 0,.sl 54,false⟩ :=
 ⟨by kernel_rfl,⟨_,Tryz.underlying24,rfl⟩,fun _=>rfl,fun h=>(by cases h)⟩
theorem ti25 : TIok Tryz.prog 25 ⟨1,24,.slice none 0 0,.sl 185,false⟩ :=
 ⟨by kernel_rfl,⟨_,Tryz.underlying25,rfl⟩,fun _=>rfl,fun h=>(by cases h)⟩
theorem ti26 : TIok Tryz.prog 26 ⟨6,88,.agg #[.string ⟨#[]⟩,.int .i64 0,.int .i64 0,.int .i64 0,.slice none 0 0,.slice none 0 0],.struct [(0,9),(1,3),(2,3),(3,3),(4,24),(5,25)],false⟩ :=
 ⟨by kernel_rfl,⟨_,Tryz.underlying26,⟨rfl,rfl⟩⟩,fun h=>(by cases h),fun h=>(by cases h)⟩
theorem ti27 : TIok Tryz.prog 27 ⟨6,88,.agg #[.string ⟨#[]⟩,.int .i64 0,.int .i64 0,.int .i64 0,.slice none 0 0,.slice none 0 0],.struct [(0,9),(1,3),(2,3),(3,3),(4,24),(5,25)],false⟩ :=
 ⟨by kernel_rfl,⟨_,Tryz.underlying27,⟨rfl,rfl⟩⟩,fun h=>(by cases h),fun h=>(by cases h)⟩
theorem ti28 : TIok Tryz.prog 28 ⟨1,8,.nilFunc,.func,false⟩ :=
 ⟨by kernel_rfl,⟨_,Tryz.underlying28,trivial⟩,fun _=>rfl,fun h=>(by cases h)⟩
theorem ti29 : TIok Tryz.prog 29 ⟨1,8,.nilFunc,.func,false⟩ :=
 ⟨by kernel_rfl,⟨_,Tryz.underlying29,trivial⟩,fun _=>rfl,fun h=>(by cases h)⟩
theorem ti30 : TIok Tryz.prog 30 ⟨1,24,.slice none 0 0,.sl 23,false⟩ :=
 ⟨by kernel_rfl,⟨_,Tryz.underlying30,rfl⟩,fun _=>rfl,fun h=>(by cases h)⟩
theorem ti31 : TIok Tryz.prog 31 ⟨1,8,.int .i64 0,.int .i64,false⟩ :=
 ⟨by kernel_rfl,⟨_,Tryz.underlying31,rfl⟩,fun _=>rfl,fun h=>(by cases h)⟩
theorem ti33 : TIok Tryz.prog 33 ⟨1,8,.nilFunc,.func,false⟩ :=
 ⟨by kernel_rfl,⟨_,Tryz.underlying33,trivial⟩,fun _=>rfl,fun h=>(by cases h)⟩
theorem ti34 : TIok Tryz.prog 34 ⟨1,8,.nilFunc,.func,false⟩ :=
 ⟨by kernel_rfl,⟨_,Tryz.underlying34,trivial⟩,fun _=>rfl,fun h=>(by cases h)⟩
theorem ti35 : TIok Tryz.prog 35 ⟨1,8,.nilFunc,.func,false⟩ :=
 ⟨by kernel_rfl,⟨_,Tryz.underlying35,trivial⟩,fun _=>rfl,fun h=>(by cases h)⟩
theorem ti36 : TIok Tryz.prog 36 ⟨1,8,.nilFunc,.func,false⟩ :=
 ⟨by kernel_rfl,⟨_,Tryz.underlying36,trivial⟩,fun _=>rfl,fun h=>(by cases h)⟩
theorem ti38 : TIok Tryz.prog 38 ⟨1,8,.nilFunc,.func,false⟩ :=
 ⟨by kernel_rfl,⟨_,Tryz.underlying38,trivial⟩,fun _=>rfl,fun h=>(by cases h)⟩
theorem ti40 : TIok Tryz.prog 40 ⟨1,8,.nilFunc,.func,false⟩ :=
 ⟨by kernel_rfl,⟨_,Tryz.underlying40,trivial⟩,fun _=>rfl,fun h=>(by cases h)⟩
theorem ti41 : TIok Tryz.prog 41 ⟨4,32,.agg #[.int .i64 0,.int .i64 0,.int .i64 0,.int .i64 0],.struct [(0,3),(1,3),(2,3),(3,3)],true⟩ :=
 ⟨by kernel_rfl,⟨_,Tryz.underlying41,⟨rfl,rfl⟩⟩,fun h=>(by cases h),fun _=>⟨by kernel_rfl,by kernel_rfl⟩⟩
theorem ti42 : TIok Tryz.prog 42 ⟨4,32,.agg #[.int .i64 0,.int .i64 0,.int .i64 0,.int .i64 0],.struct [(0,3),(1,3),(2,3),(3,3)],true⟩ :=
 ⟨by kernel_rfl,⟨_,Tryz.underlying42,⟨rfl,rfl⟩⟩,fun h=>(by cases h),fun _=>⟨by kernel_rfl,by kernel_rfl⟩⟩
theorem ti44 : TIok Tryz.prog 44 ⟨1,8,.nilFunc,.func,false⟩ :=
 ⟨by kernel_rfl,⟨_,Tryz.underlying44,trivial⟩,fun _=>rfl,fun h=>(by cases h)⟩
theorem ti45 : TIok Tryz.prog 45 ⟨1,8,.nilFunc,.func,false⟩ :=
 ⟨by kernel_rfl,⟨_,Tryz.underlying45,trivial⟩,fun _=>rfl,fun h=>(by cases h)⟩
theorem ti47 : TIok Tryz.prog 47 ⟨1,8,.nilFunc,.func,false⟩ :=
 ⟨by kernel_rfl,⟨_,Tryz.underlying47,trivial⟩,fun _=>rfl,fun h=>(by cases h)⟩
theorem ti48 : TIok Tryz.prog 48 ⟨1,8,.nilFunc,.func,false⟩ :=
 ⟨by kernel_rfl,⟨_,Tryz.underlying48,trivial⟩,fun _=>rfl,fun h=>(by cases h)⟩
theorem ti49 : TIok Tryz.prog 49 ⟨1,8,.nilFunc,.func,false⟩ :=
 ⟨by kernel_rfl,⟨_,Tryz.underlying49,trivial⟩,fun _=>rfl,fun h=>(by cases h)⟩
theorem ti50 : TIok Tryz.prog 50 ⟨1,24,.slice none 0 0,.sl 52,false⟩ :=
 ⟨by kernel_rfl,⟨_,Tryz.underlying50,rfl⟩,fun _=>rfl,fun h=>(by cases h)⟩
theorem ti51 : TIok Tryz.prog 51 ⟨4,48,.agg #[.int .i64 0,.int .i64 0,.int .i64 0,.slice none 0 0],.struct [(0,3),(1,3),(2,3),(3,50)],false⟩ :=
 ⟨by kernel_rfl,⟨_,Tryz.underlying51,⟨rfl,rfl⟩⟩,fun h=>(by cases h),fun h=>(by cases h)⟩
theorem ti52 : TIok Tryz.prog 52 ⟨4,48,.agg #[.int .i64 0,.int .i64 0,.int .i64 0,.slice none 0 0],.struct [(0,3),(1,3),(2,3),(3,50)],false⟩ :=
 ⟨by kernel_rfl,⟨_,Tryz.underlying52,⟨rfl,rfl⟩⟩,fun h=>(by cases h),fun h=>(by cases h)⟩
theorem ti53 : TIok Tryz.prog 53 ⟨8,112,.agg #[.int .i64 0,.int .i64 0,.int .i64 0,.int .i64 0,.int .i64 0,.slice none 0 0,.slice none 0 0,.slice none 0 0],.struct [(0,3),(1,3),(2,52),(6,24),(7,24)],false⟩ :=
 ⟨by kernel_rfl,⟨_,Tryz.underlying53,⟨rfl,rfl⟩⟩,fun h=>(by cases h),fun h=>(by cases h)⟩
theorem ti54 : TIok Tryz.prog 54 ⟨8,112,.agg #[.int .i64 0,.int .i64 0,.int .i64 0,.int .i64 0,.int .i64 0,.slice none 0 0,.slice none 0 0,.slice none 0 0],.struct [(0,3),(1,3),(2,52),(6,24),(7,24)],false⟩ :=
 ⟨by kernel_rfl,⟨_,Tryz.underlying54,⟨rfl,rfl⟩⟩,fun h=>(by cases h),fun h=>(by cases h)⟩
theorem ti55 : TIok Tryz.prog 55 ⟨1,24,.slice none 0 0,.sl 59,false⟩ :=
 ⟨by kernel_rfl,⟨_,Tryz.underlying55,rfl⟩,fun _=>rfl,fun h=>(by cases h)⟩
theorem ti57 : TIok Tryz.prog 57 ⟨1,8,.nilFunc,.func,false⟩ :=
 ⟨by kernel_rfl,⟨_,Tryz.underlying57,trivial⟩,fun _=>rfl,fun h=>(by cases h)⟩
theorem ti58 : TIok Tryz.prog 58 ⟨11,88,.agg #[.int .i64 0,.int .i64 0,.int .i64 0,.int .i64 0,.int .i64 0,.int .i64 0,.int .i64 0,.int .i64 0,.int .i64 0,.int .i64 0,.int .i64 0],.struct [(0,3),(1,3),(2,3),(3,3),(4,3),(5,3),(6,3),(7,3),(8,3),(9,3),(10,3)],true⟩ :=
 ⟨by kernel_rfl,⟨_,Tryz.underlying58,⟨rfl,rfl⟩⟩,fun h=>(by cases h),fun _=>⟨by kernel_rfl,by kernel_rfl⟩⟩
theorem ti59 : TIok Tryz.prog 59 ⟨11,88,.agg #[.int .i64 0,.int .i64 0,.int .i64 0,.int .i64 0,.int .i64 0,.int .i64 0,.int .i64 0,.int .i64 0,.int .i64 0,.int .i64 0,.int .i64 0],.struct [(0,3),(1,3),(2,3),(3,3),(4,3),(5,3),(6,3),(7,3),(8,3),(9,3),(10,3)],true⟩ :=
 ⟨by kernel_rfl,⟨_,Tryz.underlying59,⟨rfl,rfl⟩⟩,fun h=>(by cases h),fun _=>⟨by kernel_rfl,by kernel_rfl⟩⟩
theorem ti60 : TIok Tryz.prog 60 ⟨1,8,.int .u64 0,.int .u64,false⟩ :=
 ⟨by kernel_rfl,⟨_,Tryz.underlying60,rfl⟩,fun _=>rfl,fun h=>(by cases h)⟩
theorem ti61 : TIok Tryz.prog 61 ⟨4,32,.agg #[.int .i64 0,.int .i64 0,.int .i64 0,.int .i64 0],.struct [(0,3),(1,3),(2,3),(3,3)],true⟩ :=
 ⟨by kernel_rfl,⟨_,Tryz.underlying61,⟨rfl,rfl⟩⟩,fun h=>(by cases h),fun _=>⟨by kernel_rfl,by kernel_rfl⟩⟩
theorem ti62 : TIok Tryz.prog 62 ⟨4,32,.agg #[.int .i64 0,.int .i64 0,.int .i64 0,.int .i64 0],.struct [(0,3),(1,3),(2,3),(3,3)],true⟩ :=
 ⟨by kernel_rfl,⟨_,Tryz.underlying62,⟨rfl,rfl⟩⟩,fun h=>(by cases h),fun _=>⟨by kernel_rfl,by kernel_rfl⟩⟩
theorem ti63 : TIok Tryz.prog 63 ⟨13,96,.agg #[.int .i64 0,.int .i64 0,.int .i64 0,.int .i64 0,.int .i64 0,.int .i64 0,.int .i64 0,.int .i64 0,.int .i64 0,.int .i64 0,.int .i64 0,.bool false,.bool false],.struct [(0,62),(4,3),(5,3),(6,3),(7,3),(8,3),(9,3),(10,3),(11,4),(12,4)],true⟩ :=
 ⟨by kernel_rfl,⟨_,Tryz.underlying63,⟨rfl,rfl⟩⟩,fun h=>(by cases h),fun _=>⟨by kernel_rfl,by kernel_rfl⟩⟩
theorem ti64 : TIok Tryz.prog 64 ⟨13,96,.agg #[.int .i64 0,.int .i64 0,.int .i64 0,.int .i64 0,.int .i64 0,.int .i64 0,.int .i64 0,.int .i64 0,.int .i64 0,.int .i64 0,.int .i64 0,.bool false,.bool false],.struct [(0,62),(4,3),(5,3),(6,3),(7,3),(8,3),(9,3),(10,3),(11,4),(12,4)],true⟩ :=
 ⟨by kernel_rfl,⟨_,Tryz.underlying64,⟨rfl,rfl⟩⟩,fun h=>(by cases h),fun _=>⟨by kernel_rfl,by kernel_rfl⟩⟩
theorem ti65 : TIok Tryz.prog 65 ⟨1,8,.nilFunc,.func,false⟩ :=
 ⟨by kernel_rfl,⟨_,Tryz.underlying65,trivial⟩,fun _=>rfl,fun h=>(by cases h)⟩
theorem ti66 : TIok Tryz.prog 66 ⟨1,8,.nilFunc,.func,false⟩ :=
 ⟨by kernel_rfl,⟨_,Tryz.underlying66,trivial⟩,fun _=>rfl,fun h=>(by cases h)⟩
theorem ti67 : TIok Tryz.prog 67 ⟨1,24,.slice none 0 0,.sl 136,false⟩ :=
 ⟨by kernel_rfl,⟨_,Tryz.underlying67,rfl⟩,fun _=>rfl,fun h=>(by cases h)⟩
theorem ti68 : TIok Tryz.prog 68 ⟨1,24,.agg #[.slice none 0 0],.struct [(0,67)],false⟩ :=
 ⟨by kernel_rfl,⟨_,Tryz.underlying68,⟨rfl,rfl⟩⟩,fun h=>(by cases h),fun h=>(by cases h)⟩
theorem ti69 : TIok Tryz.prog 69 ⟨1,24,.agg #[.slice none 0 0],.struct [(0,67)],false⟩ :=
 ⟨by kernel_rfl,⟨_,Tryz.underlying69,⟨rfl,rfl⟩⟩,fun h=>(by cases h),fun h=>(by cases h)⟩
theorem ti71 : TIok Tryz.prog 71 ⟨1,8,.nilFunc,.func,false⟩ :=
 ⟨by kernel_rfl,⟨_,Tryz.underlying71,trivial⟩,fun _=>rfl,fun h=>(by cases h)⟩
theorem ti73 : TIok Tryz.prog 73 ⟨1,8,.nilFunc,.func,false⟩ :=
 ⟨by kernel_rfl,⟨_,Tryz.underlying73,trivial⟩,fun _=>rfl,fun h=>(by cases h)⟩
theorem ti74 : TIok Tryz.prog 74 ⟨1,8,.nilFunc,.func,false⟩ :=
 ⟨by kernel_rfl,⟨_,Tryz.underlying74,trivial⟩,fun _=>rfl,fun h=>(by cases h)⟩
theorem ti75 : TIok Tryz.prog 75 ⟨1,8,.nilFunc,.func,false⟩ :=
 ⟨by kernel_rfl,⟨_,Tryz.underlying75,trivial⟩,fun _=>rfl,fun h=>(by cases h)⟩
theorem ti76 : TIok Tryz.prog 76 ⟨1,8,.nilFunc,.func,false⟩ :=
 ⟨by kernel_rfl,⟨_,Tryz.underlying76,trivial⟩,fun _=>rfl,fun h=>(by cases h)⟩
theorem ti77 : TIok Tryz.prog 77 ⟨1,8,.nilFunc,.func,false⟩ :=
 ⟨by kernel_rfl,⟨_,Tryz.underlying77,trivial⟩,fun _=>rfl,fun h=>(by cases h)⟩
theorem ti78 : TIok Tryz.prog 78 ⟨1,8,.nilFunc,.func,false⟩ :=
 ⟨by kernel_rfl,⟨_,Tryz.underlying78,trivial⟩,fun _=>rfl,fun h=>(by cases h)⟩
theorem ti79 : TIok Tryz.prog 79 ⟨1,8,.pointer none,.ptr 146,false⟩ :=
 ⟨by kernel_rfl,⟨_,Tryz.underlying79,rfl⟩,fun _=>rfl,fun h=>(by cases h)⟩
theorem ti81 : TIok Tryz.prog 81 ⟨1,8,.nilFunc,.func,false⟩ :=
 ⟨by kernel_rfl,⟨_,Tryz.underlying81,trivial⟩,fun _=>rfl,fun h=>(by cases h)⟩
theorem ti82 : TIok Tryz.prog 82 ⟨1,8,.nilFunc,.func,false⟩ :=
 ⟨by kernel_rfl,⟨_,Tryz.underlying82,trivial⟩,fun _=>rfl,fun h=>(by cases h)⟩
theorem ti83 : TIok Tryz.prog 83 ⟨1,8,.nilFunc,.func,false⟩ :=
 ⟨by kernel_rfl,⟨_,Tryz.underlying83,trivial⟩,fun _=>rfl,fun h=>(by cases h)⟩
theorem ti84 : TIok Tryz.prog 84 ⟨2,48,.agg #[.slice none 0 0,.slice none 0 0],.struct [(0,30),(1,23)],false⟩ :=
 ⟨by kernel_rfl,⟨_,Tryz.underlying84,⟨rfl,rfl⟩⟩,fun h=>(by cases h),fun h=>(by cases h)⟩
theorem ti85 : TIok Tryz.prog 85 ⟨2,48,.agg #[.slice none 0 0,.slice none 0 0],.struct [(0,30),(1,23)],false⟩ :=
 ⟨by kernel_rfl,⟨_,Tryz.underlying85,⟨rfl,rfl⟩⟩,fun h=>(by cases h),fun h=>(by cases h)⟩
theorem ti86 : TIok Tryz.prog 86 ⟨1,8,.nilFunc,.func,false⟩ :=
 ⟨by kernel_rfl,⟨_,Tryz.underlying86,trivial⟩,fun _=>rfl,fun h=>(by cases h)⟩
theorem ti87 : TIok Tryz.prog 87 ⟨1,8,.nilFunc,.func,false⟩ :=
 ⟨by kernel_rfl,⟨_,Tryz.underlying87,trivial⟩,fun _=>rfl,fun h=>(by cases h)⟩
theorem ti88 : TIok Tryz.prog 88 ⟨1,8,.nilFunc,.func,false⟩ :=
 ⟨by kernel_rfl,⟨_,Tryz.underlying88,trivial⟩,fun _=>rfl,fun h=>(by cases h)⟩
theorem ti89 : TIok Tryz.prog 89 ⟨1,8,.pointer none,.ptr 93,false⟩ :=
 ⟨by kernel_rfl,⟨_,Tryz.underlying89,rfl⟩,fun _=>rfl,fun h=>(by cases h)⟩
theorem ti90 : TIok Tryz.prog 90 ⟨1,8,.nilFunc,.func,false⟩ :=
 ⟨by kernel_rfl,⟨_,Tryz.underlying90,trivial⟩,fun _=>rfl,fun h=>(by cases h)⟩
theorem ti91 : TIok Tryz.prog 91 ⟨1,8,.map none,.map 99 3,false⟩ :=
 ⟨by kernel_rfl,⟨_,Tryz.underlying91,⟨rfl,rfl⟩⟩,fun _=>rfl,fun h=>(by cases h)⟩
theorem ti92 : TIok Tryz.prog 92 ⟨13,224,.agg #[.slice none 0 0,.slice none 0 0,.string ⟨#[]⟩,.int .i64 0,.int .i64 0,.int .i64 0,.slice none 0 0,.slice none 0 0,.bool false,.slice none 0 0,.slice none 0 0,.slice none 0 0,.map none],.struct [(0,22),(1,23),(2,27),(8,4),(9,23),(10,30),(11,23),(12,91)],false⟩ :=
 ⟨by kernel_rfl,⟨_,Tryz.underlying92,⟨rfl,rfl⟩⟩,fun h=>(by cases h),fun h=>(by cases h)⟩
theorem ti93 : TIok Tryz.prog 93 ⟨13,224,.agg #[.slice none 0 0,.slice none 0 0,.string ⟨#[]⟩,.int .i64 0,.int .i64 0,.int .i64 0,.slice none 0 0,.slice none 0 0,.bool false,.slice none 0 0,.slice none 0 0,.slice none 0 0,.map none],.struct [(0,22),(1,23),(2,27),(8,4),(9,23),(10,30),(11,23),(12,91)],false⟩ :=
 ⟨by kernel_rfl,⟨_,Tryz.underlying93,⟨rfl,rfl⟩⟩,fun h=>(by cases h),fun h=>(by cases h)⟩
theorem ti94 : TIok Tryz.prog 94 ⟨1,8,.nilFunc,.func,false⟩ :=
 ⟨by kernel_rfl,⟨_,Tryz.underlying94,trivial⟩,fun _=>rfl,fun h=>(by cases h)⟩
theorem ti95 : TIok Tryz.prog 95 ⟨1,8,.nilFunc,.func,false⟩ :=
 ⟨by kernel_rfl,⟨_,Tryz.underlying95,trivial⟩,fun _=>rfl,fun h=>(by cases h)⟩
theorem ti96 : TIok Tryz.prog 96 ⟨1,8,.nilFunc,.func,false⟩ :=
 ⟨by kernel_rfl,⟨_,Tryz.underlying96,trivial⟩,fun _=>rfl,fun h=>(by cases h)⟩
theorem ti97 : TIok Tryz.prog 97 ⟨1,8,.nilFunc,.func,false⟩ :=
 ⟨by kernel_rfl,⟨_,Tryz.underlying97,trivial⟩,fun _=>rfl,fun h=>(by cases h)⟩
theorem ti98 : TIok Tryz.prog 98 ⟨1,8,.nilFunc,.func,false⟩ :=
 ⟨by kernel_rfl,⟨_,Tryz.underlying98,trivial⟩,fun _=>rfl,fun h=>(by cases h)⟩
theorem ti99 : TIok Tryz.prog 99 ⟨2,16,.agg #[.int .i64 0,.int .i64 0],.arr 2 3,false⟩ :=
 ⟨by kernel_rfl,⟨_,Tryz.underlying99,⟨rfl,rfl⟩⟩,fun h=>(by cases h),fun h=>(by cases h)⟩
theorem ti100 : TIok Tryz.prog 100 ⟨1,8,.nilFunc,.func,false⟩ :=
 ⟨by kernel_rfl,⟨_,Tryz.underlying100,trivial⟩,fun _=>rfl,fun h=>(by cases h)⟩
theorem ti101 : TIok Tryz.prog 101 ⟨1,8,.nilFunc,.func,false⟩ :=
 ⟨by kernel_rfl,⟨_,Tryz.underlying101,trivial⟩,fun _=>rfl,fun h=>(by cases h)⟩
theorem ti102 : TIok Tryz.prog 102 ⟨1,8,.nilFunc,.func,false⟩ :=
 ⟨by kernel_rfl,⟨_,Tryz.underlying102,trivial⟩,fun _=>rfl,fun h=>(by cases h)⟩
theorem ti103 : TIok Tryz.prog 103 ⟨1,8,.nilFunc,.func,false⟩ :=
 ⟨by kernel_rfl,⟨_,Tryz.underlying103,trivial⟩,fun _=>rfl,fun h=>(by cases h)⟩
theorem ti104 : TIok Tryz.prog 104 ⟨1,8,.nilFunc,.func,false⟩ :=
 ⟨by kernel_rfl,⟨_,Tryz.underlying104,trivial⟩,fun _=>rfl,fun h=>(by cases h)⟩
theorem ti105 : TIok Tryz.prog 105 ⟨1,8,.nilFunc,.func,false⟩ :=
 ⟨by kernel_rfl,⟨_,Tryz.underlying105,trivial⟩,fun _=>rfl,fun h=>(by cases h)⟩
theorem ti106 : TIok Tryz.prog 106 ⟨1,8,.nilFunc,.func,false⟩ :=
 ⟨by kernel_rfl,⟨_,Tryz.underlying106,trivial⟩,fun _=>rfl,fun h=>(by cases h)⟩
theorem ti107 : TIok Tryz.prog 107 ⟨1,8,.nilFunc,.func,false⟩ :=
 ⟨by kernel_rfl,⟨_,Tryz.underlying107,trivial⟩,fun _=>rfl,fun h=>(by cases h)⟩
theorem ti108 : TIok Tryz.prog 108 ⟨3,24,.agg #[.int .i64 0,.int .i64 0,.int .i64 0],.struct [(0,3),(1,3),(2,3)],true⟩ :=
 ⟨by kernel_rfl,⟨_,Tryz.underlying108,⟨rfl,rfl⟩⟩,fun h=>(by cases h),fun _=>⟨by kernel_rfl,by kernel_rfl⟩⟩
theorem ti109 : TIok Tryz.prog 109 ⟨3,24,.agg #[.int .i64 0,.int .i64 0,.int .i64 0],.struct [(0,3),(1,3),(2,3)],true⟩ :=
 ⟨by kernel_rfl,⟨_,Tryz.underlying109,⟨rfl,rfl⟩⟩,fun h=>(by cases h),fun _=>⟨by kernel_rfl,by kernel_rfl⟩⟩
theorem ti110 : TIok Tryz.prog 110 ⟨1,8,.nilFunc,.func,false⟩ :=
 ⟨by kernel_rfl,⟨_,Tryz.underlying110,trivial⟩,fun _=>rfl,fun h=>(by cases h)⟩
theorem ti111 : TIok Tryz.prog 111 ⟨1,8,.map none,.map 3 112,false⟩ :=
 ⟨by kernel_rfl,⟨_,Tryz.underlying111,⟨rfl,rfl⟩⟩,fun _=>rfl,fun h=>(by cases h)⟩
theorem ti112 : TIok Tryz.prog 112 ⟨1,8,.pointer none,.ptr 59,false⟩ :=
 ⟨by kernel_rfl,⟨_,Tryz.underlying112,rfl⟩,fun _=>rfl,fun h=>(by cases h)⟩
theorem ti113 : TIok Tryz.prog 113 ⟨1,8,.nilFunc,.func,false⟩ :=
 ⟨by kernel_rfl,⟨_,Tryz.underlying113,trivial⟩,fun _=>rfl,fun h=>(by cases h)⟩
theorem ti114 : TIok Tryz.prog 114 ⟨1,8,.nilFunc,.func,false⟩ :=
 ⟨by kernel_rfl,⟨_,Tryz.underlying114,trivial⟩,fun _=>rfl,fun h=>(by cases h)⟩
theorem ti115 : TIok Tryz.prog 115 ⟨1,8,.nilFunc,.func,false⟩ :=
 ⟨by kernel_rfl,⟨_,Tryz.underlying115,trivial⟩,fun _=>rfl,fun h=>(by cases h)⟩
theorem ti116 : TIok Tryz.prog 116 ⟨6,40,.agg #[.int .i64 0,.int .i64 0,.int .i64 0,.int .i64 0,.bool false,.bool false],.struct [(0,3),(1,3),(2,3),(3,3),(4,4),(5,4)],true⟩ :=
 ⟨by kernel_rfl,⟨_,Tryz.underlying116,⟨rfl,rfl⟩⟩,fun h=>(by cases h),fun _=>⟨by kernel_rfl,by kernel_rfl⟩⟩
theorem ti117 : TIok Tryz.prog 117 ⟨6,40,.agg #[.int .i64 0,.int .i64 0,.int .i64 0,.int .i64 0,.bool false,.bool false],.struct [(0,3),(1,3),(2,3),(3,3),(4,4),(5,4)],true⟩ :=
 ⟨by kernel_rfl,⟨_,Tryz.underlying117,⟨rfl,rfl⟩⟩,fun h=>(by cases h),fun _=>⟨by kernel_rfl,by kernel_rfl⟩⟩
theorem ti119 : TIok Tryz.prog 119 ⟨1,8,.nilFunc,.func,false⟩ :=
 ⟨by kernel_rfl,⟨_,Tryz.underlying119,trivial⟩,fun _=>rfl,fun h=>(by cases h)⟩
theorem ti120 : TIok Tryz.prog 120 ⟨5,120,.agg #[.slice none 0 0,.slice none 0 0,.slice none 0 0,.slice none 0 0,.slice none 0 0],.arr 5 23,false⟩ :=
 ⟨by kernel_rfl,⟨_,Tryz.underlying120,⟨rfl,rfl⟩⟩,fun h=>(by cases h),fun h=>(by cases h)⟩
theorem ti121 : TIok Tryz.prog 121 ⟨1,8,.nilFunc,.func,false⟩ :=
 ⟨by kernel_rfl,⟨_,Tryz.underlying121,trivial⟩,fun _=>rfl,fun h=>(by cases h)⟩
theorem ti122 : TIok Tryz.prog 122 ⟨1,8,.pointer none,.ptr 120,false⟩ :=
 ⟨by kernel_rfl,⟨_,Tryz.underlying122,rfl⟩,fun _=>rfl,fun h=>(by cases h)⟩
theorem ti124 : TIok Tryz.prog 124 ⟨1,8,.nilFunc,.func,false⟩ :=
 ⟨by kernel_rfl,⟨_,Tryz.underlying124,trivial⟩,fun _=>rfl,fun h=>(by cases h)⟩
theorem ti125 : TIok Tryz.prog 125 ⟨1,8,.nilFunc,.func,false⟩ :=
 ⟨by kernel_rfl,⟨_,Tryz.underlying125,trivial⟩,fun _=>rfl,fun h=>(by cases h)⟩
theorem ti126 : TIok Tryz.prog 126 ⟨1,8,.nilFunc,.func,false⟩ :=
 ⟨by kernel_rfl,⟨_,Tryz.underlying126,trivial⟩,fun _=>rfl,fun h=>(by cases h)⟩
theorem ti127 : TIok Tryz.prog 127 ⟨1,8,.pointer none,.ptr 130,false⟩ :=
 ⟨by kernel_rfl,⟨_,Tryz.underlying127,rfl⟩,fun _=>rfl,fun h=>(by cases h)⟩
theorem ti128 : TIok Tryz.prog 128 ⟨1,8,.map none,.map 176 3,false⟩ :=
 ⟨by kernel_rfl,⟨_,Tryz.underlying128,⟨rfl,rfl⟩⟩,fun _=>rfl,fun h=>(by cases h)⟩
theorem ti129 : TIok Tryz.prog 129 ⟨2,32,.agg #[.slice none 0 0,.map none],.struct [(0,67),(1,128)],false⟩ :=
 ⟨by kernel_rfl,⟨_,Tryz.underlying129,⟨rfl,rfl⟩⟩,fun h=>(by cases h),fun h=>(by cases h)⟩
theorem ti130 : TIok Tryz.prog 130 ⟨2,32,.agg #[.slice none 0 0,.map none],.struct [(0,67),(1,128)],false⟩ :=
 ⟨by kernel_rfl,⟨_,Tryz.underlying130,⟨rfl,rfl⟩⟩,fun h=>(by cases h),fun h=>(by cases h)⟩
theorem ti131 : TIok Tryz.prog 131 ⟨1,8,.pointer none,.ptr 3,false⟩ :=
 ⟨by kernel_rfl,⟨_,Tryz.underlying131,rfl⟩,fun _=>rfl,fun h=>(by cases h)⟩
theorem ti132 : TIok Tryz.prog 132 ⟨5,40,.agg #[.pointer none,.pointer none,.pointer none,.pointer none,.pointer none],.arr 5 131,false⟩ :=
 ⟨by kernel_rfl,⟨_,Tryz.underlying132,⟨rfl,rfl⟩⟩,fun h=>(by cases h),fun h=>(by cases h)⟩
theorem ti133 : TIok Tryz.prog 133 ⟨1,8,.nilFunc,.func,false⟩ :=
 ⟨by kernel_rfl,⟨_,Tryz.underlying133,trivial⟩,fun _=>rfl,fun h=>(by cases h)⟩
theorem ti134 : TIok Tryz.prog 134 ⟨1,8,.nilFunc,.func,false⟩ :=
 ⟨by kernel_rfl,⟨_,Tryz.underlying134,trivial⟩,fun _=>rfl,fun h=>(by cases h)⟩
theorem ti135 : TIok Tryz.prog 135 ⟨5,56,.agg #[.int .i64 0,.int .i64 0,.int .i64 0,.int .i64 0,.slice none 0 0],.struct [(0,3),(1,3),(2,3),(3,3),(4,23)],false⟩ :=
 ⟨by kernel_rfl,⟨_,Tryz.underlying135,⟨rfl,rfl⟩⟩,fun h=>(by cases h),fun h=>(by cases h)⟩
theorem ti136 : TIok Tryz.prog 136 ⟨5,56,.agg #[.int .i64 0,.int .i64 0,.int .i64 0,.int .i64 0,.slice none 0 0],.struct [(0,3),(1,3),(2,3),(3,3),(4,23)],false⟩ :=
 ⟨by kernel_rfl,⟨_,Tryz.underlying136,⟨rfl,rfl⟩⟩,fun h=>(by cases h),fun h=>(by cases h)⟩
theorem ti137 : TIok Tryz.prog 137 ⟨1,8,.nilFunc,.func,false⟩ :=
 ⟨by kernel_rfl,⟨_,Tryz.underlying137,trivial⟩,fun _=>rfl,fun h=>(by cases h)⟩
theorem ti138 : TIok Tryz.prog 138 ⟨1,8,.nilFunc,.func,false⟩ :=
 ⟨by kernel_rfl,⟨_,Tryz.underlying138,trivial⟩,fun _=>rfl,fun h=>(by cases h)⟩
theorem ti139 : TIok Tryz.prog 139 ⟨1,8,.nilFunc,.func,false⟩ :=
 ⟨by kernel_rfl,⟨_,Tryz.underlying139,trivial⟩,fun _=>rfl,fun h=>(by cases h)⟩
theorem ti140 : TIok Tryz.prog 140 ⟨1,8,.nilFunc,.func,false⟩ :=
 ⟨by kernel_rfl,⟨_,Tryz.underlying140,trivial⟩,fun _=>rfl,fun h=>(by cases h)⟩
theorem ti141 : TIok Tryz.prog 141 ⟨1,8,.map none,.map 3 3,false⟩ :=
 ⟨by kernel_rfl,⟨_,Tryz.underlying141,⟨rfl,rfl⟩⟩,fun _=>rfl,fun h=>(by cases h)⟩
theorem ti142 : TIok Tryz.prog 142 ⟨1,8,.nilFunc,.func,false⟩ :=
 ⟨by kernel_rfl,⟨_,Tryz.underlying142,trivial⟩,fun _=>rfl,fun h=>(by cases h)⟩
theorem ti143 : TIok Tryz.prog 143 ⟨1,8,.nilFunc,.func,false⟩ :=
 ⟨by kernel_rfl,⟨_,Tryz.underlying143,trivial⟩,fun _=>rfl,fun h=>(by cases h)⟩
theorem ti144 : TIok Tryz.prog 144 ⟨1,8,.nilFunc,.func,false⟩ :=
 ⟨by kernel_rfl,⟨_,Tryz.underlying144,trivial⟩,fun _=>rfl,fun h=>(by cases h)⟩
theorem ti145 : TIok Tryz.prog 145 ⟨10,152,.agg #[.slice none 0 0,.slice none 0 0,.map none,.string ⟨#[]⟩,.int .i64 0,.int .i64 0,.int .i64 0,.slice none 0 0,.slice none 0 0,.map none],.struct [(0,22),(1,23),(2,141),(3,27),(9,141)],false⟩ :=
 ⟨by kernel_rfl,⟨_,Tryz.underlying145,⟨rfl,rfl⟩⟩,fun h=>(by cases h),fun h=>(by cases h)⟩
theorem ti146 : TIok Tryz.prog 146 ⟨10,152,.agg #[.slice none 0 0,.slice none 0 0,.map none,.string ⟨#[]⟩,.int .i64 0,.int .i64 0,.int .i64 0,.slice none 0 0,.slice none 0 0,.map none],.struct [(0,22),(1,23),(2,141),(3,27),(9,141)],false⟩ :=
 ⟨by kernel_rfl,⟨_,Tryz.underlying146,⟨rfl,rfl⟩⟩,fun h=>(by cases h),fun h=>(by cases h)⟩
theorem ti147 : TIok Tryz.prog 147 ⟨1,8,.map none,.map 3 4,false⟩ :=
 ⟨by kernel_rfl,⟨_,Tryz.underlying147,⟨rfl,rfl⟩⟩,fun _=>rfl,fun h=>(by cases h)⟩
theorem ti148 : TIok Tryz.prog 148 ⟨1,8,.nilFunc,.func,false⟩ :=
 ⟨by kernel_rfl,⟨_,Tryz.underlying148,trivial⟩,fun _=>rfl,fun h=>(by cases h)⟩
theorem ti149 : TIok Tryz.prog 149 ⟨1,8,.nilFunc,.func,false⟩ :=
 ⟨by kernel_rfl,⟨_,Tryz.underlying149,trivial⟩,fun _=>rfl,fun h=>(by cases h)⟩
theorem ti150 : TIok Tryz.prog 150 ⟨1,8,.nilFunc,.func,false⟩ :=
 ⟨by kernel_rfl,⟨_,Tryz.underlying150,trivial⟩,fun _=>rfl,fun h=>(by cases h)⟩
theorem ti151 : TIok Tryz.prog 151 ⟨1,8,.nilFunc,.func,false⟩ :=
 ⟨by kernel_rfl,⟨_,Tryz.underlying151,trivial⟩,fun _=>rfl,fun h=>(by cases h)⟩
theorem ti152 : TIok Tryz.prog 152 ⟨13,104,.agg #[.nilFunc,.nilFunc,.nilFunc,.nilFunc,.nilFunc,.nilFunc,.nilFunc,.nilFunc,.nilFunc,.nilFunc,.nilFunc,.nilFunc,.nilFunc],.arr 13 151,false⟩ :=
 ⟨by kernel_rfl,⟨_,Tryz.underlying152,⟨rfl,rfl⟩⟩,fun h=>(by cases h),fun h=>(by cases h)⟩
theorem ti153 : TIok Tryz.prog 153 ⟨1,8,.nilFunc,.func,false⟩ :=
 ⟨by kernel_rfl,⟨_,Tryz.underlying153,trivial⟩,fun _=>rfl,fun h=>(by cases h)⟩
theorem ti154 : TIok Tryz.prog 154 ⟨1,8,.nilFunc,.func,false⟩ :=
 ⟨by kernel_rfl,⟨_,Tryz.underlying154,trivial⟩,fun _=>rfl,fun h=>(by cases h)⟩
theorem ti155 : TIok Tryz.prog 155 ⟨1,8,.nilFunc,.func,false⟩ :=
 ⟨by kernel_rfl,⟨_,Tryz.underlying155,trivial⟩,fun _=>rfl,fun h=>(by cases h)⟩
theorem ti156 : TIok Tryz.prog 156 ⟨1,8,.nilFunc,.func,false⟩ :=
 ⟨by kernel_rfl,⟨_,Tryz.underlying156,trivial⟩,fun _=>rfl,fun h=>(by cases h)⟩
theorem ti157 : TIok Tryz.prog 157 ⟨1,8,.nilFunc,.func,false⟩ :=
 ⟨by kernel_rfl,⟨_,Tryz.underlying157,trivial⟩,fun _=>rfl,fun h=>(by cases h)⟩
theorem ti158 : TIok Tryz.prog 158 ⟨1,8,.map none,.map 62 4,false⟩ :=
 ⟨by kernel_rfl,⟨_,Tryz.underlying158,⟨rfl,rfl⟩⟩,fun _=>rfl,fun h=>(by cases h)⟩
theorem ti159 : TIok Tryz.prog 159 ⟨1,8,.nilFunc,.func,false⟩ :=
 ⟨by kernel_rfl,⟨_,Tryz.underlying159,trivial⟩,fun _=>rfl,fun h=>(by cases h)⟩
theorem ti160 : TIok Tryz.prog 160 ⟨1,8,.nilFunc,.func,false⟩ :=
 ⟨by kernel_rfl,⟨_,Tryz.underlying160,trivial⟩,fun _=>rfl,fun h=>(by cases h)⟩
theorem ti161 : TIok Tryz.prog 161 ⟨1,8,.nilFunc,.func,false⟩ :=
 ⟨by kernel_rfl,⟨_,Tryz.underlying161,trivial⟩,fun _=>rfl,fun h=>(by cases h)⟩
theorem ti162 : TIok Tryz.prog 162 ⟨1,8,.nilFunc,.func,false⟩ :=
 ⟨by kernel_rfl,⟨_,Tryz.underlying162,trivial⟩,fun _=>rfl,fun h=>(by cases h)⟩
theorem ti163 : TIok Tryz.prog 163 ⟨1,24,.slice none 0 0,.sl 206,false⟩ :=
 ⟨by kernel_rfl,⟨_,Tryz.underlying163,rfl⟩,fun _=>rfl,fun h=>(by cases h)⟩
theorem ti164 : TIok Tryz.prog 164 ⟨1,8,.nilFunc,.func,false⟩ :=
 ⟨by kernel_rfl,⟨_,Tryz.underlying164,trivial⟩,fun _=>rfl,fun h=>(by cases h)⟩
theorem ti165 : TIok Tryz.prog 165 ⟨2,16,.agg #[.int .i64 0,.int .i64 0],.struct [(0,3),(1,3)],true⟩ :=
 ⟨by kernel_rfl,⟨_,Tryz.underlying165,⟨rfl,rfl⟩⟩,fun h=>(by cases h),fun _=>⟨by kernel_rfl,by kernel_rfl⟩⟩
theorem ti166 : TIok Tryz.prog 166 ⟨2,16,.agg #[.int .i64 0,.int .i64 0],.struct [(0,3),(1,3)],true⟩ :=
 ⟨by kernel_rfl,⟨_,Tryz.underlying166,⟨rfl,rfl⟩⟩,fun h=>(by cases h),fun _=>⟨by kernel_rfl,by kernel_rfl⟩⟩
theorem ti167 : TIok Tryz.prog 167 ⟨10,80,.agg #[.int .i64 0,.int .i64 0,.int .i64 0,.int .i64 0,.int .i64 0,.int .i64 0,.int .i64 0,.int .i64 0,.int .i64 0,.int .i64 0],.arr 5 166,false⟩ :=
 ⟨by kernel_rfl,⟨_,Tryz.underlying167,⟨rfl,rfl⟩⟩,fun h=>(by cases h),fun h=>(by cases h)⟩
theorem ti168 : TIok Tryz.prog 168 ⟨1,8,.nilFunc,.func,false⟩ :=
 ⟨by kernel_rfl,⟨_,Tryz.underlying168,trivial⟩,fun _=>rfl,fun h=>(by cases h)⟩
theorem ti169 : TIok Tryz.prog 169 ⟨1,8,.nilFunc,.func,false⟩ :=
 ⟨by kernel_rfl,⟨_,Tryz.underlying169,trivial⟩,fun _=>rfl,fun h=>(by cases h)⟩
theorem ti170 : TIok Tryz.prog 170 ⟨1,8,.nilFunc,.func,false⟩ :=
 ⟨by kernel_rfl,⟨_,Tryz.underlying170,trivial⟩,fun _=>rfl,fun h=>(by cases h)⟩
theorem ti171 : TIok Tryz.prog 171 ⟨1,8,.nilFunc,.func,false⟩ :=
 ⟨by kernel_rfl,⟨_,Tryz.underlying171,trivial⟩,fun _=>rfl,fun h=>(by cases h)⟩
theorem ti172 : TIok Tryz.prog 172 ⟨1,8,.nilFunc,.func,false⟩ :=
 ⟨by kernel_rfl,⟨_,Tryz.underlying172,trivial⟩,fun _=>rfl,fun h=>(by cases h)⟩
theorem ti173 : TIok Tryz.prog 173 ⟨1,8,.nilFunc,.func,false⟩ :=
 ⟨by kernel_rfl,⟨_,Tryz.underlying173,trivial⟩,fun _=>rfl,fun h=>(by cases h)⟩
theorem ti174 : TIok Tryz.prog 174 ⟨1,8,.nilFunc,.func,false⟩ :=
 ⟨by kernel_rfl,⟨_,Tryz.underlying174,trivial⟩,fun _=>rfl,fun h=>(by cases h)⟩
theorem ti175 : TIok Tryz.prog 175 ⟨5,48,.agg #[.int .i64 0,.int .i64 0,.int .i64 0,.int .i64 0,.string ⟨#[]⟩],.struct [(0,3),(1,3),(2,3),(3,3),(4,9)],true⟩ :=
 ⟨by kernel_rfl,⟨_,Tryz.underlying175,⟨rfl,rfl⟩⟩,fun h=>(by cases h),fun _=>⟨by kernel_rfl,by kernel_rfl⟩⟩
theorem ti176 : TIok Tryz.prog 176 ⟨5,48,.agg #[.int .i64 0,.int .i64 0,.int .i64 0,.int .i64 0,.string ⟨#[]⟩],.struct [(0,3),(1,3),(2,3),(3,3),(4,9)],true⟩ :=
 ⟨by kernel_rfl,⟨_,Tryz.underlying176,⟨rfl,rfl⟩⟩,fun h=>(by cases h),fun _=>⟨by kernel_rfl,by kernel_rfl⟩⟩
theorem ti177 : TIok Tryz.prog 177 ⟨1,8,.nilFunc,.func,false⟩ :=
 ⟨by kernel_rfl,⟨_,Tryz.underlying177,trivial⟩,fun _=>rfl,fun h=>(by cases h)⟩
theorem ti179 : TIok Tryz.prog 179 ⟨1,8,.nilFunc,.func,false⟩ :=
 ⟨by kernel_rfl,⟨_,Tryz.underlying179,trivial⟩,fun _=>rfl,fun h=>(by cases h)⟩
theorem ti180 : TIok Tryz.prog 180 ⟨1,24,.slice none 0 0,.sl 4,false⟩ :=
 ⟨by kernel_rfl,⟨_,Tryz.underlying180,rfl⟩,fun _=>rfl,fun h=>(by cases h)⟩
theorem ti181 : TIok Tryz.prog 181 ⟨1,8,.nilFunc,.func,false⟩ :=
 ⟨by kernel_rfl,⟨_,Tryz.underlying181,trivial⟩,fun _=>rfl,fun h=>(by cases h)⟩
theorem ti182 : TIok Tryz.prog 182 ⟨1,8,.nilFunc,.func,false⟩ :=
 ⟨by kernel_rfl,⟨_,Tryz.underlying182,trivial⟩,fun _=>rfl,fun h=>(by cases h)⟩
theorem ti183 : TIok Tryz.prog 183 ⟨1,8,.nilFunc,.func,false⟩ :=
 ⟨by kernel_rfl,⟨_,Tryz.underlying183,trivial⟩,fun _=>rfl,fun h=>(by cases h)⟩
theorem ti184 : TIok Tryz.prog 184 ⟨3,32,.agg #[.string ⟨#[]⟩,.int .i64 0,.int .i64 0],.struct [(0,9),(1,3),(2,3)],true⟩ :=
 ⟨by kernel_rfl,⟨_,Tryz.underlying184,⟨rfl,rfl⟩⟩,fun h=>(by cases h),fun _=>⟨by kernel_rfl,by kernel_rfl⟩⟩
theorem ti185 : TIok Tryz.prog 185 ⟨3,32,.agg #[.string ⟨#[]⟩,.int .i64 0,.int .i64 0],.struct [(0,9),(1,3),(2,3)],true⟩ :=
 ⟨by kernel_rfl,⟨_,Tryz.underlying185,⟨rfl,rfl⟩⟩,fun h=>(by cases h),fun _=>⟨by kernel_rfl,by kernel_rfl⟩⟩
theorem ti186 : TIok Tryz.prog 186 ⟨1,8,.nilFunc,.func,false⟩ :=
 ⟨by kernel_rfl,⟨_,Tryz.underlying186,trivial⟩,fun _=>rfl,fun h=>(by cases h)⟩
theorem ti187 : TIok Tryz.prog 187 ⟨1,8,.nilFunc,.func,false⟩ :=
 ⟨by kernel_rfl,⟨_,Tryz.underlying187,trivial⟩,fun _=>rfl,fun h=>(by cases h)⟩
theorem ti188 : TIok Tryz.prog 188 ⟨1,8,.nilFunc,.func,false⟩ :=
 ⟨by kernel_rfl,⟨_,Tryz.underlying188,trivial⟩,fun _=>rfl,fun h=>(by cases h)⟩
theorem ti189 : TIok Tryz.prog 189 ⟨1,24,.slice none 0 0,.sl 191,false⟩ :=
 ⟨by kernel_rfl,⟨_,Tryz.underlying189,rfl⟩,fun _=>rfl,fun h=>(by cases h)⟩
theorem ti190 : TIok Tryz.prog 190 ⟨2,16,.agg #[.int .i64 0,.int .i64 0],.struct [(0,3),(1,3)],true⟩ :=
 ⟨by kernel_rfl,⟨_,Tryz.underlying190,⟨rfl,rfl⟩⟩,fun h=>(by cases h),fun _=>⟨by kernel_rfl,by kernel_rfl⟩⟩
theorem ti191 : TIok Tryz.prog 191 ⟨2,16,.agg #[.int .i64 0,.int .i64 0],.struct [(0,3),(1,3)],true⟩ :=
 ⟨by kernel_rfl,⟨_,Tryz.underlying191,⟨rfl,rfl⟩⟩,fun h=>(by cases h),fun _=>⟨by kernel_rfl,by kernel_rfl⟩⟩
theorem ti192 : TIok Tryz.prog 192 ⟨1,8,.nilFunc,.func,false⟩ :=
 ⟨by kernel_rfl,⟨_,Tryz.underlying192,trivial⟩,fun _=>rfl,fun h=>(by cases h)⟩
theorem ti193 : TIok Tryz.prog 193 ⟨1,8,.nilFunc,.func,false⟩ :=
 ⟨by kernel_rfl,⟨_,Tryz.underlying193,trivial⟩,fun _=>rfl,fun h=>(by cases h)⟩
theorem ti194 : TIok Tryz.prog 194 ⟨1,8,.nilFunc,.func,false⟩ :=
 ⟨by kernel_rfl,⟨_,Tryz.underlying194,trivial⟩,fun _=>rfl,fun h=>(by cases h)⟩
theorem ti195 : TIok Tryz.prog 195 ⟨1,8,.nilFunc,.func,false⟩ :=
 ⟨by kernel_rfl,⟨_,Tryz.underlying195,trivial⟩,fun _=>rfl,fun h=>(by cases h)⟩
theorem ti196 : TIok Tryz.prog 196 ⟨1,8,.nilFunc,.func,false⟩ :=
 ⟨by kernel_rfl,⟨_,Tryz.underlying196,trivial⟩,fun _=>rfl,fun h=>(by cases h)⟩
theorem ti197 : TIok Tryz.prog 197 ⟨1,8,.nilFunc,.func,false⟩ :=
 ⟨by kernel_rfl,⟨_,Tryz.underlying197,trivial⟩,fun _=>rfl,fun h=>(by cases h)⟩
theorem ti198 : TIok Tryz.prog 198 ⟨1,8,.nilFunc,.func,false⟩ :=
 ⟨by kernel_rfl,⟨_,Tryz.underlying198,trivial⟩,fun _=>rfl,fun h=>(by cases h)⟩
theorem ti199 : TIok Tryz.prog 199 ⟨2,2,.agg #[.bool false,.bool false],.arr 2 4,false⟩ :=
 ⟨by kernel_rfl,⟨_,Tryz.underlying199,⟨rfl,rfl⟩⟩,fun h=>(by cases h),fun h=>(by cases h)⟩
theorem ti200 : TIok Tryz.prog 200 ⟨1,8,.pointer none,.ptr 202,false⟩ :=
 ⟨by kernel_rfl,⟨_,Tryz.underlying200,rfl⟩,fun _=>rfl,fun h=>(by cases h)⟩
theorem ti201 : TIok Tryz.prog 201 ⟨2,16,.agg #[.int .i64 0,.int .i64 0],.struct [(0,3),(1,3)],true⟩ :=
 ⟨by kernel_rfl,⟨_,Tryz.underlying201,⟨rfl,rfl⟩⟩,fun h=>(by cases h),fun _=>⟨by kernel_rfl,by kernel_rfl⟩⟩
theorem ti202 : TIok Tryz.prog 202 ⟨2,16,.agg #[.int .i64 0,.int .i64 0],.struct [(0,3),(1,3)],true⟩ :=
 ⟨by kernel_rfl,⟨_,Tryz.underlying202,⟨rfl,rfl⟩⟩,fun h=>(by cases h),fun _=>⟨by kernel_rfl,by kernel_rfl⟩⟩
theorem ti203 : TIok Tryz.prog 203 ⟨1,8,.nilFunc,.func,false⟩ :=
 ⟨by kernel_rfl,⟨_,Tryz.underlying203,trivial⟩,fun _=>rfl,fun h=>(by cases h)⟩
theorem ti204 : TIok Tryz.prog 204 ⟨1,8,.nilFunc,.func,false⟩ :=
 ⟨by kernel_rfl,⟨_,Tryz.underlying204,trivial⟩,fun _=>rfl,fun h=>(by cases h)⟩
theorem ti205 : TIok Tryz.prog 205 ⟨1,16,.nilIface,.iface false,false⟩ :=
 ⟨by kernel_rfl,⟨_,Tryz.underlying205,rfl⟩,fun _=>rfl,fun h=>(by cases h)⟩
theorem ti206 : TIok Tryz.prog 206 ⟨1,16,.nilIface,.iface false,false⟩ :=
 ⟨by kernel_rfl,⟨_,Tryz.underlying206,rfl⟩,fun _=>rfl,fun h=>(by cases h)⟩
theorem ti207 : TIok Tryz.prog 207 ⟨1,8,.nilFunc,.func,false⟩ :=
 ⟨by kernel_rfl,⟨_,Tryz.underlying207,trivial⟩,fun _=>rfl,fun h=>(by cases h)⟩
theorem ti208 : TIok Tryz.prog 208 ⟨8,112,.agg #[.int .i64 0,.int .i64 0,.int .i64 0,.int .i64 0,.int .i64 0,.slice none 0 0,.slice none 0 0,.slice none 0 0],.struct [(0,54)],false⟩ :=
 ⟨by kernel_rfl,⟨_,Tryz.underlying208,⟨rfl,rfl⟩⟩,fun h=>(by cases h),fun h=>(by cases h)⟩
theorem ti209 : TIok Tryz.prog 209 ⟨8,112,.agg #[.int .i64 0,.int .i64 0,.int .i64 0,.int .i64 0,.int .i64 0,.slice none 0 0,.slice none 0 0,.slice none 0 0],.struct [(0,54)],false⟩ :=
 ⟨by kernel_rfl,⟨_,Tryz.underlying209,⟨rfl,rfl⟩⟩,fun h=>(by cases h),fun h=>(by cases h)⟩
theorem ti210 : TIok Tryz.prog 210 ⟨1,8,.nilFunc,.func,false⟩ :=
 ⟨by kernel_rfl,⟨_,Tryz.underlying210,trivial⟩,fun _=>rfl,fun h=>(by cases h)⟩
theorem ti211 : TIok Tryz.prog 211 ⟨1,8,.nilFunc,.func,false⟩ :=
 ⟨by kernel_rfl,⟨_,Tryz.underlying211,trivial⟩,fun _=>rfl,fun h=>(by cases h)⟩
theorem ti212 : TIok Tryz.prog 212 ⟨1,8,.int .i64 0,.int .i64,false⟩ :=
 ⟨by kernel_rfl,⟨_,Tryz.underlying212,rfl⟩,fun _=>rfl,fun h=>(by cases h)⟩
theorem ti214 : TIok Tryz.prog 214 ⟨1,8,.nilFunc,.func,false⟩ :=
 ⟨by kernel_rfl,⟨_,Tryz.underlying214,trivial⟩,fun _=>rfl,fun h=>(by cases h)⟩
theorem ti215 : TIok Tryz.prog 215 ⟨1,8,.nilFunc,.func,false⟩ :=
 ⟨by kernel_rfl,⟨_,Tryz.underlying215,trivial⟩,fun _=>rfl,fun h=>(by cases h)⟩
theorem ti216 : TIok Tryz.prog 216 ⟨1,8,.nilFunc,.func,false⟩ :=
 ⟨by kernel_rfl,⟨_,Tryz.underlying216,trivial⟩,fun _=>rfl,fun h=>(by cases h)⟩
theorem ti217 : TIok Tryz.prog 217 ⟨1,8,.nilFunc,.func,false⟩ :=
 ⟨by kernel_rfl,⟨_,Tryz.underlying217,trivial⟩,fun _=>rfl,fun h=>(by cases h)⟩
theorem ti218 : TIok Tryz.prog 218 ⟨1,8,.nilFunc,.func,false⟩ :=
 ⟨by kernel_rfl,⟨_,Tryz.underlying218,trivial⟩,fun _=>rfl,fun h=>(by cases h)⟩
theorem ti219 : TIok Tryz.prog 219 ⟨1,4,.int .u32 0,.int .u32,false⟩ :=
 ⟨by kernel_rfl,⟨_,Tryz.underlying219,rfl⟩,fun _=>rfl,fun h=>(by cases h)⟩
theorem ti220 : TIok Tryz.prog 220 ⟨1,8,.nilFunc,.func,false⟩ :=
 ⟨by kernel_rfl,⟨_,Tryz.underlying220,trivial⟩,fun _=>rfl,fun h=>(by cases h)⟩
theorem ti221 : TIok Tryz.prog 221 ⟨1,8,.int .u64 0,.int .u64,false⟩ :=
 ⟨by kernel_rfl,⟨_,Tryz.underlying221,rfl⟩,fun _=>rfl,fun h=>(by cases h)⟩
theorem ti222 : TIok Tryz.prog 222 ⟨1,24,.slice none 0 0,.sl 5,false⟩ :=
 ⟨by kernel_rfl,⟨_,Tryz.underlying222,rfl⟩,fun _=>rfl,fun h=>(by cases h)⟩
theorem ti223 : TIok Tryz.prog 223 ⟨1,8,.map none,.map 176 4,false⟩ :=
 ⟨by kernel_rfl,⟨_,Tryz.underlying223,⟨rfl,rfl⟩⟩,fun _=>rfl,fun h=>(by cases h)⟩
theorem ti224 : TIok Tryz.prog 224 ⟨1,8,.nilFunc,.func,false⟩ :=
 ⟨by kernel_rfl,⟨_,Tryz.underlying224,trivial⟩,fun _=>rfl,fun h=>(by cases h)⟩
theorem ti225 : TIok Tryz.prog 225 ⟨1,8,.nilFunc,.func,false⟩ :=
 ⟨by kernel_rfl,⟨_,Tryz.underlying225,trivial⟩,fun _=>rfl,fun h=>(by cases h)⟩
theorem ti226 : TIok Tryz.prog 226 ⟨1,8,.nilFunc,.func,false⟩ :=
 ⟨by kernel_rfl,⟨_,Tryz.underlying226,trivial⟩,fun _=>rfl,fun h=>(by cases h)⟩
theorem ti227 : TIok Tryz.prog 227 ⟨1,8,.nilFunc,.func,false⟩ :=
 ⟨by kernel_rfl,⟨_,Tryz.underlying227,trivial⟩,fun _=>rfl,fun h=>(by cases h)⟩
theorem ti228 : TIok Tryz.prog 228 ⟨1,8,.nilFunc,.func,false⟩ :=
 ⟨by kernel_rfl,⟨_,Tryz.underlying228,trivial⟩,fun _=>rfl,fun h=>(by cases h)⟩
theorem ti229 : TIok Tryz.prog 229 ⟨1,8,.nilFunc,.func,false⟩ :=
 ⟨by kernel_rfl,⟨_,Tryz.underlying229,trivial⟩,fun _=>rfl,fun h=>(by cases h)⟩
theorem ti230 : TIok Tryz.prog 230 ⟨1,8,.nilFunc,.func,false⟩ :=
 ⟨by kernel_rfl,⟨_,Tryz.underlying230,trivial⟩,fun _=>rfl,fun h=>(by cases h)⟩
theorem ti231 : TIok Tryz.prog 231 ⟨1,8,.nilFunc,.func,false⟩ :=
 ⟨by kernel_rfl,⟨_,Tryz.underlying231,trivial⟩,fun _=>rfl,fun h=>(by cases h)⟩
theorem ti233 : TIok Tryz.prog 233 ⟨1,8,.nilFunc,.func,false⟩ :=
 ⟨by kernel_rfl,⟨_,Tryz.underlying233,trivial⟩,fun _=>rfl,fun h=>(by cases h)⟩
theorem ti234 : TIok Tryz.prog 234 ⟨1,8,.nilFunc,.func,false⟩ :=
 ⟨by kernel_rfl,⟨_,Tryz.underlying234,trivial⟩,fun _=>rfl,fun h=>(by cases h)⟩
theorem ti235 : TIok Tryz.prog 235 ⟨1,8,.nilFunc,.func,false⟩ :=
 ⟨by kernel_rfl,⟨_,Tryz.underlying235,trivial⟩,fun _=>rfl,fun h=>(by cases h)⟩
theorem ti236 : TIok Tryz.prog 236 ⟨4,48,.agg #[.int .i64 0,.int .i64 0,.int .i64 0,.slice none 0 0],.struct [(0,52)],false⟩ :=
 ⟨by kernel_rfl,⟨_,Tryz.underlying236,⟨rfl,rfl⟩⟩,fun h=>(by cases h),fun h=>(by cases h)⟩
theorem ti237 : TIok Tryz.prog 237 ⟨4,48,.agg #[.int .i64 0,.int .i64 0,.int .i64 0,.slice none 0 0],.struct [(0,52)],false⟩ :=
 ⟨by kernel_rfl,⟨_,Tryz.underlying237,⟨rfl,rfl⟩⟩,fun h=>(by cases h),fun h=>(by cases h)⟩
theorem ti238 : TIok Tryz.prog 238 ⟨1,8,.nilFunc,.func,false⟩ :=
 ⟨by kernel_rfl,⟨_,Tryz.underlying238,trivial⟩,fun _=>rfl,fun h=>(by cases h)⟩
theorem ti239 : TIok Tryz.prog 239 ⟨1,8,.nilFunc,.func,false⟩ :=
 ⟨by kernel_rfl,⟨_,Tryz.underlying239,trivial⟩,fun _=>rfl,fun h=>(by cases h)⟩
theorem ti240 : TIok Tryz.prog 240 ⟨1,8,.int .u64 0,.int .u64,false⟩ :=
 ⟨by kernel_rfl,⟨_,Tryz.underlying240,rfl⟩,fun _=>rfl,fun h=>(by cases h)⟩
theorem ti241 : TIok Tryz.prog 241 ⟨1,8,.nilFunc,.func,false⟩ :=
 ⟨by kernel_rfl,⟨_,Tryz.underlying241,trivial⟩,fun _=>rfl,fun h=>(by cases h)⟩
theorem ti242 : TIok Tryz.prog 242 ⟨1,8,.nilFunc,.func,false⟩ :=
 ⟨by kernel_rfl,⟨_,Tryz.underlying242,trivial⟩,fun _=>rfl,fun h=>(by cases h)⟩
theorem ti243 : TIok Tryz.prog 243 ⟨1,8,.nilFunc,.func,false⟩ :=
 ⟨by kernel_rfl,⟨_,Tryz.underlying243,trivial⟩,fun _=>rfl,fun h=>(by cases h)⟩
theorem ti244 : TIok Tryz.prog 244 ⟨1,8,.nilFunc,.func,false⟩ :=
 ⟨by kernel_rfl,⟨_,Tryz.underlying244,trivial⟩,fun _=>rfl,fun h=>(by cases h)⟩
theorem ti245 : TIok Tryz.prog 245 ⟨5,40,.agg #[.int .i64 0,.int .i64 0,.int .i64 0,.int .i64 0,.int .i64 0],.arr 5 3,false⟩ :=
 ⟨by kernel_rfl,⟨_,Tryz.underlying245,⟨rfl,rfl⟩⟩,fun h=>(by cases h),fun h=>(by cases h)⟩
theorem ti246 : TIok Tryz.prog 246 ⟨1,8,.nilFunc,.func,false⟩ :=
 ⟨by kernel_rfl,⟨_,Tryz.underlying246,trivial⟩,fun _=>rfl,fun h=>(by cases h)⟩
theorem ti247 : TIok Tryz.prog 247 ⟨1,8,.nilFunc,.func,false⟩ :=
 ⟨by kernel_rfl,⟨_,Tryz.underlying247,trivial⟩,fun _=>rfl,fun h=>(by cases h)⟩
theorem ti248 : TIok Tryz.prog 248 ⟨1,8,.nilFunc,.func,false⟩ :=
 ⟨by kernel_rfl,⟨_,Tryz.underlying248,trivial⟩,fun _=>rfl,fun h=>(by cases h)⟩
theorem ti249 : TIok Tryz.prog 249 ⟨1,8,.nilFunc,.func,false⟩ :=
 ⟨by kernel_rfl,⟨_,Tryz.underlying249,trivial⟩,fun _=>rfl,fun h=>(by cases h)⟩
theorem ti250 : TIok Tryz.prog 250 ⟨1,8,.agg #[.nilFunc],.struct [(0,249)],false⟩ :=
 ⟨by kernel_rfl,⟨_,Tryz.underlying250,⟨rfl,rfl⟩⟩,fun h=>(by cases h),fun h=>(by cases h)⟩
theorem ti251 : TIok Tryz.prog 251 ⟨1,8,.agg #[.nilFunc],.struct [(0,249)],false⟩ :=
 ⟨by kernel_rfl,⟨_,Tryz.underlying251,⟨rfl,rfl⟩⟩,fun h=>(by cases h),fun h=>(by cases h)⟩
theorem ti253 : TIok Tryz.prog 253 ⟨1,8,.map none,.map 3 251,false⟩ :=
 ⟨by kernel_rfl,⟨_,Tryz.underlying253,⟨rfl,rfl⟩⟩,fun _=>rfl,fun h=>(by cases h)⟩
theorem ti254 : TIok Tryz.prog 254 ⟨1,8,.nilFunc,.func,false⟩ :=
 ⟨by kernel_rfl,⟨_,Tryz.underlying254,trivial⟩,fun _=>rfl,fun h=>(by cases h)⟩
theorem ti255 : TIok Tryz.prog 255 ⟨1,8,.nilFunc,.func,false⟩ :=
 ⟨by kernel_rfl,⟨_,Tryz.underlying255,trivial⟩,fun _=>rfl,fun h=>(by cases h)⟩
theorem ti256 : TIok Tryz.prog 256 ⟨1,8,.nilFunc,.func,false⟩ :=
 ⟨by kernel_rfl,⟨_,Tryz.underlying256,trivial⟩,fun _=>rfl,fun h=>(by cases h)⟩
theorem ti257 : TIok Tryz.prog 257 ⟨1,8,.nilFunc,.func,false⟩ :=
 ⟨by kernel_rfl,⟨_,Tryz.underlying257,trivial⟩,fun _=>rfl,fun h=>(by cases h)⟩
theorem ti258 : TIok Tryz.prog 258 ⟨1,8,.nilFunc,.func,false⟩ :=
 ⟨by kernel_rfl,⟨_,Tryz.underlying258,trivial⟩,fun _=>rfl,fun h=>(by cases h)⟩
theorem ti259 : TIok Tryz.prog 259 ⟨1,8,.nilFunc,.func,false⟩ :=
 ⟨by kernel_rfl,⟨_,Tryz.underlying259,trivial⟩,fun _=>rfl,fun h=>(by cases h)⟩
theorem ti260 : TIok Tryz.prog 260 ⟨1,8,.pointer none,.ptr 240,false⟩ :=
 ⟨by kernel_rfl,⟨_,Tryz.underlying260,rfl⟩,fun _=>rfl,fun h=>(by cases h)⟩
theorem ti261 : TIok Tryz.prog 261 ⟨1,8,.nilFunc,.func,false⟩ :=
 ⟨by kernel_rfl,⟨_,Tryz.underlying261,trivial⟩,fun _=>rfl,fun h=>(by cases h)⟩
theorem ti262 : TIok Tryz.prog 262 ⟨1,8,.nilFunc,.func,false⟩ :=
 ⟨by kernel_rfl,⟨_,Tryz.underlying262,trivial⟩,fun _=>rfl,fun h=>(by cases h)⟩
theorem ti263 : TIok Tryz.prog 263 ⟨1,8,.nilFunc,.func,false⟩ :=
 ⟨by kernel_rfl,⟨_,Tryz.underlying263,trivial⟩,fun _=>rfl,fun h=>(by cases h)⟩
theorem ti264 : TIok Tryz.prog 264 ⟨1,8,.nilFunc,.func,false⟩ :=
 ⟨by kernel_rfl,⟨_,Tryz.underlying264,trivial⟩,fun _=>rfl,fun h=>(by cases h)⟩
theorem ti270 : TIok Tryz.prog 270 ⟨1,8,.nilFunc,.func,false⟩ :=
 ⟨by kernel_rfl,⟨_,Tryz.underlying270,trivial⟩,fun _=>rfl,fun h=>(by cases h)⟩
theorem ti273 : TIok Tryz.prog 273 ⟨1,8,.nilFunc,.func,false⟩ :=
 ⟨by kernel_rfl,⟨_,Tryz.underlying273,trivial⟩,fun _=>rfl,fun h=>(by cases h)⟩
theorem ti274 : TIok Tryz.prog 274 ⟨1,8,.pointer none,.ptr 5,false⟩ :=
 ⟨by kernel_rfl,⟨_,Tryz.underlying274,rfl⟩,fun _=>rfl,fun h=>(by cases h)⟩
theorem mixed : C.P.follows .mixedOrders = true:=by kernel_rfl
theorem C_ok : C.OK:=⟨tabAll.out (P:=Tryz.prog) (l:=tab) ⟨ti1,ti2,ti3,ti4,ti5,ti9,ti12,ti20,ti21,ti22,ti23,ti24,ti25,ti26,ti27,ti28,ti29,ti30,ti31,ti33,ti34,ti35,ti36,ti38,ti40,ti41,ti42,ti44,ti45,ti47,ti48,ti49,ti50,ti51,ti52,ti53,ti54,ti55,ti57,ti58,ti59,ti60,ti61,ti62,ti63,ti64,ti65,ti66,ti67,ti68,ti69,ti71,ti73,ti74,ti75,ti76,ti77,ti78,ti79,ti81,ti82,ti83,ti84,ti85,ti86,ti87,ti88,ti89,ti90,ti91,ti92,ti93,ti94,ti95,ti96,ti97,ti98,ti99,ti100,ti101,ti102,ti103,ti104,ti105,ti106,ti107,ti108,ti109,ti110,ti111,ti112,ti113,ti114,ti115,ti116,ti117,ti119,ti120,ti121,ti122,ti124,ti125,ti126,ti127,ti128,ti129,ti130,ti131,ti132,ti133,ti134,ti135,ti136,ti137,ti138,ti139,ti140,ti141,ti142,ti143,ti144,ti145,ti146,ti147,ti148,ti149,ti150,ti151,ti152,ti153,ti154,ti155,ti156,ti157,ti158,ti159,ti160,ti161,ti162,ti163,ti164,ti165,ti166,ti167,ti168,ti169,ti170,ti171,ti172,ti173,ti174,ti175,ti176,ti177,ti179,ti180,ti181,ti182,ti183,ti184,ti185,ti186,ti187,ti188,ti189,ti190,ti191,ti192,ti193,ti194,ti195,ti196,ti197,ti198,ti199,ti200,ti201,ti202,ti203,ti204,ti205,ti206,ti207,ti208,ti209,ti210,ti211,ti212,ti214,ti215,ti216,ti217,ti218,ti219,ti220,ti221,ti222,ti223,ti224,ti225,ti226,ti227,ti228,ti229,ti230,ti231,ti233,ti234,ti235,ti236,ti237,ti238,ti239,ti240,ti241,ti242,ti243,ti244,ti245,ti246,ti247,ti248,ti249,ti250,ti251,ti253,ti254,ti255,ti256,ti257,ti258,ti259,ti260,ti261,ti262,ti263,ti264,ti270,ti273,ti274,trivial⟩,fun _ fn h=>⟨fn,h⟩,fun _ h=>h⟩
instance : Quiet C:=⟨fun _ _ h=>h⟩
end Go.Proofs.YtihibgcojdfndaaGreatDoor
namespace Go.Tidy
def Det (f : (V → List Blk → Prop) → Prop) : Prop:=∃ (p : Prop) (v : V) (L : List Blk),∀ k,f k ↔ (p ∧ k v L)
theorem Det.no : Det (fun _=>False):=⟨False,.poison,[],fun k=>by simp⟩
theorem Det.ret (v : V) (L : List Blk) : Det (fun k=>k v L):=⟨True,v,L,fun k=>by simp⟩
theorem Det.need {p : Prop} {f : (V → List Blk → Prop) → Prop} (h : Det f) : Det (fun k=>Need p (f k)):=by
 obtain ⟨q,v,L,h⟩:=h
 exact ⟨p ∧ q,v,L,fun k=>⟨fun hn=>⟨⟨hn.out.1,((h k).1 hn.out.2).1⟩,((h k).1 hn.out.2).2⟩,fun hn=>Need.intro hn.1.1 ((h k).2 ⟨hn.1.2,hn.2⟩)⟩⟩
theorem Det.bif {b : Bool} {f : (V → List Blk → Prop) → Prop} (h : Det f) : Det (fun k=>bif b then f k else False):=by
 cases b
 ·exact Det.no
 ·exact h
theorem Det.br {t : Bool} {f : Bool → (V → List Blk → Prop) → Prop} (h : ∀ b,Det (f b)) : Det (fun k=>Br t fun b=>f b k):=by
 obtain ⟨q,v,L,h⟩:=h t
 exact ⟨q,v,L,fun k=>⟨fun hb=>(h k).1 hb.out,fun hb=>Br.lit t rfl ((h k).2 hb)⟩⟩
theorem Det.getE {α : Type} {els : List α} {n : Nat} {f : α → (V → List Blk → Prop) → Prop} (h : ∀ e,Det (f e)) : Det (fun k=>GetE els n fun e=>f e k):=by
 cases e : els[n]? with
 | none=>exact ⟨False,.poison,[],fun k=>by unfold GetE; simp [e]⟩
 | some x =>
  obtain ⟨q,v,L,h⟩:=h x
  refine ⟨q,v,L,fun k=>?_⟩
  unfold GetE
  constructor
  ·rintro ⟨y,hy,hk⟩; rw [e] at hy; cases hy; exact (h k).1 hk
  ·exact fun hk=>⟨x,e,(h k).2 hk⟩
theorem Det.idx {α : Type} {els : List α} {i : Int} {f : Nat → α → (V → List Blk → Prop) → Prop} (h : ∀ n e,Det (f n e)) : Det (fun k=>Idx els i fun n e=>f n e k):=by
 by_cases hh : ∃ n : Nat,i = n ∧ ∃ e,els[n]? = some e
 ·obtain ⟨n,hn,x,e⟩:=hh
  obtain ⟨q,v,L,h⟩:=h n x
  refine ⟨q,v,L,fun k=>?_⟩
  unfold Idx
  constructor
  ·rintro ⟨m,hm,y,hy,hk⟩
   have : m = n:=by omega
   subst this
   rw [e] at hy; cases hy; exact (h k).1 hk
  ·exact fun hk=>⟨n,hn,x,e,(h k).2 hk⟩
 ·refine ⟨False,.poison,[],fun k=>?_⟩
  unfold Idx
  constructor
  ·rintro ⟨m,hm,y,hy,hk⟩; exact absurd ⟨m,hm,y,hy⟩ hh
  ·exact fun h=>h.1.elim
theorem Det.idxN {len : Nat} {i : Int} {f : Nat → (V → List Blk → Prop) → Prop} (h : ∀ n,Det (f n)) : Det (fun k=>IdxN len i fun n=>f n k):=by
 by_cases hh : ∃ n : Nat,i = n ∧ n < len
 ·obtain ⟨n,hn,hl⟩:=hh
  obtain ⟨q,v,L,h⟩:=h n
  refine ⟨q,v,L,fun k=>?_⟩
  unfold IdxN
  constructor
  ·rintro ⟨m,hm,_,hk⟩
   have : m = n:=by omega
   subst this
   exact (h k).1 hk
  ·exact fun hk=>⟨n,hn,hl,(h k).2 hk⟩
 ·refine ⟨False,.poison,[],fun k=>?_⟩
  unfold IdxN
  constructor
  ·rintro ⟨m,hm,hy,hk⟩; exact absurd ⟨m,hm,hy⟩ hh
  ·exact fun h=>h.1.elim
theorem isB_uniq {o : Option V} {d n m : Nat} (h : isB o d n) (h' : isB o d m) : n = m:=by
 unfold isB at h h'
 split at h
 ·simp at h'; omega
 ·rename_i a
  simp at h'; omega
 ·exact h.elim
theorem Det.slice {n : Nat} {lo hi : Option V} {f : Nat → Nat → (V → List Blk → Prop) → Prop} (h : ∀ l m,Det (f l m)) : Det (fun k=>SliceP n lo hi fun l m=>f l m k):=by
 by_cases hh : ∃ l m : Nat,isB lo 0 l ∧ isB hi n m ∧ l ≤ m ∧ m ≤ n
 ·obtain ⟨l,m,h1,h2,h3,h4⟩:=hh
  obtain ⟨q,v,L,h⟩:=h l m
  refine ⟨q,v,L,fun k=>?_⟩
  unfold SliceP
  constructor
  ·rintro ⟨l',m',h1',h2',_,_,hk⟩
   have:=isB_uniq h1 h1'
   have:=isB_uniq h2 h2'
   subst_vars
   exact (h k).1 hk
  ·exact fun hk=>⟨l,m,h1,h2,h3,h4,(h k).2 hk⟩
 ·refine ⟨False,.poison,[],fun k=>?_⟩
  unfold SliceP
  constructor
  ·rintro ⟨l,m,h1,h2,h3,h4,_⟩; exact absurd ⟨l,m,h1,h2,h3,h4⟩ hh
  ·exact fun h=>h.1.elim
theorem vLoad_det (C : Ctx) (t : TypeId) (x : V) (L M : List Blk) : Det (fun k=>vLoad C t x L fun v=>k v M):=by
 unfold vLoad
 repeat' (first | exact Det.no | exact Det.ret _ _ | apply Det.need | apply Det.bif | (apply Det.getE; intro _) | (apply Det.idx; intro _ _) | (apply Det.idxN; intro _) | (apply Det.slice; intro _ _) | (apply Det.br; intro _) | split)
theorem vStore_det (C : Ctx) (t : TypeId) (x y : V) (L : List Blk) : Det (fun k=>vStore C t x y L fun L'=>k .poison L'):=by
 unfold vStore
 repeat' (first | exact Det.no | exact Det.ret _ _ | apply Det.need | apply Det.bif | (apply Det.getE; intro _) | (apply Det.idx; intro _ _) | (apply Det.idxN; intro _) | (apply Det.slice; intro _ _) | (apply Det.br; intro _) | split)
theorem vBox_det (x : V) (L : List Blk) : Det (fun k=>vBox x L k):=by
 unfold vBox
 repeat' (first | exact Det.no | exact Det.ret _ _ | apply Det.need | apply Det.bif | (apply Det.getE; intro _) | (apply Det.idx; intro _ _) | (apply Det.idxN; intro _) | (apply Det.slice; intro _ _) | (apply Det.br; intro _) | split)
theorem vAlloc_det (C : Ctx) (t : TypeId) (L : List Blk) : Det (fun k=>vAlloc C t L k):=by
 unfold vAlloc
 repeat' (first | exact Det.no | exact Det.ret _ _ | apply Det.need | apply Det.bif | (apply Det.getE; intro _) | (apply Det.idx; intro _ _) | (apply Det.idxN; intro _) | (apply Det.slice; intro _ _) | (apply Det.br; intro _) | split)
theorem vFieldAddr_det (C : Ctx) (s : TypeId) (x : V) (f : Nat) (M : List Blk) : Det (fun k=>vFieldAddr C s x f fun v=>k v M):=by
 unfold vFieldAddr
 repeat' (first | exact Det.no | exact Det.ret _ _ | apply Det.need | apply Det.bif | (apply Det.getE; intro _) | (apply Det.idx; intro _ _) | (apply Det.idxN; intro _) | (apply Det.slice; intro _ _) | (apply Det.br; intro _) | split)
theorem vIndexAddr_det (C : Ctx) (t : TypeId) (x i : V) (L M : List Blk) : Det (fun k=>vIndexAddr C t x i (fun v=>k v M) L):=by
 unfold vIndexAddr
 repeat' (first | exact Det.no | exact Det.ret _ _ | apply Det.need | apply Det.bif | (apply Det.getE; intro _) | (apply Det.idx; intro _ _) | (apply Det.idxN; intro _) | (apply Det.slice; intro _ _) | (apply Det.br; intro _) | split)
theorem vBin_det (C : Ctx) (op : BinOp) (t : TypeId) (x y : V) (M : List Blk) : Det (fun k=>vBin C op t x y fun v=>k v M):=by
 unfold vBin intBin strBin vNilI
 repeat' (first | exact Det.no | exact Det.ret _ _ | apply Det.need | apply Det.bif | (apply Det.getE; intro _) | (apply Det.idx; intro _ _) | (apply Det.idxN; intro _) | (apply Det.slice; intro _ _) | (apply Det.br; intro _) | split)
theorem vUn_det (op : UnOp) (x : V) (M : List Blk) : Det (fun k=>vUn op x fun v=>k v M):=by
 unfold vUn
 repeat' (first | exact Det.no | exact Det.ret _ _ | apply Det.need | apply Det.bif | (apply Det.getE; intro _) | (apply Det.idx; intro _ _) | (apply Det.idxN; intro _) | (apply Det.slice; intro _ _) | (apply Det.br; intro _) | split)
theorem vConv_det (C : Ctx) (s t : TypeId) (x : V) (M : List Blk) : Det (fun k=>vConv C s t x fun v=>k v M):=by
 unfold vConv
 repeat' (first | exact Det.no | exact Det.ret _ _ | split)
theorem Det.bytes {els : List (List V)} {f : ByteArray → (V → List Blk → Prop) → Prop} (h : ∀ s,Det (f s)) : Det (fun k=>BytesP els fun s=>f s k):=by
 by_cases hh : ∃ s : List UInt8,els = bytesV s
 ·obtain ⟨s,rfl⟩:=hh
  obtain ⟨q,v,L,h⟩:=h ⟨s.toArray⟩
  refine ⟨q,v,L,fun k=>?_⟩
  unfold BytesP
  constructor
  ·rintro ⟨s',e,hk⟩
   have : s = s':=bytesV_inj e
   subst this
   exact (h k).1 hk
  ·exact fun hk=>⟨s,rfl,(h k).2 hk⟩
 ·refine ⟨False,.poison,[],fun k=>?_⟩
  unfold BytesP
  constructor
  ·rintro ⟨s,e,_⟩; exact absurd ⟨s,e⟩ hh
  ·exact fun h=>h.1.elim
theorem vConvL_det (C : Ctx) (s t : TypeId) (x : V) (L M : List Blk) : Det (fun k=>vConvL C s t x L fun v=>k v M):=by
 unfold vConvL
 cases isSlT C s with
 | false=>exact vConv_det C s t x M
 | true =>
  unfold vBytes vSrc
  repeat' (first | exact Det.no | exact Det.ret _ _ | apply Det.need | apply Det.bif | (apply Det.bytes; intro _) | split)
theorem vBuild_det (C : Ctx) (t : TypeId) (ps : List (Nat × V)) (M : List Blk) : Det (fun k=>vBuild C t ps fun v=>k v M):=by
 unfold vBuild
 repeat' (first | exact Det.no | exact Det.ret _ _ | apply Det.need | apply Det.bif | (apply Det.getE; intro _) | (apply Det.idx; intro _ _) | (apply Det.idxN; intro _) | (apply Det.slice; intro _ _) | (apply Det.br; intro _) | split)
theorem vBuildSlice_det (C : Ctx) (t : TypeId) (len : Nat) (ps : List (Nat × V)) (L : List Blk) : Det (fun k=>vBuildSlice C t len ps L k):=by
 unfold vBuildSlice
 repeat' (first | exact Det.no | exact Det.ret _ _ | apply Det.need | apply Det.bif | (apply Det.getE; intro _) | (apply Det.idx; intro _ _) | (apply Det.idxN; intro _) | (apply Det.slice; intro _ _) | (apply Det.br; intro _) | split)
theorem vSlice_det (C : Ctx) (t : TypeId) (x : V) (lo hi mx : Option V) (L M : List Blk) : Det (fun k=>vSlice C t x lo hi mx L fun v=>k v M):=by
 unfold vSlice
 repeat' (first | exact Det.no | exact Det.ret _ _ | apply Det.need | apply Det.bif | (apply Det.getE; intro _) | (apply Det.idx; intro _ _) | (apply Det.idxN; intro _) | (apply Det.slice; intro _ _) | (apply Det.br; intro _) | split)
theorem vLenL_det (C : Ctx) (t : TypeId) (x : V) (L M : List Blk) : Det (fun k=>vLenL C t x L fun v=>k v M):=by
 unfold vLenL vLen
 repeat' (first | exact Det.no | exact Det.ret _ _ | apply Det.need | apply Det.bif | (apply Det.getE; intro _) | (apply Det.idx; intro _ _) | (apply Det.idxN; intro _) | (apply Det.slice; intro _ _) | (apply Det.br; intro _) | split)
theorem vAppend_det (C : Ctx) (t : TypeId) (s x : V) (L : List Blk) : Det (fun k=>vAppend C t s x L k):=by
 unfold vAppend vSrc
 repeat' (first | exact Det.no | exact Det.ret _ _ | apply Det.need | apply Det.bif | (apply Det.getE; intro _) | (apply Det.idx; intro _ _) | (apply Det.idxN; intro _) | (apply Det.slice; intro _ _) | (apply Det.br; intro _) | split)
theorem Det.mapF {tk : TK} {es : List (V × V)} {key : V} {f : Option (Nat × V) → (V → List Blk → Prop) → Prop} (h : ∀ r,Det (f r)) : Det (fun k=>MapF tk es key fun r=>f r k):=by
 by_cases h0 : ∀ kv ∈ es,keyV tk kv.1 = true
 ·by_cases hh : ∃ i v,es[i]? = some (key,v) ∧ (∀ (j : Nat) (kv : V × V),j < i → es[j]? = some kv → kv.1 ≠ key)
  ·obtain ⟨i,v,hi,hj⟩:=hh
   obtain ⟨q,x,L,h⟩:=h (some (i,v))
   refine ⟨q,x,L,fun k=>⟨fun hm=>?_,fun hk=>MapF.hit i v h0 hi hj ((h k).2 hk)⟩⟩
   unfold MapF at hm
   rcases hm.2 with ⟨i',v',hi',hj',hk⟩ | ⟨hno,_⟩
   ·have : i = i':=by
     rcases Nat.lt_trichotomy i i' with h | h | h
     ·exact absurd rfl (hj' i _ h hi)
     ·exact h
     ·exact absurd rfl (hj i' _ h hi')
    subst this
    rw [hi] at hi'; cases hi'
    exact (h k).1 hk
   ·exact absurd rfl (hno _ (List.mem_of_getElem? hi))
  ·obtain ⟨q,x,L,h⟩:=h none
   refine ⟨(∀ kv ∈ es,kv.1 ≠ key) ∧ q,x,L,fun k=>⟨fun hm=>?_,fun hk=>MapF.miss h0 hk.1.1 ((h k).2 ⟨hk.1.2,hk.2⟩)⟩⟩
   unfold MapF at hm
   rcases hm.2 with ⟨i',v',hi',hj',_⟩ | ⟨hno,hk⟩
   ·exact absurd ⟨i',v',hi',hj'⟩ hh
   ·exact ⟨⟨hno,((h k).1 hk).1⟩,((h k).1 hk).2⟩
 ·refine ⟨False,.poison,[],fun k=>⟨fun hm=>?_,fun hk=>hk.1.elim⟩⟩
  unfold MapF at hm
  exact absurd hm.1 h0
theorem vLookup_det (C : Ctx) (t : TypeId) (m key : V) (ok : Bool) (L M : List Blk) : Det (fun k=>vLookup C t m key ok L fun v=>k v M):=by
 unfold vLookup
 repeat' (first | exact Det.no | exact Det.ret _ _ | apply Det.need | apply Det.bif | (apply Det.mapF; intro _) | split)
theorem vMapUpdate_det (C : Ctx) (t : TypeId) (m key x : V) (L : List Blk) : Det (fun k=>vMapUpdate C t m key x L fun L'=>k .poison L'):=by
 unfold vMapUpdate
 repeat' (first | exact Det.no | exact Det.ret _ _ | apply Det.need | apply Det.bif | (apply Det.mapF; intro _) | split)
theorem vMapEntry_det (C : Ctx) (t : TypeId) (m key : V) (L : List Blk) : Det (fun k=>vMapEntry C t m key L k):=by
 unfold vMapEntry
 repeat' (first | exact Det.no | exact Det.ret _ _ | apply Det.need | apply Det.bif | (apply Det.mapF; intro _) | split)
theorem vEntryStore_det (m s x : V) (L : List Blk) : Det (fun k=>vEntryStore m s x L fun L'=>k .poison L'):=by
 unfold vEntryStore
 repeat' (first | exact Det.no | exact Det.ret _ _ | (apply Det.idxN; intro _) | (apply Det.getE; intro _) | split)
def isCall : Op → Bool
 | .call c=>match c.callee with | .value _=>true | .invoke ..=>true | _=>false
 | .binOp _ _ _ y _=>isNilSl y
 | .panic _=>true
 | _=>false
theorem vSlice3_det (C : Ctx) (t : TypeId) (x : V) (lo hi : Option V) (m : V) (L : List Blk) : Det (fun k=>vSlice3 C t x lo hi m L k):=by
 unfold vSlice3
 repeat' (first | exact Det.no | exact Det.ret _ _ | apply Det.need | apply Det.bif | split)
theorem vSlice4_det (C : Ctx) (t : TypeId) (x : V) (lo hi : Option V) (m : V) (L : List Blk) : Det (fun k=>vSlice4 C t x lo hi m L k):=by
 unfold vSlice4
 repeat' (first | exact Det.no | exact Det.ret _ _ | apply Det.need | apply Det.bif | (apply Det.slice; intro _ _) | split)
theorem vSliceM_det (C : Ctx) (t : TypeId) (x : V) (lo hi mx : Option V) (c : Bool) (L : List Blk) : Det (fun k=>vSliceM C t x lo hi mx c L k):=by
 cases mx with
 | none=>exact vSlice_det C t x lo hi none L L
 | some m=>cases c with
  | true=>exact vSlice3_det C t x lo hi m L
  | false=>exact vSlice4_det C t x lo hi m L
theorem vClear_det (C : Ctx) (t : TypeId) (s : V) (L : List Blk) : Det (fun k=>vClear C t s L fun L'=>k (.tup []) L'):=by
 unfold vClear
 repeat' (first | exact Det.no | exact Det.ret _ _ | apply Det.need | apply Det.bif | split)
theorem vMin_det (x y : V) (L : List Blk) : Det (fun k=>vMin x y fun v=>k v L):=by
 unfold vMin
 repeat' (first | exact Det.no | exact Det.ret _ _ | apply Det.bif | split)
theorem vMax_det (x y : V) (L : List Blk) : Det (fun k=>vMax x y fun v=>k v L):=by
 unfold vMax
 repeat' (first | exact Det.no | exact Det.ret _ _ | apply Det.bif | split)
theorem vMakeIface_det (C : Ctx) (t : TypeId) (x : V) (L : List Blk) : Det (fun k=>vMakeIface C t x fun v=>k v L):=by
 unfold vMakeIface
 repeat' (first | exact Det.no | exact Det.ret _ _ | apply Det.bif | split)
theorem vTypeAssert_det (C : Ctx) (x : V) (t : TypeId) (ok : Bool) (L : List Blk) : Det (fun k=>vTypeAssert C x t ok fun v=>k v L):=by
 unfold vTypeAssert vHold vFail
 repeat' (first | exact Det.no | exact Det.ret _ _ | apply Det.bif | split)
theorem Det.makeP {n m : Int} {f : Nat → (V → List Blk → Prop) → Prop} (h : ∀ a,Det (f a)) : Det (fun k=>MakeP n m fun a=>f a k):=by
 by_cases hh : ∃ a b : Nat,n = a ∧ m = b ∧ a ≤ b ∧ b ≤ 4294967296
 ·obtain ⟨a,b,h1,h2,h3,h4⟩:=hh
  obtain ⟨q,v,L,h⟩:=h a
  refine ⟨q,v,L,fun k=>?_⟩
  unfold MakeP
  constructor
  ·rintro ⟨a',b',e1,_,_,_,hk⟩
   have : a' = a:=by omega
   subst this
   exact (h k).1 hk
  ·exact fun hk=>⟨a,b,h1,h2,h3,h4,(h k).2 hk⟩
 ·refine ⟨False,.poison,[],fun k=>?_⟩
  unfold MakeP
  constructor
  ·rintro ⟨a,b,e1,e2,e3,e4,_⟩; exact absurd ⟨a,b,e1,e2,e3,e4⟩ hh
  ·exact fun h=>h.1.elim
theorem vMakeSlice_det (C : Ctx) (t : TypeId) (x y : V) (L : List Blk) : Det (fun k=>vMakeSlice C t x y L k):=by
 unfold vMakeSlice
 repeat' (first | exact Det.no | exact Det.ret _ _ | apply Det.bif | (apply Det.makeP; intro _) | split)
theorem vIndex_det (C : Ctx) (t : TypeId) (x i : V) (L : List Blk) : Det (fun k=>vIndex C t x i fun v=>k v L):=by
 unfold vIndex
 repeat' (first | exact Det.no | exact Det.ret _ _ | (apply Det.idxN; intro _) | split)
theorem vOp_det (C : Ctx) (o : Oper) (fr : List (Nat × V)) (L : List Blk) (hc : isCall o.op = false) : Det (fun k=>vOp C o fr L k):=by
 unfold vOp
 cases h : o.op
 case call c =>
  simp only [h,isCall] at hc
  dsimp only []
  cases hcal : c.callee with
  | value f=>simp [hcal] at hc
  | invoke r m=>simp [hcal] at hc
  | builtin b =>
   cases b <;> dsimp only [] <;> repeat' (first | exact Det.no | exact Det.ret _ _ | apply Det.need | apply Det.bif | (apply Det.getE; intro _) | (apply Det.idx; intro _ _) | (apply Det.idxN; intro _) | (apply Det.slice; intro _ _) | (apply Det.br; intro _) | exact vLenL_det _ _ _ _ _ | exact vAppend_det _ _ _ _ _ | exact vClear_det _ _ _ _ | exact vMin_det _ _ _ | exact vMax_det _ _ _ | split)
 case panic x=>rw [h] at hc; cases hc
 case binOp op t x y u =>
  rw [h] at hc
  simp only [isCall] at hc
  dsimp only []
  rw [hc]
  exact vBin_det _ _ _ _ _ _
 case makeFunc fn first caps =>
  cases fn <;> dsimp only []
  all_goals repeat' (first | exact Det.no | exact Det.ret _ _ | apply Det.need | apply Det.bif | (apply Det.getE; intro _) | (apply Det.idx; intro _ _) | (apply Det.idxN; intro _) | (apply Det.slice; intro _ _) | (apply Det.br; intro _) | split)
 case makeMap t r =>
  cases r <;> dsimp only []
  ·exact Det.ret _ _
  ·exact Det.no
 all_goals try dsimp only []
 all_goals repeat' (first | exact Det.no | exact Det.ret _ _ | apply Det.need | apply Det.bif | (apply Det.getE; intro _) | (apply Det.idx; intro _ _) | (apply Det.idxN; intro _) | (apply Det.slice; intro _ _) | (apply Det.br; intro _) | exact vLoad_det _ _ _ _ _ | exact vStore_det _ _ _ _ _ | exact vBox_det _ _ | exact vAlloc_det _ _ _ | exact vFieldAddr_det _ _ _ _ _ | exact vMakeIface_det _ _ _ _ | exact vTypeAssert_det _ _ _ _ _ | exact vIndex_det _ _ _ _ _ | exact vMakeSlice_det _ _ _ _ _ | exact vIndexAddr_det _ _ _ _ _ _ | exact vBin_det _ _ _ _ _ _ | exact vUn_det _ _ _ | exact vConvL_det _ _ _ _ _ _ | exact vBuild_det _ _ _ _ | exact vBuildSlice_det _ _ _ _ _ | exact vSliceM_det _ _ _ _ _ _ _ _ | exact vLookup_det _ _ _ _ _ _ _ | exact vMapUpdate_det _ _ _ _ _ _ | exact vMapEntry_det _ _ _ _ _ | exact vEntryStore_det _ _ _ _ | split)
theorem YieldP.mono {C : Ctx} {b : Nat} {args : List V} {L : List Blk} {k k' : V → List Blk → Prop} (h : YieldP C b args L k) (hk : ∀ X L',k X L' → k' X L') : YieldP C b args L k':=by
 unfold YieldP at h ⊢
 intro g w vs l hg hv hy
 obtain ⟨f,tmps,assign,body,h1,h2⟩:=h g w vs l hg hv hy
 refine ⟨f,tmps,assign,body,h1,RoundIn.mono h2 ?_⟩
 rintro e w' (⟨v,X,L',g',he,hX,hr⟩ | h)
 ·exact .inl ⟨v,X,L',g',he,hk _ _ hX,hr⟩
 ·exact .inr h
theorem vCallV_mono {C : Ctx} {f : V} {args : List V} {L : List Blk} {k k' : V → List Blk → Prop} (h : vCallV C f args L k) (hk : ∀ X L',k X L' → k' X L') : vCallV C f args L k':=by
 unfold vCallV at *
 split at h
 ·exact YieldP.mono h hk
 ·unfold vCallF at *
  split at h
  ·exact CallP.mono h hk
  ·exact CallP.mono h hk
  ·exact h.elim
theorem vNilSl_mono {C : Ctx} {op : BinOp} {t : TypeId} {x : V} {L : List Blk} {k k' : V → Prop} (h : vNilSl C op t x L k) (hk : ∀ v,k v → k' v) : vNilSl C op t x L k':=by
 have q : ∀ {q q' : Bool → Prop},(∀ b,q b → q' b) → vNilQ x L q → vNilQ x L q':=by
  intro q q' hq h
  have n : ∀ {n : Nat},NilP n q → NilP n q':=fun h=>by unfold NilP at h ⊢; exact ⟨fun h0=>hq _ (h.1 h0),hq _ h.2⟩
  unfold vNilQ at h ⊢
  split at h
  ·exact hq _ h
  ·exact n h
  ·split at h
   ·rename_i b gen lo len _ _ gen' _ _ _
    cases hb : Nat.beq gen gen' with
    | false=>simp [hb] at h
    | true=>simp only [hb,cond_true] at h ⊢; exact n h
   ·exact h.elim
  ·exact h.elim
 unfold vNilSl at h ⊢
 split at h
 ·split at h
  ·split at h
   ·exact q (fun b hb=>hk _ hb) h
   ·exact q (fun b hb=>hk _ hb) h
   ·exact h.elim
  ·exact h.elim
 ·exact h.elim
theorem vInvoke_mono {C : Ctx} {x : V} {name : String} {args : List V} {L : List Blk} {k k' : V → List Blk → Prop} (h : vInvoke C x name args L k) (hk : ∀ X L',k X L' → k' X L') : vInvoke C x name args L k':=by
 have m : ∀ {t : TypeId} {y : V},(MethP C t name fun f=>CallP C f (y :: args) L k) → MethP C t name fun f=>CallP C f (y :: args) L k':=fun h=>by
  unfold MethP at h ⊢
  obtain ⟨f,h1,h2⟩:=h
  exact ⟨f,h1,CallP.mono h2 hk⟩
 unfold vInvoke at h ⊢
 split at h
 ·exact m h
 ·exact m h
 ·exact h.elim
theorem vOp_mono {C : Ctx} {o : Oper} {fr : List (Nat × V)} {L : List Blk} {k k' : V → List Blk → Prop} (h : vOp C o fr L k) (hk : ∀ X L',k X L' → k' X L') : vOp C o fr L k':=by
 cases hc : isCall o.op with
 | false =>
  obtain ⟨p,v,M,hd⟩:=vOp_det C o fr L hc
  have:=(hd k).1 h
  exact (hd k').2 ⟨this.1,hk _ _ this.2⟩
 | true =>
  unfold isCall at hc
  split at hc
  ·rename_i c hop
   split at hc
   ·rename_i f hcal
    unfold vOp at h ⊢
    simp only [hop,hcal] at h ⊢
    exact vCallV_mono h hk
   ·rename_i r m hcal
    unfold vOp at h ⊢
    simp only [hop,hcal] at h ⊢
    exact vInvoke_mono h hk
   ·cases hc
  ·rename_i op t x y u hop
   unfold vOp at h ⊢
   simp only [hop,hc] at h ⊢
   exact vNilSl_mono h fun v hv=>hk v L hv
  ·rename_i x hop
   unfold vOp at h ⊢
   simp only [hop] at h ⊢
   exact h
  ·cases hc
section
variable {C : Ctx} {fr fr' : List (Nat × V)} {L : List Blk} {k : V → List Blk → Prop}
theorem ev_congr {x : Operand} (h : ∀ t,x = .tmp t → look fr t = look fr' t) : ev fr x = ev fr' x:=by
 cases x with
 | tmp t=>simp only [ev,h t rfl]
 | _=>rfl
theorem evB_congr {x : Operand} (h : ∀ t,x = .tmp t → look fr t = look fr' t) : evB fr x = evB fr' x:=by
 cases x with
 | tmp t=>simp only [evB,h t rfl]
 | const v =>
  cases v <;> try rfl
  rename_i b
  cases b <;> rfl
 | _=>rfl
theorem vOp_congr {o : Oper} (h : ∀ t,Operand.tmp t ∈ o.op.operands.toList → look fr t = look fr' t) : vOp C o fr L k = vOp C o fr' L k:=by
 have hev : ∀ x,x ∈ o.op.operands.toList → ev fr x = ev fr' x:=fun x hx=>ev_congr fun t ht=>h t (ht ▸ hx)
 have hevB : ∀ x,x ∈ o.op.operands.toList → evB fr x = evB fr' x:=fun x hx=>evB_congr fun t ht=>h t (ht ▸ hx)
 unfold vOp
 cases ho : o.op
 all_goals rw [ho] at hev hevB
 case move x=>simp only [hevB x (by simp [Op.operands])]
 case assign x=>simp only [hevB x (by simp [Op.operands])]
 case pick c a b=>simp only [hevB a (by simp [Op.operands]),hevB b (by simp [Op.operands]),hevB c (by simp [Op.operands])]
 case box t x=>simp only [hev x (by simp [Op.operands])]
 case build t ps =>
  have : ps.toList.map (fun p=>(p.1,ev fr p.2)) = ps.toList.map fun p=>(p.1,ev fr' p.2) :=
   List.map_congr_left fun p hp=>by rw [hev p.2 (by simp only [Op.operands,List.mem_map]; exact ⟨p,hp,rfl⟩)]
  simp only [this]
 case buildSlice t len ps =>
  have : ps.toList.map (fun p=>(p.1,ev fr p.2)) = ps.toList.map fun p=>(p.1,ev fr' p.2) :=
   List.map_congr_left fun p hp=>by rw [hev p.2 (by simp only [Op.operands,List.mem_map]; exact ⟨p,hp,rfl⟩)]
  simp only [this]
 case load t x=>simp only [hev x (by simp [Op.operands])]
 case panic x=>simp only [hev x (by simp [Op.operands])]
 case store t x y=>simp only [hev x (by simp [Op.operands]),hev y (by simp [Op.operands])]
 case nilCheck x=>simp only [hev x (by simp [Op.operands])]
 case binOp op t x y u=>simp only [hev x (by simp [Op.operands]),hev y (by simp [Op.operands])]
 case unOp op t x=>simp only [hevB x (by simp [Op.operands])]
 case convert s t x=>simp only [hev x (by simp [Op.operands])]
 case fieldAddr s x f=>simp only [hev x (by simp [Op.operands])]
 case field s x f=>simp only [hev x (by simp [Op.operands])]
 case indexAddr t x i=>simp only [hev x (by simp [Op.operands]),hev i (by simp [Op.operands])]
 case makeSlice t x y=>simp only [hev x (by simp [Op.operands]),hev y (by simp [Op.operands])]
 case extract x i=>simp only [hev x (by simp [Op.operands])]
 case slice t x lo hi mx =>
  have h1 : lo.map (ev fr) = lo.map (ev fr'):=by cases lo with | none=>rfl | some y=>simp only [Option.map_some,hev y (by simp [Op.operands])]
  have h2 : hi.map (ev fr) = hi.map (ev fr'):=by cases hi with | none=>rfl | some y=>simp only [Option.map_some,hev y (by simp [Op.operands])]
  have h3 : mx.map (ev fr) = mx.map (ev fr'):=by cases mx with | none=>rfl | some y=>simp only [Option.map_some,hev y (by simp [Op.operands])]
  simp only [hev x (by simp [Op.operands]),h1,h2,h3]
 case makeMap t r=>cases r <;> rfl
 case makeInterface t x=>simp only [hev x (by simp [Op.operands])]
 case typeAssert x xt t ok=>simp only [hev x (by simp [Op.operands])]
 case index t x i=>simp only [hev x (by simp [Op.operands]),hev i (by simp [Op.operands])]
 case lookup t x i ok=>simp only [hev x (by simp [Op.operands]),hev i (by simp [Op.operands])]
 case mapUpdate t m x v=>simp only [hev m (by simp [Op.operands]),hev x (by simp [Op.operands]),hev v (by simp [Op.operands])]
 case insert t m x v=>simp only [hev m (by simp [Op.operands]),hev x (by simp [Op.operands]),hev v (by simp [Op.operands])]
 case mapEntry t m x=>simp only [hev m (by simp [Op.operands]),hev x (by simp [Op.operands])]
 case entryStore t m s v=>simp only [hev m (by simp [Op.operands]),hev s (by simp [Op.operands]),hev v (by simp [Op.operands])]
 case makeFunc fn first caps =>
  have : caps.toList.map (ev fr) = caps.toList.map (ev fr'):=List.map_congr_left fun p hp=>hev p (by simp only [Op.operands,Array.toList_append,List.mem_append]; exact .inr hp)
  cases fn <;> simp only [this]
 case call c =>
  obtain ⟨cal,args,tys⟩:=c
  have hm : ∀ x,x ∈ args.toList → ev fr x = ev fr' x:=fun p hp=>hev p (by simp only [Op.operands,Call.operands,Array.toList_append,List.mem_append]; exact .inr hp)
  have ha : args.toList.map (ev fr) = args.toList.map (ev fr'):=List.map_congr_left hm
  cases cal with
  | value f=>simp only [ha,hev f (by simp [Op.operands,Call.operands])]
  | invoke r m=>simp only [ha,hev r (by simp [Op.operands,Call.operands])]
  | builtin b =>
   cases b <;> dsimp only []
   case len =>
    split
    ·rename_i x t h1 h2
     rw [hm x (by rw [h1]; simp)]
    ·rfl
   case append =>
    split
    ·rename_i x y t t' h1 h2
     rw [hm x (by rw [h1]; simp),hm y (by rw [h1]; simp)]
    ·rfl
   case clear =>
    split
    ·rename_i x t h1 h2
     rw [hm x (by rw [h1]; simp)]
    ·rfl
   case min =>
    split
    ·rename_i x y h1
     rw [hm x (by rw [h1]; simp),hm y (by rw [h1]; simp)]
    ·rfl
   case max =>
    split
    ·rename_i x y h1
     rw [hm x (by rw [h1]; simp),hm y (by rw [h1]; simp)]
    ·rfl
def isPure : Op → Bool
 | .move _ | .assign _ | .pick .. | .build .. | .nilCheck _ | .unOp .. | .fieldAddr .. | .field .. | .extract .. | .makeFunc .. | .makeInterface .. | .typeAssert .. | .index ..=>true
 | .binOp _ _ _ y _=>!isNilSl y
 | _=>false
def Pu (f : List Blk → (V → List Blk → Prop) → Prop) : Prop:=∃ (p : Prop) (v : V),∀ L k,f L k ↔ (p ∧ k v L)
theorem Pu.no : Pu (fun _ _=>False):=⟨False,.poison,fun L k=>by simp⟩
theorem Pu.ret (v : V) : Pu (fun L k=>k v L):=⟨True,v,fun L k=>by simp⟩
theorem Pu.need {p : Prop} {f : List Blk → (V → List Blk → Prop) → Prop} (h : Pu f) : Pu (fun L k=>Need p (f L k)):=by
 obtain ⟨q,v,h⟩:=h
 exact ⟨p ∧ q,v,fun L k=>⟨fun hn=>⟨⟨hn.out.1,((h L k).1 hn.out.2).1⟩,((h L k).1 hn.out.2).2⟩,fun hn=>Need.intro hn.1.1 ((h L k).2 ⟨hn.1.2,hn.2⟩)⟩⟩
theorem Pu.bif {b : Bool} {f : List Blk → (V → List Blk → Prop) → Prop} (h : Pu f) : Pu (fun L k=>bif b then f L k else False):=by
 cases b
 ·exact Pu.no
 ·exact h
theorem Pu.br {t : Bool} {f : Bool → List Blk → (V → List Blk → Prop) → Prop} (h : ∀ b,Pu (f b)) : Pu (fun L k=>Br t fun b=>f b L k):=by
 obtain ⟨q,v,h⟩:=h t
 exact ⟨q,v,fun L k=>⟨fun hb=>(h L k).1 hb.out,fun hb=>Br.lit t rfl ((h L k).2 hb)⟩⟩
theorem Pu.idxN {len : Nat} {i : Int} {f : Nat → List Blk → (V → List Blk → Prop) → Prop} (h : ∀ n,Pu (f n)) : Pu (fun L k=>IdxN len i fun n=>f n L k):=by
 by_cases hh : ∃ n : Nat,i = n ∧ n < len
 ·obtain ⟨n,hn,hl⟩:=hh
  obtain ⟨q,v,h⟩:=h n
  refine ⟨q,v,fun L k=>?_⟩
  unfold IdxN
  constructor
  ·rintro ⟨m,hm,_,hk⟩
   have : m = n:=by omega
   subst this
   exact (h L k).1 hk
  ·exact fun hk=>⟨n,hn,hl,(h L k).2 hk⟩
 ·refine ⟨False,.poison,fun L k=>?_⟩
  unfold IdxN
  constructor
  ·rintro ⟨m,hm,hy,hk⟩; exact absurd ⟨m,hm,hy⟩ hh
  ·exact fun h=>h.1.elim
theorem vIndex_pu (C : Ctx) (t : TypeId) (x i : V) : Pu (fun L k=>vIndex C t x i fun v=>k v L):=by
 unfold vIndex
 repeat' (first | exact Pu.no | exact Pu.ret _ | (apply Pu.idxN; intro _) | split)
theorem vFieldAddr_pu (C : Ctx) (s : TypeId) (x : V) (f : Nat) : Pu (fun L k=>vFieldAddr C s x f fun v=>k v L):=by
 unfold vFieldAddr
 repeat' (first | exact Pu.no | exact Pu.ret _ | apply Pu.need | apply Pu.bif | (apply Pu.br; intro _) | split)
theorem vBin_pu (C : Ctx) (op : BinOp) (t : TypeId) (x y : V) : Pu (fun L k=>vBin C op t x y fun v=>k v L):=by
 unfold vBin intBin strBin vNilI
 repeat' (first | exact Pu.no | exact Pu.ret _ | apply Pu.need | apply Pu.bif | (apply Pu.br; intro _) | split)
theorem vUn_pu (op : UnOp) (x : V) : Pu (fun L k=>vUn op x fun v=>k v L):=by
 unfold vUn
 repeat' (first | exact Pu.no | exact Pu.ret _ | apply Pu.need | apply Pu.bif | (apply Pu.br; intro _) | split)
theorem vConv_pu (C : Ctx) (s t : TypeId) (x : V) : Pu (fun L k=>vConv C s t x fun v=>k v L):=by
 unfold vConv
 repeat' (first | exact Pu.no | exact Pu.ret _ | split)
theorem vBuild_pu (C : Ctx) (t : TypeId) (ps : List (Nat × V)) : Pu (fun L k=>vBuild C t ps fun v=>k v L):=by
 unfold vBuild
 repeat' (first | exact Pu.no | exact Pu.ret _ | apply Pu.need | apply Pu.bif | (apply Pu.br; intro _) | split)
theorem vMakeIface_pu (C : Ctx) (t : TypeId) (x : V) : Pu (fun L k=>vMakeIface C t x fun v=>k v L):=by
 unfold vMakeIface
 repeat' (first | exact Pu.no | exact Pu.ret _ | apply Pu.bif | split)
theorem vTypeAssert_pu (C : Ctx) (x : V) (t : TypeId) (ok : Bool) : Pu (fun L k=>vTypeAssert C x t ok fun v=>k v L):=by
 unfold vTypeAssert vHold vFail
 repeat' (first | exact Pu.no | exact Pu.ret _ | apply Pu.bif | split)
theorem vOp_pu (C : Ctx) (o : Oper) (fr : List (Nat × V)) (hc : isPure o.op = true) : Pu (fun L k=>vOp C o fr L k):=by
 unfold vOp
 cases h : o.op
 all_goals first | (rw [h] at hc; cases hc; done) | skip
 case binOp op t x y u =>
  rw [h] at hc
  simp only [isPure,Bool.not_eq_true'] at hc
  dsimp only []
  rw [hc]
  exact vBin_pu _ _ _ _ _
 case makeFunc fn first caps =>
  cases fn <;> dsimp only []
  all_goals repeat' (first | exact Pu.no | exact Pu.ret _ | apply Pu.need | apply Pu.bif | (apply Pu.br; intro _) | split)
 all_goals try dsimp only []
 all_goals repeat' (first | exact Pu.no | exact Pu.ret _ | apply Pu.need | apply Pu.bif | (apply Pu.br; intro _) | exact vFieldAddr_pu _ _ _ _ | exact vBin_pu _ _ _ _ _ | exact vUn_pu _ _ | exact vConv_pu _ _ _ _ | exact vBuild_pu _ _ _ | exact vMakeIface_pu _ _ _ | exact vTypeAssert_pu _ _ _ _ | exact vIndex_pu _ _ _ _ | split)
end
theorem vPut_mono {n : Nat} {dst : Option Tmp} {fr : List (Nat × V)} {v : V} {K K' : List (Nat × V) → Prop} (h : vPut n dst fr v K) (hk : ∀ fr',K fr' → K' fr') : vPut n dst fr v K':=by
 unfold vPut at *
 simp only [V.force_eq] at *
 split at h
 ·exact hk _ h
 ·rename_i d
  cases hb : Nat.blt d n with
  | false=>simp [hb] at h
  | true=>simp only [hb,cond_true] at h ⊢; exact hk _ h
theorem vcOp1_mono {C : Ctx} {n : Nat} {all : List Oper} {o : Oper} {fr : List (Nat × V)} {L : List Blk} {K K' : List (Nat × V) → List Blk → Prop} (h : vcOp1 C n all o fr L K) (hk : ∀ fr' L',K fr' L' → K' fr' L') : vcOp1 C n all o fr L K':=by
 have ex : ∀ fr,(vOp C o fr L fun v L'=>vPut n o.dst fr v fun fr'=>K fr' L') → (vOp C o fr L fun v L'=>vPut n o.dst fr v fun fr'=>K' fr' L'):=fun fr h=>vOp_mono h fun v L' hp=>vPut_mono hp fun fr'=>hk fr' L'
 have sk : ∀ fr,(vPut n o.dst fr (.tup []) fun fr'=>K fr' L) → (vPut n o.dst fr (.tup []) fun fr'=>K' fr' L):=fun fr h=>vPut_mono h fun fr'=>hk fr' L
 unfold vcOp1 at *
 simp only [vOpF_eq] at *
 split at h
 ·exact ex _ h
 ·split at h
  ·exact h.elim
  ·split at h
   ·split at h
    ·exact ex _ h
    ·exact sk _ h
   ·split at h
    ·exact ex _ h
    ·exact sk _ h
   ·rename_i t _
    have h:=h.out
    refine Br.lit t rfl ?_
    split at h
    ·exact ex _ h
    ·exact ex _ h
    ·exact sk _ h
    ·exact sk _ h
   ·exact sk _ h
   ·exact h.elim
end Go.Tidy
/-
 The base layer: regions whose order is drawn.
-/
namespace Go.Tidy
def rdy (ops : List Oper) (done : List Nat) : List Nat :=
 (List.range ops.length).filter fun i=>!done.contains i && match ops[i]? with | some o=>o.after.toList.all fun e=>!Region.binds .any e || done.contains e.on | none=>false
def AllP {α : Type} (p : α → Prop) : List α → Prop
 | []=>True
 | x :: r=>p x ∧ AllP p r
theorem AllP.mem {α : Type} {p : α → Prop} : ∀ {l : List α},AllP p l → ∀ x ∈ l,p x
 | [],_,x,hx=>by simp at hx
 | y :: r,h,x,hx=>by
  rcases List.mem_cons.1 hx with rfl | hx
  ·exact h.1
  ·exact h.2.mem x hx
def vAny (C : Ctx) (n : Nat) (ops : List Oper) : Nat → List Nat → List (Nat × V) → List Blk → (List (Nat × V) → List Blk → Prop) → Prop
 | 0,_done,fr,L,K=>K fr L
 | f + 1,done,fr,L,K =>
  match rdy ops done with
  | []=>K fr L
  | r=>AllP (fun i=>match ops[i]? with | some o=>vcOp1 C n ops o fr L fun fr' L'=>vAny C n ops f (i :: done) fr' L' K | none=>False) r
section
variable {C : Ctx} {n : Nat} {ops : Array Oper} {K : List (Nat × V) → List Blk → Prop}
def Same (ops : Array Oper) (done : List Nat) (listed : Array Bool) : Prop:=listed.size = ops.size ∧ ∀ i,i < ops.size → listed.getD i false = done.contains i
theorem Same.none (ops : Array Oper) : Same ops [] (Array.replicate ops.size false):=⟨by simp,fun i hi=>by simp [Array.getD,hi]⟩
theorem Same.put {done : List Nat} {listed : Array Bool} (h : Same ops done listed) {i : Nat} (_hi : i < ops.size) : Same ops (i :: done) (listed.setIfInBounds i true):=by
 refine ⟨by simp [h.1],fun j hj=>?_⟩
 have hj' : j < listed.size:=by rw [h.1]; exact hj
 simp only [Array.getD_eq_getD_getElem?,List.contains_cons]
 by_cases e : i = j
 ·subst e
  rw [Array.getElem?_setIfInBounds_self_of_lt hj']
  simp
 ·rw [Array.getElem?_setIfInBounds_ne e]
  have:=h.2 j hj
  rw [Array.getD_eq_getD_getElem?] at this
  rw [this]
  simp [Ne.symm e]
theorem getD_of_lt {a : Array Bool} {i : Nat} (h : i < a.size) (x y : Bool) : a.getD i x = a.getD i y:=by simp [Array.getD,h]
theorem Same.ready {done : List Nat} {listed : Array Bool} (h : Same ops done listed) (hedge : ∀ (i : Nat) (o : Oper) (e : Edge),ops[i]? = some o → e ∈ o.after.toList → Region.binds .any e = true → e.on < ops.size) :
  Region.ready .any ops listed = rdy ops.toList done:=by
 unfold Region.ready rdy
 rw [show ops.toList.length = ops.size by simp]
 apply List.filter_congr
 intro i hi
 have hi' : i < ops.size:=by simpa using hi
 rw [getD_of_lt (by rw [h.1]; exact hi') true false,h.2 i hi']
 congr 1
 rw [show ops.toList[i]? = ops[i]? by simp]
 cases ho : ops[i]? with
 | none=>rfl
 | some o =>
  simp only [Option.map_some,Option.getD_some]
  rw [← Array.all_toList]
  rw [Bool.eq_iff_iff,List.all_eq_true,List.all_eq_true]
  refine forall_congr' fun e=>forall_congr' fun he=>?_
  cases hb : Region.binds .any e with
  | false=>simp
  | true=>simp only [Bool.not_true,Bool.false_or]; rw [h.2 _ (hedge i o e ho he hb)]
def edgesB (ops : List Oper) : Bool:=ops.all fun o=>o.after.toList.all fun e=>!Region.binds .any e || Nat.blt e.on ops.length
theorem edgesB.out (h : edgesB ops.toList = true) : ∀ (i : Nat) (o : Oper) (e : Edge),ops[i]? = some o → e ∈ o.after.toList → Region.binds .any e = true → e.on < ops.size:=by
 intro i o e ho he hb
 unfold edgesB at h
 rw [List.all_eq_true] at h
 have:=h o (List.mem_of_getElem? (i:=i) (by simpa using ho))
 rw [List.all_eq_true] at this
 have:=this e he
 simpa [hb,Nat.blt_eq] using this
theorem VLe.refl (x : V) : VLe x x:=fun _ _ _ _ h=>h
theorem any_go (hedge : edgesB ops.toList = true) : ∀ (f t : Nat) (done : List Nat) (listed : Array Bool) (fr : List (Nat × V)) (L : List Blk),Same ops done listed → vAny C n ops.toList f done fr L K →
  vOpsC C n ops.toList ((Region.linearise.go .any ops f t listed []).filterMap fun i=>ops[i]?) fr L K
 | 0,t,done,listed,fr,L,hs,h=>⟨fr,FrLe.refl fr,h⟩
 | f + 1,t,done,listed,fr,L,hs,h=>by
  simp only [Region.linearise.go]
  show vOpsC C n ops.toList ((match (Region.ready .any ops listed)[t % (Region.ready .any ops listed).length]? with
   | some i=>Region.linearise.go .any ops f (t / (Region.ready .any ops listed).length) (listed.setIfInBounds i true) [i]
   | none=>[].reverse).filterMap fun i=>ops[i]?) fr L K
  rw [hs.ready (edgesB.out hedge)]
  cases hi : (rdy ops.toList done)[t % (rdy ops.toList done).length]? with
  | none =>
   have hnil : rdy ops.toList done = []:=by
    cases hr : rdy ops.toList done with
    | nil=>rfl
    | cons x xs =>
     rw [hr] at hi
     have hlt : t % (x :: xs).length < (x :: xs).length:=Nat.mod_lt _ (by simp)
     simp at hi
     simp at hlt
     omega
   simp only [vAny,hnil] at h
   exact ⟨fr,FrLe.refl fr,h⟩
  | some i =>
   have hmem:=List.mem_of_getElem? hi
   have hk : AllP (fun i=>match ops.toList[i]? with | some o=>vcOp1 C n ops.toList o fr L fun fr' L'=>vAny C n ops.toList f (i :: done) fr' L' K | none=>False) (rdy ops.toList done):=by
    simp only [vAny] at h
    cases hr : rdy ops.toList done with
    | nil=>trivial
    | cons x xs=>rw [hr] at h; exact h
   have hk:=hk.mem i hmem
   have hlt : i < ops.size:=by
    simp only [rdy,List.mem_filter,List.mem_range] at hmem
    simpa using hmem.1
   have ho : ops[i]? = some ops[i]:=Array.getElem?_eq_getElem hlt
   rw [show ops.toList[i]? = some ops[i] by simp] at hk
   simp only [] at hk ⊢
   rw [linearise_go_acc,List.reverse_singleton,List.singleton_append,List.filterMap_cons]
   simp only [ho]
   refine ⟨fr,FrLe.refl fr,?_⟩
   refine vcOp1_mono hk fun fr' L' hv=>?_
   exact any_go hedge f _ (i :: done) _ fr' L' (hs.put hlt) hv
end
theorem DrawP.all {C : Ctx} {n : Nat} {ops : Array Oper} {fr : List (Nat × V)} {L : List Blk} {K : List (Nat × V) → List Blk → Prop} (hm : C.P.follows .mixedOrders = true) (hedge : edgesB ops.toList = true)
  (h : vAny C n ops.toList ops.toList.length [] fr L K) : DrawP C n ops fr L K:=by
 unfold DrawP
 intro t
 simp only [Region.schedule,hm,Bool.true_or,if_true,Region.linearise]
 exact any_go hedge _ t [] _ fr L (Same.none ops) (by simpa using h)
end Go.Tidy
/-
 The base layer: drawn regions whose every order comes to the same.
-/
namespace Go.Tidy
def isRead : Op → Bool
 | .load .. | .indexAddr .. | .slice _ _ _ _ none | .lookup .. | .convert ..=>true
 | .call c=>match c.callee with | .builtin .len=>true | _=>false
 | _=>false
theorem rd_of {L : List Blk} {f : (V → Prop) → Prop} (h : Det (fun k=>f fun v=>k v L)) : ∃ (p : Prop) (v : V),∀ k : V → List Blk → Prop,f (fun v=>k v L) ↔ (p ∧ k v L):=by
 obtain ⟨p,v,M,h⟩:=h
 exact ⟨p,v,fun k=>h fun v _=>k v L⟩
theorem vOp_rd (C : Ctx) (o : Oper) (fr : List (Nat × V)) (L : List Blk) (hc : isPure o.op = true ∨ isRead o.op = true) : ∃ (p : Prop) (v : V),∀ k,vOp C o fr L k ↔ (p ∧ k v L):=by
 rcases hc with hc | hc
 ·obtain ⟨p,v,h⟩:=vOp_pu C o fr hc
  exact ⟨p,v,fun k=>h L k⟩
 ·have no : ∃ (p : Prop) (v : V),∀ k : V → List Blk → Prop,False ↔ (p ∧ k v L):=⟨False,.poison,fun k=>by simp⟩
  unfold vOp
  cases h : o.op
  all_goals first | (rw [h] at hc; cases hc; done) | skip
  case load t a=>exact rd_of (vLoad_det C t (ev fr a) L L)
  case indexAddr t x i=>exact rd_of (f:=fun κ=>vIndexAddr C t (ev fr x) (ev fr i) κ L) (vIndexAddr_det C t (ev fr x) (ev fr i) L L)
  case slice t x lo hi mx =>
   cases mx with
   | none=>exact rd_of (vSlice_det C t (ev fr x) (lo.map (ev fr)) (hi.map (ev fr)) none L L)
   | some m=>rw [h] at hc; cases hc
  case lookup t x i ok=>exact rd_of (f:=fun κ=>vLookup C t (ev fr x) (ev fr i) ok L κ) (vLookup_det C t (ev fr x) (ev fr i) ok L L)
  case convert s t x=>exact rd_of (f:=fun κ=>vConvL C s t (ev fr x) L κ) (vConvL_det C s t (ev fr x) L L)
  case call c =>
   obtain ⟨cal,args,tys⟩:=c
   rw [h] at hc
   simp only [isRead] at hc
   cases cal with
   | value f=>cases hc
   | invoke r m=>cases hc
   | builtin b =>
    cases b
    all_goals first | (cases hc; done) | skip
    dsimp only []
    split
    ·exact rd_of (vLenL_det C _ _ L L)
    ·exact no
def isWriter (op : Op) : Bool:=!(isPure op || isRead op || isCall op)
@[irreducible] def QCall (f : (V → List Blk → Prop) → Prop) (L : List Blk) (k : V → List Blk → Prop) : Prop:=∃ v,f (fun x M=>x = v ∧ M = L) ∧ k v L
theorem QCall.intro {f : (V → List Blk → Prop) → Prop} {L : List Blk} {k : V → List Blk → Prop} (v : V) (h : f fun x M=>x = v ∧ M = L) (hk : k v L) : QCall f L k:=by
 unfold QCall; exact ⟨v,h,hk⟩
def qOp (C : Ctx) (o : Oper) (fr : List (Nat × V)) (L : List Blk) (k : V → List Blk → Prop) : Prop :=
 match isCall o.op with
 | true=>QCall (fun k=>vOpF C o fr L k) L k
 | false=>vOpF C o fr L k
theorem qOp_out {C : Ctx} {o : Oper} {fr : List (Nat × V)} {L : List Blk} {k : V → List Blk → Prop} (h : qOp C o fr L k) :
  ∃ v L',vOp C o fr L (fun x M=>x = v ∧ M = L') ∧ k v L' ∧ (isWriter o.op = false → L' = L):=by
 unfold qOp at h
 simp only [vOpF_eq] at h
 cases hc : isCall o.op with
 | true =>
  simp only [hc] at h
  unfold QCall at h
  obtain ⟨v,h1,h2⟩:=h
  exact ⟨v,L,h1,h2,fun _=>rfl⟩
 | false =>
  simp only [hc] at h
  cases hw : isWriter o.op with
  | true =>
   obtain ⟨p,v,M,hd⟩:=vOp_det C o fr L hc
   have:=(hd k).1 h
   exact ⟨v,M,(hd _).2 ⟨this.1,rfl,rfl⟩,this.2,fun h=>by cases h⟩
  | false =>
   have hr : isPure o.op = true ∨ isRead o.op = true:=by
    unfold isWriter at hw
    simp only [hc,Bool.or_false,Bool.not_eq_false'] at hw
    simpa using hw
   obtain ⟨p,v,hd⟩:=vOp_rd C o fr L hr
   have:=(hd k).1 h
   exact ⟨v,L,(hd _).2 ⟨this.1,rfl,rfl⟩,this.2,fun _=>rfl⟩
def qOp1 (C : Ctx) (n : Nat) (all : List Oper) (o : Oper) (fr : List (Nat × V)) (L : List Blk) (K : List (Nat × V) → List Blk → Prop) : Prop :=
 match o.guard with
 | none=>qOp C o fr L fun v L'=>vPut n o.dst fr v fun fr'=>K fr' L'
 | some (j,want) =>
  match dstAt all j with
  | none=>False
  | some d=>match look fr d with
   | .tt=>match want with
    | true=>qOp C o fr L fun v L'=>vPut n o.dst fr v fun fr'=>K fr' L'
    | false=>vPut n o.dst fr (.tup []) fun fr'=>K fr' L
   | .ff=>match want with
    | false=>qOp C o fr L fun v L'=>vPut n o.dst fr v fun fr'=>K fr' L'
    | true=>vPut n o.dst fr (.tup []) fun fr'=>K fr' L
   | .d (.bool t)=>Br t fun b=>match b,want with
    | true,true=>qOp C o ((d,.tt) :: fr) L fun v L'=>vPut n o.dst ((d,.tt) :: fr) v fun fr'=>K fr' L'
    | false,false=>qOp C o ((d,.ff) :: fr) L fun v L'=>vPut n o.dst ((d,.ff) :: fr) v fun fr'=>K fr' L'
    | true,false=>vPut n o.dst ((d,.tt) :: fr) (.tup []) fun fr'=>K fr' L
    | false,true=>vPut n o.dst ((d,.ff) :: fr) (.tup []) fun fr'=>K fr' L
   | .tup []=>vPut n o.dst fr (.tup []) fun fr'=>K fr' L
   | _=>False
def qOps (C : Ctx) (n : Nat) (all : List Oper) : List Oper → List (Nat × V) → List Blk → (List (Nat × V) → List Blk → Prop) → Prop
 | [],fr,L,K=>K fr L
 | o :: rest,fr,L,K=>qOp1 C n all o fr L fun fr' L'=>qOps C n all rest fr' L' K
def VEq (x y : V) : Prop:=VLe x y ∧ VLe y x
theorem VEq.refl (x : V) : VEq x x:=⟨VLe.refl x,VLe.refl x⟩
theorem VEq.symm {x y : V} (h : VEq x y) : VEq y x:=⟨h.2,h.1⟩
theorem VEq.trans {x y z : V} (h : VEq x y) (h' : VEq y z) : VEq x z:=⟨fun g w L v hv=>h'.1 g w L v (h.1 g w L v hv),fun g w L v hv=>h.2 g w L v (h'.2 g w L v hv)⟩
theorem VEq.tt : VEq (.d (.bool true)) .tt:=⟨fun _ _ _ _ h=>by rw [h.bool_of]; exact .tt,fun _ _ _ _ h=>by cases h; exact .d _ _ (.bool _)⟩
theorem VEq.ff : VEq (.d (.bool false)) .ff:=⟨fun _ _ _ _ h=>by rw [h.bool_of]; exact .ff,fun _ _ _ _ h=>by cases h; exact .d _ _ (.bool _)⟩
def Eqv (fr fr' : List (Nat × V)) : Prop:=∀ s,VEq (look fr s) (look fr' s)
theorem Eqv.refl (fr : List (Nat × V)) : Eqv fr fr:=fun _=>VEq.refl _
theorem Eqv.trans {a b c : List (Nat × V)} (h : Eqv a b) (h' : Eqv b c) : Eqv a c:=fun s=>(h s).trans (h' s)
def putF (dst : Option Tmp) (v : V) (fr : List (Nat × V)) : List (Nat × V):=match dst with | some d=>(d,v) :: fr | none=>fr
structure PlO (C : Ctx) (n : Nat) (all : List Oper) (o : Oper) (fr : List (Nat × V)) (L : List Blk) (v : V) (ex : Bool) (L' : List Blk) : Prop where
 run : ex = true → vOp C o fr L fun x M=>x = v ∧ M = L'
 skip : ex = false → v = .tup [] ∧ L' = L
 guard : match o.guard with | none=>ex = true | some (j,want)=>∃ d,dstAt all j = some d ∧ (look fr d = (if ex == want then .tt else .ff) ∨ (look fr d = .tup [] ∧ ex = false))
 dst : ∀ d,o.dst = some d → Nat.blt d n = true
 quiet : isWriter o.op = false → L' = L
theorem vPut_out {n : Nat} {dst : Option Tmp} {fr : List (Nat × V)} {v : V} {K : List (Nat × V) → Prop} (h : vPut n dst fr v K) : K (putF dst v fr) ∧ ∀ d,dst = some d → Nat.blt d n = true:=by
 unfold vPut at h
 simp only [V.force_eq] at h
 cases dst with
 | none=>exact ⟨h,fun d hd=>(by cases hd)⟩
 | some d =>
  simp only at h
  cases hb : Nat.blt d n with
  | false=>simp [hb] at h
  | true=>simp only [hb,cond_true] at h; exact ⟨h,fun d' hd=>by cases hd; exact hb⟩
section
variable {C : Ctx} {n : Nat} {all : List Oper} {o : Oper} {fr : List (Nat × V)} {L : List Blk} {K : List (Nat × V) → List Blk → Prop}
theorem qOp1_out (h : qOp1 C n all o fr L K) : ∃ fr1 v ex L',Eqv fr1 fr ∧ PlO C n all o fr1 L v ex L' ∧ K (putF o.dst v fr1) L':=by
 unfold qOp1 at h
 have exec : ∀ fr1,Eqv fr1 fr → (match o.guard with | none=>True | some (j,want)=>∃ d,dstAt all j = some d ∧ (look fr1 d = (if true == want then .tt else .ff) ∨ (look fr1 d = .tup [] ∧ true = false))) →
   (qOp C o fr1 L fun v L'=>vPut n o.dst fr1 v fun fr'=>K fr' L') → ∃ fr1 v ex L',Eqv fr1 fr ∧ PlO C n all o fr1 L v ex L' ∧ K (putF o.dst v fr1) L':=by
  intro fr1 he hg h
  obtain ⟨v,L',h1,h2,h3⟩:=qOp_out h
  obtain ⟨h4,h5⟩:=vPut_out h2
  refine ⟨fr1,v,true,L',he,⟨fun _=>h1,fun h=>(by cases h),?_,h5,h3⟩,h4⟩
  split
  ·rfl
  ·rename_i hgd; rw [hgd] at hg; exact hg
 have skip : ∀ fr1,Eqv fr1 fr → (∃ j want,o.guard = some (j,want) ∧ ∃ d,dstAt all j = some d ∧ (look fr1 d = (if false == want then .tt else .ff) ∨ (look fr1 d = .tup [] ∧ false = false))) →
   (vPut n o.dst fr1 (.tup []) fun fr'=>K fr' L) → ∃ fr1 v ex L',Eqv fr1 fr ∧ PlO C n all o fr1 L v ex L' ∧ K (putF o.dst v fr1) L':=by
  rintro fr1 he ⟨j,want,hg,hd⟩ h
  obtain ⟨h4,h5⟩:=vPut_out h
  refine ⟨fr1,.tup [],false,L,he,⟨fun h=>(by cases h),fun _=>⟨rfl,rfl⟩,?_,h5,fun _=>rfl⟩,h4⟩
  rw [hg]; exact hd
 cases hgd : o.guard with
 | none =>
  simp only [hgd] at h
  exact exec fr (Eqv.refl _) (by rw [hgd]; trivial) h
 | some jw =>
  obtain ⟨j,want⟩:=jw
  simp only [hgd] at h
  cases hd : dstAt all j with
  | none=>simp [hd] at h
  | some d =>
   simp only [hd] at h
   split at h
   ·rename_i hl
    cases want with
    | true=>exact exec fr (Eqv.refl _) (by rw [hgd]; exact ⟨d,hd,.inl hl⟩) h
    | false=>exact skip fr (Eqv.refl _) ⟨j,false,hgd,d,hd,.inl hl⟩ h
   ·rename_i hl
    cases want with
    | false=>exact exec fr (Eqv.refl _) (by rw [hgd]; exact ⟨d,hd,.inl hl⟩) h
    | true=>exact skip fr (Eqv.refl _) ⟨j,true,hgd,d,hd,.inl hl⟩ h
   ·rename_i t hl
    have h:=h.out
    cases t with
    | true =>
     have he : Eqv ((d,.tt) :: fr) fr:=fun s=>by
      rw [look_cons]
      by_cases e : d = s
      ·subst e; rw [if_pos rfl,hl]; exact VEq.tt.symm
      ·rw [if_neg e]; exact VEq.refl _
     have hl' : look ((d,V.tt) :: fr) d = .tt:=by rw [look_cons,if_pos rfl]
     cases want with
     | true=>exact exec _ he (by rw [hgd]; exact ⟨d,hd,.inl hl'⟩) h
     | false=>exact skip _ he ⟨j,false,hgd,d,hd,.inl hl'⟩ h
    | false =>
     have he : Eqv ((d,.ff) :: fr) fr:=fun s=>by
      rw [look_cons]
      by_cases e : d = s
      ·subst e; rw [if_pos rfl,hl]; exact VEq.ff.symm
      ·rw [if_neg e]; exact VEq.refl _
     have hl' : look ((d,V.ff) :: fr) d = .ff:=by rw [look_cons,if_pos rfl]
     cases want with
     | false=>exact exec _ he (by rw [hgd]; exact ⟨d,hd,.inl hl'⟩) h
     | true=>exact skip _ he ⟨j,true,hgd,d,hd,.inl hl'⟩ h
   ·rename_i hl
    exact skip fr (Eqv.refl _) ⟨j,want,hgd,d,hd,.inr ⟨hl,rfl⟩⟩ h
   ·exact h.elim
theorem qOps_out : ∀ (l : List Oper) (i : Nat) (fr : List (Nat × V)) (L : List Blk),qOps C n all l fr L K → ∃ (F : Nat → List (Nat × V)) (M : Nat → List Blk) (val : Nat → V) (ex : Nat → Bool),
  Eqv (F i) fr ∧ M i = L ∧ (∀ j o,l[j]? = some o → PlO C n all o (F (i + j)) (M (i + j)) (val (i + j)) (ex (i + j)) (M (i + j + 1)) ∧ Eqv (F (i + j + 1)) (putF o.dst (val (i + j)) (F (i + j)))) ∧
  K (F (i + l.length)) (M (i + l.length))
 | [],i,fr,L,h=>⟨fun _=>fr,fun _=>L,fun _=>.poison,fun _=>true,Eqv.refl _,rfl,fun j o ho=>by simp at ho,h⟩
 | o :: l,i,fr,L,h=>by
  obtain ⟨fr1,v,ex,L',h1,h2,h3⟩:=qOp1_out h
  obtain ⟨F,M,val,exs,e1,e2,e3,e4⟩:=qOps_out l (i + 1) _ L' h3
  have up : ∀ {α : Type} (a : α) (f : Nat → α) (j : Nat),(fun k=>if k ≤ i then a else f k) (i + 1 + j) = f (i + 1 + j):=fun a f j=>by
   simp only []; rw [if_neg (by omega)]
  refine ⟨fun k=>if k ≤ i then fr1 else F k,fun k=>if k ≤ i then L else M k,fun k=>if k ≤ i then v else val k,fun k=>if k ≤ i then ex else exs k,?_,?_,?_,?_⟩
  ·simp only [Nat.le_refl,if_true]; exact h1
  ·simp
  ·intro j o' ho'
   cases j with
   | zero =>
    simp at ho'
    subst ho'
    simp only [Nat.add_zero,Nat.le_refl,if_true,show ¬ i + 1 ≤ i by omega,if_false]
    rw [e2]
    exact ⟨h2,e1⟩
   | succ j =>
    have:=e3 j o' (by simpa using ho')
    have a1 : i + (j + 1) = i + 1 + j:=by omega
    rw [a1]
    simp only [show ¬ i + 1 + j ≤ i by omega,show ¬ i + 1 + j + 1 ≤ i by omega,if_false]
    exact this
  ·have a1 : i + (o :: l).length = i + 1 + l.length:=by simp; omega
   rw [a1]
   simp only [show ¬ i + 1 + l.length ≤ i by omega,if_false]
   exact e4
end
end Go.Tidy
/-
 The base layer: a drawn region whose every order comes to the same.
-/
namespace Go.Tidy
def maskGo (T : List Nat) : List Edge → Nat → Nat
 | [],s=>s
 | e :: r,s=>maskGo T r (bif Region.binds .any e then s ||| (1 <<< e.on) ||| T.getD e.on 0 else s)
def maskOf (T : List Nat) (o : Oper) : Nat:=maskGo T o.after.toList 0
def tblGo : List Oper → List Nat → List Nat
 | [],T=>T
 | o :: r,T=>tblGo r (T ++ [maskOf T o])
def looks (all : List Oper) (o : Oper) : List Nat :=
 (o.op.operands.toList.filterMap fun | .tmp t=>some t | _=>none) ++ (match o.guard with | some (j,_)=>(dstAt all j).toList | none=>[])
def apartB (all : List Oper) (T : List Nat) (p q : Oper × Nat) : Bool :=
 Nat.beq p.2 q.2 || ((match q.1.dst with | some d=>!(p.1.dst == some d) | none=>true) &&
  ((T.getD p.2 0).testBit q.2 || (T.getD q.2 0).testBit p.2 ||
    ((match q.1.dst with | some d=>!(looks all p.1).contains d | none=>true) && (isPure p.1.op || !isWriter q.1.op))))
def stableB (all : List Oper) (T : List Nat) : Bool :=
 all.zipIdx.all fun p =>
  (p.1.after.toList.all fun e=>!Region.binds .any e || Nat.blt e.on p.2) &&
  Nat.beq (maskOf T p.1 ||| T.getD p.2 0) (maskOf T p.1) &&
  all.zipIdx.all fun q=>apartB all T p q
theorem maskGo_bit {T : List Nat} {j : Nat} : ∀ (l : List Edge) (s : Nat),(maskGo T l s).testBit j = true → s.testBit j = true ∨ ∃ e ∈ l,Region.binds .any e = true ∧ (j = e.on ∨ (T.getD e.on 0).testBit j = true)
 | [],s,h=>.inl h
 | e :: r,s,h=>by
  simp only [maskGo] at h
  rcases maskGo_bit r _ h with h1 | ⟨e',he',h2⟩
  ·cases hb : Region.binds .any e with
   | false=>rw [hb] at h1; exact .inl h1
   | true =>
    rw [hb] at h1
    simp only [cond_true,Nat.testBit_or,Bool.or_eq_true,Nat.one_shiftLeft,Nat.testBit_two_pow,decide_eq_true_eq] at h1
    rcases h1 with (h1 | h1) | h1
    ·exact .inl h1
    ·exact .inr ⟨e,by simp,hb,.inl h1.symm⟩
    ·exact .inr ⟨e,by simp,hb,.inr h1⟩
  ·exact .inr ⟨e',by simp [he'],h2⟩
section
variable {C : Ctx} {n : Nat} {all : List Oper} {T : List Nat}
structure Stab (all : List Oper) (T : List Nat) : Prop where
 edge : ∀ (i : Nat) (o : Oper) (e : Edge),all[i]? = some o → e ∈ o.after.toList → Region.binds .any e = true → e.on < i
 tbl : ∀ (i : Nat) (o : Oper) (j : Nat),all[i]? = some o → (T.getD i 0).testBit j = true → ∃ e ∈ o.after.toList,Region.binds .any e = true ∧ (j = e.on ∨ (T.getD e.on 0).testBit j = true)
 apart : ∀ (i j : Nat) (o q : Oper),all[i]? = some o → all[j]? = some q → i ≠ j → (∀ d,q.dst = some d → o.dst ≠ some d) ∧
  ((T.getD i 0).testBit j = true ∨ (T.getD j 0).testBit i = true ∨ ((∀ d,q.dst = some d → d ∉ looks all o) ∧ (isPure o.op = true ∨ isWriter q.op = false)))
theorem stab_of (h : stableB all T = true) : Stab all T:=by
 unfold stableB at h
 rw [List.all_eq_true] at h
 have mem : ∀ (i : Nat) (o : Oper),all[i]? = some o → (o,i) ∈ all.zipIdx:=fun i o ho=>by
  rw [List.mem_zipIdx_iff_getElem?]; exact ho
 have h : ∀ (i : Nat) (o : Oper),all[i]? = some o → _:=fun i o ho=>h (o,i) (mem i o ho)
 simp only [Bool.and_eq_true] at h
 refine ⟨fun i o e ho he hb=>?_,fun i o j ho hj=>?_,fun i j o q ho hq hij=>?_⟩
 ·have:=(h i o ho).1.1
  rw [List.all_eq_true] at this
  have:=this e he
  simpa [hb,Nat.blt_eq] using this
 ·have:=(h i o ho).1.2
  have heq:=Nat.eq_of_beq_eq_true this
  have hm : (maskOf T o).testBit j = true:=by
   rw [← heq,Nat.testBit_or,hj,Bool.or_true]
  unfold maskOf at hm
  rcases maskGo_bit _ _ hm with h0 | h1
  ·simp at h0
  ·exact h1
 ·have:=(h i o ho).2
  rw [List.all_eq_true] at this
  have:=this (q,j) (mem j q hq)
  unfold apartB at this
  simp only [Bool.or_eq_true,Bool.and_eq_true] at this
  rcases this with hh | ⟨hd,hh⟩
  ·exact absurd (Nat.eq_of_beq_eq_true hh) hij
  ·refine ⟨fun d hqd=>?_,?_⟩
   ·rw [hqd] at hd
    simp only [Bool.not_eq_true',beq_eq_false_iff_ne,ne_eq] at hd
    exact hd
   ·rcases hh with (hh | hh) | ⟨h1,h2⟩
    ·exact .inl hh
    ·exact .inr (.inl hh)
    ·refine .inr (.inr ⟨fun d hqd=>?_,?_⟩)
     ·rw [hqd] at h1
      simpa using h1
     ·rcases h2 with h2 | h2
      ·exact .inl h2
      ·exact .inr (by simpa using h2)
def Down (all : List Oper) (S : Nat → Prop) : Prop:=∀ (i : Nat) (o : Oper) (e : Edge),S i → all[i]? = some o → e ∈ o.after.toList → Region.binds .any e = true → S e.on
theorem Stab.anc (hs : Stab all T) {S : Nat → Prop} (hd : Down all S) : ∀ (i j : Nat),i < all.length → (T.getD i 0).testBit j = true → (S i → S j) ∧ j < i:=by
 intro i
 induction i using Nat.strongRecOn with
 | _ i ih =>
  intro j hi hj
  obtain ⟨e,he,hb,hh⟩:=hs.tbl i all[i] j (List.getElem?_eq_getElem hi) hj
  have hlt:=hs.edge i all[i] e (List.getElem?_eq_getElem hi) he hb
  rcases hh with rfl | hh
  ·exact ⟨fun h=>hd i _ e h (List.getElem?_eq_getElem hi) he hb,hlt⟩
  ·obtain ⟨h1,h2⟩:=ih e.on hlt j (by omega) hh
   exact ⟨fun h=>h1 (hd i _ e h (List.getElem?_eq_getElem hi) he hb),by omega⟩
theorem Stab.before (hs : Stab all T) {S : Nat → Prop} (hd : Down all S) {i : Nat} (hi : i < all.length) (hr : ∀ (o : Oper) (e : Edge),all[i]? = some o → e ∈ o.after.toList → Region.binds .any e = true → S e.on) {j : Nat}
  (hj : (T.getD i 0).testBit j = true) : S j ∧ j < i:=by
 obtain ⟨e,he,hb,hh⟩:=hs.tbl i all[i] j (List.getElem?_eq_getElem hi) hj
 have hlt:=hs.edge i all[i] e (List.getElem?_eq_getElem hi) he hb
 have hS:=hr _ e (List.getElem?_eq_getElem hi) he hb
 rcases hh with rfl | hh
 ·exact ⟨hS,hlt⟩
 ·obtain ⟨h1,h2⟩:=hs.anc hd e.on j (by omega) hh
  exact ⟨h1 hS,by omega⟩
structure Plan (C : Ctx) (n : Nat) (all : List Oper) (F : Nat → List (Nat × V)) (M : Nat → List Blk) (val : Nat → V) (ex : Nat → Bool) : Prop where
 op : ∀ (i : Nat) (o : Oper),all[i]? = some o → PlO C n all o (F i) (M i) (val i) (ex i) (M (i + 1))
 nxt : ∀ (i : Nat) (o : Oper),all[i]? = some o → Eqv (F (i + 1)) (putF o.dst (val i) (F i))
def Wrote (all : List Oper) (i s : Nat) : Prop:=∃ o : Oper,all[i]? = some o ∧ o.dst = some s
theorem putF_look {dst : Option Tmp} {v : V} {fr : List (Nat × V)} (s : Nat) : look (putF dst v fr) s = if dst = some s then v else look fr s:=by
 unfold putF
 cases dst with
 | none=>simp
 | some d=>simp only [look_cons,Option.some.injEq]
variable {F : Nat → List (Nat × V)} {M : Nat → List Blk} {val : Nat → V} {ex : Nat → Bool}
theorem Plan.text (hp : Plan C n all F M val ex) (hs : Stab all T) : ∀ (i : Nat),i ≤ all.length → ∀ s,(∀ j,j < i → Wrote all j s → VEq (look (F i) s) (val j)) ∧ ((∀ j,j < i → ¬ Wrote all j s) → VEq (look (F i) s) (look (F 0) s))
 | 0,_,s=>⟨fun j hj=>absurd hj (Nat.not_lt_zero j),fun _=>VEq.refl _⟩
 | i + 1,hi,s=>by
  obtain ⟨h1,h2⟩:=hp.text hs i (by omega) s
  have ho : all[i]? = some all[i]:=List.getElem?_eq_getElem (by omega)
  have hn:=hp.nxt i _ ho s
  rw [putF_look] at hn
  refine ⟨fun j hj hw=>?_,fun hw=>?_⟩
  ·by_cases e : j = i
   ·subst e
    obtain ⟨o,ho',hd⟩:=hw
    rw [ho] at ho'; cases ho'
    rw [if_pos hd] at hn
    exact hn
   ·have hji : j < i:=by omega
    by_cases hd : (all[i]).dst = some s
    ·obtain ⟨q,hq,hqd⟩:=hw
     exact absurd hd ((hs.apart i j _ q ho hq (Ne.symm e)).1 s hqd)
    ·rw [if_neg hd] at hn
     exact hn.trans (h1 j hji hw)
  ·have hd : ¬ (all[i]).dst = some s:=fun hd=>hw i (by omega) ⟨_,ho,hd⟩
   rw [if_neg hd] at hn
   exact hn.trans (h2 fun j hj=>hw j (by omega))
theorem Plan.mem (hp : Plan C n all F M val ex) : ∀ (a b : Nat),a ≤ b → b ≤ all.length → (∀ j (o : Oper),a ≤ j → j < b → all[j]? = some o → isWriter o.op = false) → M b = M a:=by
 intro a b hab
 induction b with
 | zero=>intro _ _; rw [show a = 0 by omega]
 | succ b ih =>
  intro hb hw
  by_cases e : a = b + 1
  ·rw [e]
  ·have ho : all[b]? = some all[b]:=List.getElem?_eq_getElem (by omega)
   rw [(hp.op b _ ho).quiet (hw b _ (by omega) (by omega) ho)]
   exact ih (by omega) (by omega) fun j o h1 h2=>hw j o h1 (by omega)
structure Inv (all : List Oper) (F : Nat → List (Nat × V)) (M : Nat → List Blk) (val : Nat → V) (S : Nat → Prop) (fr : List (Nat × V)) (L : List Blk) : Prop where
 down : Down all S
 val : ∀ j s,S j → Wrote all j s → VEq (look fr s) (val j)
 old : ∀ s,(∀ j,S j → ¬ Wrote all j s) → VEq (look fr s) (look (F 0) s)
 mem : ∃ m,m ≤ all.length ∧ L = M m ∧ ∀ j (o : Oper),all[j]? = some o → isWriter o.op = true → (S j ↔ j < m)
theorem Plan.at (hp : Plan C n all F M val ex) (hs : Stab all T) {S : Nat → Prop} {fr : List (Nat × V)} {L : List Blk} (hi : Inv all F M val S fr L) {i : Nat} {o : Oper} (ho : all[i]? = some o) (hS : ¬ S i)
  (hr : ∀ (e : Edge),e ∈ o.after.toList → Region.binds .any e = true → S e.on) :
  (∀ s,s ∈ looks all o → VEq (look fr s) (look (F i) s)) ∧ (isPure o.op = false → L = M i) ∧ ∃ m,m ≤ all.length ∧ L = M m ∧ (isWriter o.op = true → m ≤ i) ∧ ∀ j (q : Oper),all[j]? = some q → isWriter q.op = true → (S j ↔ j < m):=by
 have hlt : i < all.length:=lt_of_get ho
 have hr' : ∀ (o' : Oper) (e : Edge),all[i]? = some o' → e ∈ o'.after.toList → Region.binds .any e = true → S e.on:=fun o' e ho'=>by rw [ho] at ho'; cases ho'; exact hr e
 have cmp : ∀ j,(T.getD i 0).testBit j = true → S j ∧ j < i:=fun j hj=>hs.before hi.down hlt hr' hj
 have cmp' : ∀ j,j < all.length → (T.getD j 0).testBit i = true → ¬ S j ∧ i < j:=fun j hj hb =>
  ⟨fun h=>hS ((hs.anc hi.down j i hj hb).1 h),(hs.anc hi.down j i hj hb).2⟩
 refine ⟨fun s hsl=>?_,fun hpu=>?_,?_⟩
 ·obtain ⟨h1,h2⟩:=hp.text hs i (by omega) s
  by_cases hw : ∃ j,j ≠ i ∧ Wrote all j s
  ·obtain ⟨j,hji,hw⟩:=hw
   have hw':=hw
   obtain ⟨q,hq,hqd⟩:=hw
   have hjl:=lt_of_get hq
   have uniq : ∀ j',Wrote all j' s → j' = j:=by
    rintro j' ⟨q',hq',hqd'⟩
    by_cases e : j' = j
    ·exact e
    ·exact absurd hqd' ((hs.apart j' j q' q hq' hq e).1 s hqd)
   rcases (hs.apart i j o q ho hq (Ne.symm hji)).2 with h | h | h
   ·obtain ⟨a,b⟩:=cmp j h
    exact (hi.val j s a hw').trans (h1 j b hw').symm
   ·obtain ⟨a,b⟩:=cmp' j hjl h
    exact (hi.old s fun j' hj' hwj=>a (uniq j' hwj ▸ hj')).trans (h2 fun j' hj' hwj=>by have:=uniq j' hwj; omega).symm
   ·exact absurd hsl (h.1 s hqd)
  ·have hno : ∀ j,Wrote all j s → j = i:=fun j hj=>Classical.byContradiction fun e=>hw ⟨j,e,hj⟩
   exact (hi.old s fun j hj hwj=>hS (hno j hwj ▸ hj)).trans (h2 fun j hj hwj=>by have:=hno j hwj; omega).symm
 ·obtain ⟨m,hm,hL,hmw⟩:=hi.mem
  have key : ∀ j (q : Oper),j ≠ i → all[j]? = some q → isWriter q.op = true → (j < m ↔ j < i):=by
   intro j q hji hq hw
   rcases (hs.apart i j o q ho hq (Ne.symm hji)).2 with h | h | h
   ·obtain ⟨a,b⟩:=cmp j h
    exact ⟨fun _=>b,fun _=>(hmw j q hq hw).1 a⟩
   ·obtain ⟨a,b⟩:=cmp' j (lt_of_get hq) h
    exact ⟨fun h=>absurd ((hmw j q hq hw).2 h) a,fun h=>by omega⟩
   ·rcases h.2 with h | h
    ·rw [hpu] at h; cases h
    ·rw [hw] at h; cases h
  rw [hL]
  rcases Nat.le_total m i with h | h
  ·refine (hp.mem m i h (by omega) fun j q h1 h2 hq=>?_).symm
   cases hw : isWriter q.op with
   | false=>rfl
   | true=>have:=(key j q (by omega) hq hw).2 h2; omega
  ·refine hp.mem i m h hm fun j q h1 h2 hq=>?_
   cases hw : isWriter q.op with
   | false=>rfl
   | true =>
    by_cases e : j = i
    ·subst e; exact absurd ((hmw j q hq hw).2 h2) hS
    ·have:=(key j q e hq hw).1 h2; omega
 ·obtain ⟨m,hm,hL,hmw⟩:=hi.mem
  refine ⟨m,hm,hL,fun hw=>?_,hmw⟩
  exact Nat.le_of_not_lt fun h=>hS ((hmw i o ho hw).2 h)
end
end Go.Tidy
/-
 The base layer: a drawn region whose every order comes to the same: the run.
-/
namespace Go.Tidy
theorem filter_le {α : Type} {p q : α → Bool} : ∀ {l : List α},(∀ x ∈ l,p x = true → q x = true) → (l.filter p).length ≤ (l.filter q).length
 | [],_=>Nat.le_refl _
 | a :: l,h=>by
  have ih:=filter_le (l:=l) fun x hx=>h x (by simp [hx])
  simp only [List.filter_cons]
  cases hp : p a with
  | true=>rw [h a (by simp) hp]; simpa using ih
  | false =>
   cases q a with
   | true=>simp; omega
   | false=>simpa using ih
theorem filter_lt {α : Type} {p q : α → Bool} : ∀ {l : List α},(∀ x ∈ l,p x = true → q x = true) → (∃ x ∈ l,p x = false ∧ q x = true) → (l.filter p).length < (l.filter q).length
 | [],_,⟨x,hx,_⟩=>by simp at hx
 | a :: l,h,⟨x,hx,h1,h2⟩=>by
  simp only [List.filter_cons]
  rcases List.mem_cons.1 hx with rfl | hx
  ·have:=filter_le (l:=l) (p:=p) (q:=q) fun x hx=>h x (by simp [hx])
   rw [h1,h2]
   simp; omega
  ·have ih:=filter_lt (l:=l) (fun x hx=>h x (by simp [hx])) ⟨x,hx,h1,h2⟩
   cases hp : p a with
   | true=>rw [h a (by simp) hp]; simpa using ih
   | false =>
    cases q a with
    | true=>simp; omega
    | false=>simpa using ih
section
variable {C : Ctx} {n : Nat} {ops : Array Oper} {T : List Nat} {F : Nat → List (Nat × V)} {M : Nat → List Blk} {val : Nat → V} {ex : Nat → Bool} {K : List (Nat × V) → List Blk → Prop}
theorem look_pre (F : List (Nat × V)) (fr : List (Nat × V)) (s : Nat) : ∀ (l : List Nat),look (l.map (fun t=>(t,look F t)) ++ fr) s = if s ∈ l then look F s else look fr s
 | []=>by simp
 | t :: l=>by
  simp only [List.map_cons,List.cons_append,look_cons,look_pre F fr s l]
  by_cases e : t = s
  ·subst e; simp
  ·rw [if_neg e]
   by_cases e2 : s ∈ l
   ·simp [e2]
   ·simp [e2,Ne.symm e]
theorem looks_op {all : List Oper} {o : Oper} {t : Nat} (h : Operand.tmp t ∈ o.op.operands.toList) : t ∈ looks all o:=by
 unfold looks
 rw [List.mem_append,List.mem_filterMap]
 exact .inl ⟨_,h,rfl⟩
theorem looks_guard {all : List Oper} {o : Oper} {j d : Nat} {want : Bool} (h : o.guard = some (j,want)) (hd : dstAt all j = some d) : d ∈ looks all o:=by
 unfold looks
 rw [List.mem_append,h]
 simp [hd]
theorem Plan.step {all : List Oper} (hp : Plan C n all F M val ex) (hs : Stab all T) {S : Nat → Prop} {fr : List (Nat × V)} {L : List Blk} (hi : Inv all F M val S fr L) {i : Nat} {o : Oper} (ho : all[i]? = some o) (hS : ¬ S i)
  (hr : ∀ (e : Edge),e ∈ o.after.toList → Region.binds .any e = true → S e.on) {K' : List (Nat × V) → List Blk → Prop} {S' : Nat → Prop} (hS' : ∀ j,S' j ↔ (S j ∨ j = i))
  (hK : ∀ fr' L',Inv all F M val S' fr' L' → K' fr' L') : ∃ fr1,FrLe fr fr1 ∧ vcOp1 C n all o fr1 L K':=by
 obtain ⟨hl,hpure,m,hm,hL,hmi,hmw⟩:=hp.at hs hi ho hS hr
 have hlt : i < all.length:=lt_of_get ho
 refine ⟨(looks all o).map (fun t=>(t,look (F i) t)) ++ fr,fun s=>?_,?_⟩
 ·rw [look_pre]
  split
  ·rename_i h; exact (hl s h).1
  ·exact VLe.refl _
 ·have hpl:=hp.op i o ho
  generalize hfr1 : (looks all o).map (fun t=>(t,look (F i) t)) ++ fr = fr1
  have hfr1s : ∀ s,look fr1 s = if s ∈ looks all o then look (F i) s else look fr s:=fun s=>by rw [← hfr1,look_pre]
  have hq : ∀ s,VEq (look fr1 s) (look fr s):=fun s=>by
   rw [hfr1s]
   split
   ·rename_i h; exact (hl s h).symm
   ·exact VEq.refl _
  -- the new place
  have inv : ∀ L',(L' = if isWriter o.op then M (i + 1) else L) → Inv all F M val S' (putF o.dst (val i) fr1) L':=by
   intro L' hL'
   refine ⟨?_,?_,?_,?_⟩
   ·intro j q e hj hq he hb
    rcases (hS' j).1 hj with h | rfl
    ·exact (hS' _).2 (.inl (hi.down j q e h hq he hb))
    ·rw [ho] at hq; cases hq
     exact (hS' _).2 (.inl (hr e he hb))
   ·intro j s hj hw
    rw [putF_look]
    by_cases e : o.dst = some s
    ·rw [if_pos e]
     by_cases ej : j = i
     ·rw [ej]; exact VEq.refl _
     ·obtain ⟨q,hq,hqd⟩:=hw
      exact absurd e ((hs.apart i j o q ho hq (Ne.symm ej)).1 s hqd)
    ·rw [if_neg e]
     rcases (hS' j).1 hj with h | rfl
     ·exact (hq s).trans (hi.val j s h hw)
     ·obtain ⟨q,hq,hqd⟩:=hw
      rw [ho] at hq; cases hq
      exact absurd hqd e
   ·intro s hno
    rw [putF_look]
    by_cases e : o.dst = some s
    ·exact absurd ⟨o,ho,e⟩ (hno i ((hS' i).2 (.inr rfl)))
    ·rw [if_neg e]
     exact (hq s).trans (hi.old s fun j hj=>hno j ((hS' j).2 (.inl hj)))
   ·cases hw : isWriter o.op with
    | false =>
     rw [hw] at hL'
     simp at hL'
     refine ⟨m,hm,hL'.trans hL,fun j q hq hqw=>?_⟩
     rw [hS' j,← hmw j q hq hqw]
     refine ⟨fun h=>h.resolve_right fun e=>?_,.inl⟩
     subst e; rw [ho] at hq; cases hq; rw [hw] at hqw; cases hqw
    | true =>
     rw [hw] at hL'
     simp at hL'
     refine ⟨i + 1,by omega,hL',fun j q hq hqw=>?_⟩
     rw [hS' j]
     have hnp : isPure o.op = false:=by
      unfold isWriter at hw; simp at hw; exact hw.1.1
     by_cases e : j = i
     ·simp [e]
     ·have : S j ↔ j < i:=by
       rcases (hs.apart i j o q ho hq (Ne.symm e)).2 with h | h | h
       ·have:=hs.before hi.down hlt (fun o' e' ho'=>by rw [ho] at ho'; cases ho'; exact hr e') h
        exact ⟨fun _=>this.2,fun _=>this.1⟩
       ·have:=hs.anc hi.down j i (lt_of_get hq) h
        exact ⟨fun hj=>absurd (this.1 hj) hS,fun hj=>by omega⟩
       ·rcases h.2 with h | h
        ·rw [hnp] at h; cases h
        ·rw [hqw] at h; cases h
      rw [this]; omega
  -- the run itself
  have run : ex i = true → vOp C o fr1 L fun v L'=>vPut n o.dst fr1 v fun fr'=>K' fr' L':=by
   intro hex
   have h1:=hpl.run hex
   have h2 : vOp C o fr1 (M i) fun x N=>x = val i ∧ N = M (i + 1):=by
    rw [vOp_congr (fr:=fr1) (fr':=F i) fun t ht=>by rw [hfr1s,if_pos (looks_op ht)]]
    exact h1
   have put : ∀ L',(L' = if isWriter o.op then M (i + 1) else L) → vPut n o.dst fr1 (val i) fun fr'=>K' fr' L':=by
    intro L' hL'
    unfold vPut
    simp only [V.force_eq]
    have:=hK _ _ (inv L' hL')
    unfold putF at this
    cases hd : o.dst with
    | none=>rw [hd] at this; exact this
    | some d=>rw [hd] at this; simp only [hpl.dst d hd,cond_true]; exact this
   cases hpu : isPure o.op with
   | false =>
    rw [hpure hpu]
    refine vOp_mono h2 ?_
    rintro x N ⟨rfl,rfl⟩
    refine put _ ?_
    cases hw : isWriter o.op with
    | true=>simp
    | false=>simp; rw [hpl.quiet hw,hpure hpu]
   | true =>
    obtain ⟨p,v,hpv⟩:=vOp_pu C o fr1 hpu
    have h3:=(hpv (M i) _).1 h2
    refine (hpv L _).2 ⟨h3.1,?_⟩
    rw [h3.2.1]
    refine put L ?_
    have : isWriter o.op = false:=by unfold isWriter; rw [hpu]; rfl
    rw [this]; rfl
  have skip : ex i = false → vPut n o.dst fr1 (.tup []) fun fr'=>K' fr' L:=by
   intro hex
   obtain ⟨h1,h2⟩:=hpl.skip hex
   have hL' : L = if isWriter o.op then M (i + 1) else L:=by
    cases hw : isWriter o.op with
    | false=>rfl
    | true =>
     have hnp : isPure o.op = false:=by
      unfold isWriter at hw; simp at hw; exact hw.1.1
     simp; rw [h2,hpure hnp]
   unfold vPut
   simp only [V.force_eq]
   have:=hK _ _ (inv L hL')
   unfold putF at this
   cases hd : o.dst with
   | none=>rw [hd] at this; exact this
   | some d=>rw [hd,h1] at this; simp only [hpl.dst d hd,cond_true]; exact this
  have hg:=hpl.guard
  unfold vcOp1
  simp only [vOpF_eq]
  cases hgd : o.guard with
  | none=>rw [hgd] at hg; exact run hg
  | some jw =>
   obtain ⟨j,want⟩:=jw
   rw [hgd] at hg
   obtain ⟨d,hd,hlk⟩:=hg
   have hfl : look fr1 d = look (F i) d:=by rw [hfr1s,if_pos (looks_guard hgd hd)]
   rcases hlk with hlk | ⟨hlk,hex⟩
   ·have hlk' : look fr1 d = if ex i == want then .tt else .ff:=hfl.trans hlk
    simp only [hd,hlk']
    cases hex : ex i <;> cases want <;> simp <;> first | exact run hex | exact skip hex
   ·have hlk' : look fr1 d = .tup []:=hfl.trans hlk
    simp only [hd,hlk']
    exact skip hex
def cnt (ops : Array Oper) (listed : Array Bool) : Nat:=((List.range ops.size).filter fun i=>!listed.getD i true).length
theorem Plan.done (hp : Plan C n ops.toList F M val ex) (hs : Stab ops.toList T) {S : Nat → Prop} {fr : List (Nat × V)} {L : List Blk} (hi : Inv ops.toList F M val S fr L) (hS : ∀ i,i < ops.size → S i) (hK : K (F ops.size) (M ops.size)) :
  ∃ fr1,FrLe fr fr1 ∧ K fr1 L:=by
 refine ⟨F ops.size,fun s=>?_,?_⟩
 ·obtain ⟨h1,h2⟩:=hp.text hs ops.size (by simp) s
  have hlt : ∀ j,Wrote ops.toList j s → j < ops.size:=fun j ⟨o,ho,_⟩=>by simpa using lt_of_get ho
  by_cases hw : ∃ j,Wrote ops.toList j s
  ·obtain ⟨j,hw⟩:=hw
   exact ((hi.val j s (hS j (hlt j hw)) hw).trans (h1 j (hlt j hw) hw).symm).1
  ·exact ((hi.old s fun j _ hj=>hw ⟨j,hj⟩).trans (h2 fun j _ hj=>hw ⟨j,hj⟩).symm).1
 ·obtain ⟨m,hm,hL,hmw⟩:=hi.mem
  have : M ops.size = M m:=hp.mem m ops.size (by simpa using hm) (by simp) fun j o h1 h2 ho=>by
   cases hw : isWriter o.op with
   | false=>rfl
   | true=>have:=(hmw j o ho hw).1 (hS j h2); omega
  rw [hL,← this]
  exact hK
theorem quiet_go (hp : Plan C n ops.toList F M val ex) (hs : Stab ops.toList T) (hK : K (F ops.size) (M ops.size)) : ∀ (f t : Nat) (listed : Array Bool) (fr : List (Nat × V)) (L : List Blk),listed.size = ops.size →
  Inv ops.toList F M val (fun i=>listed.getD i false = true) fr L → cnt ops listed ≤ f →
  vOpsC C n ops.toList ((Region.linearise.go .any ops f t listed []).filterMap fun i=>ops[i]?) fr L K
 | 0,t,listed,fr,L,hsz,hi,hc=>by
  refine hp.done hs hi (fun i hlt=>?_) hK
  have hnil : (List.range ops.size).filter (fun i=>!listed.getD i true) = []:=List.eq_nil_of_length_eq_zero (Nat.le_zero.1 hc)
  rw [List.filter_eq_nil_iff] at hnil
  have:=hnil i (by simpa using hlt)
  rw [getD_of_lt (by rw [hsz]; exact hlt) false true]
  simpa using this
 | f + 1,t,listed,fr,L,hsz,hi,hc=>by
  simp only [Region.linearise.go]
  show vOpsC C n ops.toList ((match (Region.ready .any ops listed)[t % (Region.ready .any ops listed).length]? with
   | some i=>Region.linearise.go .any ops f (t / (Region.ready .any ops listed).length) (listed.setIfInBounds i true) [i]
   | none=>[].reverse).filterMap fun i=>ops[i]?) fr L K
  cases hr : (Region.ready .any ops listed)[t % (Region.ready .any ops listed).length]? with
  | none =>
   have hnil : Region.ready .any ops listed = []:=by
    cases hr' : Region.ready .any ops listed with
    | nil=>rfl
    | cons x xs =>
     rw [hr'] at hr
     have hlt : t % (x :: xs).length < (x :: xs).length:=Nat.mod_lt _ (by simp)
     simp at hr
     simp at hlt
     omega
   refine hp.done hs hi (fun i=>?_) hK
   induction i using Nat.strongRecOn with
   | _ i ih =>
    intro hlt
    refine Classical.byContradiction fun hn=>?_
    have : i ∈ Region.ready .any ops listed:=by
     unfold Region.ready
     rw [List.mem_filter]
     refine ⟨by simpa using hlt,?_⟩
     rw [getD_of_lt (by rw [hsz]; exact hlt) true false]
     simp only [Bool.not_eq_true] at hn
     rw [hn]
     rw [Array.getElem?_eq_getElem hlt]
     simp only [Option.map_some,Option.getD_some,Bool.not_false,Bool.true_and]
     rw [← Array.all_toList,List.all_eq_true]
     intro e he
     cases hb : Region.binds .any e with
     | false=>simp
     | true =>
      have hlt':=hs.edge i ops[i] e (by simp [hlt]) he hb
      simp only [Bool.not_true,Bool.false_or]
      exact ih e.on hlt' (by omega)
    rw [hnil] at this
    cases this
  | some i =>
   have hmem:=List.mem_of_getElem? hr
   unfold Region.ready at hmem
   rw [List.mem_filter] at hmem
   have hlt : i < ops.size:=by simpa using hmem.1
   have hlt' : i < listed.size:=by rw [hsz]; exact hlt
   have ho : ops[i]? = some ops[i]:=Array.getElem?_eq_getElem hlt
   have h2:=hmem.2
   rw [ho] at h2
   simp only [Option.map_some,Option.getD_some,Bool.and_eq_true,Bool.not_eq_true'] at h2
   obtain ⟨h2a,h2b⟩:=h2
   rw [← Array.all_toList,List.all_eq_true] at h2b
   simp only []
   rw [linearise_go_acc,List.reverse_singleton,List.singleton_append,List.filterMap_cons]
   simp only [ho]
   refine hp.step hs hi (i:=i) (o:=ops[i]) (by simp [hlt]) (by rw [getD_of_lt hlt' false true,h2a]; simp) (fun e he hb=>?_) (S':=fun j=>(listed.setIfInBounds i true).getD j false = true) (fun j=>?_) ?_
   ·have:=h2b e he
    simpa [hb] using this
   ·simp only [Array.getD_eq_getD_getElem?]
    by_cases e : i = j
    ·subst e
     rw [Array.getElem?_setIfInBounds_self_of_lt hlt']
     simp
    ·rw [Array.getElem?_setIfInBounds_ne e]
     simp [Ne.symm e]
   ·intro fr' L' hi'
    refine quiet_go hp hs hK f _ _ fr' L' (by simp [hsz]) hi' ?_
    have : cnt ops (listed.setIfInBounds i true) < cnt ops listed:=by
     unfold cnt
     refine filter_lt (fun x hx hp=>?_) ⟨i,by simpa using hlt,?_,by simp [h2a]⟩
     ·have hx' : x < ops.size:=by simpa using hx
      by_cases e : i = x
      ·subst e; simp [h2a]
      ·simp only [Array.getD_eq_getD_getElem?,Array.getElem?_setIfInBounds_ne e] at hp
       simpa [Array.getD_eq_getD_getElem?] using hp
     ·simp only [Array.getD_eq_getD_getElem?,Array.getElem?_setIfInBounds_self_of_lt hlt']
      rfl
    omega
end
theorem DrawP.quiet {C : Ctx} {n : Nat} {ops : Array Oper} {fr : List (Nat × V)} {L : List Blk} {K : List (Nat × V) → List Blk → Prop} (hm : C.P.follows .mixedOrders = true) (T : List Nat) (hst : stableB ops.toList T = true)
  (h : qOps C n ops.toList ops.toList fr L K) : DrawP C n ops fr L K:=by
 obtain ⟨F,M,val,ex,h1,h2,h3,h4⟩:=qOps_out ops.toList 0 fr L h
 have hs:=stab_of hst
 have hp : Plan C n ops.toList F M val ex:=⟨fun i o ho=>by simpa using (h3 i o ho).1,fun i o ho=>by simpa using (h3 i o ho).2⟩
 unfold DrawP
 intro t
 simp only [Region.schedule,hm,Bool.true_or,if_true,Region.linearise]
 have hz : ∀ j,(Array.replicate ops.size false).getD j false = false:=fun j=>by
  simp only [Array.getD_eq_getD_getElem?,Array.getElem?_replicate]
  split <;> rfl
 refine quiet_go hp hs (by simpa using h4) _ t _ fr L (by simp) ⟨?_,?_,?_,?_⟩ ?_
 ·intro i o e hi; rw [hz] at hi; cases hi
 ·intro j s hj; rw [hz] at hj; cases hj
 ·intro s _; exact (h1 s).symm
 ·exact ⟨0,Nat.zero_le _,h2.symm,fun j o _ _=>by rw [hz]; simp⟩
 ·unfold cnt
  exact Nat.le_trans (List.length_filter_le _ _) (by simp)
end Go.Tidy
/-
 The base layer: from a law's arguments,as they are read,to tidy data; from a call's contract to the law's.
-/
namespace Go.Tidy
inductive TyI (P : Program) : TypeId → List D → Prop
 | bool {t : TypeId} (h : P.underlying t = some .bool) (b : Bool) : TyI P t [.bool b]
 | int {t : TypeId} {k : IntKind} (h : P.underlying t = some (.int k)) (n : Int) (hw : (Lit.int k n).wf = true) : TyI P t [.int k n]
 | str {t : TypeId} (h : P.underlying t = some .string) (s : ByteArray) (hs : s.size ≤ maxLen) : TyI P t [.str s]
 | sl {t e : TypeId} (h : P.underlying t = some (.slice e)) (els : List (List D)) (hl : els.length ≤ maxLen) (hsz : ∀ y ∈ els,y.length = P.cellsOf e) (he : ∀ y ∈ els,TyI P e y) : TyI P t [.sl els]
 | struct {t : TypeId} {fs : Array Field} (h : P.underlying t = some (.struct fs)) (xs : List D) (hl : xs.length = P.cellsOf t)
   (hf : ∀ f ∈ fs.toList,TyI P f.type ((xs.drop f.offset).take (P.cellsOf f.type))) : TyI P t xs
def plainB (P : Program) (l : List TypeId) : Bool:=l.all fun t=>match P.underlying t with
 | some .bool | some (.int _) | some .string=>true
 | some (.slice e)=>l.contains e && Nat.blt 0 (P.cellsOf e)
 | some (.struct fs)=>fs.toList.all fun f=>l.contains f.type
 | _=>false
section
variable {H : Type} {enc : TypeId × Value → H} {P : Program} {w : World} {T : TypeId → Prop}
def RDL (w : World) (xs : List D) (cs : List Value) : Prop:=xs.length = cs.length ∧ ∀ (j : Nat) (x : D) (v : Value),xs[j]? = some x → cs[j]? = some v → RD (· < w.heap.size) w x v
theorem RDL.one {x : D} {v : Value} (h : RD (· < w.heap.size) w x v) : RDL w [x] [v]:=by
 refine ⟨rfl,fun j y u hy hu=>?_⟩
 cases j with
 | zero=>simp at hy hu; subst hy hu; exact h
 | succ j=>simp at hy
theorem RDL.append {xs ys : List D} {cs ds : List Value} (h : RDL w xs cs) (h' : RDL w ys ds) : RDL w (xs ++ ys) (cs ++ ds):=by
 refine ⟨by simp [h.1,h'.1],fun j x v hx hv=>?_⟩
 rcases Nat.lt_or_ge j xs.length with hj | hj
 ·rw [List.getElem?_append_left hj] at hx
  rw [List.getElem?_append_left (by rw [← h.1]; exact hj)] at hv
  exact h.2 j x v hx hv
 ·rw [List.getElem?_append_right hj] at hx
  rw [List.getElem?_append_right (by rw [← h.1]; exact hj),← h.1] at hv
  exact h'.2 _ x v hx hv
theorem mapM_range {α : Type} {f : Nat → Option α} {n : Nat} {l : List α} (h : (List.range n).mapM f = some l) : l.length = n ∧ ∀ i,i < n → f i = l[i]?:=by
 have key : ∀ (xs : List Nat) (l : List α),xs.mapM f = some l → l.length = xs.length ∧ ∀ (i : Nat) (x : Nat),xs[i]? = some x → f x = l[i]?:=by
  intro xs
  induction xs with
  | nil=>intro l h; simp at h; subst h; exact ⟨rfl,fun i x hx=>by simp at hx⟩
  | cons x xs ih =>
   intro l h
   rw [List.mapM_cons] at h
   cases hx : f x with
   | none=>simp [hx] at h
   | some y =>
    cases hy : xs.mapM f with
    | none=>simp [hx,hy] at h
    | some ys =>
     simp [hx,hy] at h
     subst h
     obtain ⟨h1,h2⟩:=ih ys hy
     refine ⟨by simp [h1],fun i z hz=>?_⟩
     cases i with
     | zero=>simp at hz; subst hz; simpa using hx
     | succ i=>simpa using h2 i z (by simpa using hz)
 obtain ⟨h1,h2⟩:=key _ _ h
 refine ⟨by simpa using h1,fun i hi=>h2 i i (by rw [List.getElem?_range hi])⟩
theorem cell_lt {a : Addr} {v : Value} (h : w.cell? a = some v) : a.block < w.heap.size:=by
 rcases Nat.lt_or_ge a.block w.heap.size with hl | hl
 ·exact hl
 ·have : w.heap[a.block]? = none:=Array.getElem?_eq_none hl
  unfold World.cell? at h
  rw [this] at h
  cases h
theorem block_add (a : Addr) (n : Nat) : (a.add n).block = a.block:=by unfold Addr.add; split <;> rfl
end
end Go.Tidy
/-
 The base layer: a law's statement out of its call's contract.
-/
namespace Go.Tidy
section
variable {H : Type} {enc : TypeId × Value → H} {P : Program}
theorem post_of_kept {f : Func} {s : ChangeSpec} {apart fresh handsOn again : Bool} {W W' : World} {args : Array Value} {v : Value} {ds gs : List (DataW H)} {before pa pv : List MemPlace}
  (hW : DataW.Whole enc P f.params.toList s.vars apart W args.toList ds gs before)
  (hres : ∀ (b : Nat) (sp : Nat → Bool) (hd : Bool),DataW.TrodAll enc P W' b sp hd f.resultTypes.toList (v.resultList f.resultTypes.size) (s.fn H (ds ++ gs)).results [])
  (hargs : ∀ sp : Nat → Bool,(∀ p ∈ before,sp p.block = true) → DataW.TrodAll enc P W' 0 sp true f.params.toList args.toList (s.fn H (ds ++ gs)).args pa)
  (hvars : ∀ sp : Nat → Bool,(∀ p ∈ before,sp p.block = true) → DataW.TrodVars enc P W' sp s.vars (s.fn H (ds ++ gs)).vars pv)
  (hps : before = pa ++ pv) (hk : W.keptBut W' (· ∈ before)) (hfz : ∀ a : Addr,a.block < W.heap.size → W'.frozen? a = W.frozen? a)
  (hok : ∀ (j : Nat) (t : TypeId) (r : Value),f.resultTypes[j]? = some t → (v.resultList f.resultTypes.size)[j]? = some r → Value.okWide P W' .any 0 t r) :
  s.post enc P f apart fresh handsOn again W args v W':=by
 have hlt : ∀ p ∈ before,p.block < W.heap.size:=fun p hp=>hW.lt p hp
 have hold : ∀ p ∈ before,(fun b=>decide (b < W.heap.size)) p.block = true:=fun p hp=>by simpa using hlt p hp
 refine ⟨ds,gs,before,[],pa,pv,hW,hres _ _ _,hargs _ hold,hvars _ hold,World.keptBut_mono (fun p hp=>⟨hp,?_⟩) hk,fun _=>?_⟩
 ·rw [hps,List.mem_append] at hp
  exact Or.inr hp
 ·obtain ⟨_,_,_,_,_,hz,hn⟩:=hW
  refine ⟨hok,_,_,([] ++ pa) ++ pv,⟨[] ++ pa,pv,Go.ChangeShapes.trodAll_append (hargs _ (fun _ _=>rfl)) (hres _ _ _),hvars _ (fun _ _=>rfl),rfl,?_,?_⟩,?_⟩
  ·intro b off hp
   have hp' : MemPlace.cell b off ∈ before:=by rw [hps]; simpa using hp
   rw [hfz _ (hlt _ hp')]
   exact hz b off hp'
  ·intro ha
   have:=hn ha
   rw [hps] at this
   simpa using this
  ·intro p hp _
   rw [hps]
   simpa using hp
def argV (P : Program) (t : TypeId) (xs : List D) : V :=
 match P.underlying t with
 | some (.struct _)=>.agg (xs.map .d)
 | _=>match xs with | [x]=>.d x | _=>.poison
def argVs (P : Program) : List TypeId → List (List D) → List V
 | t :: ts,x :: xs=>argV P t x :: argVs P ts xs
 | _,_=>[]
def TyA (P : Program) : List TypeId → List (List D) → Prop
 | [],[]=>True
 | t :: ts,x :: xs=>TyI P t x ∧ TyA P ts xs
 | _,_=>False
variable {w : World}
theorem argV_rv {t : TypeId} {base : Nat} {v : Value} {xs : List D} (hx : RDL w xs v.cells.toList) (ht : TyI P t xs) (hok : Value.okWide P w .any base t v) (g : Gh) (hI : ∀ r,r < w.heap.size → g.I r) (L : List Blk) : RV g w L (argV P t xs) v:=by
 have hd : ∀ {x : D} {u : Value},RD (· < w.heap.size) w x u → RD g.I w x u:=fun h=>h.mono hI (fun _ _ _ h=>h)
 have one : v.cells = #[v] → ∀ x,xs = [x] → RV g w L (.d x) v:=by
  rintro hv x rfl
  rw [hv] at hx
  exact .d _ _ (hd (hx.2 0 x v rfl rfl))
 have cell : (∀ cs,v ≠ .agg cs) → v.cells = #[v]:=fun h=>by cases v <;> first | rfl | exact absurd rfl (h _)
 unfold argV
 cases ht with
 | bool h b =>
  rw [h]
  refine one (cell fun cs hv=>?_) _ rfl
  subst hv; simp [Value.okWide,h,Cell.okWide,Cell.ok] at hok
 | int h n hw =>
  rw [h]
  refine one (cell fun cs hv=>?_) _ rfl
  subst hv; simp [Value.okWide,h,Cell.okWide,Cell.ok] at hok
 | str h s hs =>
  rw [h]
  refine one (cell fun cs hv=>?_) _ rfl
  subst hv; simp [Value.okWide,h,Cell.okWide,Cell.ok] at hok
 | sl h els hl hsz he =>
  rw [h]
  refine one (cell fun cs hv=>?_) _ rfl
  subst hv; simp [Value.okWide,h,Cell.okWide,Cell.ok] at hok
 | struct h xs hl hf =>
  rw [h]
  simp only [Value.okWide,h] at hok
  obtain ⟨cs,rfl,_,_⟩:=hok
  have hx : RDL w xs cs.toList:=hx
  refine .agg _ _ (by rw [List.length_map,hx.1]; simp) (fun j u hu=>?_) (fun j x u hxj hu=>?_)
  ·have hj : j < xs.length:=by rw [hx.1]; simpa using (Array.getElem?_eq_some_iff.1 hu).1
   exact (hx.2 j xs[j] u (List.getElem?_eq_getElem hj) (by simpa using hu)).one
  ·rw [List.getElem?_map] at hxj
   cases e : xs[j]? with
   | none=>rw [e] at hxj; cases hxj
   | some y =>
    rw [e] at hxj; cases hxj
    exact .d _ _ (hd (hx.2 j y u e (by simpa using hu)))
end
end Go.Tidy
namespace Go.Tidy
abbrev I (n : Int) : V:=.d (.int .i64 n)
abbrev B (b : Bool) : V:=.d (.bool b)
abbrev DI (n : Int) : D:=.int .i64 n
theorem wrap_id {n : Int} (h1 : -9223372036854775808 ≤ n) (h2 : n ≤ 9223372036854775807) : IntKind.i64.wrap n = n:=by
 simp only [IntKind.wrap,IntKind.bits,IntKind.signed]
 simp
 split <;> omega
theorem Idx.map {α β : Type} {f : α → β} {l : List α} {i : Int} {k : Nat → β → Prop} (n : Nat) (hi : i = n) (h : n < l.length) (hk : k n (f l[n])) : Idx (l.map f) i k :=
 Idx.intro n (f l[n]) hi (by rw [List.getElem?_map,List.getElem?_eq_getElem h]; rfl) hk
end Go.Tidy
/-
 The base layer: a round of a loop over a function.
-/
namespace Go.Tidy
def zipF : List Tmp → List V → List (Nat × V) → List (Nat × V)
 | p :: ps,x :: xs,fr=>zipF ps xs ((p,x) :: fr)
 | _,_,fr=>fr
def vRoundEnd (b k0 : Nat) (k : V → List Blk → Prop) (e : Exit) (σ : TS) : Prop :=
 match σ.L[b]? with
 | some (.loop r)=>match e with
  | .normal=>setB σ.L b (.loop { r with st:=.ready,pend:=none }) fun L=>FinP k0 (.d (.bool true)) L k
  | .ret=>setB σ.L b (.loop { r with st:=.done,pend:=some .ret }) fun L=>FinP k0 (.d (.bool false)) L k
  | .exit id=>setB σ.L b (.loop { r with st:=.done,pend:=some (.exit id) }) fun L=>FinP k0 (.d (.bool false)) L k
  | _=>False
 | _=>False
def vRound (C : Ctx) (cut : Code → Bool) (b : Nat) (args : List V) (L : List Blk) (k : V → List Blk → Prop) : Prop :=
 match L[b]? with
 | some (.loop r)=>match r.st with
  | .ready=>bif Nat.beq r.ps.length args.length && r.ps.all (fun p=>Nat.blt p r.n) then
    vc C cut L.length r.assign ⟨zipF r.ps args r.fr,r.n,L,[],some b⟩ fun e σ=>match e with
     | .normal=>match σ.L[b]? with
      | some (.loop r1)=>match r1.st with
       | .ready=>setB σ.L b (.loop { r1 with st:=.busy }) fun L1=>vc C cut L.length r.body { σ with L:=L1 } (vRoundEnd b L.length k)
       | _=>False
      | _=>False
     | _=>False
   else False
  | _=>False
 | _=>False
section
variable {C : Ctx} {g : Gh} {w : World} {L : List Blk}
theorem zip_frame : ∀ (ps : List Tmp) (xs : List V) (vs : List Value) (fr : List (Nat × V)) (tmps : Array Value),ps.length = xs.length → xs.length = vs.length → (∀ p ∈ ps,p < tmps.size) →
  (∀ (j : Nat) (x : V) (v : Value),xs[j]? = some x → vs[j]? = some v → RV g w L x v) → (∀ i,RV g w L (look fr i) (tmps.getD i undef)) →
  ((ps.zip vs).foldl (fun tmps ta=>tmps.setIfInBounds ta.1 ta.2) tmps).size = tmps.size ∧ ∀ i,RV g w L (look (zipF ps xs fr) i) (((ps.zip vs).foldl (fun tmps ta=>tmps.setIfInBounds ta.1 ta.2) tmps).getD i undef)
 | [],[],[],fr,tmps,_,_,_,_,h=>⟨rfl,h⟩
 | p :: ps,x :: xs,v :: vs,fr,tmps,h1,h2,h3,h4,h=>by
  have ih:=zip_frame ps xs vs ((p,x) :: fr) (tmps.setIfInBounds p v) (by simpa using h1) (by simpa using h2) (fun q hq=>by simpa using h3 q (by simp [hq]))
   (fun j x v hx hv=>h4 (j + 1) x v (by simpa using hx) (by simpa using hv)) (fun i=>by
    rw [look_cons]
    have hp:=h3 p (by simp)
    by_cases e : p = i
    ·subst e
     rw [if_pos rfl]
     simp [Array.getD,hp]
     exact h4 0 x v rfl rfl
    ·rw [if_neg e]
     have : (tmps.setIfInBounds p v).getD i undef = tmps.getD i undef:=by
      simp only [Array.getD_eq_getD_getElem?,Array.getElem?_setIfInBounds_ne e]
     rw [this]
     exact h i)
  refine ⟨?_,?_⟩
  ·simpa using ih.1
  ·simpa [zipF] using ih.2
 | [],_ :: _,_,_,_,h1,_,_,_,_=>by simp at h1
 | _ :: _,[],_,_,_,h1,_,_,_,_=>by simp at h1
 | [],[],_ :: _,_,_,_,h2,_,_,_=>by simp at h2
 | _ :: _,_ :: _,[],_,_,_,h2,_,_,_=>by simp at h2
theorem loop_step (hg : Good g w L) {b q : Nat} {l : LoopR} {rec : Loop} (hL : L[b]? = some (.loop l)) (hm : g.m b = some q) (hh : w.heap[q]? = some (.loop rec)) (st : LoopState) (pd : Option Code) :
  Good g (w.putObj q (.loop { rec with state:=st,pending:=pd })) (L.set b (.loop { l with st:=st,pend:=pd })) ∧
  Prog L.length g w L g (w.putObj q (.loop { rec with state:=st,pending:=pd })) (L.set b (.loop { l with st:=st,pend:=pd })):=by
 have hbl:=lt_of_get hL
 have hql : q < w.heap.size:=(Array.getElem?_eq_some_iff.1 hh).1
 have S : Step g w L b (.loop { l with st:=st,pend:=pd }) g (w.putObj q (.loop { rec with state:=st,pending:=pd })):=by
  refine ⟨hg,⟨_,hL,by simp⟩,by rw [hL]; simp,⟨rfl,rfl,rfl⟩,by simp,rfl,fun _ _=>rfl,fun _ _=>rfl,fun p o' hp hne=>putObj_ext p o' hp (by rw [← hm]; exact hne),fun r hr=>.inl hr,?_⟩
  exact ⟨fun cs e=>(by rw [hL] at e; cases e),fun gen sz els e=>(by rw [hL] at e; cases e),fun es e=>(by rw [hL] at e; cases e),fun l0 _=>.inr ⟨_,List.getElem?_set_self hbl,rfl⟩,fun e=>(by rw [hL] at e; cases e)⟩
 obtain ⟨q',rec',h1,h2,h3,h4,h5,h6,h7,h8,h9,h10,h11⟩:=hg.blk b _ hL
 rw [hm] at h1; cases h1
 rw [hh] at h2; cases h2
 have hne : l.df ≠ b:=fun e=>by have h11:=h11.1; rw [e,hL] at h11; cases h11
 refine ⟨S.good' ⟨q,_,hm,World.putObj_heap_same hql,rfl,rfl,h5,h6,h7,h8,fun i=>S.mono (h9 i),h10,?_,h11.2⟩,S.prog⟩
 rw [List.getElem?_set_ne (Ne.symm hne)]; exact h11.1
theorem yld_at {b q l : Nat} {r : LoopR} (hL : L[b]? = some (.loop r)) (hm : g.m b = some q) (h : RV g w L (.yld b) (.func (.yield l) #[] #[])) : q = l:=by
 generalize hv : Value.func (.yield l) #[] #[] = v at h
 cases h with
 | yld _ r' _ hL' hm'=>rw [hm] at hm'; cases hm'; cases hv; rfl
 | yldX _ r' hL'=>rw [hL] at hL'; cases hL'
def RoundPan (P : Program) (fn : Func) (R : Ending → World → Prop) (e : Exit) (a : Act) (w : World) : Prop :=
 ∃ ch,e = .panic ch ∧ LeavesInM Fence.wide 0 P fn a.tmps (fun e w=>(∃ ch,e = .panicked ch) ∧ R e w) a.defers (.panicking ch) w
theorem roundIn_of_wpV {P : Program} {l : Nat} {f : FuncId} {tmps : Array Value} {assign body : Code} {w : World} {R : Ending → World → Prop} {fn : Func} (hf : P.funcs[f]? = some fn)
  (h : wpV (some l) P assign (fun e a1 w1=>(e = .normal ∧ ∃ w2,(Instr.beginRound l).run P w1 = .ok () w2 ∧ wpV (some l) P body (fun e a w=>roundPost P l R e a w ∨ RoundPan P fn R e a w) a1 w2) ∨ RoundPan P fn R e a1 w1) { tmps:=tmps,defers:=[] } w) :
  RoundIn Fence.wide 0 P l f tmps assign body w R:=by
 refine ⟨trivial,fun c cs _=>?_⟩
 obtain ⟨b,hbd⟩ : ∃ b : Frame,b = { (default : Frame) with fn:=f,kind:=.normal,roundOf:=some l }:=⟨_,rfl⟩
 have hbf : b.fn = f:=by rw [hbd]
 have hbk : b.kind = .normal:=by rw [hbd]
 have hbr : b.roundOf = some l:=by rw [hbd]
 have hb0 : Frame.round l f tmps assign body .normal = b.atR { tmps:=tmps,defers:=[] } [.code assign,.beginRound,.code body]:=by
  rw [hbd]; simp [Frame.round,Frame.atR]
 have hv : ∃ fn,P.funcs[b.fn]? = some fn:=⟨fn,by rw [hbf]; exact hf⟩
 have pan : ∀ (a : Act) (todo : List Item) (w1 : World) (ch : List PanicEntry),StepsIn (Machine.fenced P (Fx (some l))) P (lone (Frame.round l f tmps assign body .normal) (c :: cs) w) (lone { b.atR a todo with mode:=.panicking ch } (c :: cs) w1) →
   LeavesInM Fence.wide 0 P fn a.tmps (fun e w=>(∃ ch,e = .panicked ch) ∧ R e w) a.defers (.panicking ch) w1 →
   ∃ e w',R e w' ∧ ComesIn (Machine.fenced P Fence.wide) P (lone (Frame.round l f tmps assign body .normal) (c :: cs) w)
    (match e with
     | .returned v=>lone (c.finish v) cs w'
     | .panicked chain=>lone (c.raise chain) cs w'
     | .outgrown=>lone c cs w') e:=by
  intro a todo w1 ch s hl
  obtain ⟨e2,w2,fr2,⟨⟨ch2,rfl⟩,hR⟩,hs2,hfn,hlv⟩:=leaves_stepsInM a.defers (.panicking ch) w1 { b.atR a todo with mode:=.panicking ch } (c :: cs) rfl rfl rfl (by simpa [Frame.atR,hbf] using hf) (by simpa [Frame.atR] using hbk) trivial (room_wide _) hl
  have hs3 : StepsIn (Machine.fenced P Fence.wide) P _ _:=hs2
  exact ⟨.panicked ch2,w2,hR,(stepsIn_wide.2 s.steps).trans (hs3.trans (.one (fenced_wide _ _) (step_leave_panicked hlv)))⟩
 obtain ⟨e,a1,w1,hq,s1⟩:=h b [.beginRound,.code body] (c :: cs) hbr hv
 rw [← hb0] at s1
 rcases hq with ⟨rfl,w2,hbr2,hbody⟩ | ⟨ch,rfl,hl⟩
 rotate_left
 ·obtain ⟨todo,s⟩:=s1; exact pan a1 todo w1 ch s hl
 have s2:=StepsIn.trans s1 (.one (fenced_Fx P _) (stepR_beginRound hbr hbr2))
 obtain ⟨e2,a2,w3,hq2,s3⟩:=hbody b [] (c :: cs) hbr hv
 have wide : ∀ {m m' : Machine},StepsIn (Machine.fenced P (Fx (some l))) P m m' → StepsIn (Machine.fenced P Fence.wide) P m m':=fun s=>stepsIn_wide.2 s.steps
 rcases hq2 with hq2 | ⟨ch,rfl,hl⟩
 rotate_left
 ·obtain ⟨todo,s⟩:=s3; exact pan a2 todo w3 ch (s2.trans s) hl
 cases e2 with
 | normal =>
  obtain ⟨v,w4,hend,hR⟩:=hq2
  exact ⟨.returned v,w4,hR,wide ((s2.trans s3).trans (.one (fenced_Fx P _) (stepR_round_end hbr (by simpa using hbk) hend)))⟩
 | ret =>
  obtain ⟨v,w4,hend,hR⟩:=hq2
  obtain ⟨k1,s⟩:=s3.2 (by rw [hbr]; rfl)
  exact ⟨.returned v,w4,hR,wide ((s2.trans s).trans (.one (fenced_Fx P _) (stepR_round_ret hbr (by simpa using hbk) hend)))⟩
 | exit id =>
  obtain ⟨v,w4,hend,hR⟩:=hq2
  obtain ⟨k1,hk,s⟩:=s3.2 (by rw [hbr]; rfl) rfl
  exact ⟨.returned v,w4,hR,wide ((s2.trans s).trans (.one (fenced_Fx P _) (stepR_round_exit hbr (by simpa using hbk) hk hend)))⟩
 | goto t =>
  obtain ⟨v,w4,hend,hR⟩:=hq2
  obtain ⟨k1,hk,s⟩:=s3.2 (by rw [hbr]; rfl) rfl
  exact ⟨.returned v,w4,hR,wide ((s2.trans s).trans (.one (fenced_Fx P _) (stepR_round_goto hbr (by simpa using hbk) hk hend)))⟩
 | panic chain=>exact hq2.elim
 | outgrown=>exact hq2.elim
theorem YieldP.round (hC : C.OK) (cut : Code → Bool) {b : Nat} {args : List V} {k : V → List Blk → Prop} (h : vRound C cut b args L k) (hpn : C.pn ≤ L.length:=by exact Nat.zero_le _) : YieldP C b args L k:=by
 unfold YieldP
 intro g w vs l hg hvs hy
 unfold vRound at h
 split at h
 case h_2=>exact h.elim
 rename_i r hL
 split at h
 case h_2=>exact h.elim
 rename_i hst
 cases hcond : (Nat.beq r.ps.length args.length && r.ps.all (fun p=>Nat.blt p r.n)) with
 | false=>simp only [hcond,cond_false] at h
 | true =>
 simp only [hcond,cond_true] at h
 rw [Bool.and_eq_true] at hcond
 have hpl:=Nat.eq_of_beq_eq_true hcond.1
 obtain ⟨q,rec,h1,h2,h3,h4,h5,h6,h7,h8,h9,h10,h11,hvf⟩:=hg.blk b _ hL
 obtain ⟨fn,hfn⟩:=hC.ex _ hvf
 have hq : q = l:=yld_at hL h1 hy
 subst hq
 have hps : ∀ p ∈ r.ps,p < rec.tmps.size:=fun p hp=>by
  have:=List.all_eq_true.1 hcond.2 p hp
  rw [h8]; simpa [Nat.blt_eq] using this
 have hsz : vs.size = rec.params.size:=by rw [h5]; simp; have:=hvs.1; omega
 have hz:=zip_frame (g:=g) (w:=w) (L:=L) r.ps args vs.toList r.fr rec.tmps hpl (by simpa using hvs.1) hps (fun j x v hx hv=>hvs.2 j x v hx (by simpa using hv)) h9
 have hfold : (rec.params.zip vs).foldl (fun tmps ta=>tmps.setIfInBounds ta.1 ta.2) rec.tmps = (r.ps.zip vs.toList).foldl (fun tmps ta=>tmps.setIfInBounds ta.1 ta.2) rec.tmps:=by
  rw [← Array.foldl_toList]
  rw [h5]
  simp
 refine ⟨_,_,_,_,run_yield h2 hsz,?_⟩
 rw [h6,h7]
 refine roundIn_of_wpV hfn ?_
 have hs0 : St L.length (some q) g ⟨zipF r.ps args r.fr,r.n,L,[],some b⟩ { tmps:=(rec.params.zip vs).foldl (fun tmps x=>match x with | (t,a)=>tmps.setIfInBounds t a) rec.tmps,defers:=[] } w:=by
  have hf' : (rec.params.zip vs).foldl (fun tmps x=>match x with | (t,a)=>tmps.setIfInBounds t a) rec.tmps = (r.ps.zip vs.toList).foldl (fun tmps ta=>tmps.setIfInBounds ta.1 ta.2) rec.tmps:=hfold
  refine ⟨by rw [hf']; exact hz.1.trans h8,fun i=>by rw [hf']; exact hz.2 i,hg,Nat.le_refl _,rfl,fun i b d hb=>by simp at hb,fun lb hlb=>?_,fun h=>by cases h⟩
  cases hlb
  exact ⟨q,rfl,.yld _ _ _ hL h1⟩
 have pan : ∀ {Q : Exit → TS → Prop} {e : Exit} {a' : Act} {w' : World},PostP C L.length g w L e a' w' → NewD { tmps:=(rec.params.zip vs).foldl (fun tmps x=>match x with | (t,a)=>tmps.setIfInBounds t a) rec.tmps,defers:=[] } w a' →
   RoundPan C.P fn (fun e w'=>(∃ v X L' g',e = .returned v ∧ k X L' ∧ RV g' w' L' X v ∧ Good g' w' L' ∧ Prog L.length g w L g' w' L') ∨ PanO C g w L e w') e a' w':=by
  rintro Q e a' w' ⟨v,X,L',g',rfl,hS,hi⟩ hnew
  refine ⟨_,rfl,marks_pan a'.defers w' (hnew.2 List.nodup_nil) (fun d hd=>?_) hg hS (fun w2 hS2=>⟨⟨_,rfl⟩,.inr ⟨v,X,L',g',rfl,hS2⟩⟩)⟩
  obtain ⟨q,h1,h2,h3,h4⟩:=hi d hd
  refine ⟨q,h1,h2,h3,h4,?_⟩
  rcases hnew.1 d hd with h5 | ⟨q',h5,h6⟩
  ·simp at h5
  ·rw [h1] at h5; cases h5; exact h6
 refine wpV_mono (vc_ok hC hpn _ _ _ g _ w h hs0) ?_
 rintro e a1 w1 ⟨⟨σ1,g1,hq1,hs1,hp1⟩ | hpp,hn1,-⟩
 rotate_left
 ·exact .inr (pan (Q:=fun _ _=>False) hpp hn1)
 refine .inl ?_
 cases e
 case normal =>
  simp only [] at hq1
  split at hq1
  case h_2=>exact hq1.elim
  rename_i r1 hL1
  split at hq1
  case h_2=>exact hq1.elim
  rename_i hst1
  rw [setB_eq] at hq1
  obtain ⟨q1,rec1,m1,m2,m3,m4⟩:=RB.loop_of hs1.good hL1
  have hy1 : RV g1 w1 σ1.L (.yld b) (.func (.yield q) #[] #[]):=hp1.mono _ _ hy.bel hy
  have e1 : q1 = q:=yld_at hL1 m1 hy1
  subst e1
  obtain ⟨s1,s2⟩:=loop_step hs1.good hL1 m1 m2 .busy rec1.pending
  rw [m4] at s1 s2
  have hb : (Instr.beginRound q1).run C.P w1 = .ok () (w1.putObj q1 (.loop { rec1 with state:=.busy,pending:=r1.pend })):=by
   rw [run_beginRound m2 (m3.trans hst1),← m4]
  refine ⟨rfl,_,hb,?_⟩
  have hs2 : St L.length (some q1) g1 { σ1 with L:=σ1.L.set b (.loop { r1 with st:=.busy }) } a1 (w1.putObj q1 (.loop { rec1 with state:=.busy,pending:=r1.pend })) :=
   hs1.of_at ⟨hs1.n,fun i=>s2.mono _ _ (hs1.fr i).bel (hs1.fr i),s1⟩ rfl s2
  refine wpV_mono (vc_ok hC hpn _ _ _ g1 a1 _ hq1 hs2) ?_
  intro e a2 w2 hpost
  have hp12:=hp1.trans (s2.le hs1.k (Nat.le_refl _))
  obtain ⟨⟨σ2,g2,hq2,hs2',hp02⟩ | hpp,hn2,-⟩:=Post.later (Nat.le_refl _) hp12 hn1 hpost
  rotate_left
  ·exact .inr (pan (Q:=fun _ _=>False) hpp hn2)
  refine .inl ?_
  unfold vRoundEnd at hq2
  split at hq2
  case h_2=>exact hq2.elim
  rename_i r2 hL2
  obtain ⟨q2,rec2,n1,n2,n3,n4⟩:=RB.loop_of hs2'.good hL2
  have hy2 : RV g2 w2 σ2.L (.yld b) (.func (.yield q1) #[] #[]):=hp02.mono _ _ hy.bel hy
  have e2 : q2 = q1:=yld_at hL2 n1 hy2
  subst e2
  have fin : ∀ (jump : Option Code) (st : LoopState),st = (if jump.isNone then .ready else .done) → FinP L.length (.d (.bool jump.isNone)) (σ2.L.set b (.loop { r2 with st:=st,pend:=jump })) k →
    ∃ v w',(Instr.endRound q2 jump).run C.P w2 = .ok v w' ∧ ((∃ v' X L' g',Ending.returned v = .returned v' ∧ k X L' ∧ RV g' w' L' X v' ∧ Good g' w' L' ∧ Prog L.length g w L g' w' L') ∨ PanO C g w L (.returned v) w'):=by
   intro jump st hst hF
   unfold FinP at hF
   obtain ⟨X',L',hret,hk⟩:=hF
   obtain ⟨t1,t2⟩:=loop_step hs2'.good hL2 n1 n2 st jump
   have hlen:=hs2'.k
   obtain ⟨g',c1,c2,c3⟩:=hret g2 _ (.bool jump.isNone) t1 (by simpa using hlen) (.d _ _ (.bool _))
   refine ⟨_,_,run_endRound jump n2,.inl ⟨_,X',L',g',rfl,hk,?_⟩⟩
   rw [← hst]
   exact ⟨c2,c1,hp02.trans ((t2.le hlen (Nat.le_refl _)).trans c3)⟩
  cases e
  case normal =>
   simp only [setB_eq] at hq2
   exact fin none .ready rfl hq2
  case ret =>
   simp only [setB_eq] at hq2
   exact fin (some .ret) .done rfl hq2
  case exit id =>
   simp only [setB_eq] at hq2
   exact fin (some (.exit id)) .done rfl hq2
  all_goals exact hq2.elim
 all_goals exact hq1.elim
end
end Go.Tidy
/-
 The base layer: what a function owns,handed to a contract that speaks of data.
-/
namespace Go.Tidy
inductive CwL (S : Nat → Prop) (L : List Blk) : List V → List V → Prop
 | nil : CwL S L [] []
 | keep {x : V} {xs ys : List V} (h : CwL S L xs ys) : CwL S L (x :: xs) (x :: ys)
 | cv {x y : V} {xs ys : List V} (h : Cw S L x y) (hs : CwL S L xs ys) : CwL S L (x :: xs) (y :: ys)
section
variable {C : Ctx} {g : Gh} {w : World} {L : List Blk}
theorem CwL.len {S : Nat → Prop} {xs ys : List V} (h : CwL S L xs ys) : xs.length = ys.length:=by
 induction h with
 | nil=>rfl
 | keep _ ih=>simp [ih]
 | cv _ _ ih=>simp [ih]
theorem CwL.rvs {S : Nat → Prop} (hg : Good g w L) {g' : Gh} {L' : List Blk} {xs ys : List V} (h : CwL S L xs ys) (hI : ∀ q,g.I q → g'.I q) (hI' : ∀ b q,S b → live L b → g.m b = some q → g'.I q)
  (hkeep : ∀ (x : V) (v : Value),x ∈ ys → RV g w L x v → RV g' w L' x v) : ∀ (vs : List Value),(∀ (j : Nat) (x : V) (v : Value),xs[j]? = some x → vs[j]? = some v → RV g w L x v) →
  ∀ (j : Nat) (y : V) (v : Value),ys[j]? = some y → vs[j]? = some v → RV g' w L' y v:=by
 induction h with
 | nil=>intro vs _ j y v hy; simp at hy
 | keep h ih =>
  intro vs hr j y v hy hv
  cases vs with
  | nil=>simp at hv
  | cons u us =>
   cases j with
   | zero=>simp at hy hv; subst hy hv; exact hkeep _ _ (by simp) (hr 0 _ _ rfl rfl)
   | succ j=>exact ih (fun x v hx=>hkeep x v (by simp [hx])) us (fun j x v hx hv=>hr (j + 1) x v (by simpa using hx) (by simpa using hv)) j y v (by simpa using hy) (by simpa using hv)
 | cv hc h ih =>
  intro vs hr j y v hy hv
  cases vs with
  | nil=>simp at hv
  | cons u us =>
   cases j with
   | zero=>simp at hy hv; subst hy hv; exact hc.rv hg hI hI' (hr 0 _ _ rfl rfl)
   | succ j=>exact ih (fun x v hx=>hkeep x v (by simp [hx])) us (fun j x v hx hv=>hr (j + 1) x v (by simpa using hx) (by simpa using hv)) j y v (by simpa using hy) (by simpa using hv)
def D.scalar : D → Bool
 | .bool _ | .int _ _ | .str _ | .nilptr | .nilfn | .niliface | .nilmap=>true
 | .sl els=>els.isEmpty
 | .fn _ caps=>caps.isEmpty
 | _=>false
mutual
def V.scalar : V → Bool
 | .d x=>x.scalar
 | .poison | .tt | .ff | .nil | .glob _=>true
 | .agg cs=>V.scalarL cs
 | .tup cs=>V.scalarL cs
 | .fn _ cs=>V.scalarL cs
 | _=>false
def V.scalarL : List V → Bool
 | []=>true
 | x :: r=>V.scalar x && V.scalarL r
end
theorem V.scalarL_get : ∀ {cs : List V} {j : Nat} {x : V},V.scalarL cs = true → cs[j]? = some x → x.scalar = true
 | [],j,x,_,h=>by simp at h
 | c :: r,0,x,hb,h=>by simp only [V.scalarL,Bool.and_eq_true] at hb; simp at h; exact h ▸ hb.1
 | c :: r,j + 1,x,hb,h=>by simp only [V.scalarL,Bool.and_eq_true] at hb; exact V.scalarL_get hb.2 (by simpa using h)
theorem RV.scalar {g' : Gh} {w' : World} {L' : List Blk} {x : V} {v : Value} (h : RV g w L x v) : x.scalar = true → RV g' w' L' x v:=by
 induction h with
 | poison v=>exact fun _=>.poison v
 | tt=>exact fun _=>.tt
 | ff=>exact fun _=>.ff
 | nil=>exact fun _=>.nil
 | glob k=>exact fun _=>.glob k
 | clp els a h=>exact fun hs=>by simp [V.scalar] at hs
 | d x v h =>
  intro hs
  refine .d _ _ ?_
  cases h with
  | bool b=>exact .bool b
  | int k n=>exact .int k n
  | str s=>exact .str s
  | nilptr=>exact .nilptr
  | nilfn=>exact .nilfn
  | niliface=>exact .niliface
  | nilmap=>exact .nilmap
  | slNil a c=>exact .slNil a c
  | sl els ad c sz cs hsz hcell hi hlc hrec =>
   have : els = []:=by simpa [V.scalar,D.scalar] using hs
   subst this
   exact .slNil _ _
  | fn f caps vs hlen hrec =>
   have : caps = []:=by simpa [V.scalar,D.scalar] using hs
   subst this
   exact .fn f [] vs hlen (fun j x v hx=>by simp at hx)
  | rptr | ifaceA | ifaceL=>simp [V.scalar,D.scalar] at hs
 | agg cs vs hlen hone _ ih=>exact fun hs=>.agg cs vs hlen hone fun j x v hx hv=>ih j x v hx hv (V.scalarL_get (by simpa [V.scalar] using hs) hx)
 | tup cs vs hlen _ ih=>exact fun hs=>.tup cs vs hlen fun j x v hx hv=>ih j x v hx hv (V.scalarL_get (by simpa [V.scalar] using hs) hx)
 | fn f cs vs hlen _ ih=>exact fun hs=>.fn f cs vs hlen fun j x v hx hv=>ih j x v hx hv (V.scalarL_get (by simpa [V.scalar] using hs) hx)
 | _=>intro hs; simp [V.scalar] at hs
theorem CallP.borrow [Quiet C] {f : FuncId} {args dargs : List V} {q k : V → List Blk → Prop} (h : CallP C f dargs [] q) (hc : CwL (fun _=>True) L args dargs) (ha : V.belL 0 dargs = true)
  (hk : ∀ X L',q X L' → L' = [] ∧ X.scalar = true ∧ k X L) : CallP C f args L k:=by
 rw [CallP_q] at h ⊢
 have hbel : ∀ x ∈ dargs,x.bel 0 = true:=fun x hx=>by
  obtain ⟨j,hj⟩:=List.mem_iff_getElem?.1 hx
  exact V.belL_get ha hj
 refine ⟨h.1,fun g w vs hg hv=>(h.2 { I:=fun r=>r < w.heap.size,m:=fun _=>none,cap:=fun _=>0 } w vs ⟨?_,?_,?_,?_,hg.gl.mono (fun r h=>hg.lt r h) (fun a v _ h=>h)⟩ ?_).mono ?_⟩
 ·rintro b b' r ⟨k,hk,_⟩; simp at hk
 ·rintro r ⟨b,⟨k,hk,_⟩,_⟩; simp at hk
 ·exact fun r h=>h
 ·intro b k hk; simp at hk
 ·refine ⟨hc.len ▸ hv.1,fun j y v hy hvj=>?_⟩
  refine hc.rvs hg (g':={ I:=fun r=>r < w.heap.size,m:=fun _=>none,cap:=fun _=>0 }) (L':=[]) (fun r hr=>hg.lt r hr) (fun b r _ hl hm=>hg.owned_lt ⟨b,hl,hm⟩) (fun x u hx hu=>?_) vs.toList
   (fun j x v hx hv'=>hv.2 j x v hx (by simpa using hv')) j y v hy (by simpa using hvj)
  exact RV.mono (g:=g) (g':={ I:=fun r=>r < w.heap.size,m:=fun _=>none,cap:=fun _=>0 }) (L:=L) (k:=0) (fun r h=>hg.lt r h) (fun a v _ h=>h) (fun b hb=>absurd hb (Nat.not_lt_zero _)) (hbel x hx) hu
 ·rintro e w' ⟨v,X,L1,g1,he,hX,hr,hg1,hp⟩
  obtain ⟨rfl,hsc,hkX⟩:=hk X L1 hX
  have no : ∀ (g' : Gh) q,¬ owned g' ([] : List Blk) q:=fun g' q ⟨b,⟨k,hk,_⟩,_⟩=>by simp at hk
  have heap : ∀ (q : Nat) (o : Obj),w.heap[q]? = some o → w'.heap[q]? = some o:=fun q o h=>hp.kept q o h (no _ q)
  have cells : ∀ (a : Addr) (v : Value),g.I a.block → w.cell? a = some v → w'.cell? a = some v:=by
   intro a v hI hc
   have hlt:=hg.lt _ hI
   have hh:=heap a.block (w.heap[a.block]) (Array.getElem?_eq_getElem hlt)
   rw [World.cell?_of_block (w:=w) (w':=w') (by rw [hh,Array.getElem?_eq_getElem hlt])]
   exact hc
  have mono : ∀ (x : V) (v : Value),RV g w L x v → RV g w' L x v:=fun x v h =>
   RV.mono (g:=g) (g':=g) (L:=L) (L':=L) (k:=L.length) (fun q hq=>hq) cells (fun b _=>Keep.refl g L b) h.bel h
  refine ⟨v,X,L,g,he,hkX,hr.scalar hsc,⟨hg.inj,hg.dis,fun q hq=>Nat.lt_of_lt_of_le (hg.lt q hq) hp.size,fun b k hk=>?_,hg.gl.mono (fun q hq=>hq) cells⟩,
   ⟨hp.env,hp.size,fun q o h _=>heap q o h,fun q h _=>h,fun q h=>.inl h,fun q h=>h,fun x v _ h=>mono x v h,fun b r _ h1 h2=>⟨h1,h2⟩,fun h=>h⟩⟩
  exact RB.mono' mono rfl rfl (fun q o _ ho=>heap q o ho) (fun l _=>⟨rfl,fun h=>h⟩) (hg.blk b k hk)
def plainBlk (L : List Blk) (bs : List Nat) : Bool:=bs.all fun b=>match L[b]? with | some (.row ..)=>true | some (.cells _)=>true | _=>false
def killB : List Nat → List Blk → List Blk
 | [],L=>L
 | b :: r,L=>killB r (L.set b .dead)
theorem killB_len : ∀ (bs : List Nat) (L : List Blk),(killB bs L).length = L.length
 | [],L=>rfl
 | b :: r,L=>by simp [killB,killB_len r]
theorem killB_out : ∀ (bs : List Nat) (L : List Blk) (b : Nat),b ∉ bs → (killB bs L)[b]? = L[b]?
 | [],L,b,_=>rfl
 | c :: r,L,b,h=>by
  simp at h
  rw [killB,killB_out r _ b h.2,List.getElem?_set_ne (fun e=>h.1 e.symm)]
theorem killB_in : ∀ (bs : List Nat) (L : List Blk) (b : Nat),b ∈ bs → b < L.length → (killB bs L)[b]? = some .dead
 | [],L,b,h,_=>by simp at h
 | c :: r,L,b,h,hl=>by
  by_cases hr : b ∈ r
  ·exact killB_in r _ b hr (by simpa using hl)
  ·have : b = c:=by simpa [hr] using h
   subst this
   rw [killB,killB_out r _ b hr,List.getElem?_set_self hl]
theorem CallP.freeze [Quiet C] {f : FuncId} {args dargs : List V} {L' : List Blk} {k : V → List Blk → Prop} (bs : List Nat) (hL : killB bs L = L') (hbs : plainBlk L bs = true) (hc : CwL (· ∈ bs) L args dargs) (h : CallP C f dargs L' k) : CallP C f args L k:=by
 subst hL
 rw [CallP_q] at h ⊢
 refine ⟨h.1,fun g w vs hg hv=>?_⟩
 have hp : ∀ b ∈ bs,∃ k0,L[b]? = some k0 ∧ k0 ≠ .defr ∧ b < L.length:=fun b hb=>by
  have:=List.all_eq_true.1 hbs b hb
  split at this
  ·rename_i e; exact ⟨_,e,by simp,lt_of_get e⟩
  ·rename_i e; exact ⟨_,e,by simp,lt_of_get e⟩
  ·cases this
 let g' : Gh:={ g with I:=fun q=>g.I q ∨ ∃ b ∈ bs,live L b ∧ g.m b = some q }
 have hkeep : ∀ b,Keep g L g' (killB bs L) b:=by
  intro b
  by_cases hb : b ∈ bs
  ·obtain ⟨_,_,_,hlt⟩:=hp b hb
   have hd:=killB_in bs L b hb hlt
   exact ⟨fun _ _=>.inl hd,fun _ _ _ _=>.inl hd,fun _ _=>.inl hd,fun _ _=>.inl hd,fun _=>hd⟩
  ·exact Keep.same (killB_out bs L b hb) rfl rfl
 have mono : ∀ (x : V) (v : Value),RV g w L x v → RV g' w (killB bs L) x v:=fun x v hx=>RV.mono (g:=g) (g':=g') (k:=L.length) (fun q hq=>.inl hq) (fun a v _ h=>h) (fun b _=>hkeep b) hx.bel hx
 have lv : ∀ b,live (killB bs L) b → b ∉ bs ∧ live L b:=by
  rintro b ⟨k0,hk0,hd⟩
  by_cases hb : b ∈ bs
  ·obtain ⟨_,_,_,hlt⟩:=hp b hb
   rw [killB_in bs L b hb hlt] at hk0
   exact absurd (by cases hk0; rfl) hd
  ·rw [killB_out bs L b hb] at hk0
   exact ⟨hb,k0,hk0,hd⟩
 have hgood : Good g' w (killB bs L):=by
  refine ⟨fun b b' r h1 h2 m1 m2=>hg.inj b b' r (lv b h1).2 (lv b' h2).2 m1 m2,?_,?_,fun b k0 hk0=>?_,hg.gl.mono (fun q hq=>.inl hq) (fun a v _ h=>h)⟩
  ·rintro r ⟨b,hl,hm⟩ hI
   obtain ⟨hb,hl'⟩:=lv b hl
   rcases hI with hI | ⟨b',hb',hl2,hm2⟩
   ·exact hg.dis r ⟨b,hl',hm⟩ hI
   ·exact hb (hg.inj b b' r hl' hl2 hm hm2 ▸ hb')
  ·rintro r (hI | ⟨b',_,hl2,hm2⟩)
   ·exact hg.lt r hI
   ·exact hg.owned_lt ⟨b',hl2,hm2⟩
  ·by_cases hb : b ∈ bs
   ·obtain ⟨_,_,_,hlt⟩:=hp b hb
    rw [killB_in bs L b hb hlt] at hk0
    cases hk0; trivial
   ·rw [killB_out bs L b hb] at hk0
    refine RB.mono' mono rfl rfl (fun _ _ _ h=>h) (fun l hl=>⟨rfl,fun h=>?_⟩) (hg.blk b k0 hk0)
    by_cases hd : l.df ∈ bs
    ·obtain ⟨k1,e1,e2,_⟩:=hp _ hd
     rw [h] at e1; cases e1; exact absurd rfl e2
    ·rw [killB_out bs L _ hd]; exact h
 have hprog : Prog L.length g w L g' w (killB bs L):=by
  refine ⟨⟨rfl,rfl,rfl⟩,Nat.le_refl _,fun _ _ h _=>h,fun r ⟨b,hl,hm⟩ _=>⟨b,(lv b hl).2,hm⟩,?_,fun _ h=>.inl h,fun x v _ h=>mono x v h,fun b r _ h1 h2=>⟨?_,h2⟩,fun _=>by rw [killB_len]; exact Nat.le_refl _⟩
  ·rintro r (hI | ⟨b',_,hl2,hm2⟩)
   ·exact .inl hI
   ·exact .inr (.inr ⟨b',hl2,hm2⟩)
  ·by_cases hd : b ∈ bs
   ·obtain ⟨k1,e1,e2,_⟩:=hp _ hd
    rw [h1] at e1; cases e1; exact absurd rfl e2
   ·rw [killB_out bs L _ hd]; exact h1
 refine (h.2 g' w vs hgood ⟨hc.len ▸ hv.1,fun j y v hy hvj=>?_⟩).mono ?_
 ·exact hc.rvs hg (g':=g') (L':=killB bs L) (fun r hr=>.inl hr) (fun b r hb hl hm=>.inr ⟨b,hb,hl,hm⟩) (fun x u _ hu=>mono x u hu) vs.toList
   (fun j x v hx hv'=>hv.2 j x v hx (by simpa using hv')) j y v hy (by simpa using hvj)
 ·rintro e w' ⟨v,X,L1,g1,he,hX,hr,hg1,hp1⟩
  exact ⟨v,X,L1,g1,he,hX,hr,hg1,hprog.trans (hp1.le (by rw [killB_len]; exact Nat.le_refl _) (Nat.le_refl _))⟩
end
end Go.Tidy
/-
 The base layer: contracts,as the callers use them.
-/
namespace Go.Tidy
theorem CallP.pure {C : Ctx} [Quiet C] {f : FuncId} {args : List V} {x : V} (h : CallP C f args [] fun X L=>L = [] ∧ X = x) (ha : V.belL 0 args = true) (hx : ∀ n,x.sh n = x) {L : List Blk} {k : V → List Blk → Prop} (hk : k x L) : CallP C f args L k :=
 h.frame ha fun X L' ⟨h1,h2⟩=>by subst h1 h2; rw [hx]; simpa [shB] using hk
theorem CallP.lent {C : Ctx} [Quiet C] {f : FuncId} {args dargs : List V} {x : V} {L : List Blk} {k : V → List Blk → Prop} (h : CallP C f dargs [] fun X L=>L = [] ∧ X = x) (hc : CwL (fun _=>True) L args dargs) (ha : V.belL 0 dargs = true) (hx : x.scalar = true)
  (hk : k x L) : CallP C f args L k :=
 h.borrow hc ha fun X L' ⟨h1,h2⟩=>by subst h1 h2; exact ⟨rfl,hx,hk⟩
inductive CvL (S : Nat → Prop) (L : List Blk) : List V → List D → Prop
 | nil : CvL S L [] []
 | cons {x : V} {y : D} {xs : List V} {ys : List D} (h : Cv S L x y) (hs : CvL S L xs ys) : CvL S L (x :: xs) (y :: ys)
theorem CvL.get {S : Nat → Prop} {L : List Blk} {xs : List V} {ys : List D} (h : CvL S L xs ys) : xs.length = ys.length ∧ ∀ (j : Nat) (x : V) (y : D),xs[j]? = some x → ys[j]? = some y → Cv S L x y:=by
 induction h with
 | nil=>exact ⟨rfl,fun j x y hx=>by simp at hx⟩
 | cons h hs ih =>
  refine ⟨by simp [ih.1],fun j x y hx hy=>?_⟩
  cases j with
  | zero=>simp at hx hy; subst hx hy; exact h
  | succ j=>exact ih.2 j x y (by simpa using hx) (by simpa using hy)
theorem CvL.data {S : Nat → Prop} {L : List Blk} : ∀ ds : List D,CvL S L (ds.map .d) ds
 | []=>.nil
 | d :: ds=>.cons (.d d) (CvL.data ds)
theorem Cv.fnL {S : Nat → Prop} {L : List Blk} {f : FuncId} {xs : List V} {ys : List D} (h : CvL S L xs ys) : Cv S L (.fn f xs) (.fn f ys):=.fn f xs ys h.get.1 h.get.2
theorem Cv.ptrL {S : Nat → Prop} {L : List Blk} {b off : Nat} {cs : List V} {ys : List D} (hb : S b) (hL : L[b]? = some (.cells cs)) (h : CvL S L (cs.drop off) ys) : Cv S L (.ptr b off) (.rptr ys):=.ptr b off cs ys hb hL h.get.1 h.get.2
theorem Cw.aggL {S : Nat → Prop} {L : List Blk} {xs : List V} {ys : List D} (h : CvL S L xs ys) : Cw S L (.agg xs) (.agg (ys.map .d)):=.agg xs ys h.get.1 h.get.2
end Go.Tidy
/-
 The base layer: searching lists.
-/
namespace Go.Tidy
def ints (l : List Int) : D:=.sl (l.map fun n=>[DI n])
def findI {α : Type} (p : α → Bool) (l : List α) : Int:=match l.findIdx? p with | some i=>i | none=>-1
theorem findI_hit {α : Type} {p : α → Bool} {l : List α} {i : Nat} (h : i < l.length) (hp : p l[i] = true) (hb : ∀ (j : Nat) (hj : j < l.length),j < i → p l[j] = false) : findI p l = i:=by
 have : l.findIdx? p = some i:=by
  rw [List.findIdx?_eq_some_iff_getElem]
  exact ⟨h,hp,fun j hj=>by simp [hb j (by omega) hj]⟩
 simp [findI,this]
theorem findI_miss {α : Type} {p : α → Bool} {l : List α} (hb : ∀ (j : Nat) (hj : j < l.length),p l[j] = false) : findI p l = -1:=by
 have : l.findIdx? p = none:=by
  rw [List.findIdx?_eq_none_iff]
  intro x hx
  obtain ⟨j,hj,rfl⟩:=List.getElem_of_mem hx
  exact hb j hj
 simp [findI,this]
theorem findI_any {α : Type} (p : α → Bool) (l : List α) : decide (0 ≤ findI p l) = l.any p:=by
 unfold findI
 cases h : l.findIdx? p with
 | none =>
  rw [List.findIdx?_eq_none_iff] at h
  have : l.any p = false:=by rw [List.any_eq_false]; intro x hx; simp [h x hx]
  simp [this]
 | some i =>
  rw [List.findIdx?_eq_some_iff_getElem] at h
  obtain ⟨hi,hp,_⟩:=h
  have : l.any p = true:=List.any_eq_true.2 ⟨l[i],List.getElem_mem hi,hp⟩
  simp [this]
structure Far {α : Type} (p : α → Bool) (l : List α) where
 i : Nat
 le : i ≤ l.length
 no : ∀ (j : Nat) (hj : j < l.length),j < i → p l[j] = false
def Far.zero {α : Type} (p : α → Bool) (l : List α) : Far p l:=⟨0,Nat.zero_le _,fun j _ h=>absurd h (Nat.not_lt_zero j)⟩
def Far.next {α : Type} {p : α → Bool} {l : List α} (s : Far p l) (h : s.i < l.length) (hp : p l[s.i] = false) : Far p l :=
 ⟨s.i + 1,h,fun j hj hji=>by
  by_cases e : j = s.i
  ·subst e; exact hp
  ·exact s.no j hj (by omega)⟩
end Go.Tidy
/-
 The base layer: a call's contract under a small memory holds wherever that memory is a part,under other numbers,of a greater one.
-/
namespace Go.Tidy
mutual
def V.rn (ρ : Nat → Nat) : V → V
 | .own b g lo len=>.own (ρ b) g lo len
 | .ptr b off=>.ptr (ρ b) off
 | .eptr b g i off=>.eptr (ρ b) g i off
 | .map b=>.map (ρ b)
 | .yld b=>.yld (ρ b)
 | .fn f caps=>.fn f (V.rnL ρ caps)
 | .iface t x=>.iface t (V.rn ρ x)
 | .agg cs=>.agg (V.rnL ρ cs)
 | .tup cs=>.tup (V.rnL ρ cs)
 | .poison=>.poison
 | .tt=>.tt
 | .ff=>.ff
 | .d x=>.d x
 | .nil=>.nil
 | .glob k=>.glob k
 | .clp els=>.clp els
def V.rnL (ρ : Nat → Nat) : List V → List V
 | []=>[]
 | x :: r=>V.rn ρ x :: V.rnL ρ r
end
def rnF (ρ : Nat → Nat) : List (Nat × V) → List (Nat × V)
 | []=>[]
 | p :: r=>(p.1,p.2.rn ρ) :: rnF ρ r
def rnM (ρ : Nat → Nat) : List (V × V) → List (V × V)
 | []=>[]
 | p :: r=>(p.1.rn ρ,p.2.rn ρ) :: rnM ρ r
def rnR (ρ : Nat → Nat) : List (List V) → List (List V)
 | []=>[]
 | p :: r=>V.rnL ρ p :: rnR ρ r
def Blk.rn (ρ : Nat → Nat) : Blk → Blk
 | .cells cs=>.cells (V.rnL ρ cs)
 | .row g sz els=>.row g sz (rnR ρ els)
 | .map es=>.map (rnM ρ es)
 | .loop l=>.loop { l with fr:=rnF ρ l.fr,df:=ρ l.df }
 | .defr=>.defr
 | .dead=>.dead
def rnB (ρ : Nat → Nat) : List Blk → List Blk
 | []=>[]
 | p :: r=>p.rn ρ :: rnB ρ r
section
variable (ρ : Nat → Nat)
theorem V.rnL_get : ∀ (cs : List V) (j : Nat),(V.rnL ρ cs)[j]? = (cs[j]?).map (V.rn ρ)
 | [],j=>by simp [V.rnL]
 | x :: r,0=>by simp [V.rnL]
 | x :: r,j + 1=>by simp [V.rnL,V.rnL_get r j]
theorem V.rnL_len : ∀ (cs : List V),(V.rnL ρ cs).length = cs.length
 | []=>rfl
 | x :: r=>by simp [V.rnL,V.rnL_len r]
theorem rnB_get : ∀ (cs : List Blk) (j : Nat),(rnB ρ cs)[j]? = (cs[j]?).map (Blk.rn ρ)
 | [],j=>by simp [rnB]
 | x :: r,0=>by simp [rnB]
 | x :: r,j + 1=>by simp [rnB,rnB_get r j]
theorem rnB_len : ∀ (cs : List Blk),(rnB ρ cs).length = cs.length
 | []=>rfl
 | x :: r=>by simp [rnB,rnB_len r]
theorem rnM_get : ∀ (cs : List (V × V)) (j : Nat),(rnM ρ cs)[j]? = (cs[j]?).map fun p=>(p.1.rn ρ,p.2.rn ρ)
 | [],j=>by simp [rnM]
 | x :: r,0=>by simp [rnM]
 | x :: r,j + 1=>by simp [rnM,rnM_get r j]
theorem rnM_len : ∀ (cs : List (V × V)),(rnM ρ cs).length = cs.length
 | []=>rfl
 | x :: r=>by simp [rnM,rnM_len r]
theorem rnR_get : ∀ (cs : List (List V)) (j : Nat),(rnR ρ cs)[j]? = (cs[j]?).map (V.rnL ρ)
 | [],j=>by simp [rnR]
 | x :: r,0=>by simp [rnR]
 | x :: r,j + 1=>by simp [rnR,rnR_get r j]
theorem rnR_len : ∀ (cs : List (List V)),(rnR ρ cs).length = cs.length
 | []=>rfl
 | x :: r=>by simp [rnR,rnR_len r]
theorem rnF_look : ∀ (fr : List (Nat × V)) (i : Nat),look (rnF ρ fr) i = (look fr i).rn ρ
 | [],i=>by simp [rnF,look,V.rn]
 | p :: r,i=>by
  simp only [rnF,look]
  cases Nat.beq p.1 i
  ·simpa using rnF_look r i
  ·rfl
end
theorem map_some {α β : Type} {f : α → β} {o : Option α} {y : β} (h : o.map f = some y) : ∃ x,o = some x ∧ f x = y:=by
 cases o with
 | none=>cases h
 | some x=>exact ⟨x,rfl,by simpa using h⟩
structure Emb (ρ : Nat → Nat) (n0 : Nat) (g : Gh) (L : List Blk) (g0 : Gh) (L0 : List Blk) : Prop where
 len : L0.length = n0
 get : ∀ b,b < n0 → L[ρ b]? = (L0[b]?).map (Blk.rn ρ)
 m : ∀ b,b < n0 → g0.m b = g.m (ρ b)
 cap : ∀ b,b < n0 → g0.cap b = g.cap (ρ b)
 I : ∀ r,g.I r → g0.I r
section
variable {ρ : Nat → Nat} {n0 : Nat} {g g0 : Gh} {L L0 : List Blk} {w : World}
theorem Emb.at (e : Emb ρ n0 g L g0 L0) {b : Nat} (hb : b < n0) {k : Blk} (h : L[ρ b]? = some k) : ∃ k0,L0[b]? = some k0 ∧ k0.rn ρ = k:=by
 rw [e.get b hb] at h
 exact map_some h
theorem RV.dn (e : Emb ρ n0 g L g0 L0) {y : V} {v : Value} (h : RV g w L y v) : ∀ x : V,y = x.rn ρ → x.bel n0 = true → RV g0 w L0 x v:=by
 induction h with
 | poison v=>intro x hx _; cases x <;> simp only [V.rn,reduceCtorEq] at hx; exact .poison v
 | tt=>intro x hx _; cases x <;> simp only [V.rn,reduceCtorEq] at hx; exact .tt
 | ff=>intro x hx _; cases x <;> simp only [V.rn,reduceCtorEq] at hx; exact .ff
 | d y v h =>
  intro x hx _
  cases x <;> simp only [V.rn,reduceCtorEq,V.d.injEq] at hx
  subst hx; exact .d _ v (h.mono e.I fun _ _ _ h=>h)
 | nil=>intro x hx _; cases x <;> simp only [V.rn,reduceCtorEq] at hx; exact .nil
 | ptr b off r cs hL hm =>
  intro x hx hb
  cases x <;> simp only [V.rn,reduceCtorEq,V.ptr.injEq] at hx
  obtain ⟨rfl,rfl⟩:=hx
  simp only [V.bel,decide_eq_true_eq] at hb
  obtain ⟨k0,h1,h2⟩:=e.at hb hL
  cases k0 <;> simp only [Blk.rn,reduceCtorEq] at h2
  exact .ptr _ _ r _ h1 ((e.m _ hb).trans hm)
 | ptrX b off a hL =>
  intro x hx hb
  cases x <;> simp only [V.rn,reduceCtorEq,V.ptr.injEq] at hx
  obtain ⟨rfl,rfl⟩:=hx
  simp only [V.bel,decide_eq_true_eq] at hb
  obtain ⟨k0,h1,h2⟩:=e.at hb hL
  cases k0 <;> simp only [Blk.rn,reduceCtorEq] at h2
  exact .ptrX _ _ a h1
 | own b gen lo len sz r o c els hL hm ho hc hlc hle =>
  intro x hx hb
  cases x <;> simp only [V.rn,reduceCtorEq,V.own.injEq] at hx
  obtain ⟨rfl,rfl,rfl,rfl⟩:=hx
  simp only [V.bel,decide_eq_true_eq] at hb
  obtain ⟨k0,h1,h2⟩:=e.at hb hL
  cases k0 <;> simp only [Blk.rn,reduceCtorEq,Blk.row.injEq] at h2
  obtain ⟨rfl,rfl,rfl⟩:=h2
  exact .own _ _ _ _ _ r o c _ h1 ((e.m _ hb).trans hm) ho (by rw [e.cap _ hb]; exact hc) hlc (by rwa [rnR_len] at hle)
 | ownN b gen sz els hL hm =>
  intro x hx hb
  cases x <;> simp only [V.rn,reduceCtorEq,V.own.injEq] at hx
  obtain ⟨rfl,rfl,rfl,rfl⟩:=hx
  simp only [V.bel,decide_eq_true_eq] at hb
  obtain ⟨k0,h1,h2⟩:=e.at hb hL
  cases k0 <;> simp only [Blk.rn,reduceCtorEq,Blk.row.injEq] at h2
  obtain ⟨rfl,rfl,rfl⟩:=h2
  exact .ownN _ _ _ _ h1 ((e.m _ hb).trans hm)
 | ownO b gen gen' sz lo len els a c hL hg =>
  intro x hx hb
  cases x <;> simp only [V.rn,reduceCtorEq,V.own.injEq] at hx
  obtain ⟨rfl,rfl,rfl,rfl⟩:=hx
  simp only [V.bel,decide_eq_true_eq] at hb
  obtain ⟨k0,h1,h2⟩:=e.at hb hL
  cases k0 <;> simp only [Blk.rn,reduceCtorEq,Blk.row.injEq] at h2
  obtain ⟨rfl,rfl,rfl⟩:=h2
  exact .ownO _ _ _ _ _ _ _ _ _ h1 hg
 | ownX b gen lo len a c hL =>
  intro x hx hb
  cases x <;> simp only [V.rn,reduceCtorEq,V.own.injEq] at hx
  obtain ⟨rfl,rfl,rfl,rfl⟩:=hx
  simp only [V.bel,decide_eq_true_eq] at hb
  obtain ⟨k0,h1,h2⟩:=e.at hb hL
  cases k0 <;> simp only [Blk.rn,reduceCtorEq] at h2
  exact .ownX _ _ _ _ a c h1
 | eptr b gen i off sz r els hL hm =>
  intro x hx hb
  cases x <;> simp only [V.rn,reduceCtorEq,V.eptr.injEq] at hx
  obtain ⟨rfl,rfl,rfl,rfl⟩:=hx
  simp only [V.bel,decide_eq_true_eq] at hb
  obtain ⟨k0,h1,h2⟩:=e.at hb hL
  cases k0 <;> simp only [Blk.rn,reduceCtorEq,Blk.row.injEq] at h2
  obtain ⟨rfl,rfl,rfl⟩:=h2
  exact .eptr _ _ _ _ _ r _ h1 ((e.m _ hb).trans hm)
 | eptrO b gen gen' sz i off els a hL hg =>
  intro x hx hb
  cases x <;> simp only [V.rn,reduceCtorEq,V.eptr.injEq] at hx
  obtain ⟨rfl,rfl,rfl,rfl⟩:=hx
  simp only [V.bel,decide_eq_true_eq] at hb
  obtain ⟨k0,h1,h2⟩:=e.at hb hL
  cases k0 <;> simp only [Blk.rn,reduceCtorEq,Blk.row.injEq] at h2
  obtain ⟨rfl,rfl,rfl⟩:=h2
  exact .eptrO _ _ _ _ _ _ _ a h1 hg
 | eptrX b gen i off a hL =>
  intro x hx hb
  cases x <;> simp only [V.rn,reduceCtorEq,V.eptr.injEq] at hx
  obtain ⟨rfl,rfl,rfl,rfl⟩:=hx
  simp only [V.bel,decide_eq_true_eq] at hb
  obtain ⟨k0,h1,h2⟩:=e.at hb hL
  cases k0 <;> simp only [Blk.rn,reduceCtorEq] at h2
  exact .eptrX _ _ _ _ a h1
 | map b r es hL hm =>
  intro x hx hb
  cases x <;> simp only [V.rn,reduceCtorEq,V.map.injEq] at hx
  subst hx
  simp only [V.bel,decide_eq_true_eq] at hb
  obtain ⟨k0,h1,h2⟩:=e.at hb hL
  cases k0 <;> simp only [Blk.rn,reduceCtorEq] at h2
  exact .map _ r _ h1 ((e.m _ hb).trans hm)
 | mapX b a hL =>
  intro x hx hb
  cases x <;> simp only [V.rn,reduceCtorEq,V.map.injEq] at hx
  subst hx
  simp only [V.bel,decide_eq_true_eq] at hb
  obtain ⟨k0,h1,h2⟩:=e.at hb hL
  cases k0 <;> simp only [Blk.rn,reduceCtorEq] at h2
  exact .mapX _ a h1
 | yld b r l hL hm =>
  intro x hx hb
  cases x <;> simp only [V.rn,reduceCtorEq,V.yld.injEq] at hx
  subst hx
  simp only [V.bel,decide_eq_true_eq] at hb
  obtain ⟨k0,h1,h2⟩:=e.at hb hL
  cases k0 <;> simp only [Blk.rn,reduceCtorEq] at h2
  exact .yld _ r _ h1 ((e.m _ hb).trans hm)
 | yldX b r hL =>
  intro x hx hb
  cases x <;> simp only [V.rn,reduceCtorEq,V.yld.injEq] at hx
  subst hx
  simp only [V.bel,decide_eq_true_eq] at hb
  obtain ⟨k0,h1,h2⟩:=e.at hb hL
  cases k0 <;> simp only [Blk.rn,reduceCtorEq] at h2
  exact .yldX _ r h1
 | fn f caps vs hlen _ ih =>
  intro x hx hb
  cases x <;> simp only [V.rn,reduceCtorEq,V.fn.injEq] at hx
  rename_i f' xs
  obtain ⟨rfl,rfl⟩:=hx
  rw [V.rnL_len] at hlen
  refine .fn _ xs vs hlen fun j y u hy hu=>ih j (y.rn ρ) u (by rw [V.rnL_get,hy]; rfl) hu y rfl (V.belL_get (by simpa [V.bel] using hb) hy)
 | iface t y v _ ih =>
  intro x hx hb
  cases x <;> simp only [V.rn,reduceCtorEq,V.iface.injEq] at hx
  obtain ⟨rfl,rfl⟩:=hx
  exact .iface _ _ v (ih _ rfl (by simpa [V.bel] using hb))
 | agg cs vs hlen hone _ ih =>
  intro x hx hb
  cases x <;> simp only [V.rn,reduceCtorEq,V.agg.injEq] at hx
  rename_i xs
  subst hx
  rw [V.rnL_len] at hlen
  refine .agg xs vs hlen hone fun j y u hy hu=>ih j (y.rn ρ) u (by rw [V.rnL_get,hy]; rfl) hu y rfl (V.belL_get (by simpa [V.bel] using hb) hy)
 | tup cs vs hlen _ ih =>
  intro x hx hb
  cases x <;> simp only [V.rn,reduceCtorEq,V.tup.injEq] at hx
  rename_i xs
  subst hx
  rw [V.rnL_len] at hlen
  refine .tup xs vs hlen fun j y u hy hu=>ih j (y.rn ρ) u (by rw [V.rnL_get,hy]; rfl) hu y rfl (V.belL_get (by simpa [V.bel] using hb) hy)
 | glob k=>intro x hx _; cases x <;> simp only [V.rn,reduceCtorEq,V.glob.injEq] at hx; subst hx; exact .glob _
 | clp els a h=>intro x hx _; cases x <;> simp only [V.rn,reduceCtorEq,V.clp.injEq] at hx; subst hx; exact .clp _ a (h.mono e.I fun _ _ _ h=>h)
theorem RB.dn (e : Emb ρ n0 g L g0 L0) {b : Nat} (hb : b < n0) {k : Blk} (hk : k.bel n0 = true) (hdf : ∀ l,k = .loop l → L0[l.df]? = some .defr) (h : RB g w L (ρ b) (k.rn ρ)) : RB g0 w L0 b k:=by
 cases k with
 | cells cs =>
  obtain ⟨r,cur,T,h1,h2,h3,h4,h5⟩:=h
  rw [V.rnL_len] at h3
  exact ⟨r,cur,T,(e.m b hb).trans h1,h2,h3,h4,fun i x v hx hv=>(h5 i (x.rn ρ) v (by rw [V.rnL_get,hx]; rfl) hv).dn e x rfl (V.belL_get hk hx)⟩
 | row gen sz els =>
  obtain ⟨h0,h1,hh⟩:=h
  refine ⟨h0,fun el hel=>?_,?_⟩
  ·obtain ⟨i,hi⟩:=List.mem_iff_getElem?.1 hel
   have:=h1 (V.rnL ρ el) (List.mem_of_getElem? (i:=i) (by rw [rnR_get,hi]; rfl))
   rwa [V.rnL_len] at this
  ·rcases hh with ⟨h2,h3⟩ | ⟨r,cur,T,h2,h3,h4,h5,h6,h7⟩
   ·refine .inl ⟨(e.m b hb).trans h2,?_⟩
    cases els with
    | nil=>rfl
    | cons a l=>simp [rnR] at h3
   ·rw [rnR_len] at h5
    refine .inr ⟨r,cur,T,(e.m b hb).trans h2,h3,by rw [e.cap b hb]; exact h4,h5,h6,fun i j x v hx hv=>?_⟩
    refine (h7 i j (x.rn ρ) v ?_ hv).dn e x rfl (belR_get hk hx)
    rw [rnR_get]
    cases e1 : els[i]? with
    | none=>rw [e1] at hx; cases hx
    | some y =>
     rw [e1] at hx
     simp only [Option.map_some,Option.bind_some] at hx ⊢
     rw [V.rnL_get,hx]; rfl
 | map es =>
  obtain ⟨r,ents,clock,h1,h2,h3,hst,h4⟩:=h
  rw [rnM_len] at h3
  refine ⟨r,ents,clock,(e.m b hb).trans h1,h2,h3,hst,fun i x en hx he=>?_⟩
  obtain ⟨b1,b2⟩:=belM_get hk hx
  obtain ⟨c1,c2⟩:=h4 i (x.1.rn ρ,x.2.rn ρ) en (by rw [rnM_get,hx]; rfl) he
  exact ⟨c1.dn e _ rfl b1,c2.dn e _ rfl b2⟩
 | loop l =>
  obtain ⟨r,rec,h1,h2,h3,h4,h5,h6,h7,h8,h9,h10,h11⟩:=h
  simp only [Blk.bel,Bool.and_eq_true,decide_eq_true_eq] at hk
  exact ⟨r,rec,(e.m b hb).trans h1,h2,h3,h4,h5,h6,h7,h8,fun i=>(h9 i).dn e _ (rnF_look ρ _ i) (belF_look hk.1 i),(e.m _ hk.2).trans h10,hdf l rfl,h11.2⟩
 | defr =>
  obtain ⟨r,h1,h2⟩:=h
  exact ⟨r,(e.m b hb).trans h1,h2⟩
 | dead=>trivial
end
structure Emu (ρ : Nat → Nat) (g1 : Gh) (L1 : List Blk) (g : Gh) (L : List Blk) : Prop where
 get : ∀ b k,L1[b]? = some k → L[ρ b]? = some (k.rn ρ)
 m : ∀ b,b < L1.length → g.m (ρ b) = g1.m b
 cap : ∀ b,b < L1.length → g.cap (ρ b) = g1.cap b
 I : ∀ r,g1.I r → g.I r
section
variable {ρ : Nat → Nat} {g g1 : Gh} {L L1 : List Blk} {w : World}
theorem RV.up (e : Emu ρ g1 L1 g L) {x : V} {v : Value} (h : RV g1 w L1 x v) : RV g w L (x.rn ρ) v:=by
 induction h with
 | poison v=>exact .poison v
 | tt=>exact .tt
 | ff=>exact .ff
 | d x v h=>exact .d x v (h.mono e.I fun _ _ _ h=>h)
 | nil=>exact .nil
 | ptr b off r cs hL hm=>exact .ptr _ off r _ (e.get _ _ hL) ((e.m b (lt_of_get hL)).trans hm)
 | ptrX b off a hL=>exact .ptrX _ off a (e.get _ _ hL)
 | own b gen lo len sz r o c els hL hm ho hcap hlc hle =>
  exact .own _ gen lo len sz r o c _ (e.get _ _ hL) ((e.m b (lt_of_get hL)).trans hm) ho (by rw [e.cap b (lt_of_get hL)]; exact hcap) hlc (by rw [rnR_len]; exact hle)
 | ownN b gen sz els hL hm=>exact .ownN _ gen sz _ (e.get _ _ hL) ((e.m b (lt_of_get hL)).trans hm)
 | ownO b gen gen1 sz lo len els a c hL hg0=>exact .ownO _ gen gen1 sz lo len _ _ _ (e.get _ _ hL) hg0
 | ownX b gen lo len a c hL=>exact .ownX _ gen lo len a c (e.get _ _ hL)
 | eptr b gen i off sz r els hL hm=>exact .eptr _ gen i off sz r _ (e.get _ _ hL) ((e.m b (lt_of_get hL)).trans hm)
 | eptrO b gen gen1 sz i off els a hL hg0=>exact .eptrO _ gen gen1 sz i off _ _ (e.get _ _ hL) hg0
 | eptrX b gen i off a hL=>exact .eptrX _ gen i off a (e.get _ _ hL)
 | map b r es hL hm=>exact .map _ r _ (e.get _ _ hL) ((e.m b (lt_of_get hL)).trans hm)
 | mapX b a hL=>exact .mapX _ a (e.get _ _ hL)
 | yld b r l hL hm=>exact .yld _ r _ (e.get _ _ hL) ((e.m b (lt_of_get hL)).trans hm)
 | yldX b r hL=>exact .yldX _ r (e.get _ _ hL)
 | fn f caps vs hlen _ ih =>
  refine .fn f _ vs (by rw [V.rnL_len]; exact hlen) fun j x v h1 h2=>?_
  rw [V.rnL_get] at h1
  obtain ⟨y,h3,rfl⟩:=map_some h1
  exact ih j y v h3 h2
 | iface t x v _ ih=>exact .iface t _ v ih
 | agg cs vs hlen hone _ ih =>
  refine .agg _ vs (by rw [V.rnL_len]; exact hlen) hone fun j x v h1 h2=>?_
  rw [V.rnL_get] at h1
  obtain ⟨y,h3,rfl⟩:=map_some h1
  exact ih j y v h3 h2
 | tup cs vs hlen _ ih =>
  refine .tup _ vs (by rw [V.rnL_len]; exact hlen) fun j x v h1 h2=>?_
  rw [V.rnL_get] at h1
  obtain ⟨y,h3,rfl⟩:=map_some h1
  exact ih j y v h3 h2
 | glob k=>exact .glob k
 | clp els a h=>exact .clp els a (h.mono e.I fun _ _ _ h=>h)
theorem RB.up (e : Emu ρ g1 L1 g L) {b : Nat} (hb : b < L1.length) {k : Blk} (h : RB g1 w L1 b k) : RB g w L (ρ b) (k.rn ρ):=by
 cases k with
 | cells cs =>
  obtain ⟨r,cur,T,h1,h2,h3,h4,h5⟩:=h
  refine ⟨r,cur,T,(e.m b hb).trans h1,h2,by rw [V.rnL_len]; exact h3,h4,fun i x v hx hv=>?_⟩
  rw [V.rnL_get] at hx
  obtain ⟨y,h6,rfl⟩:=map_some hx
  exact (h5 i y v h6 hv).up e
 | row gen sz els =>
  obtain ⟨h0,h1,hh⟩:=h
  refine ⟨h0,fun el he=>?_,?_⟩
  ·obtain ⟨i,hi⟩:=List.mem_iff_getElem?.1 he
   rw [rnR_get] at hi
   obtain ⟨y,h6,rfl⟩:=map_some hi
   rw [V.rnL_len]; exact h1 y (List.mem_of_getElem? h6)
  ·rcases hh with ⟨h2,h3⟩ | ⟨r,cur,T,h2,h3,h4,h5,h6,h7⟩
   ·exact .inl ⟨(e.m b hb).trans h2,by rw [h3]; rfl⟩
   ·refine .inr ⟨r,cur,T,(e.m b hb).trans h2,h3,by rw [e.cap b hb]; exact h4,by rw [rnR_len]; exact h5,h6,fun i j x v hx hv=>?_⟩
    rw [rnR_get] at hx
    cases e1 : els[i]? with
    | none=>rw [e1] at hx; cases hx
    | some y =>
     rw [e1] at hx
     simp only [Option.map_some,Option.bind_some] at hx
     rw [V.rnL_get] at hx
     obtain ⟨z,e2,rfl⟩:=map_some hx
     exact (h7 i j z v (by rw [e1]; exact e2) hv).up e
 | map es =>
  obtain ⟨r,ents,clock,h1,h2,h3,hst,h4⟩:=h
  refine ⟨r,ents,clock,(e.m b hb).trans h1,h2,by rw [rnM_len]; exact h3,hst,fun i x en hx he=>?_⟩
  rw [rnM_get] at hx
  obtain ⟨y,e1,rfl⟩:=map_some hx
  exact ⟨(h4 i y en e1 he).1.up e,(h4 i y en e1 he).2.up e⟩
 | loop l =>
  obtain ⟨r,rec,h1,h2,h3,h4,h5,h6,h7,h8,h9,h10,h11⟩:=h
  exact ⟨r,rec,(e.m b hb).trans h1,h2,h3,h4,h5,h6,h7,h8,fun i=>by rw [show (LoopR.fr _) = rnF ρ l.fr from rfl,rnF_look]; exact (h9 i).up e,(e.m _ (lt_of_get h11.1)).trans h10,e.get _ _ h11.1,h11.2⟩
 | defr =>
  obtain ⟨r,h1,h2⟩:=h
  exact ⟨r,(e.m b hb).trans h1,h2⟩
 | dead=>trivial
end
def rnI (bs : List Nat) (N : Nat) (b : Nat) : Nat:=match bs[b]? with | some c=>c | none=>b - bs.length + N
def inI (bs : List Nat) (N : Nat) (c : Nat) : Option Nat:=match Nat.blt c N with | true=>bs.findIdx? (Nat.beq c) | false=>some (c - N + bs.length)
def putB : List Nat → List Blk → List Blk → List Blk
 | b :: bs,k :: ks,L=>putB bs ks (L.set b k)
 | [],ks,L=>L ++ ks
 | _ :: _,[],L=>L
theorem blt_of {a b : Nat} (h : a < b) : Nat.blt a b = true:=by rw [Nat.blt_eq]; exact h
theorem inI_some {bs : List Nat} {N c b : Nat} (_hlt : ∀ b ∈ bs,b < N) (h : inI bs N c = some b) : rnI bs N b = c:=by
 unfold inI at h
 cases hc : Nat.blt c N with
 | true =>
  rw [hc] at h
  simp only at h
  rw [List.findIdx?_eq_some_iff_getElem] at h
  obtain ⟨h1,h2,_⟩:=h
  unfold rnI
  rw [List.getElem?_eq_getElem h1]
  exact (Nat.eq_of_beq_eq_true h2).symm
 | false =>
  rw [hc] at h
  simp only [Option.some.injEq] at h
  have : N ≤ c:=by
   rcases Nat.lt_or_ge c N with h' | h'
   ·rw [← Nat.blt_eq] at h'; rw [h'] at hc; cases hc
   ·exact h'
  unfold rnI
  rw [List.getElem?_eq_none (by omega)]
  simp only; omega
theorem inI_none {bs : List Nat} {N c : Nat} (h : inI bs N c = none) : c < N ∧ c ∉ bs:=by
 unfold inI at h
 cases hc : Nat.blt c N with
 | true =>
  rw [hc] at h
  simp only at h
  rw [List.findIdx?_eq_none_iff] at h
  refine ⟨by rwa [Nat.blt_eq] at hc,fun hm=>?_⟩
  have:=h c hm
  rw [Nat.beq_refl] at this; cases this
 | false=>rw [hc] at h; cases h
theorem inI_rn {bs : List Nat} {N b : Nat} (hnd : bs.Nodup) (hlt : ∀ b ∈ bs,b < N) : inI bs N (rnI bs N b) = some b:=by
 unfold rnI inI
 cases e : bs[b]? with
 | some c =>
  have hb:=lt_of_get e
  have hc : c < N:=hlt c (List.mem_of_getElem? e)
  simp only [blt_of hc]
  rw [List.findIdx?_eq_some_iff_getElem]
  rw [List.getElem?_eq_getElem hb] at e
  cases e
  refine ⟨hb,Nat.beq_refl _,fun j hj=>?_⟩
  intro hh
  have:=Nat.eq_of_beq_eq_true hh
  have:=(List.getElem_inj hnd).1 this
  omega
 | none =>
  have hb : bs.length ≤ b:=by
   rcases Nat.lt_or_ge b bs.length with h | h
   ·rw [List.getElem?_eq_getElem h] at e; cases e
   ·exact h
  have : Nat.blt (b - bs.length + N) N = false:=by
   cases h : Nat.blt (b - bs.length + N) N with
   | false=>rfl
   | true=>rw [Nat.blt_eq] at h; omega
  simp only [this]
  congr 1; omega
theorem putB_len : ∀ (bs : List Nat) (ks L : List Blk),bs.length ≤ ks.length → (putB bs ks L).length = L.length + (ks.length - bs.length)
 | b :: bs,k :: ks,L,h=>by
  simp only [putB]
  rw [putB_len bs ks _ (by simpa using h)]
  simp
 | [],ks,L,_=>by simp [putB]
 | _ :: _,[],L,h=>by simp at h
theorem putB_out : ∀ (bs : List Nat) (ks L : List Blk) (c : Nat),c < L.length → c ∉ bs → (putB bs ks L)[c]? = L[c]?
 | b :: bs,k :: ks,L,c,h,hc=>by
  simp only [List.mem_cons,not_or] at hc
  rw [putB,putB_out bs ks _ c (by simpa using h) hc.2,List.getElem?_set_ne (fun e=>hc.1 e.symm)]
 | [],ks,L,c,h,_=>by rw [putB,List.getElem?_append_left h]
 | _ :: _,[],L,c,_,_=>rfl
theorem putB_in : ∀ (bs : List Nat) (ks L : List Blk),bs.Nodup → (∀ b ∈ bs,b < L.length) → bs.length ≤ ks.length → ∀ (b : Nat) (k : Blk),ks[b]? = some k → (putB bs ks L)[rnI bs L.length b]? = some k
 | c :: bs,k0 :: ks,L,hnd,hlt,hle,b,k,h=>by
  rw [List.nodup_cons] at hnd
  rw [putB]
  have hl : (L.set c k0).length = L.length:=by simp
  cases b with
  | zero =>
   simp at h; subst h
   show (putB bs ks (L.set c k0))[c]? = _
   rw [putB_out bs ks _ c (by rw [hl]; exact hlt c (by simp)) hnd.1,List.getElem?_set_self (hlt c (by simp))]
  | succ b =>
   have:=putB_in bs ks (L.set c k0) hnd.2 (fun x hx=>by rw [hl]; exact hlt x (by simp [hx])) (by simpa using hle) b k (by simpa using h)
   rw [hl] at this
   have e : rnI (c :: bs) L.length (b + 1) = rnI bs L.length b:=by
    unfold rnI
    rw [List.getElem?_cons_succ]
    cases bs[b]? with
    | none=>simp
    | some _=>rfl
   rw [e]; exact this
 | [],ks,L,_,_,_,b,k,h=>by
  have : rnI [] L.length b = L.length + b:=by simp [rnI,Nat.add_comm]
  rw [this,putB,List.getElem?_append_right (by omega)]
  simpa using h
 | _ :: _,[],L,_,_,h,_,_,_=>by simp at h
def Gh.small (g : Gh) (ρ : Nat → Nat) : Gh:={ I:=g.I,m:=fun b=>g.m (ρ b),cap:=fun b=>g.cap (ρ b) }
def Gh.great (g : Gh) (bs : List Nat) (N : Nat) (g1 : Gh) : Gh :=
 { I:=g1.I,m:=fun c=>match inI bs N c with | some b=>g1.m b | none=>g.m c,cap:=fun c=>match inI bs N c with | some b=>g1.cap b | none=>g.cap c }
def dfB (L : List Blk) : Bool:=L.all fun k=>match k with | .loop l=>(match L[l.df]? with | some .defr=>true | _=>false) | _=>true
section
variable {C : Ctx} {g g1 : Gh} {w0 w : World} {L L0 L1 : List Blk} {bs : List Nat}
structure Part (bs : List Nat) (L0 L : List Blk) : Prop where
 nd : bs.Nodup
 lt : ∀ b ∈ bs,b < L.length
 len : bs.length = L0.length
 get : ∀ b c : Nat,bs[b]? = some c → L[c]? = (L0[b]?).map (Blk.rn (rnI bs L.length))
 bel : belB L0.length L0 = true
 df : dfB L0 = true
theorem Part.rn (h : Part bs L0 L) {b : Nat} (hb : b < L0.length) : ∃ c,bs[b]? = some c ∧ rnI bs L.length b = c ∧ c < L.length:=by
 have : b < bs.length:=by rw [h.len]; exact hb
 exact ⟨bs[b],List.getElem?_eq_getElem this,by unfold rnI; rw [List.getElem?_eq_getElem this],h.lt _ (List.getElem_mem this)⟩
theorem Part.emb (h : Part bs L0 L) : Emb (rnI bs L.length) L0.length g L (g.small (rnI bs L.length)) L0 :=
 ⟨rfl,fun b hb=>by obtain ⟨c,h1,h2,_⟩:=h.rn hb; rw [h2]; exact h.get b c h1,fun _ _=>rfl,fun _ _=>rfl,fun _ h=>h⟩
theorem Part.lives (h : Part bs L0 L) {b : Nat} (hl : live L0 b) : live L (rnI bs L.length b):=by
 obtain ⟨k,hk,hd⟩:=hl
 obtain ⟨c,h1,h2,_⟩:=h.rn (lt_of_get hk)
 refine ⟨k.rn _,by rw [h2,h.get b c h1,hk]; rfl,fun e=>hd ?_⟩
 cases k <;> simp only [Blk.rn,reduceCtorEq] at e
 rfl
theorem Part.good (h : Part bs L0 L) (hg : Good g w L) : Good (g.small (rnI bs L.length)) w L0:=by
 refine ⟨fun b b' r h1 h2 m1 m2=>?_,?_,hg.lt,fun b k hk=>?_,hg.gl⟩
 ·have:=hg.inj _ _ r (h.lives h1) (h.lives h2) m1 m2
  have e1:=inI_rn (N:=L.length) (b:=b) h.nd h.lt
  have e2:=inI_rn (N:=L.length) (b:=b') h.nd h.lt
  rw [this,e2] at e1
  cases e1; rfl
 ·rintro r ⟨b,hl,hm⟩
  exact hg.dis r ⟨_,h.lives hl,hm⟩
 ·obtain ⟨c,h1,h2,_⟩:=h.rn (lt_of_get hk)
  refine RB.dn h.emb (lt_of_get hk) (belB_get h.bel hk) (fun l hl=>?_) ?_
  ·subst hl
   have:=List.all_eq_true.1 h.df _ (List.mem_of_getElem? hk)
   simp only at this
   split at this
   ·assumption
   ·cases this
  ·exact hg.blk _ _ (by rw [h2,h.get b c h1,hk]; rfl)
theorem Part.owns (h : Part bs L0 L) {r : Nat} (ho : owned (g.small (rnI bs L.length)) L0 r) : owned g L r:=by
 obtain ⟨b,hl,hm⟩:=ho
 exact ⟨_,h.lives hl,hm⟩
theorem Part.other (h : Part bs L0 L) (hg : Good g w0 L) {c r : Nat} (hc : c ∉ bs) (hl : live L c) (hm : g.m c = some r) : ¬ owned (g.small (rnI bs L.length)) L0 r:=by
 rintro ⟨b,hb,hm'⟩
 have:=hg.inj _ _ r (h.lives hb) hl hm' hm
 obtain ⟨k,hk,_⟩:=hb
 obtain ⟨c',h1,h2,_⟩:=h.rn (lt_of_get hk)
 exact hc (this ▸ h2 ▸ List.mem_of_getElem? h1)
theorem Part.fin (h : Part bs L0 L) (hg : Good g w0 L) (hg1 : Good g1 w L1) (hp : Prog L0.length (g.small (rnI bs L.length)) w0 L0 g1 w L1) :
  let ρ:=rnI bs L.length
  Emu ρ g1 L1 (g.great bs L.length g1) (putB bs (rnB ρ L1) L) ∧ Good (g.great bs L.length g1) w (putB bs (rnB ρ L1) L) ∧ Prog L.length g w0 L (g.great bs L.length g1) w (putB bs (rnB ρ L1) L):=by
 intro ρ
 have hle : bs.length ≤ (rnB ρ L1).length:=by rw [rnB_len,h.len]; exact hp.len (Nat.le_refl _)
 have mem : ∀ b,(g.great bs L.length g1).m (ρ b) = g1.m b:=fun b=>by simp only [Gh.great,ρ,inI_rn h.nd h.lt]
 have cap : ∀ b,(g.great bs L.length g1).cap (ρ b) = g1.cap b:=fun b=>by simp only [Gh.great,ρ,inI_rn h.nd h.lt]
 have up : Emu ρ g1 L1 (g.great bs L.length g1) (putB bs (rnB ρ L1) L) :=
  ⟨fun b k hk=>putB_in bs _ L h.nd h.lt hle b _ (by rw [rnB_get,hk]; rfl),fun b _=>mem b,fun b _=>cap b,fun _ h=>h⟩
 have oldm : ∀ c,c < L.length → c ∉ bs → (g.great bs L.length g1).m c = g.m c ∧ (g.great bs L.length g1).cap c = g.cap c:=fun c hc hb=>by
  have : inI bs L.length c = none:=by
   cases e : inI bs L.length c with
   | none=>rfl
   | some b =>
    exfalso
    have hr:=inI_some h.lt e
    unfold inI at e
    rw [blt_of hc] at e
    simp only at e
    rw [List.findIdx?_eq_some_iff_getElem] at e
    obtain ⟨e1,e2,_⟩:=e
    have:=Nat.eq_of_beq_eq_true e2
    exact hb (this ▸ List.getElem_mem e1)
  simp only [Gh.great,this,and_self]
 have oldL : ∀ c,c < L.length → c ∉ bs → (putB bs (rnB ρ L1) L)[c]? = L[c]?:=fun c hc hb=>putB_out bs _ L c hc hb
 -- what a block of the great memory is
 have look : ∀ c k,(putB bs (rnB ρ L1) L)[c]? = some k → (c < L.length ∧ c ∉ bs ∧ L[c]? = some k) ∨ ∃ b k1,c = ρ b ∧ L1[b]? = some k1 ∧ k = k1.rn ρ:=by
  intro c k hk
  cases e : inI bs L.length c with
  | none =>
   obtain ⟨h1,h2⟩:=inI_none e
   rw [oldL c h1 h2] at hk
   exact .inl ⟨h1,h2,hk⟩
  | some b =>
   have hr : ρ b = c:=inI_some h.lt e
   cases e1 : L1[b]? with
   | some k1 =>
    have:=up.get b k1 e1
    rw [hr,hk] at this
    cases this
    exact .inr ⟨b,k1,hr.symm,e1,rfl⟩
   | none =>
    exfalso
    have hb : L1.length ≤ b:=by
     rcases Nat.lt_or_ge b L1.length with h' | h'
     ·rw [List.getElem?_eq_getElem h'] at e1; cases e1
     ·exact h'
    have hl1:=hp.len (Nat.le_refl _)
    have hc:=lt_of_get hk
    rw [putB_len bs _ L hle,rnB_len] at hc
    have : ρ b = b - bs.length + L.length:=by
     show rnI bs L.length b = _
     unfold rnI
     rw [List.getElem?_eq_none (by rw [h.len]; omega)]
    rw [← hr,this] at hc
    omega
 have kept : ∀ (q : Nat) (o : Obj),w0.heap[q]? = some o → ¬ owned (g.small ρ) L0 q → w.heap[q]? = some o:=fun q o ho hn=>hp.kept q o ho hn
 have cells : ∀ (a : Addr) (v : Value),g.I a.block → w0.cell? a = some v → w.cell? a = some v:=by
  intro a v hI hc
  have hlt:=hg.lt _ hI
  have hh:=kept a.block (w0.heap[a.block]) (Array.getElem?_eq_getElem hlt) fun ho=>hg.dis _ (h.owns ho) hI
  rw [World.cell?_of_block (w:=w0) (w':=w) (by rw [hh,Array.getElem?_eq_getElem hlt])]
  exact hc
 have small : ∀ (x : V) (v : Value),x.bel L0.length = true → RV g w0 L (x.rn ρ) v → RV (g.great bs L.length g1) w (putB bs (rnB ρ L1) L) (x.rn ρ) v:=fun x v hx hv =>
  (hp.mono x v hx (hv.dn h.emb x rfl hx)).up up
 have inbs : ∀ c,c ∈ bs → ∃ b,b < L0.length ∧ ρ b = c:=fun c hc=>by
  obtain ⟨b,hb⟩:=List.mem_iff_getElem?.1 hc
  refine ⟨b,by rw [← h.len]; exact lt_of_get hb,?_⟩
  show rnI bs L.length b = c
  unfold rnI; rw [hb]
 have mono : ∀ (x : V) (v : Value),RV g w0 L x v → RV (g.great bs L.length g1) w (putB bs (rnB ρ L1) L) x v:=by
  intro x v hx
  induction hx with
  | poison v=>exact .poison v
  | tt=>exact .tt
  | ff=>exact .ff
  | d x v h=>exact .d x v (h.mono (fun r hr=>hp.immk r hr) cells)
  | nil=>exact .nil
  | ptr b off r cs hL hm =>
   by_cases hb : b ∈ bs
   ·obtain ⟨b0,h1,rfl⟩:=inbs b hb
    exact small (.ptr b0 off) _ (by simp [V.bel,h1]) (.ptr _ off r cs hL hm)
   ·have:=lt_of_get hL
    exact .ptr b off r cs ((oldL b this hb).trans hL) ((oldm b this hb).1.trans hm)
  | ptrX b off a hL =>
   by_cases hb : b ∈ bs
   ·obtain ⟨b0,h1,rfl⟩:=inbs b hb
    exact small (.ptr b0 off) _ (by simp [V.bel,h1]) (.ptrX _ off a hL)
   ·exact .ptrX b off a ((oldL b (lt_of_get hL) hb).trans hL)
  | own b gen lo len sz r o c els hL hm ho hc hlc hle' =>
   by_cases hb : b ∈ bs
   ·obtain ⟨b0,h1,rfl⟩:=inbs b hb
    exact small (.own b0 gen lo len) _ (by simp [V.bel,h1]) (.own _ gen lo len sz r o c els hL hm ho hc hlc hle')
   ·have:=lt_of_get hL
    exact .own b gen lo len sz r o c els ((oldL b this hb).trans hL) ((oldm b this hb).1.trans hm) ho (by rw [(oldm b this hb).2]; exact hc) hlc hle'
  | ownN b gen sz els hL hm =>
   by_cases hb : b ∈ bs
   ·obtain ⟨b0,h1,rfl⟩:=inbs b hb
    exact small (.own b0 gen 0 0) _ (by simp [V.bel,h1]) (.ownN _ gen sz els hL hm)
   ·have:=lt_of_get hL
    exact .ownN b gen sz els ((oldL b this hb).trans hL) ((oldm b this hb).1.trans hm)
  | ownO b gen gen' sz lo len els a c hL hg' =>
   by_cases hb : b ∈ bs
   ·obtain ⟨b0,h1,rfl⟩:=inbs b hb
    exact small (.own b0 gen lo len) _ (by simp [V.bel,h1]) (.ownO _ gen gen' sz lo len els a c hL hg')
   ·exact .ownO b gen gen' sz lo len els a c ((oldL b (lt_of_get hL) hb).trans hL) hg'
  | ownX b gen lo len a c hL =>
   by_cases hb : b ∈ bs
   ·obtain ⟨b0,h1,rfl⟩:=inbs b hb
    exact small (.own b0 gen lo len) _ (by simp [V.bel,h1]) (.ownX _ gen lo len a c hL)
   ·exact .ownX b gen lo len a c ((oldL b (lt_of_get hL) hb).trans hL)
  | eptr b gen i off sz r els hL hm =>
   by_cases hb : b ∈ bs
   ·obtain ⟨b0,h1,rfl⟩:=inbs b hb
    exact small (.eptr b0 gen i off) _ (by simp [V.bel,h1]) (.eptr _ gen i off sz r els hL hm)
   ·have:=lt_of_get hL
    exact .eptr b gen i off sz r els ((oldL b this hb).trans hL) ((oldm b this hb).1.trans hm)
  | eptrO b gen gen' sz i off els a hL hg' =>
   by_cases hb : b ∈ bs
   ·obtain ⟨b0,h1,rfl⟩:=inbs b hb
    exact small (.eptr b0 gen i off) _ (by simp [V.bel,h1]) (.eptrO _ gen gen' sz i off els a hL hg')
   ·exact .eptrO b gen gen' sz i off els a ((oldL b (lt_of_get hL) hb).trans hL) hg'
  | eptrX b gen i off a hL =>
   by_cases hb : b ∈ bs
   ·obtain ⟨b0,h1,rfl⟩:=inbs b hb
    exact small (.eptr b0 gen i off) _ (by simp [V.bel,h1]) (.eptrX _ gen i off a hL)
   ·exact .eptrX b gen i off a ((oldL b (lt_of_get hL) hb).trans hL)
  | map b r es hL hm =>
   by_cases hb : b ∈ bs
   ·obtain ⟨b0,h1,rfl⟩:=inbs b hb
    exact small (.map b0) _ (by simp [V.bel,h1]) (.map _ r es hL hm)
   ·have:=lt_of_get hL
    exact .map b r es ((oldL b this hb).trans hL) ((oldm b this hb).1.trans hm)
  | mapX b a hL =>
   by_cases hb : b ∈ bs
   ·obtain ⟨b0,h1,rfl⟩:=inbs b hb
    exact small (.map b0) _ (by simp [V.bel,h1]) (.mapX _ a hL)
   ·exact .mapX b a ((oldL b (lt_of_get hL) hb).trans hL)
  | yld b r l hL hm =>
   by_cases hb : b ∈ bs
   ·obtain ⟨b0,h1,rfl⟩:=inbs b hb
    exact small (.yld b0) _ (by simp [V.bel,h1]) (.yld _ r l hL hm)
   ·have:=lt_of_get hL
    exact .yld b r l ((oldL b this hb).trans hL) ((oldm b this hb).1.trans hm)
  | yldX b r hL =>
   by_cases hb : b ∈ bs
   ·obtain ⟨b0,h1,rfl⟩:=inbs b hb
    exact small (.yld b0) _ (by simp [V.bel,h1]) (.yldX _ r hL)
   ·exact .yldX b r ((oldL b (lt_of_get hL) hb).trans hL)
  | fn f caps vs hlen _ ih=>exact .fn f caps vs hlen ih
  | iface t x v _ ih=>exact .iface t x v ih
  | agg cs vs hlen hone _ ih=>exact .agg cs vs hlen hone ih
  | tup cs vs hlen _ ih=>exact .tup cs vs hlen ih
  | glob k=>exact .glob k
  | clp els a h=>exact .clp els a (h.mono (fun r hr=>hp.immk r hr) cells)
 have lives : ∀ c q,live (putB bs (rnB ρ L1) L) c → (g.great bs L.length g1).m c = some q → (c < L.length ∧ c ∉ bs ∧ live L c ∧ g.m c = some q) ∨ ∃ b,c = ρ b ∧ live L1 b ∧ g1.m b = some q:=by
  rintro c q ⟨k,hk,hd⟩ hm
  rcases look c k hk with ⟨h1,h2,h3⟩ | ⟨b,k1,rfl,h3,rfl⟩
  ·exact .inl ⟨h1,h2,⟨k,h3,hd⟩,(oldm c h1 h2).1 ▸ hm⟩
  ·refine .inr ⟨b,rfl,⟨k1,h3,fun e=>hd (by subst e; rfl)⟩,by rw [← mem]; exact hm⟩
 have cross : ∀ c b q,c ∉ bs → live L c → g.m c = some q → live L1 b → g1.m b = some q → False:=by
  intro c b q hc hl hm hl1 hm1
  have hq:=hg.owned_lt ⟨c,hl,hm⟩
  exact h.other hg hc hl hm (hp.own q ⟨b,hl1,hm1⟩ hq)
 refine ⟨up,⟨?_,?_,?_,?_,hg1.gl⟩,⟨hp.env,hp.size,fun q o ho hn=>kept q o ho fun hs=>hn (h.owns hs),?_,?_,hp.immk,fun x v _ hx=>mono x v hx,?_,fun _=>by rw [putB_len bs _ L hle]; omega⟩⟩
 ·intro c c' q h1 h2 m1 m2
  rcases lives c q h1 m1 with ⟨a1,a2,a3,a4⟩ | ⟨b,rfl,a3,a4⟩ <;> rcases lives c' q h2 m2 with ⟨d1,d2,d3,d4⟩ | ⟨b',rfl,d3,d4⟩
  ·exact hg.inj c c' q a3 d3 a4 d4
  ·exact (cross c b' q a2 a3 a4 d3 d4).elim
  ·exact (cross c' b q d2 d3 d4 a3 a4).elim
  ·rw [hg1.inj b b' q a3 d3 a4 d4]
 ·rintro q ⟨c,hl,hm⟩ hq
  rcases lives c q hl hm with ⟨a1,a2,a3,a4⟩ | ⟨b,rfl,a3,a4⟩
  ·rcases hp.imm q hq with h1 | h1 | h1
   ·exact hg.dis q ⟨c,a3,a4⟩ h1
   ·have:=hg.owned_lt ⟨c,a3,a4⟩; omega
   ·exact h.other hg a2 a3 a4 h1
  ·exact hg1.dis q ⟨b,a3,a4⟩ hq
 ·exact hg1.lt
 ·intro c k hk
  rcases look c k hk with ⟨h1,h2,h3⟩ | ⟨b,k1,rfl,h3,rfl⟩
  ·by_cases hdead : k = .dead
   ·subst hdead; trivial
   refine RB.mono' mono (oldm c h1 h2).1 (oldm c h1 h2).2 (fun q o hq ho=>kept q o ho ?_) (fun l hl=>?_) (hg.blk c k h3)
   ·exact h.other hg h2 ⟨k,h3,hdead⟩ hq
   ·subst hl
    obtain ⟨_,_,_,_,_,_,_,_,_,_,_,h10,h11,_⟩:=hg.blk c _ h3
    by_cases hd : l.df ∈ bs
    ·obtain ⟨b0,e1,e2⟩:=inbs _ hd
     have hL0 : L0[b0]? = some .defr:=by
      have:=h.emb (g:=g).get b0 e1
      rw [show rnI bs L.length b0 = l.df from e2,h11] at this
      obtain ⟨k0,e3,e4⟩:=map_some this.symm
      cases k0 <;> simp only [Blk.rn,reduceCtorEq] at e4
      exact e3
     obtain ⟨d1,d2⟩:=hp.defr b0 _ e1 hL0 (show (g.small (rnI bs L.length)).m b0 = _ by rw [show (g.small (rnI bs L.length)).m b0 = g.m (ρ b0) from rfl,e2]; exact h10)
     refine ⟨?_,fun _=>?_⟩
     ·rw [← e2,mem,d2,e2,h10]
     ·rw [← e2]; exact up.get b0 _ d1
    ·have:=lt_of_get h11
     exact ⟨(oldm _ this hd).1,fun hh=>(oldL _ this hd).trans hh⟩
  ·exact (hg1.blk b k1 h3).up up (lt_of_get h3)
 ·rintro q ⟨c,hl,hm⟩ hlt
  rcases lives c q hl hm with ⟨a1,a2,a3,a4⟩ | ⟨b,rfl,a3,a4⟩
  ·exact ⟨c,a3,a4⟩
  ·exact h.owns (hp.own q ⟨b,a3,a4⟩ hlt)
 ·intro q hq
  exact (hp.imm q hq).imp_right fun h1=>h1.imp_right fun h2=>h.owns h2
 ·intro b q hb hL hm
  by_cases hd : b ∈ bs
  ·obtain ⟨b0,e1,rfl⟩:=inbs b hd
   have hL0 : L0[b0]? = some .defr:=by
    have:=h.emb (g:=g).get b0 e1
    rw [show L[rnI bs L.length b0]? = some .defr from hL] at this
    obtain ⟨k0,e3,e4⟩:=map_some this.symm
    cases k0 <;> simp only [Blk.rn,reduceCtorEq] at e4
    exact e3
   obtain ⟨d1,d2⟩:=hp.defr b0 q e1 hL0 hm
   exact ⟨up.get b0 _ d1,by rw [mem]; exact d2⟩
  ·exact ⟨(oldL b hb hd).trans hL,(oldm b hb hd).1.trans hm⟩
theorem CallP.embed [Quiet C] {f : FuncId} {args : List V} {q k : V → List Blk → Prop} (bs : List Nat) (h : CallP C f args L0 q) (hp : Part bs L0 L) (ha : V.belL L0.length args = true)
  (hk : ∀ X L1,q X L1 → k (X.rn (rnI bs L.length)) (putB bs (rnB (rnI bs L.length) L1) L)) : CallP C f (V.rnL (rnI bs L.length) args) L k:=by
 rw [CallP_q] at h ⊢
 refine ⟨h.1,fun g w vs hg hv=>(h.2 _ w vs (hp.good hg) ⟨by rw [← hv.1,V.rnL_len],fun j x v hx hvj=>?_⟩).mono ?_⟩
 ·exact (hv.2 j (x.rn _) v (by rw [V.rnL_get,hx]; rfl) hvj).dn hp.emb x rfl (V.belL_get ha hx)
 ·rintro e w' ⟨v,X,L1,g1,he,hX,hr,hg1,hpr⟩
  obtain ⟨h0,h1,h2⟩:=hp.fin hg hg1 hpr
  exact ⟨v,_,_,_,he,hk X L1 hX,hr.up h0,h1,h2⟩
end
end Go.Tidy
