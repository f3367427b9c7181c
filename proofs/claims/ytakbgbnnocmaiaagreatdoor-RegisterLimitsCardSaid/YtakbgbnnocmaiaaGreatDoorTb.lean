/- RegisterLimits: what the weakest precondition leans on of the program's types. -/
import Derived.Test.YtakbgbnnocmaiaaGreatDoorSp
import Derived.Test.YtakbgbnnocmaiaaGreatDoorTa
set_option linter.all false
section
namespace Go.Proofs
open Go.Sim
def ldT : List (Nat × Bool × Nat) := [(2, false, 1), (3, false, 1), (4, false, 1), (5, false, 1), (6, false, 1), (7, true, 4), (8, true, 4), (9, false, 1), (10, false, 1), (11, false, 1), (12, false, 1), (13, true, 2), (14, true, 2), (15, false, 1), (16, false, 1), (17, false, 1), (18, true, 1), (19, true, 1), (20, false, 1), (21, false, 1), (22, false, 1), (24, true, 2), (25, true, 2), (26, true, 2), (27, true, 2), (28, true, 5), (29, true, 5), (30, true, 5), (31, true, 5), (32, true, 5), (33, true, 5), (34, true, 3), (35, true, 3), (36, true, 4), (37, true, 4), (38, true, 9), (39, true, 9), (40, true, 4), (41, true, 4), (42, false, 1), (43, true, 3), (44, true, 3), (45, false, 1), (46, false, 1), (47, true, 4), (48, true, 4), (49, true, 2), (50, true, 2), (51, true, 4), (52, true, 4), (53, true, 4), (54, true, 4), (55, true, 3), (56, true, 3), (57, true, 3), (58, true, 3), (59, true, 61), (60, true, 61), (61, true, 63), (62, true, 63), (64, false, 1), (67, true, 2), (68, true, 2), (72, false, 1), (82, false, 1), (83, false, 1), (84, false, 1), (85, true, 3), (86, true, 3), (87, false, 1), (88, false, 1), (89, true, 7), (90, true, 7), (91, false, 1), (92, false, 1), (93, false, 1), (94, false, 1), (95, false, 1), (96, false, 1), (97, false, 1), (98, true, 14), (99, true, 14), (102, false, 1), (105, true, 5), (106, true, 5), (108, false, 1), (114, false, 1), (117, true, 2), (118, true, 2), (119, false, 1), (120, false, 1), (127, true, 6), (128, true, 6), (147, true, 5), (148, true, 5), (149, true, 8), (150, true, 8), (152, true, 4), (153, true, 4), (160, true, 5), (161, true, 5), (162, true, 5), (163, true, 5), (164, true, 5), (165, true, 5), (166, true, 61), (167, true, 61), (168, true, 61), (169, true, 61), (170, true, 61), (171, true, 3), (172, true, 3), (173, true, 61), (174, true, 4), (175, true, 4), (176, true, 4), (177, true, 4), (178, true, 3), (179, true, 3), (180, true, 3), (181, true, 3), (182, true, 2), (183, true, 2), (184, true, 61), (185, true, 2), (186, true, 0), (187, true, 0), (188, false, 1), (189, true, 1), (190, true, 1), (192, false, 1), (193, false, 1), (194, true, 16), (195, true, 16), (198, true, 3), (199, true, 3), (203, false, 1), (208, false, 1), (220, false, 1), (224, false, 1), (226, false, 1), (233, false, 1), (234, false, 1), (235, true, 5), (236, true, 5), (237, true, 6), (238, true, 6), (240, false, 1), (250, false, 1), (251, false, 1), (252, true, 4), (253, true, 4), (259, false, 1), (266, true, 2), (267, true, 2), (282, false, 1), (284, false, 1), (285, true, 2), (286, true, 2), (288, false, 1), (295, true, 3), (296, true, 3)]
def fldT : List (Nat × Nat × Nat × Nat × Bool) := [(7, 0, 0, 1, false), (7, 1, 1, 1, false), (7, 2, 2, 1, false), (7, 3, 3, 1, false), (8, 0, 0, 1, false), (8, 1, 1, 1, false), (8, 2, 2, 1, false), (8, 3, 3, 1, false), (13, 0, 0, 1, false), (13, 1, 1, 1, false), (14, 0, 0, 1, false), (14, 1, 1, 1, false), (18, 0, 0, 1, false), (19, 0, 0, 1, false), (24, 0, 0, 1, false), (24, 1, 1, 1, false), (25, 0, 0, 1, false), (25, 1, 1, 1, false), (26, 0, 0, 1, false), (26, 1, 1, 1, false), (27, 0, 0, 1, false), (27, 1, 1, 1, false), (28, 0, 0, 1, false), (28, 1, 1, 1, false), (28, 2, 2, 2, true), (28, 3, 4, 1, false), (29, 0, 0, 1, false), (29, 1, 1, 1, false), (29, 2, 2, 2, true), (29, 3, 4, 1, false), (30, 0, 0, 1, false), (30, 1, 1, 1, false), (30, 2, 2, 1, false), (30, 3, 3, 2, true), (31, 0, 0, 1, false), (31, 1, 1, 1, false), (31, 2, 2, 1, false), (31, 3, 3, 2, true), (32, 0, 0, 1, false), (32, 1, 1, 1, false), (32, 2, 2, 1, false), (32, 3, 3, 2, true), (33, 0, 0, 1, false), (33, 1, 1, 1, false), (33, 2, 2, 1, false), (33, 3, 3, 2, true), (34, 0, 0, 1, false), (34, 1, 1, 1, false), (34, 2, 2, 1, false), (35, 0, 0, 1, false), (35, 1, 1, 1, false), (35, 2, 2, 1, false), (36, 0, 0, 2, true), (36, 1, 2, 2, true), (37, 0, 0, 2, true), (37, 1, 2, 2, true), (38, 0, 0, 1, false), (38, 1, 1, 1, false), (38, 2, 2, 4, true), (38, 3, 6, 1, false), (38, 4, 7, 2, true), (39, 0, 0, 1, false), (39, 1, 1, 1, false), (39, 2, 2, 4, true), (39, 3, 6, 1, false), (39, 4, 7, 2, true), (40, 0, 0, 1, false), (40, 1, 1, 1, false), (40, 2, 2, 1, false), (40, 3, 3, 1, false), (41, 0, 0, 1, false), (41, 1, 1, 1, false), (41, 2, 2, 1, false), (41, 3, 3, 1, false), (43, 0, 0, 1, false), (43, 1, 1, 1, false), (43, 2, 2, 1, false), (44, 0, 0, 1, false), (44, 1, 1, 1, false), (44, 2, 2, 1, false), (47, 0, 0, 1, false), (47, 1, 1, 1, false), (47, 2, 2, 1, false), (47, 3, 3, 1, false), (48, 0, 0, 1, false), (48, 1, 1, 1, false), (48, 2, 2, 1, false), (48, 3, 3, 1, false), (49, 0, 0, 1, false), (49, 1, 1, 1, false), (50, 0, 0, 1, false), (50, 1, 1, 1, false), (51, 0, 0, 1, false), (51, 1, 1, 2, true), (51, 2, 3, 1, false), (52, 0, 0, 1, false), (52, 1, 1, 2, true), (52, 2, 3, 1, false), (53, 0, 0, 1, false), (53, 1, 1, 1, false), (53, 2, 2, 1, false), (53, 3, 3, 1, false), (54, 0, 0, 1, false), (54, 1, 1, 1, false), (54, 2, 2, 1, false), (54, 3, 3, 1, false), (55, 0, 0, 1, false), (55, 1, 1, 1, false), (55, 2, 2, 1, false), (56, 0, 0, 1, false), (56, 1, 1, 1, false), (56, 2, 2, 1, false), (57, 0, 0, 1, false), (57, 1, 1, 1, false), (57, 2, 2, 1, false), (58, 0, 0, 1, false), (58, 1, 1, 1, false), (58, 2, 2, 1, false), (59, 0, 0, 1, false), (59, 1, 1, 1, false), (59, 2, 2, 5, true), (59, 3, 7, 5, true), (59, 4, 12, 5, true), (59, 5, 17, 1, false), (59, 6, 18, 3, true), (59, 7, 21, 9, true), (59, 8, 30, 4, true), (59, 9, 34, 1, false), (59, 10, 35, 1, false), (59, 11, 36, 3, true), (59, 12, 39, 1, false), (59, 13, 40, 4, true), (59, 14, 44, 4, true), (59, 15, 48, 4, true), (59, 16, 52, 3, true), (59, 17, 55, 3, true), (59, 18, 58, 2, true), (59, 19, 60, 1, false), (60, 0, 0, 1, false), (60, 1, 1, 1, false), (60, 2, 2, 5, true), (60, 3, 7, 5, true), (60, 4, 12, 5, true), (60, 5, 17, 1, false), (60, 6, 18, 3, true), (60, 7, 21, 9, true), (60, 8, 30, 4, true), (60, 9, 34, 1, false), (60, 10, 35, 1, false), (60, 11, 36, 3, true), (60, 12, 39, 1, false), (60, 13, 40, 4, true), (60, 14, 44, 4, true), (60, 15, 48, 4, true), (60, 16, 52, 3, true), (60, 17, 55, 3, true), (60, 18, 58, 2, true), (60, 19, 60, 1, false), (61, 0, 0, 2, true), (61, 1, 2, 61, true), (62, 0, 0, 2, true), (62, 1, 2, 61, true), (67, 0, 0, 1, false), (67, 1, 1, 1, false), (68, 0, 0, 1, false), (68, 1, 1, 1, false), (85, 0, 0, 1, false), (85, 1, 1, 1, false), (85, 2, 2, 1, false), (86, 0, 0, 1, false), (86, 1, 1, 1, false), (86, 2, 2, 1, false), (89, 0, 0, 3, true), (89, 1, 3, 1, false), (89, 2, 4, 1, false), (89, 3, 5, 1, false), (89, 4, 6, 1, false), (90, 0, 0, 3, true), (90, 1, 3, 1, false), (90, 2, 4, 1, false), (90, 3, 5, 1, false), (90, 4, 6, 1, false), (98, 0, 0, 7, true), (98, 1, 7, 1, false), (98, 2, 8, 1, false), (98, 3, 9, 1, false), (98, 4, 10, 1, false), (98, 5, 11, 1, false), (98, 6, 12, 1, false), (98, 7, 13, 1, false), (99, 0, 0, 7, true), (99, 1, 7, 1, false), (99, 2, 8, 1, false), (99, 3, 9, 1, false), (99, 4, 10, 1, false), (99, 5, 11, 1, false), (99, 6, 12, 1, false), (99, 7, 13, 1, false), (105, 0, 0, 1, false), (105, 1, 1, 1, false), (105, 2, 2, 1, false), (105, 3, 3, 1, false), (105, 4, 4, 1, false), (106, 0, 0, 1, false), (106, 1, 1, 1, false), (106, 2, 2, 1, false), (106, 3, 3, 1, false), (106, 4, 4, 1, false), (117, 0, 0, 1, false), (117, 1, 1, 1, false), (118, 0, 0, 1, false), (118, 1, 1, 1, false), (127, 0, 0, 1, false), (127, 1, 1, 1, false), (127, 2, 2, 3, true), (127, 3, 5, 1, false), (128, 0, 0, 1, false), (128, 1, 1, 1, false), (128, 2, 2, 3, true), (128, 3, 5, 1, false), (147, 0, 0, 1, false), (147, 1, 1, 1, false), (147, 2, 2, 1, false), (147, 3, 3, 1, false), (147, 4, 4, 1, false), (148, 0, 0, 1, false), (148, 1, 1, 1, false), (148, 2, 2, 1, false), (148, 3, 3, 1, false), (148, 4, 4, 1, false), (149, 0, 0, 1, false), (149, 1, 1, 1, false), (149, 2, 2, 1, false), (149, 3, 3, 5, true), (150, 0, 0, 1, false), (150, 1, 1, 1, false), (150, 2, 2, 1, false), (150, 3, 3, 5, true), (152, 0, 0, 1, false), (152, 1, 1, 1, false), (152, 2, 2, 1, false), (152, 3, 3, 1, false), (153, 0, 0, 1, false), (153, 1, 1, 1, false), (153, 2, 2, 1, false), (153, 3, 3, 1, false), (160, 0, 0, 5, true), (161, 0, 0, 5, true), (162, 0, 0, 5, true), (163, 0, 0, 5, true), (164, 0, 0, 5, true), (165, 0, 0, 5, true), (166, 0, 0, 61, true), (167, 0, 0, 61, true), (168, 0, 0, 61, true), (169, 0, 0, 61, true), (170, 0, 0, 61, true), (171, 0, 0, 3, true), (172, 0, 0, 3, true), (173, 0, 0, 61, true), (174, 0, 0, 4, true), (175, 0, 0, 4, true), (176, 0, 0, 4, true), (177, 0, 0, 4, true), (178, 0, 0, 3, true), (179, 0, 0, 3, true), (180, 0, 0, 3, true), (181, 0, 0, 3, true), (182, 0, 0, 2, true), (183, 0, 0, 2, true), (184, 0, 0, 61, true), (185, 0, 0, 2, true), (189, 0, 0, 1, false), (190, 0, 0, 1, false), (194, 0, 0, 14, true), (194, 1, 14, 1, false), (194, 2, 15, 1, false), (195, 0, 0, 14, true), (195, 1, 14, 1, false), (195, 2, 15, 1, false), (198, 0, 0, 2, true), (198, 1, 2, 1, false), (199, 0, 0, 2, true), (199, 1, 2, 1, false), (235, 0, 0, 3, true), (235, 1, 3, 1, false), (235, 2, 4, 1, false), (236, 0, 0, 3, true), (236, 1, 3, 1, false), (236, 2, 4, 1, false), (237, 0, 0, 1, false), (237, 1, 1, 5, true), (238, 0, 0, 1, false), (238, 1, 1, 5, true), (252, 0, 0, 1, false), (252, 1, 1, 1, false), (252, 2, 2, 1, false), (252, 3, 3, 1, false), (253, 0, 0, 1, false), (253, 1, 1, 1, false), (253, 2, 2, 1, false), (253, 3, 3, 1, false), (266, 0, 0, 1, false), (266, 1, 1, 1, false), (267, 0, 0, 1, false), (267, 1, 1, 1, false), (285, 0, 0, 1, false), (285, 1, 1, 1, false), (286, 0, 0, 1, false), (286, 1, 1, 1, false), (295, 0, 0, 1, false), (295, 1, 1, 1, false), (295, 2, 2, 1, false), (296, 0, 0, 1, false), (296, 1, 1, 1, false), (296, 2, 2, 1, false)]
def elT : List (Nat × Nat × Nat) := [(22, 63, 568), (42, 1, 8), (45, 8, 64), (46, 4, 32), (72, 1, 16), (82, 5, 40), (83, 5, 40), (84, 5, 40), (87, 6, 80), (88, 4, 64), (91, 3, 24), (92, 2, 16), (93, 4, 32), (94, 4, 32), (95, 4, 48), (96, 6, 48), (97, 3, 24), (102, 5, 40), (203, 1, 8), (208, 2, 40), (233, 9, 80), (234, 4, 32), (250, 1, 8), (251, 3, 64), (284, 3, 32)]
def strT : List Nat := [9, 10, 11]
def nifT : List Nat := [2, 3, 4, 5, 6, 7, 8, 9, 10, 11, 12, 13, 14, 15, 16, 17, 18, 19, 21, 22, 24, 25, 26, 27, 28, 29, 30, 31, 32, 33, 34, 35, 36, 37, 38, 39, 40, 41, 42, 43, 44, 45, 46, 47, 48, 49, 50, 51, 52, 53, 54, 55, 56, 57, 58, 59, 60, 61, 62, 64, 67, 68, 72, 82, 83, 84, 85, 86, 87, 88, 89, 90, 91, 92, 93, 94, 95, 96, 97, 98, 99, 102, 105, 106, 108, 114, 117, 118, 127, 128, 147, 148, 149, 150, 152, 153, 160, 161, 162, 163, 164, 165, 166, 167, 168, 169, 170, 171, 172, 173, 174, 175, 176, 177, 178, 179, 180, 181, 182, 183, 184, 185, 186, 187, 188, 189, 190, 192, 193, 194, 195, 198, 199, 203, 208, 220, 224, 226, 233, 234, 235, 236, 237, 238, 240, 250, 251, 252, 253, 259, 266, 267, 282, 284, 285, 286, 288, 295, 296]
def strcT : List Nat := [7, 8, 13, 14, 18, 19, 24, 25, 26, 27, 28, 29, 30, 31, 32, 33, 34, 35, 36, 37, 38, 39, 40, 41, 43, 44, 47, 48, 49, 50, 51, 52, 53, 54, 55, 56, 57, 58, 59, 60, 61, 62, 67, 68, 85, 86, 89, 90, 98, 99, 105, 106, 117, 118, 127, 128, 147, 148, 149, 150, 152, 153, 160, 161, 162, 163, 164, 165, 166, 167, 168, 169, 170, 171, 172, 173, 174, 175, 176, 177, 178, 179, 180, 181, 182, 183, 184, 185, 186, 187, 189, 190, 194, 195, 198, 199, 235, 236, 237, 238, 252, 253, 266, 267, 285, 286, 295, 296]
def zeroT : List (Nat × List AVal) := [(3, [.int .i64 0]), (4, [.bool false]), (9, [.str []]), (22, [.slc none 0 0]), (25, [.int .i64 0, .int .i64 0]), (29, [.int .i64 0, .int .i64 0, .int .i64 0, .int .i64 0, .int .i64 0]), (31, [.int .i64 0, .int .i64 0, .int .i64 0, .int .i64 0, .int .i64 0]), (33, [.int .i64 0, .int .i64 0, .int .i64 0, .int .i64 0, .int .i64 0]), (35, [.int .i64 0, .int .i64 0, .int .i64 0]), (37, [.int .i64 0, .int .i64 0, .int .i64 0, .int .i64 0]), (39, [.int .i64 0, .int .i64 0, .int .i64 0, .int .i64 0, .int .i64 0, .int .i64 0, .str [], .int .i64 0, .int .i64 0]), (41, [.int .i64 0, .int .i64 0, .int .i64 0, .int .i64 0]), (42, [.slc none 0 0]), (43, [.int .i64 0, .int .i64 0, .int .i64 0]), (44, [.int .i64 0, .int .i64 0, .int .i64 0]), (45, [.slc none 0 0]), (46, [.slc none 0 0]), (48, [.int .i64 0, .int .i64 0, .slc none 0 0, .slc none 0 0]), (50, [.int .i64 0, .int .i64 0]), (52, [.int .i64 0, .int .i64 0, .int .i64 0, .int .i64 0]), (54, [.int .i64 0, .int .i64 0, .int .i64 0, .int .i64 0]), (56, [.int .i64 0, .int .i64 0, .str []]), (58, [.int .i64 0, .int .i64 0, .int .i64 0]), (60, [.int .i64 0, .int .i64 0, .int .i64 0, .int .i64 0, .int .i64 0, .int .i64 0, .int .i64 0, .int .i64 0, .int .i64 0, .int .i64 0, .int .i64 0, .int .i64 0, .int .i64 0, .int .i64 0, .int .i64 0, .int .i64 0, .int .i64 0, .int .i64 0, .int .i64 0, .int .i64 0, .int .i64 0, .int .i64 0, .int .i64 0, .int .i64 0, .int .i64 0, .int .i64 0, .int .i64 0, .str [], .int .i64 0, .int .i64 0, .int .i64 0, .int .i64 0, .int .i64 0, .int .i64 0, .slc none 0 0, .int .i64 0, .int .i64 0, .int .i64 0, .int .i64 0, .int .i64 0, .int .i64 0, .int .i64 0, .slc none 0 0, .slc none 0 0, .int .i64 0, .int .i64 0, .int .i64 0, .int .i64 0, .int .i64 0, .int .i64 0, .int .i64 0, .int .i64 0, .int .i64 0, .int .i64 0, .str [], .int .i64 0, .int .i64 0, .int .i64 0, .int .i64 0, .int .i64 0, .int .i64 0]), (62, [.int .i64 0, .int .i64 0, .int .i64 0, .int .i64 0, .int .i64 0, .int .i64 0, .int .i64 0, .int .i64 0, .int .i64 0, .int .i64 0, .int .i64 0, .int .i64 0, .int .i64 0, .int .i64 0, .int .i64 0, .int .i64 0, .int .i64 0, .int .i64 0, .int .i64 0, .int .i64 0, .int .i64 0, .int .i64 0, .int .i64 0, .int .i64 0, .int .i64 0, .int .i64 0, .int .i64 0, .int .i64 0, .int .i64 0, .str [], .int .i64 0, .int .i64 0, .int .i64 0, .int .i64 0, .int .i64 0, .int .i64 0, .slc none 0 0, .int .i64 0, .int .i64 0, .int .i64 0, .int .i64 0, .int .i64 0, .int .i64 0, .int .i64 0, .slc none 0 0, .slc none 0 0, .int .i64 0, .int .i64 0, .int .i64 0, .int .i64 0, .int .i64 0, .int .i64 0, .int .i64 0, .int .i64 0, .int .i64 0, .int .i64 0, .str [], .int .i64 0, .int .i64 0, .int .i64 0, .int .i64 0, .int .i64 0, .int .i64 0]), (64, [.int .i64 0]), (68, [.slc none 0 0, .int .i64 0]), (161, [.int .i64 0, .int .i64 0, .int .i64 0, .int .i64 0, .int .i64 0]), (163, [.int .i64 0, .int .i64 0, .int .i64 0, .int .i64 0, .int .i64 0]), (165, [.int .i64 0, .int .i64 0, .int .i64 0, .int .i64 0, .int .i64 0]), (167, [.int .i64 0, .int .i64 0, .int .i64 0, .int .i64 0, .int .i64 0, .int .i64 0, .int .i64 0, .int .i64 0, .int .i64 0, .int .i64 0, .int .i64 0, .int .i64 0, .int .i64 0, .int .i64 0, .int .i64 0, .int .i64 0, .int .i64 0, .int .i64 0, .int .i64 0, .int .i64 0, .int .i64 0, .int .i64 0, .int .i64 0, .int .i64 0, .int .i64 0, .int .i64 0, .int .i64 0, .str [], .int .i64 0, .int .i64 0, .int .i64 0, .int .i64 0, .int .i64 0, .int .i64 0, .slc none 0 0, .int .i64 0, .int .i64 0, .int .i64 0, .int .i64 0, .int .i64 0, .int .i64 0, .int .i64 0, .slc none 0 0, .slc none 0 0, .int .i64 0, .int .i64 0, .int .i64 0, .int .i64 0, .int .i64 0, .int .i64 0, .int .i64 0, .int .i64 0, .int .i64 0, .int .i64 0, .str [], .int .i64 0, .int .i64 0, .int .i64 0, .int .i64 0, .int .i64 0, .int .i64 0]), (168, [.int .i64 0, .int .i64 0, .int .i64 0, .int .i64 0, .int .i64 0, .int .i64 0, .int .i64 0, .int .i64 0, .int .i64 0, .int .i64 0, .int .i64 0, .int .i64 0, .int .i64 0, .int .i64 0, .int .i64 0, .int .i64 0, .int .i64 0, .int .i64 0, .int .i64 0, .int .i64 0, .int .i64 0, .int .i64 0, .int .i64 0, .int .i64 0, .int .i64 0, .int .i64 0, .int .i64 0, .str [], .int .i64 0, .int .i64 0, .int .i64 0, .int .i64 0, .int .i64 0, .int .i64 0, .slc none 0 0, .int .i64 0, .int .i64 0, .int .i64 0, .int .i64 0, .int .i64 0, .int .i64 0, .int .i64 0, .slc none 0 0, .slc none 0 0, .int .i64 0, .int .i64 0, .int .i64 0, .int .i64 0, .int .i64 0, .int .i64 0, .int .i64 0, .int .i64 0, .int .i64 0, .int .i64 0, .str [], .int .i64 0, .int .i64 0, .int .i64 0, .int .i64 0, .int .i64 0, .int .i64 0]), (169, [.int .i64 0, .int .i64 0, .int .i64 0, .int .i64 0, .int .i64 0, .int .i64 0, .int .i64 0, .int .i64 0, .int .i64 0, .int .i64 0, .int .i64 0, .int .i64 0, .int .i64 0, .int .i64 0, .int .i64 0, .int .i64 0, .int .i64 0, .int .i64 0, .int .i64 0, .int .i64 0, .int .i64 0, .int .i64 0, .int .i64 0, .int .i64 0, .int .i64 0, .int .i64 0, .int .i64 0, .str [], .int .i64 0, .int .i64 0, .int .i64 0, .int .i64 0, .int .i64 0, .int .i64 0, .slc none 0 0, .int .i64 0, .int .i64 0, .int .i64 0, .int .i64 0, .int .i64 0, .int .i64 0, .int .i64 0, .slc none 0 0, .slc none 0 0, .int .i64 0, .int .i64 0, .int .i64 0, .int .i64 0, .int .i64 0, .int .i64 0, .int .i64 0, .int .i64 0, .int .i64 0, .int .i64 0, .str [], .int .i64 0, .int .i64 0, .int .i64 0, .int .i64 0, .int .i64 0, .int .i64 0]), (170, [.int .i64 0, .int .i64 0, .int .i64 0, .int .i64 0, .int .i64 0, .int .i64 0, .int .i64 0, .int .i64 0, .int .i64 0, .int .i64 0, .int .i64 0, .int .i64 0, .int .i64 0, .int .i64 0, .int .i64 0, .int .i64 0, .int .i64 0, .int .i64 0, .int .i64 0, .int .i64 0, .int .i64 0, .int .i64 0, .int .i64 0, .int .i64 0, .int .i64 0, .int .i64 0, .int .i64 0, .str [], .int .i64 0, .int .i64 0, .int .i64 0, .int .i64 0, .int .i64 0, .int .i64 0, .slc none 0 0, .int .i64 0, .int .i64 0, .int .i64 0, .int .i64 0, .int .i64 0, .int .i64 0, .int .i64 0, .slc none 0 0, .slc none 0 0, .int .i64 0, .int .i64 0, .int .i64 0, .int .i64 0, .int .i64 0, .int .i64 0, .int .i64 0, .int .i64 0, .int .i64 0, .int .i64 0, .str [], .int .i64 0, .int .i64 0, .int .i64 0, .int .i64 0, .int .i64 0, .int .i64 0]), (172, [.int .i64 0, .int .i64 0, .int .i64 0]), (173, [.int .i64 0, .int .i64 0, .int .i64 0, .int .i64 0, .int .i64 0, .int .i64 0, .int .i64 0, .int .i64 0, .int .i64 0, .int .i64 0, .int .i64 0, .int .i64 0, .int .i64 0, .int .i64 0, .int .i64 0, .int .i64 0, .int .i64 0, .int .i64 0, .int .i64 0, .int .i64 0, .int .i64 0, .int .i64 0, .int .i64 0, .int .i64 0, .int .i64 0, .int .i64 0, .int .i64 0, .str [], .int .i64 0, .int .i64 0, .int .i64 0, .int .i64 0, .int .i64 0, .int .i64 0, .slc none 0 0, .int .i64 0, .int .i64 0, .int .i64 0, .int .i64 0, .int .i64 0, .int .i64 0, .int .i64 0, .slc none 0 0, .slc none 0 0, .int .i64 0, .int .i64 0, .int .i64 0, .int .i64 0, .int .i64 0, .int .i64 0, .int .i64 0, .int .i64 0, .int .i64 0, .int .i64 0, .str [], .int .i64 0, .int .i64 0, .int .i64 0, .int .i64 0, .int .i64 0, .int .i64 0]), (175, [.int .i64 0, .int .i64 0, .int .i64 0, .int .i64 0]), (177, [.int .i64 0, .int .i64 0, .int .i64 0, .int .i64 0]), (179, [.int .i64 0, .int .i64 0, .str []]), (181, [.int .i64 0, .int .i64 0, .int .i64 0]), (183, [.int .i64 0, .int .i64 0]), (184, [.int .i64 0, .int .i64 0, .int .i64 0, .int .i64 0, .int .i64 0, .int .i64 0, .int .i64 0, .int .i64 0, .int .i64 0, .int .i64 0, .int .i64 0, .int .i64 0, .int .i64 0, .int .i64 0, .int .i64 0, .int .i64 0, .int .i64 0, .int .i64 0, .int .i64 0, .int .i64 0, .int .i64 0, .int .i64 0, .int .i64 0, .int .i64 0, .int .i64 0, .int .i64 0, .int .i64 0, .str [], .int .i64 0, .int .i64 0, .int .i64 0, .int .i64 0, .int .i64 0, .int .i64 0, .slc none 0 0, .int .i64 0, .int .i64 0, .int .i64 0, .int .i64 0, .int .i64 0, .int .i64 0, .int .i64 0, .slc none 0 0, .slc none 0 0, .int .i64 0, .int .i64 0, .int .i64 0, .int .i64 0, .int .i64 0, .int .i64 0, .int .i64 0, .int .i64 0, .int .i64 0, .int .i64 0, .str [], .int .i64 0, .int .i64 0, .int .i64 0, .int .i64 0, .int .i64 0, .int .i64 0]), (185, [.int .i64 0, .int .i64 0])]
noncomputable def lk {α : Type} (t : Nat) : List (Nat × α) → Option α
  | [] => none
  | p :: l => @Bool.rec (fun _ => Option α) (lk t l) (some p.2) (Nat.beq t p.1)
noncomputable def lk2 {α : Type} (t f : Nat) : List (Nat × Nat × α) → Option α
  | [] => none
  | p :: l => @Bool.rec (fun _ => Option α) (lk2 t f l) (@Bool.rec (fun _ => Option α) (lk2 t f l) (some p.2.2) (Nat.beq f p.2.1)) (Nat.beq t p.1)
noncomputable def sv : SV := { ld := fun t => lk t ldT, fld := fun t f => lk2 t f fldT, el := fun t => lk t elT, str := fun t => memN t strT, nif := fun t => memN t nifT, eqt := fun t => eqOf eqs t, zero := fun t => lk t zeroT, strc := fun t => memN t strcT, ext := fun f => !(Nat.beq f 381) }
theorem lk_mem {α : Type} {t : Nat} {v : α} : ∀ {l : List (Nat × α)}, lk t l = some v → (t, v) ∈ l
  | [], h => by cases h
  | p :: l, h => by
    have h : sel (Nat.beq t p.1) (some p.2) (lk t l) = some v := h
    rw [natBeq, sel_eq] at h
    split at h
    · rename_i ht
      have ht : t = p.1 := by simpa using ht
      cases h; subst ht; simp
    · simp [lk_mem h]
theorem lk2_mem {α : Type} {t f : Nat} {v : α} : ∀ {l : List (Nat × Nat × α)}, lk2 t f l = some v → (t, f, v) ∈ l
  | [], h => by cases h
  | p :: l, h => by
    have h : sel (Nat.beq t p.1) (sel (Nat.beq f p.2.1) (some p.2.2) (lk2 t f l)) (lk2 t f l) = some v := h
    rw [natBeq, sel_eq] at h
    split at h
    · rename_i ht
      have ht : t = p.1 := by simpa using ht
      rw [natBeq, sel_eq] at h
      split at h
      · rename_i hf
        have hf : f = p.2.1 := by simpa using hf
        cases h; subst ht; subst hf; simp
      · simp [lk2_mem h]
    · simp [lk2_mem h]
noncomputable abbrev tyT := tyTree Tryz.prog
set_option maxRecDepth 100000 in
theorem ldAll : ldT.map (fun p => ob (tyT.get p.1) (fun ti => some (aggD ti.desc, ti.sz))) = ldT.map (fun p => some p.2) := by kernel_rfl
set_option maxRecDepth 100000 in
theorem fldAll2 : fldT.map (fun p => fieldOf (cx []) p.1 p.2.1) = fldT.map (fun p => some p.2.2) := by kernel_rfl
noncomputable def elOf (t : Nat) : Option (Nat × Nat) := ob (tyT.get t) (fun ti => ob (sliceD ti.desc) (fun e => ob (tyT.get e) (fun te => some (te.sz, te.bytes))))
set_option maxRecDepth 100000 in
theorem elAll : elT.map (fun p => elOf p.1) = elT.map (fun p => some p.2) := by kernel_rfl
set_option maxRecDepth 100000 in
theorem zeroAll : zeroT.map (fun p => ob (tyT.get p.1) (fun ti => ti.zero)) = zeroT.map (fun p => some p.2) := by kernel_rfl
set_option maxRecDepth 100000 in
theorem nifAll : nifT.all (fun t => oe (tyT.get t) false (fun ti => !ifaceD ti.desc)) = true := by kernel_rfl
set_option maxRecDepth 100000 in
theorem strAll : strT.all (fun t => oe (tyT.get t) false (fun ti => isStrD ti.desc)) = true := by kernel_rfl
set_option maxRecDepth 100000 in
theorem strcAll : strcT.all (fun t => oe (tyT.get t) false (fun ti => (structD ti.desc).isSome)) = true := by kernel_rfl

theorem oe_true {α : Type} {o : Option α} {f : α → Bool} (h : oe o false f = true) : ∃ x, o = some x ∧ f x = true := by
  cases o with
  | none => cases h
  | some x => exact ⟨x, rfl, h⟩

theorem memN_mem {t : Nat} {l : List Nat} (h : memN t l = true) : t ∈ l := by rw [memN_eq] at h; simpa using h

theorem sv_ok (l : List (Nat × Ov)) : SOk sv (cx l) where
  ld := fun t p h => by
    have := List.map_inj_left.1 ldAll (t, p) (lk_mem h)
    rw [ob_eq] at this
    obtain ⟨ti, h1, h2⟩ := this
    have h2 := Option.some.inj h2
    have h2 : (aggD ti.desc, ti.sz) = p := h2
    exact ⟨ti, h1, by rw [← h2], by rw [← h2]⟩
  fld := fun t f p h => by
    have : fieldOf (cx []) t f = some p := List.map_inj_left.1 fldAll2 (t, f, p) (lk2_mem h)
    exact this
  el := fun t p h => by
    have : elOf t = some p := List.map_inj_left.1 elAll (t, p) (lk_mem h)
    unfold elOf at this
    rw [ob_eq] at this
    obtain ⟨ti, h1, this⟩ := this
    rw [ob_eq] at this
    obtain ⟨e, h2, this⟩ := this
    rw [ob_eq] at this
    obtain ⟨te, h3, this⟩ := this
    have h4 : (te.sz, te.bytes) = p := Option.some.inj this
    refine ⟨ti, e, te, h1, ?_, h3, by rw [← h4], by rw [← h4]⟩
    cases hd : ti.desc with
    | slice e' => rw [hd] at h2; cases h2; rfl
    | _ => rw [hd] at h2; cases h2
  str := fun t h => by
    obtain ⟨ti, h1, h2⟩ := oe_true (List.all_eq_true.1 strAll _ (memN_mem h))
    refine ⟨ti, h1, ?_⟩
    cases hd : ti.desc with
    | string => rfl
    | _ => rw [hd] at h2; cases h2
  nif := fun t h => by
    obtain ⟨ti, h1, h2⟩ := oe_true (List.all_eq_true.1 nifAll _ (memN_mem h))
    exact ⟨ti, h1, by simpa using h2⟩
  eqt := fun t ks h => h
  zero := fun t z h => by
    have := List.map_inj_left.1 zeroAll (t, z) (lk_mem h)
    rw [ob_eq] at this
    obtain ⟨ti, h1, h2⟩ := this
    exact ⟨ti, h1, h2⟩
  strc := fun t h => by
    obtain ⟨ti, h1, h2⟩ := oe_true (List.all_eq_true.1 strcAll _ (memN_mem h))
    cases hd : ti.desc with
    | struct fs => exact ⟨ti, fs, h1, hd⟩
    | _ => rw [hd] at h2; cases h2
  ext := fun f h => by
    show sel (Nat.beq f 381) (some ibF) none = none
    cases hb : Nat.beq f 381 with
    | true => exfalso; simp only [sv, hb] at h; cases h
    | false => rfl
end Go.Proofs
end
section
/- Entries as the executor has them: 61 cells. -/
namespace Go.Proofs
open Go.Sim

abbrev SL := Option (Nat × Nat)
structure EV where
  written : Int
  kind : Int
  chID : Int
  chYear : Int
  chLo : Int
  chHi : Int
  chWear : Int
  prID : Int
  prChain : Int
  prYear : Int
  prLo : Int
  prHi : Int
  reID : Int
  reChain : Int
  reYear : Int
  reLo : Int
  reHi : Int
  stone : Int
  haStep : Int
  haPlace : Int
  haSink : Int
  siID : Int
  siYear : Int
  siXLo : Int
  siXHi : Int
  siYLo : Int
  siYHi : Int
  siLetters : List UInt8
  siHLo : Int
  siHHi : Int
  noID : Int
  noKind : Int
  noFrom : Int
  noTo : Int
  ringA : SL
  ringN : Nat
  ringC : Nat
  changes : Int
  wiID : Int
  wiRight : Int
  wiWrong : Int
  by_ : Int
  waID : Int
  waYear : Int
  legsA : SL
  legsN : Nat
  legsC : Nat
  offsetsA : SL
  offsetsN : Nat
  offsetsC : Nat
  fiNumber : Int
  fiX : Int
  fiY : Int
  fiPence : Int
  paField : Int
  paYear : Int
  paVestry : Int
  paPence : Int
  ruFrom : Int
  ruTo : Int
  ruSource : List UInt8
  clField : Int
  clYear : Int
  clUntil : Int
  taVestry : Int
  taLine : Int
  vestry : Int
def EV.cells (e : EV) : List AVal := [.int .i64 e.written, .int .i64 e.kind, .int .i64 e.chID, .int .i64 e.chYear, .int .i64 e.chLo, .int .i64 e.chHi, .int .i64 e.chWear, .int .i64 e.prID, .int .i64 e.prChain, .int .i64 e.prYear, .int .i64 e.prLo, .int .i64 e.prHi, .int .i64 e.reID, .int .i64 e.reChain, .int .i64 e.reYear, .int .i64 e.reLo, .int .i64 e.reHi, .int .i64 e.stone, .int .i64 e.haStep, .int .i64 e.haPlace, .int .i64 e.haSink, .int .i64 e.siID, .int .i64 e.siYear, .int .i64 e.siXLo, .int .i64 e.siXHi, .int .i64 e.siYLo, .int .i64 e.siYHi, .str e.siLetters, .int .i64 e.siHLo, .int .i64 e.siHHi, .int .i64 e.noID, .int .i64 e.noKind, .int .i64 e.noFrom, .int .i64 e.noTo, .slc e.ringA e.ringN e.ringC, .int .i64 e.changes, .int .i64 e.wiID, .int .i64 e.wiRight, .int .i64 e.wiWrong, .int .i64 e.by_, .int .i64 e.waID, .int .i64 e.waYear, .slc e.legsA e.legsN e.legsC, .slc e.offsetsA e.offsetsN e.offsetsC, .int .i64 e.fiNumber, .int .i64 e.fiX, .int .i64 e.fiY, .int .i64 e.fiPence, .int .i64 e.paField, .int .i64 e.paYear, .int .i64 e.paVestry, .int .i64 e.paPence, .int .i64 e.ruFrom, .int .i64 e.ruTo, .str e.ruSource, .int .i64 e.clField, .int .i64 e.clYear, .int .i64 e.clUntil, .int .i64 e.taVestry, .int .i64 e.taLine, .int .i64 e.vestry]

structure LegV where
  frm : Int
  to_ : Int
  quarter : Int
  chain : Int
  year : Int
  chains : Int
  links : Int
  slack : Int
def LegV.cells (l : LegV) : List AVal := [.int .i64 l.frm, .int .i64 l.to_, .int .i64 l.quarter, .int .i64 l.chain, .int .i64 l.year, .int .i64 l.chains, .int .i64 l.links, .int .i64 l.slack]
structure OffV where
  a : Int
  b : Int
  c : Int
  left : Bool
def OffV.cells (l : OffV) : List AVal := [.int .i64 l.a, .int .i64 l.b, .int .i64 l.c, .bool l.left]
def intC (x : Int) : List AVal := [.int .i64 x]
theorem LegV.inj {x y : LegV} : x.cells = y.cells ↔ x = y := by
  cases x; cases y; simp [LegV.cells]
theorem OffV.inj {x y : OffV} : x.cells = y.cells ↔ x = y := by
  cases x; cases y; simp [OffV.cells]

/-- a slice that is read: its elements, by their cells -/
def SlR {α : Type} (h : H) (k : Nat) (enc : α → List AVal) (a : SL) (n : Nat) (xs : List α) : Prop := xs.length = n ∧ ARows h k a (xs.map enc)

theorem SlR.kept {α : Type} {c : Nat} {h h' : H} (K : Kept c h h') {k : Nat} {enc : α → List AVal} {a : SL} {n : Nat} {xs : List α} (R : SlR h k enc a n xs) : SlR h' k enc a n xs := ⟨R.1, R.2.kept K⟩

theorem SlR.at {α : Type} {h : H} {k : Nat} {enc : α → List AVal} {a : SL} {n : Nat} {xs : List α} (R : SlR h k enc a n xs) {i : Nat} (hi : i < xs.length) :
    ∃ b off, a = some (b, off) ∧ ARow h k b (Nat.add off (Nat.mul i k)) (enc xs[i]) := R.2.at (by simp [hi])

theorem eqI_len {m n : Nat} : eqI (Int.ofNat m) (Int.ofNat n) = true ↔ m = n := by rw [eqI_iff]; exact Int.ofNat_inj
theorem leI_len {m n : Nat} : leI (Int.ofNat m) (Int.ofNat n) = true ↔ m ≤ n := by rw [leI_iff]; exact Int.ofNat_le


/-- what of an entry lies in no other memory -/
def EV.scal (e : EV) : List AVal := [.int .i64 e.written, .int .i64 e.kind, .int .i64 e.chID, .int .i64 e.chYear, .int .i64 e.chLo, .int .i64 e.chHi, .int .i64 e.chWear, .int .i64 e.prID, .int .i64 e.prChain, .int .i64 e.prYear, .int .i64 e.prLo, .int .i64 e.prHi, .int .i64 e.reID, .int .i64 e.reChain, .int .i64 e.reYear, .int .i64 e.reLo, .int .i64 e.reHi, .int .i64 e.stone, .int .i64 e.haStep, .int .i64 e.haPlace, .int .i64 e.haSink, .int .i64 e.siID, .int .i64 e.siYear, .int .i64 e.siXLo, .int .i64 e.siXHi, .int .i64 e.siYLo, .int .i64 e.siYHi, .str e.siLetters, .int .i64 e.siHLo, .int .i64 e.siHHi, .int .i64 e.noID, .int .i64 e.noKind, .int .i64 e.noFrom, .int .i64 e.noTo, .int .i64 e.changes, .int .i64 e.wiID, .int .i64 e.wiRight, .int .i64 e.wiWrong, .int .i64 e.by_, .int .i64 e.waID, .int .i64 e.waYear, .int .i64 e.fiNumber, .int .i64 e.fiX, .int .i64 e.fiY, .int .i64 e.fiPence, .int .i64 e.paField, .int .i64 e.paYear, .int .i64 e.paVestry, .int .i64 e.paPence, .int .i64 e.ruFrom, .int .i64 e.ruTo, .str e.ruSource, .int .i64 e.clField, .int .i64 e.clYear, .int .i64 e.clUntil, .int .i64 e.taVestry, .int .i64 e.taLine, .int .i64 e.vestry]

/-- an entry that is read -/
structure ED where
  e : EV
  ring : List Int
  legs : List LegV
  offs : List OffV
structure EAt (h : H) (D : ED) : Prop where
  ring : SlR h 1 intC D.e.ringA D.e.ringN D.ring
  legs : SlR h 8 LegV.cells D.e.legsA D.e.legsN D.legs
  offs : SlR h 4 OffV.cells D.e.offsetsA D.e.offsetsN D.offs
theorem EAt.kept {c : Nat} {h h' : H} (K : Kept c h h') {D : ED} (E : EAt h D) : EAt h' D := ⟨E.ring.kept K, E.legs.kept K, E.offs.kept K⟩

/-- the same entry, wherever its lists lie -/
def EqD (a b : ED) : Prop := a.e.scal = b.e.scal ∧ a.ring = b.ring ∧ a.legs = b.legs ∧ a.offs = b.offs

end Go.Proofs
end
