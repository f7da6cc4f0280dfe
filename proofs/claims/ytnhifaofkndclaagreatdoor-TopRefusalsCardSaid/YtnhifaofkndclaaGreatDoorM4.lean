/- Whatever the list of numbers, TopRefusals returns true, and its argument reads as it did; its package variables are tied to the program's text. Part 4 of 15. -/
import Derived.Test.YtnhifaofkndclaaGreatDoorM3
import Derived.Test.YtnhifaofkndclaaGreatDoorChecked
import Derived.Lib.Bytealg
set_option linter.unusedSimpArgs false
set_option linter.unusedVariables false
set_option linter.unnecessarySimpa false
namespace Go.Proofs.YtnhifaofkndclaaGreatDoor
open Go.Abs
def tab : List (TypeId × TI) := [
 (1, ⟨.other, 1, 8, .nilFunc⟩),
 (2, ⟨.int .i64, 1, 8, .int .i64 0⟩),
 (3, ⟨.int .i64, 1, 8, .int .i64 0⟩),
 (4, ⟨.bool, 1, 1, .bool false⟩),
 (5, ⟨.int .u8, 1, 1, .int .u8 0⟩),
 (6, ⟨.int .u8, 1, 1, .int .u8 0⟩),
 (7, ⟨.st [(2, 0), (3, 1), (4, 2), (6, 3)], 4, 24, .agg #[.int .i64 0, .int .i64 0, .bool false, .int .u8 0]⟩),
 (8, ⟨.st [(2, 0), (3, 1), (4, 2), (6, 3)], 4, 24, .agg #[.int .i64 0, .int .i64 0, .bool false, .int .u8 0]⟩),
 (9, ⟨.str, 1, 16, .string ⟨#[]⟩⟩),
 (10, ⟨.str, 1, 16, .string ⟨#[]⟩⟩),
 (11, ⟨.str, 1, 16, .string ⟨#[]⟩⟩),
 (12, ⟨.int .u64, 1, 8, .int .u64 0⟩),
 (15, ⟨.other, 1, 8, .pointer none⟩),
 (16, ⟨.other, 1, 8, .pointer none⟩),
 (17, ⟨.other, 1, 8, .pointer none⟩),
 (20, ⟨.other, 1, 16, .nilIface⟩),
 (21, ⟨.int .i32, 1, 4, .int .i32 0⟩),
 (22, ⟨.sl 3, 1, 24, .slice none 0 0⟩),
 (23, ⟨.other, 1, 8, .pointer none⟩),
 (24, ⟨.other, 1, 8, .nilFunc⟩),
 (25, ⟨.sl 50, 1, 24, .slice none 0 0⟩),
 (26, ⟨.st [(25, 0)], 1, 24, .agg #[.slice none 0 0]⟩),
 (27, ⟨.st [(25, 0)], 1, 24, .agg #[.slice none 0 0]⟩),
 (28, ⟨.sl 33, 1, 24, .slice none 0 0⟩),
 (30, ⟨.other, 1, 8, .nilFunc⟩),
 (31, ⟨.sl 43, 1, 24, .slice none 0 0⟩),
 (32, ⟨.st [(9, 0), (31, 1)], 2, 40, .agg #[.string ⟨#[]⟩, .slice none 0 0]⟩),
 (33, ⟨.st [(9, 0), (31, 1)], 2, 40, .agg #[.string ⟨#[]⟩, .slice none 0 0]⟩),
 (34, ⟨.st [(3, 0), (3, 1), (9, 2), (9, 3)], 4, 48, .agg #[.int .i64 0, .int .i64 0, .string ⟨#[]⟩, .string ⟨#[]⟩]⟩),
 (35, ⟨.st [(3, 0), (3, 1), (9, 2), (9, 3)], 4, 48, .agg #[.int .i64 0, .int .i64 0, .string ⟨#[]⟩, .string ⟨#[]⟩]⟩),
 (36, ⟨.int .i64, 1, 8, .int .i64 0⟩),
 (38, ⟨.other, 1, 8, .nilFunc⟩),
 (39, ⟨.other, 1, 8, .nilFunc⟩),
 (41, ⟨.other, 1, 8, .nilFunc⟩),
 (42, ⟨.st [(3, 0), (9, 1), (9, 2), (9, 3)], 4, 56, .agg #[.int .i64 0, .string ⟨#[]⟩, .string ⟨#[]⟩, .string ⟨#[]⟩]⟩),
 (43, ⟨.st [(3, 0), (9, 1), (9, 2), (9, 3)], 4, 56, .agg #[.int .i64 0, .string ⟨#[]⟩, .string ⟨#[]⟩, .string ⟨#[]⟩]⟩),
 (45, ⟨.other, 1, 8, .nilFunc⟩),
 (47, ⟨.other, 1, 8, .nilFunc⟩),
 (48, ⟨.sl 79, 1, 24, .slice none 0 0⟩),
 (49, ⟨.st [(3, 0), (9, 1), (48, 2)], 3, 48, .agg #[.int .i64 0, .string ⟨#[]⟩, .slice none 0 0]⟩),
 (50, ⟨.st [(3, 0), (9, 1), (48, 2)], 3, 48, .agg #[.int .i64 0, .string ⟨#[]⟩, .slice none 0 0]⟩),
 (51, ⟨.other, 1, 8, .nilFunc⟩),
 (52, ⟨.other, 1, 8, .nilFunc⟩),
 (53, ⟨.st [(22, 0), (3, 1)], 2, 32, .agg #[.slice none 0 0, .int .i64 0]⟩),
 (54, ⟨.st [(22, 0), (3, 1)], 2, 32, .agg #[.slice none 0 0, .int .i64 0]⟩),
 (55, ⟨.other, 1, 8, .nilFunc⟩),
 (56, ⟨.other, 1, 8, .nilFunc⟩),
 (57, ⟨.other, 1, 8, .nilFunc⟩),
 (58, ⟨.other, 1, 8, .nilFunc⟩),
 (59, ⟨.other, 1, 8, .nilFunc⟩),
 (60, ⟨.other, 1, 8, .nilFunc⟩),
 (61, ⟨.other, 1, 8, .nilFunc⟩),
 (62, ⟨.other, 1, 8, .nilFunc⟩),
 (63, ⟨.other, 1, 8, .nilFunc⟩),
 (64, ⟨.other, 1, 8, .nilFunc⟩),
 (65, ⟨.other, 1, 8, .nilFunc⟩),
 (66, ⟨.other, 1, 8, .nilFunc⟩),
 (67, ⟨.other, 1, 8, .nilFunc⟩),
 (69, ⟨.other, 1, 8, .nilFunc⟩),
 (70, ⟨.other, 1, 8, .nilFunc⟩),
 (71, ⟨.sl 9, 1, 24, .slice none 0 0⟩),
 (72, ⟨.other, 1, 8, .nilFunc⟩),
 (73, ⟨.other, 1, 8, .nilFunc⟩),
 (75, ⟨.other, 1, 8, .nilFunc⟩),
 (76, ⟨.other, 1, 8, .nilFunc⟩),
 (77, ⟨.other, 1, 8, .nilFunc⟩),
 (78, ⟨.st [(9, 0), (9, 1)], 2, 32, .agg #[.string ⟨#[]⟩, .string ⟨#[]⟩]⟩),
 (79, ⟨.st [(9, 0), (9, 1)], 2, 32, .agg #[.string ⟨#[]⟩, .string ⟨#[]⟩]⟩),
 (80, ⟨.st [(3, 0), (3, 1), (3, 2)], 3, 24, .agg #[.int .i64 0, .int .i64 0, .int .i64 0]⟩),
 (81, ⟨.st [(3, 0), (3, 1), (3, 2)], 3, 24, .agg #[.int .i64 0, .int .i64 0, .int .i64 0]⟩),
 (83, ⟨.other, 1, 8, .nilFunc⟩),
 (84, ⟨.other, 1, 8, .nilFunc⟩),
 (85, ⟨.other, 1, 8, .nilFunc⟩),
 (86, ⟨.other, 1, 8, .nilFunc⟩),
 (88, ⟨.other, 1, 8, .nilFunc⟩),
 (89, ⟨.other, 1, 8, .nilFunc⟩),
 (90, ⟨.other, 1, 8, .nilFunc⟩),
 (91, ⟨.other, 1, 8, .nilFunc⟩),
 (92, ⟨.other, 1, 8, .nilFunc⟩),
 (94, ⟨.other, 1, 8, .nilFunc⟩),
 (95, ⟨.int .u64, 1, 8, .int .u64 0⟩),
 (96, ⟨.other, 1, 8, .nilFunc⟩),
 (97, ⟨.other, 1, 8, .nilFunc⟩),
 (98, ⟨.other, 1, 8, .nilFunc⟩),
 (99, ⟨.other, 1, 8, .nilFunc⟩),
 (100, ⟨.other, 1, 8, .nilFunc⟩),
 (101, ⟨.other, 1, 8, .nilFunc⟩),
 (102, ⟨.other, 1, 8, .nilFunc⟩),
 (103, ⟨.map 105 4, 1, 8, .map none⟩),
 (104, ⟨.st [(9, 0), (3, 1)], 2, 24, .agg #[.string ⟨#[]⟩, .int .i64 0]⟩),
 (105, ⟨.st [(9, 0), (3, 1)], 2, 24, .agg #[.string ⟨#[]⟩, .int .i64 0]⟩),
 (106, ⟨.other, 1, 8, .nilFunc⟩),
 (107, ⟨.other, 1, 8, .nilFunc⟩),
 (108, ⟨.other, 1, 8, .nilFunc⟩),
 (109, ⟨.other, 1, 8, .nilFunc⟩),
 (110, ⟨.other, 1, 8, .nilFunc⟩),
 (112, ⟨.other, 1, 8, .nilFunc⟩),
 (113, ⟨.other, 1, 8, .nilFunc⟩),
 (114, ⟨.other, 1, 8, .nilFunc⟩),
 (115, ⟨.other, 1, 8, .nilFunc⟩),
 (117, ⟨.other, 1, 8, .nilFunc⟩),
 (118, ⟨.map 9 3, 1, 8, .map none⟩),
 (119, ⟨.other, 1, 8, .nilFunc⟩),
 (120, ⟨.other, 1, 8, .nilFunc⟩),
 (122, ⟨.other, 1, 8, .nilFunc⟩),
 (123, ⟨.other, 1, 8, .pointer none⟩),
 (124, ⟨.other, 1, 8, .nilFunc⟩),
 (125, ⟨.other, 1, 8, .nilFunc⟩),
 (126, ⟨.sl 134, 1, 24, .slice none 0 0⟩),
 (128, ⟨.other, 1, 8, .nilFunc⟩),
 (129, ⟨.other, 1, 8, .pointer none⟩),
 (130, ⟨.st [(71, 0), (31, 1)], 2, 48, .agg #[.slice none 0 0, .slice none 0 0]⟩),
 (131, ⟨.st [(71, 0), (31, 1)], 2, 48, .agg #[.slice none 0 0, .slice none 0 0]⟩),
 (132, ⟨.sl 220, 1, 24, .slice none 0 0⟩),
 (133, ⟨.st [(3, 0), (9, 1), (9, 2), (132, 3), (81, 4)], 7, 88, .agg #[.int .i64 0, .string ⟨#[]⟩, .string ⟨#[]⟩, .slice none 0 0, .int .i64 0, .int .i64 0, .int .i64 0]⟩),
 (134, ⟨.st [(3, 0), (9, 1), (9, 2), (132, 3), (81, 4)], 7, 88, .agg #[.int .i64 0, .string ⟨#[]⟩, .string ⟨#[]⟩, .slice none 0 0, .int .i64 0, .int .i64 0, .int .i64 0]⟩),
 (136, ⟨.other, 1, 8, .nilFunc⟩),
 (137, ⟨.other, 1, 8, .nilFunc⟩),
 (138, ⟨.other, 1, 8, .nilFunc⟩),
 (139, ⟨.other, 1, 8, .nilFunc⟩),
 (140, ⟨.other, 1, 8, .nilFunc⟩),
 (141, ⟨.other, 1, 8, .nilFunc⟩),
 (142, ⟨.other, 1, 8, .nilFunc⟩),
 (144, ⟨.other, 1, 8, .nilFunc⟩),
 (145, ⟨.other, 1, 8, .nilFunc⟩),
 (146, ⟨.other, 1, 8, .nilFunc⟩),
 (147, ⟨.other, 1, 8, .nilFunc⟩),
 (148, ⟨.sl 5, 1, 24, .slice none 0 0⟩),
 (149, ⟨.other, 1, 8, .nilFunc⟩),
 (150, ⟨.other, 1, 8, .nilFunc⟩),
 (151, ⟨.other, 1, 8, .nilFunc⟩),
 (152, ⟨.other, 1, 8, .nilFunc⟩),
 (153, ⟨.other, 1, 8, .nilFunc⟩),
 (154, ⟨.other, 1, 8, .nilFunc⟩),
 (155, ⟨.other, 1, 8, .nilFunc⟩),
 (156, ⟨.other, 1, 8, .nilFunc⟩),
 (157, ⟨.other, 1, 8, .nilFunc⟩),
 (158, ⟨.other, 1, 8, .nilFunc⟩),
 (159, ⟨.other, 1, 8, .nilFunc⟩),
 (160, ⟨.sl 22, 1, 24, .slice none 0 0⟩),
 (161, ⟨.other, 1, 8, .nilFunc⟩),
 (162, ⟨.other, 1, 8, .nilFunc⟩),
 (163, ⟨.other, 1, 8, .nilFunc⟩),
 (164, ⟨.other, 1, 8, .nilFunc⟩),
 (165, ⟨.other, 1, 8, .nilFunc⟩),
 (166, ⟨.other, 1, 8, .nilFunc⟩),
 (167, ⟨.other, 1, 8, .nilFunc⟩),
 (168, ⟨.other, 1, 8, .nilFunc⟩),
 (169, ⟨.sl 177, 1, 24, .slice none 0 0⟩),
 (171, ⟨.other, 1, 8, .nilFunc⟩),
 (172, ⟨.other, 1, 8, .pointer none⟩),
 (173, ⟨.other, 1, 8, .pointer none⟩),
 (174, ⟨.st [(169, 0), (3, 1), (126, 2), (173, 3)], 4, 64, .agg #[.slice none 0 0, .int .i64 0, .slice none 0 0, .pointer none]⟩),
 (175, ⟨.st [(169, 0), (3, 1), (126, 2), (173, 3)], 4, 64, .agg #[.slice none 0 0, .int .i64 0, .slice none 0 0, .pointer none]⟩),
 (176, ⟨.st [(3, 0), (9, 1), (3, 2), (81, 3)], 6, 56, .agg #[.int .i64 0, .string ⟨#[]⟩, .int .i64 0, .int .i64 0, .int .i64 0, .int .i64 0]⟩),
 (177, ⟨.st [(3, 0), (9, 1), (3, 2), (81, 3)], 6, 56, .agg #[.int .i64 0, .string ⟨#[]⟩, .int .i64 0, .int .i64 0, .int .i64 0, .int .i64 0]⟩),
 (178, ⟨.other, 1, 8, .nilFunc⟩),
 (179, ⟨.st [(81, 0), (36, 3)], 4, 32, .agg #[.int .i64 0, .int .i64 0, .int .i64 0, .int .i64 0]⟩),
 (180, ⟨.st [(81, 0), (36, 3)], 4, 32, .agg #[.int .i64 0, .int .i64 0, .int .i64 0, .int .i64 0]⟩),
 (181, ⟨.other, 1, 8, .nilFunc⟩),
 (182, ⟨.other, 1, 8, .nilFunc⟩),
 (183, ⟨.other, 1, 8, .nilFunc⟩),
 (184, ⟨.other, 1, 8, .nilFunc⟩),
 (185, ⟨.other, 1, 8, .nilFunc⟩),
 (186, ⟨.other, 1, 8, .nilFunc⟩),
 (187, ⟨.other, 1, 8, .nilFunc⟩),
 (188, ⟨.other, 1, 8, .nilFunc⟩),
 (189, ⟨.other, 1, 8, .nilFunc⟩),
 (190, ⟨.other, 1, 8, .nilFunc⟩),
 (191, ⟨.int .i64, 1, 8, .int .i64 0⟩),
 (193, ⟨.other, 1, 8, .nilFunc⟩),
 (194, ⟨.other, 1, 8, .nilFunc⟩),
 (195, ⟨.other, 1, 8, .nilFunc⟩),
 (196, ⟨.other, 1, 8, .nilFunc⟩),
 (197, ⟨.other, 1, 8, .nilFunc⟩),
 (198, ⟨.int .u32, 1, 4, .int .u32 0⟩),
 (199, ⟨.other, 1, 8, .nilFunc⟩),
 (200, ⟨.int .u64, 1, 8, .int .u64 0⟩),
 (201, ⟨.sl 36, 1, 24, .slice none 0 0⟩),
 (202, ⟨.other, 1, 8, .nilFunc⟩),
 (203, ⟨.other, 1, 8, .nilFunc⟩),
 (204, ⟨.other, 1, 8, .nilFunc⟩),
 (205, ⟨.other, 1, 8, .pointer none⟩),
 (206, ⟨.st [(9, 0), (3, 1), (81, 2)], 5, 48, .agg #[.string ⟨#[]⟩, .int .i64 0, .int .i64 0, .int .i64 0, .int .i64 0]⟩),
 (207, ⟨.st [(9, 0), (3, 1), (81, 2)], 5, 48, .agg #[.string ⟨#[]⟩, .int .i64 0, .int .i64 0, .int .i64 0, .int .i64 0]⟩),
 (208, ⟨.other, 1, 8, .nilFunc⟩),
 (210, ⟨.other, 1, 8, .nilFunc⟩),
 (211, ⟨.other, 1, 8, .nilFunc⟩),
 (213, ⟨.other, 1, 8, .nilFunc⟩),
 (214, ⟨.other, 1, 8, .nilFunc⟩),
 (215, ⟨.other, 1, 8, .nilFunc⟩),
 (216, ⟨.other, 1, 8, .nilFunc⟩),
 (217, ⟨.other, 1, 8, .nilFunc⟩),
 (218, ⟨.sl 222, 1, 24, .slice none 0 0⟩),
 (219, ⟨.st [(3, 0), (218, 1), (9, 2)], 3, 48, .agg #[.int .i64 0, .slice none 0 0, .string ⟨#[]⟩]⟩),
 (220, ⟨.st [(3, 0), (218, 1), (9, 2)], 3, 48, .agg #[.int .i64 0, .slice none 0 0, .string ⟨#[]⟩]⟩),
 (221, ⟨.st [(3, 0), (9, 1)], 2, 24, .agg #[.int .i64 0, .string ⟨#[]⟩]⟩),
 (222, ⟨.st [(3, 0), (9, 1)], 2, 24, .agg #[.int .i64 0, .string ⟨#[]⟩]⟩),
 (223, ⟨.other, 1, 8, .nilFunc⟩),
 (224, ⟨.other, 1, 8, .nilFunc⟩),
 (225, ⟨.other, 1, 8, .nilFunc⟩),
 (226, ⟨.other, 1, 8, .nilFunc⟩),
 (227, ⟨.other, 1, 8, .nilFunc⟩),
 (228, ⟨.other, 1, 8, .nilFunc⟩),
 (229, ⟨.other, 1, 8, .nilFunc⟩),
 (230, ⟨.other, 1, 8, .nilFunc⟩),
 (231, ⟨.other, 1, 8, .nilFunc⟩),
 (232, ⟨.int .u64, 1, 8, .int .u64 0⟩),
 (233, ⟨.other, 1, 8, .nilFunc⟩),
 (234, ⟨.other, 1, 8, .nilFunc⟩),
 (235, ⟨.other, 1, 8, .nilFunc⟩),
 (236, ⟨.other, 1, 8, .pointer none⟩),
 (237, ⟨.other, 1, 8, .nilFunc⟩),
 (238, ⟨.other, 1, 8, .nilFunc⟩),
 (239, ⟨.other, 1, 8, .nilFunc⟩),
 (240, ⟨.other, 1, 8, .nilFunc⟩),
 (241, ⟨.other, 1, 8, .nilFunc⟩),
 (242, ⟨.other, 1, 8, .nilFunc⟩),
 (243, ⟨.other, 1, 8, .nilFunc⟩),
 (244, ⟨.other, 1, 8, .nilFunc⟩),
 (245, ⟨.other, 1, 8, .nilFunc⟩),
 (247, ⟨.other, 1, 8, .nilFunc⟩),
 (248, ⟨.other, 1, 8, .nilFunc⟩),
 (249, ⟨.other, 1, 8, .nilFunc⟩),
 (250, ⟨.other, 1, 8, .nilFunc⟩),
 (251, ⟨.other, 1, 8, .nilFunc⟩),
 (252, ⟨.other, 1, 8, .nilFunc⟩),
 (253, ⟨.other, 1, 8, .nilFunc⟩),
 (254, ⟨.other, 1, 8, .nilFunc⟩),
 (255, ⟨.other, 1, 8, .pointer none⟩),
 (257, ⟨.other, 1, 8, .nilFunc⟩),
 (258, ⟨.other, 1, 8, .nilFunc⟩),
 (259, ⟨.other, 1, 8, .nilFunc⟩),
 (260, ⟨.other, 1, 8, .nilFunc⟩),
 (261, ⟨.other, 1, 8, .nilFunc⟩),
 (262, ⟨.other, 1, 8, .pointer none⟩),
 (263, ⟨.st [(262, 0), (148, 1)], 2, 32, .agg #[.pointer none, .slice none 0 0]⟩),
 (264, ⟨.st [(262, 0), (148, 1)], 2, 32, .agg #[.pointer none, .slice none 0 0]⟩),
 (266, ⟨.other, 1, 8, .nilFunc⟩),
 (267, ⟨.other, 1, 16, .nilIface⟩),
 (268, ⟨.other, 1, 16, .nilIface⟩),
 (269, ⟨.other, 1, 8, .nilFunc⟩),
 (270, ⟨.other, 1, 8, .nilFunc⟩),
 (271, ⟨.other, 1, 8, .nilFunc⟩),
 (273, ⟨.other, 1, 8, .nilFunc⟩),
 (274, ⟨.other, 1, 8, .nilFunc⟩),
 (275, ⟨.other, 1, 8, .pointer none⟩),
 (277, ⟨.other, 1, 8, .nilFunc⟩),
 (279, ⟨.other, 1, 8, .nilFunc⟩),
 (281, ⟨.other, 1, 8, .nilFunc⟩),
 (282, ⟨.ar 256 5, 256, 256, .agg #[.int .u8 0, .int .u8 0, .int .u8 0, .int .u8 0, .int .u8 0, .int .u8 0, .int .u8 0, .int .u8 0, .int .u8 0, .int .u8 0, .int .u8 0, .int .u8 0, .int .u8 0, .int .u8 0, .int .u8 0, .int .u8 0, .int .u8 0, .int .u8 0, .int .u8 0, .int .u8 0, .int .u8 0, .int .u8 0, .int .u8 0, .int .u8 0, .int .u8 0, .int .u8 0, .int .u8 0, .int .u8 0, .int .u8 0, .int .u8 0, .int .u8 0, .int .u8 0, .int .u8 0, .int .u8 0, .int .u8 0, .int .u8 0, .int .u8 0, .int .u8 0, .int .u8 0, .int .u8 0, .int .u8 0, .int .u8 0, .int .u8 0, .int .u8 0, .int .u8 0, .int .u8 0, .int .u8 0, .int .u8 0, .int .u8 0, .int .u8 0, .int .u8 0, .int .u8 0, .int .u8 0, .int .u8 0, .int .u8 0, .int .u8 0, .int .u8 0, .int .u8 0, .int .u8 0, .int .u8 0, .int .u8 0, .int .u8 0, .int .u8 0, .int .u8 0, .int .u8 0, .int .u8 0, .int .u8 0, .int .u8 0, .int .u8 0, .int .u8 0, .int .u8 0, .int .u8 0, .int .u8 0, .int .u8 0, .int .u8 0, .int .u8 0, .int .u8 0, .int .u8 0, .int .u8 0, .int .u8 0, .int .u8 0, .int .u8 0, .int .u8 0, .int .u8 0, .int .u8 0, .int .u8 0, .int .u8 0, .int .u8 0, .int .u8 0, .int .u8 0, .int .u8 0, .int .u8 0, .int .u8 0, .int .u8 0, .int .u8 0, .int .u8 0, .int .u8 0, .int .u8 0, .int .u8 0, .int .u8 0, .int .u8 0, .int .u8 0, .int .u8 0, .int .u8 0, .int .u8 0, .int .u8 0, .int .u8 0, .int .u8 0, .int .u8 0, .int .u8 0, .int .u8 0, .int .u8 0, .int .u8 0, .int .u8 0, .int .u8 0, .int .u8 0, .int .u8 0, .int .u8 0, .int .u8 0, .int .u8 0, .int .u8 0, .int .u8 0, .int .u8 0, .int .u8 0, .int .u8 0, .int .u8 0, .int .u8 0, .int .u8 0, .int .u8 0, .int .u8 0, .int .u8 0, .int .u8 0, .int .u8 0, .int .u8 0, .int .u8 0, .int .u8 0, .int .u8 0, .int .u8 0, .int .u8 0, .int .u8 0, .int .u8 0, .int .u8 0, .int .u8 0, .int .u8 0, .int .u8 0, .int .u8 0, .int .u8 0, .int .u8 0, .int .u8 0, .int .u8 0, .int .u8 0, .int .u8 0, .int .u8 0, .int .u8 0, .int .u8 0, .int .u8 0, .int .u8 0, .int .u8 0, .int .u8 0, .int .u8 0, .int .u8 0, .int .u8 0, .int .u8 0, .int .u8 0, .int .u8 0, .int .u8 0, .int .u8 0, .int .u8 0, .int .u8 0, .int .u8 0, .int .u8 0, .int .u8 0, .int .u8 0, .int .u8 0, .int .u8 0, .int .u8 0, .int .u8 0, .int .u8 0, .int .u8 0, .int .u8 0, .int .u8 0, .int .u8 0, .int .u8 0, .int .u8 0, .int .u8 0, .int .u8 0, .int .u8 0, .int .u8 0, .int .u8 0, .int .u8 0, .int .u8 0, .int .u8 0, .int .u8 0, .int .u8 0, .int .u8 0, .int .u8 0, .int .u8 0, .int .u8 0, .int .u8 0, .int .u8 0, .int .u8 0, .int .u8 0, .int .u8 0, .int .u8 0, .int .u8 0, .int .u8 0, .int .u8 0, .int .u8 0, .int .u8 0, .int .u8 0, .int .u8 0, .int .u8 0, .int .u8 0, .int .u8 0, .int .u8 0, .int .u8 0, .int .u8 0, .int .u8 0, .int .u8 0, .int .u8 0, .int .u8 0, .int .u8 0, .int .u8 0, .int .u8 0, .int .u8 0, .int .u8 0, .int .u8 0, .int .u8 0, .int .u8 0, .int .u8 0, .int .u8 0, .int .u8 0, .int .u8 0, .int .u8 0, .int .u8 0, .int .u8 0, .int .u8 0, .int .u8 0, .int .u8 0, .int .u8 0, .int .u8 0, .int .u8 0, .int .u8 0, .int .u8 0, .int .u8 0, .int .u8 0, .int .u8 0, .int .u8 0, .int .u8 0, .int .u8 0, .int .u8 0, .int .u8 0, .int .u8 0, .int .u8 0, .int .u8 0, .int .u8 0]⟩),
 (283, ⟨.st [(5, 0), (5, 1)], 2, 2, .agg #[.int .u8 0, .int .u8 0]⟩),
 (284, ⟨.st [(5, 0), (5, 1)], 2, 2, .agg #[.int .u8 0, .int .u8 0]⟩),
 (285, ⟨.ar 16 284, 32, 32, .agg #[.int .u8 0, .int .u8 0, .int .u8 0, .int .u8 0, .int .u8 0, .int .u8 0, .int .u8 0, .int .u8 0, .int .u8 0, .int .u8 0, .int .u8 0, .int .u8 0, .int .u8 0, .int .u8 0, .int .u8 0, .int .u8 0, .int .u8 0, .int .u8 0, .int .u8 0, .int .u8 0, .int .u8 0, .int .u8 0, .int .u8 0, .int .u8 0, .int .u8 0, .int .u8 0, .int .u8 0, .int .u8 0, .int .u8 0, .int .u8 0, .int .u8 0, .int .u8 0]⟩),
 (287, ⟨.other, 1, 8, .nilFunc⟩),
 (288, ⟨.other, 1, 8, .nilFunc⟩),
 (289, ⟨.other, 1, 8, .nilFunc⟩),
 (290, ⟨.other, 1, 8, .nilFunc⟩),
 (291, ⟨.other, 1, 8, .pointer none⟩),
 (292, ⟨.sl 300, 1, 24, .slice none 0 0⟩),
 (293, ⟨.other, 1, 8, .nilFunc⟩),
 (294, ⟨.st [(169, 0), (292, 1), (3, 2), (3, 3), (4, 4), (4, 5), (4, 6), (4, 7)], 8, 72, .agg #[.slice none 0 0, .slice none 0 0, .int .i64 0, .int .i64 0, .bool false, .bool false, .bool false, .bool false]⟩),
 (295, ⟨.st [(169, 0), (292, 1), (3, 2), (3, 3), (4, 4), (4, 5), (4, 6), (4, 7)], 8, 72, .agg #[.slice none 0 0, .slice none 0 0, .int .i64 0, .int .i64 0, .bool false, .bool false, .bool false, .bool false]⟩),
 (296, ⟨.st [(4, 0), (36, 1)], 2, 16, .agg #[.bool false, .int .i64 0]⟩),
 (297, ⟨.sl 296, 1, 24, .slice none 0 0⟩),
 (298, ⟨.other, 1, 8, .nilFunc⟩),
 (299, ⟨.other, 1, 8, .nilFunc⟩),
 (300, ⟨.map 9 299, 1, 8, .map none⟩),
 (301, ⟨.other, 1, 8, .nilFunc⟩),
 (302, ⟨.other, 1, 8, .nilFunc⟩),
 (306, ⟨.ar 0 16, 0, 0, .agg #[]⟩),
 (309, ⟨.int .u8, 1, 1, .int .u8 0⟩),
 (310, ⟨.int .u8, 1, 1, .int .u8 0⟩),
 (311, ⟨.other, 1, 8, .nilFunc⟩),
 (312, ⟨.int .i32, 1, 4, .int .i32 0⟩),
 (313, ⟨.int .i32, 1, 4, .int .i32 0⟩)
 ]
def ti (t : TypeId) : Option TI := tlook tab t
theorem tabOK : TabOK Tryz.prog ti := tabOK_of Tryz.prog tab (by kernel_rfl)
end Go.Proofs.YtnhifaofkndclaaGreatDoor
namespace Go.Abs
open Go.RowKit
theorem sameK_eq' {a b : IntKind} (h : sameK a b = true) : a = b := by cases a <;> cases b <;> first | rfl | cases h
def eqV : Value -> Value -> Bool
 | .int k a, .int k' b => sameK k k' && a == b
 | .bool a, .bool b => a == b
 | .string a, .string b => a.data.toList == b.data.toList
 | .slice none 0 0, .slice none 0 0 => true
 | _, _ => false
theorem eqV_eq {a b : Value} (h : eqV a b = true) : a = b := by
 unfold eqV at h
 split at h
 ·simp only [Bool.and_eq_true, beq_iff_eq] at h
  rw [sameK_eq' h.1, h.2]
 ·rw [eq_of_beq h]
 ·rename_i x y
  have := eq_of_beq h
  congr 1
  cases x; cases y; congr 1
  exact Array.toList_inj.1 this
 ·rfl
 ·cases h
mutual
def eqP : PV -> PV -> Bool
 | .v a, .v b => eqV a b
 | .list n xs, .list m ys => (n == m) && eqPL xs ys
 | .agg xs, .agg ys => eqPL xs ys
 | _, _ => false
def eqPL : List PV -> List PV -> Bool
 | [], [] => true
 | x :: xs, y :: ys => eqP x y && eqPL xs ys
 | _, _ => false
end
mutual
theorem eqP_eq : ∀ {a b : PV}, eqP a b = true -> a = b
 | .v a, .v b, h => by rw [eqV_eq h]
 | .list n xs, .list m ys, h => by
  simp only [eqP, Bool.and_eq_true, beq_iff_eq] at h
  rw [h.1, eqPL_eq h.2]
 | .agg xs, .agg ys, h => by rw [eqPL_eq (show eqPL xs ys = true from h)]
 | .v _, .list _ _, h => by cases h
 | .v _, .agg _, h => by cases h
 | .list _ _, .v _, h => by cases h
 | .list _ _, .agg _, h => by cases h
 | .agg _, .v _, h => by cases h
 | .agg _, .list _ _, h => by cases h
theorem eqPL_eq : ∀ {a b : List PV}, eqPL a b = true -> a = b
 | [], [], _ => rfl
 | x :: xs, y :: ys, h => by
  simp only [eqPL, Bool.and_eq_true] at h
  rw [eqP_eq h.1, eqPL_eq h.2]
 | [], _ :: _, h => by cases h
 | _ :: _, [], h => by cases h
end
def eqFn : Fn -> Fn -> Bool
 | .func f, .func g => Nat.beq f g
 | _, _ => false
theorem eqFn_eq {a b : Fn} (h : eqFn a b = true) : a = b := by
 unfold eqFn at h
 split at h
 ·rw [Nat.eq_of_beq_eq_true h]
 ·cases h
mutual
def eqA : AV -> AV -> Bool
 | .p x, .p y => eqP x y
 | .ptr i o, .ptr j q => Nat.beq i j && Nat.beq o q
 | .lptr i o, .lptr j q => Nat.beq i j && Nat.beq o q
 | .buf i, .buf j => Nat.beq i j
 | .sub i a b, .sub j c d => Nat.beq i j && (Nat.beq a c && Nat.beq b d)
 | .bptr i a b, .bptr j c d => Nat.beq i j && (Nat.beq a c && Nat.beq b d)
 | .rptr xs, .rptr ys => eqPL xs ys
 | .agg xs, .agg ys => eqAL xs ys
 | .tup xs, .tup ys => eqAL xs ys
 | .clo f xs, .clo g ys => eqFn f g && eqAL xs ys
 | .mp i, .mp j => Nat.beq i j
 | .cap n xs, .cap m ys => (n == m) && eqPL xs ys
 | .opq, .opq => true
 | .dead, .dead => true
 | _, _ => false
def eqAL : List AV -> List AV -> Bool
 | [], [] => true
 | x :: xs, y :: ys => eqA x y && eqAL xs ys
 | _, _ => false
end
mutual
theorem eqA_eq : ∀ {a b : AV}, eqA a b = true -> a = b
 | .p x, b, h => by cases b <;> first | (cases h; done) | (simp only [eqA] at h; rw [eqP_eq h])
 | .ptr i o, b, h => by cases b <;> first | (cases h; done) | (simp only [eqA, Bool.and_eq_true] at h; rw [Nat.eq_of_beq_eq_true h.1, Nat.eq_of_beq_eq_true h.2])
 | .lptr i o, b, h => by cases b <;> first | (cases h; done) | (simp only [eqA, Bool.and_eq_true] at h; rw [Nat.eq_of_beq_eq_true h.1, Nat.eq_of_beq_eq_true h.2])
 | .opq, b, h => by cases b <;> first | (cases h; done) | rfl
 | .buf i, b, h => by cases b <;> first | (cases h; done) | (simp only [eqA] at h; rw [Nat.eq_of_beq_eq_true h])
 | .sub i _ _, b, h => by cases b <;> first | (cases h; done) | (simp only [eqA, Bool.and_eq_true] at h; rw [Nat.eq_of_beq_eq_true h.1, Nat.eq_of_beq_eq_true h.2.1, Nat.eq_of_beq_eq_true h.2.2])
 | .bptr i _ _, b, h => by cases b <;> first | (cases h; done) | (simp only [eqA, Bool.and_eq_true] at h; rw [Nat.eq_of_beq_eq_true h.1, Nat.eq_of_beq_eq_true h.2.1, Nat.eq_of_beq_eq_true h.2.2])
 | .rptr xs, b, h => by cases b <;> first | (cases h; done) | (simp only [eqA] at h; rw [eqPL_eq h])
 | .agg xs, b, h => by
  cases b with
  | agg ys => rw [eqAL_eq (show eqAL xs ys = true from h)]
  | _ => cases h
 | .tup xs, b, h => by
  cases b with
  | tup ys => rw [eqAL_eq (show eqAL xs ys = true from h)]
  | _ => cases h
 | .clo f xs, b, h => by
  cases b with
  | clo g ys =>
   simp only [eqA, Bool.and_eq_true] at h
   rw [eqFn_eq h.1, eqAL_eq h.2]
  | _ => cases h
 | .mp i, b, h => by cases b <;> first | (cases h; done) | (simp only [eqA] at h; rw [Nat.eq_of_beq_eq_true h])
 | .cap n xs, b, h => by cases b <;> first | (cases h; done) | (simp only [eqA, Bool.and_eq_true, beq_iff_eq] at h; rw [h.1, eqPL_eq h.2])
 | .dead, b, h => by cases b <;> first | (cases h; done) | rfl
theorem eqAL_eq : ∀ {a b : List AV}, eqAL a b = true -> a = b
 | [], [], _ => rfl
 | x :: xs, y :: ys, h => by
  simp only [eqAL, Bool.and_eq_true] at h
  rw [eqA_eq h.1, eqAL_eq h.2]
 | [], _ :: _, h => by cases h
 | _ :: _, [], h => by cases h
end
end Go.Abs
namespace Go.Abs
open Go.RowKit
section
variable {ti : TypeId -> Option TI} {H : AH}
def evIdx {α : Type} (xs : List α) (i : Int) : Option α := match i with
 | .ofNat n => xs[n]?
 | .negSucc _ => none
theorem evIdx_some {α : Type} {xs : List α} {i : Int} {x : α} (h : evIdx xs i = some x) : 0 <= i /\ xs[i.toNat]? = some x := by
 unfold evIdx at h
 split at h
 ·exact ⟨Int.natCast_nonneg _, h⟩
 ·cases h
def evRd (i : TI) (cs : List PV) : Option AV := match i.k.isAgg with
 | true => match Nat.ble i.size cs.length with
  | true => some (.p (.agg (cs.take i.size)))
  | false => none
 | false => match cs with
  | c :: _ => some (.p c)
  | [] => none
theorem evRd_sound {i : TI} {cs : List PV} {v : AV} {k : AV -> Prop} (h : evRd i cs = some v) (hk : k v) : rdCells i cs k := by
 unfold evRd at h; unfold rdCells
 split at h
 ·rename_i ha
  simp only [ha]
  split at h
  ·rename_i hb
   simp only [hb]
   injection h with h; subst h; exact hk
  ·cases h
 ·rename_i ha
  simp only [ha]
  split at h
  ·injection h with h; subst h; exact hk
  ·cases h
def evTake (i : TI) (cs : List AV) (off : Nat) : Option AV := match i.k.isAgg with
 | true => match Nat.ble (off + i.size) cs.length with
  | true => some (mkAgg ((cs.drop off).take i.size))
  | false => none
 | false => cs[off]?
theorem evTake_sound {i : TI} {cs : List AV} {off : Nat} {v : AV} {k : AV -> Prop} (h : evTake i cs off = some v) (hk : k v) : takeV i cs off k := by
 unfold evTake at h; unfold takeV
 split at h
 ·rename_i ha
  simp only [ha]
  split at h
  ·rename_i hb
   simp only [hb]
   injection h with h; subst h; exact hk
  ·cases h
 ·rename_i ha
  simp only [ha, h]
  exact hk
def evLoad (ti : TypeId -> Option TI) (H : AH) (t : TypeId) (x : AV) : Option AV := match ti t with
 | none => none
 | some i => match x with
  | .rptr cs => evRd i cs
  | .ptr id off => match H[id]? with
   | some (some (.cells cs)) => evTake i cs off
   | some (some (.arr xs)) => match i.k.isAgg with
    | false => match xs[off]? with
     | some y => some (.p y)
     | none => none
    | true => none
   | _ => none
  | .bptr id ix off => match H[id]? with
   | some (some (.buf _ _ xs)) => match xs[ix]? with
    | some y => evRd i (y.cells.drop off)
    | none => none
   | _ => none
  | _ => none
theorem evLoad_sound {t : TypeId} {x v : AV} {k : AV -> Prop} (h : evLoad ti H t x = some v) (hk : k v) : wpLoad ti H t x k := by
 unfold evLoad at h; unfold wpLoad
 split at h
 ·cases h
 ·rename_i i hi
  simp only [hi]
  split at h
  ·exact evRd_sound h hk
  ·rename_i id off
   split at h
   ·rename_i cs hc
    simp only [hc]
    exact evTake_sound h hk
   ·rename_i xs hc
    simp only [hc]
    split at h
    ·rename_i ha
     simp only [ha]
     split at h
     ·rename_i y hy
      injection h with h; subst h
      exact ⟨off, y, rfl, hy, hk⟩
     ·cases h
    ·cases h
   ·cases h
  ·rename_i id ix off
   split at h
   ·rename_i e nl xs hc
    simp only [hc]
    split at h
    ·rename_i y hy
     exact ⟨y, Int.natCast_nonneg _, hy, evRd_sound h hk⟩
    ·cases h
   ·cases h
  ·cases h
def evFieldAddr (ti : TypeId -> Option TI) (s : TypeId) (x : AV) (f : Nat) : Option AV := match ti s with
 | some ⟨.st fs, _, _, _⟩ => match fs[f]? with
  | some (ft, off) => match ti ft with
   | some ⟨_, _ + 1, _, _⟩ => match x with
    | .ptr id o => some (.ptr id (o + off))
    | .bptr id ix o => some (.bptr id ix (o + off))
    | .rptr cs => some (.rptr (cs.drop off))
    | _ => none
   | _ => none
  | none => none
 | _ => none
theorem evFieldAddr_sound {s : TypeId} {x v : AV} {f : Nat} {k : AV -> Prop} (h : evFieldAddr ti s x f = some v) (hk : k v) : wpFieldAddr ti s x f k := by
 unfold evFieldAddr at h; unfold wpFieldAddr
 split at h
 ·rename_i fs _ _ _ hi
  simp only [hi]
  split at h
  ·rename_i ft off hf
   simp only [hf]
   split at h
   ·rename_i hi2
    simp only [hi2]
    split at h <;> first | (cases h; done) | (injection h with h; subst h; exact hk)
   ·cases h
  ·cases h
 ·cases h
def evIdxP (xs : List PV) (i : Int) (sz : Nat) : Option AV := match evIdx xs i with
 | some z => match Nat.beq z.cells.length sz with
  | true => some (.rptr z.cells)
  | false => none
 | none => none
theorem evIdxP_sound {xs : List PV} {i : Int} {sz : Nat} {v : AV} {k : AV -> Prop} (h : evIdxP xs i sz = some v) (hk : k v) : IdxA xs i fun z => match Nat.beq z.cells.length sz with
  | true => k (.rptr z.cells)
  | false => False := by
 unfold evIdxP at h
 split at h
 ·rename_i z hz
  split at h
  ·rename_i hb
   injection h with h; subst h
   obtain ⟨h1, h2⟩ := evIdx_some hz
   exact ⟨z, h1, h2, by simp only [hb]; exact hk⟩
  ·cases h
 ·cases h
def evIndexAddr (ti : TypeId -> Option TI) (H : AH) (t : TypeId) (x y : AV) : Option AV := match y with
 | .p (.v (.int _ i)) => match ti t with
  | some ⟨.sl e, _, _, _⟩ => match x with
   | .p (.list _ xs) => match ti e with
    | some ie => evIdxP xs i ie.size
    | none => none
   | .buf id => match H[id]? with
    | some (some (.buf e' _ xs)) => match Nat.beq e e' with
     | true => match decide (0 <= i) && Nat.blt i.toNat xs.length with
      | true => some (.bptr id i.toNat 0)
      | false => none
     | false => none
    | some (some (.frz _ xs)) => match ti e with
     | some ie => evIdxP xs i ie.size
     | none => none
    | _ => none
   | .sub id lo hi => match H[id]? with
    | some (some (.buf e' _ _)) => match Nat.beq e e' with
     | true => match decide (0 <= i /\ i < ((hi - lo : Nat) : Int)) with
      | true => some (.bptr id (lo + i.toNat) 0)
      | false => none
     | false => none
    | _ => none
   | _ => none
  | some ⟨.ar n e, _, _, _⟩ => match ti e, x with
   | some ie, .ptr id o => match decide (0 <= i /\ i < n) with
    | true => some (.ptr id (o + i.toNat * ie.size))
    | false => none
   | some ie, .rptr cs => match decide (0 <= i /\ i < n) with
    | true => some (.rptr (cs.drop (i.toNat * ie.size)))
    | false => none
   | _, _ => none
  | _ => none
 | _ => none
theorem evIndexAddr_sound {t : TypeId} {x y v : AV} {k : AV -> Prop} (h : evIndexAddr ti H t x y = some v) (hk : k v) : wpIndexAddr ti H t x y k := by
 unfold evIndexAddr at h; unfold wpIndexAddr
 split at h
 ·split at h
  ·rename_i hi
   simp only [hi]
   split at h
   ·split at h
    ·rename_i hie
     simp only [hie]
     exact evIdxP_sound h hk
    ·cases h
   ·split at h
    ·rename_i hc
     simp only [hc]
     split at h
     ·rename_i hb
      simp only [hb]
      split at h
      ·rename_i hd
       injection h with h; subst h
       simp only [Bool.and_eq_true, decide_eq_true_eq] at hd
       exact ⟨_, (Int.toNat_of_nonneg hd.1).symm, Nat.le_of_ble_eq_true hd.2, hk⟩
      ·cases h
     ·cases h
    ·rename_i hc
     simp only [hc]
     split at h
     ·rename_i hie
      simp only [hie]
      exact evIdxP_sound h hk
     ·cases h
    ·cases h
   ·split at h
    ·rename_i hc
     simp only [hc]
     split at h
     ·rename_i hb
      simp only [hb]
      split at h
      ·rename_i hd
       injection h with h; subst h
       exact ⟨of_decide_eq_true hd, hk⟩
      ·cases h
     ·cases h
    ·cases h
   ·cases h
  ·rename_i hi
   simp only [hi]
   split at h
   ·rename_i hie
    simp only [hie]
    split at h
    ·rename_i hd
     injection h with h; subst h
     exact ⟨of_decide_eq_true hd, hk⟩
    ·cases h
   ·rename_i hie
    simp only [hie]
    split at h
    ·rename_i hd
     injection h with h; subst h
     exact ⟨of_decide_eq_true hd, hk⟩
    ·cases h
   ·cases h
  ·cases h
 ·cases h
def evLen (ti : TypeId -> Option TI) (H : AH) (t : TypeId) (x : AV) : Option AV := match ti t with
 | some ⟨.sl _, _, _, _⟩ => match x with
  | .p (.list _ xs) => some (.p (.v (.int .i64 xs.length)))
  | .buf id => match H[id]? with
   | some (some (.buf _ _ xs)) => some (.p (.v (.int .i64 xs.length)))
   | some (some (.frz _ xs)) => some (.p (.v (.int .i64 xs.length)))
   | _ => none
  | .sub id lo hi => match H[id]? with
   | some (some (.buf _ _ xs)) => some (.p (.v (.int .i64 ((hi - lo : Nat) : Int))))
   | _ => none
  | _ => none
 | some ⟨.ar n _, _, _, _⟩ => some (.p (.v (.int .i64 n)))
 | some ⟨.str, _, _, _⟩ => match x with
  | .p (.v (.string s)) => some (.p (.v (.int .i64 s.size)))
  | _ => none
 | _ => none
theorem evLen_sound {t : TypeId} {x v : AV} {k : AV -> Prop} (h : evLen ti H t x = some v) (hk : k v) : wpLen ti H t x k := by
 unfold evLen at h; unfold wpLen
 split at h
 ·rename_i hi
  simp only [hi]
  split at h
  ·injection h with h; subst h
   exact ⟨_, rfl, fun _ => hk⟩
  ·split at h
   ·rename_i hc
    simp only [hc]
    injection h with h; subst h
    exact ⟨_, rfl, fun _ => hk⟩
   ·rename_i hc
    simp only [hc]
    injection h with h; subst h
    exact ⟨_, rfl, fun _ => hk⟩
   ·cases h
  ·split at h
   ·rename_i hc
    simp only [hc]
    injection h with h; subst h
    exact ⟨_, rfl, fun _ => hk⟩
   ·cases h
  ·cases h
 ·rename_i hi
  simp only [hi]
  injection h with h; subst h
  exact hk
 ·rename_i hi
  simp only [hi]
  split at h
  ·injection h with h; subst h
   exact hk
  ·cases h
 ·cases h
def evField (ti : TypeId -> Option TI) (s : TypeId) (x : AV) (f : Nat) : Option AV := match ti s with
 | some ⟨.st fs, _, _, _⟩ => match fs[f]? with
  | some (ft, off) => match ti ft with
   | some i => match x with
    | .agg cs => evTake i cs off
    | .p (.agg cs) => evTake i (cs.map .p) off
    | _ => none
   | none => none
  | none => none
 | _ => none
theorem evField_sound {s : TypeId} {x v : AV} {f : Nat} {k : AV -> Prop} (h : evField ti s x f = some v) (hk : k v) : wpField ti s x f k := by
 unfold evField at h; unfold wpField
 split at h
 ·rename_i hi
  simp only [hi]
  split at h
  ·rename_i hf
   simp only [hf]
   split at h
   ·rename_i hi2
    split at h
    ·simp only [wpPart, hi2]
     exact evTake_sound h hk
    ·simp only [wpPart, hi2]
     exact evTake_sound h hk
    ·cases h
   ·cases h
  ·cases h
 ·cases h
def evArrP (ie : TI) (cs : List PV) (i : Int) : Option AV := match ie.k.isAgg, Nat.beq ie.size 1 with
 | false, true => match evIdx cs i with
  | some y => some (.p y)
  | none => none
 | true, _ => match Nat.ble (i.toNat * ie.size + ie.size) cs.length with
  | true => some (.p (.agg ((cs.drop (i.toNat * ie.size)).take ie.size)))
  | false => none
 | _, _ => evTake ie (cs.map .p) (i.toNat * ie.size)
theorem evArrP_sound {ie : TI} {cs : List PV} {i : Int} {v : AV} {k : AV -> Prop} (h : evArrP ie cs i = some v) (hk : k v) : arrP ie cs i k := by
 unfold evArrP at h; unfold arrP
 split at h
 ·rename_i h1 h2
  simp only [h1, h2]
  split at h
  ·rename_i hy
   injection h with h; subst h
   obtain ⟨h1, h2⟩ := evIdx_some hy
   exact ⟨_, h1, h2, hk⟩
  ·cases h
 ·rename_i h1
  simp only [h1]
  split at h
  ·rename_i hb
   injection h with h; subst h
   exact ⟨_, rfl, hb, hk⟩
  ·cases h
 ·rename_i h1 h2
  split
  ·rename_i h3 h4; exact (h2 h3 h4).elim
  ·rename_i h3; exact (h1 h3).elim
  ·exact evTake_sound h hk
def evByte (s : ByteArray) (i : Int) : Option AV := match evIdx s.data.toList i with
 | some b => some (.p (.v (.int .u8 b.toNat)))
 | none => none
def evIndex (ti : TypeId -> Option TI) (t : TypeId) (x y : AV) : Option AV := match y with
 | .p (.v (.int _ i)) => match ti t with
  | some ⟨.ar n e, _, _, _⟩ => match ti e, decide (0 <= i /\ i < n) with
   | some ie, true => match x with
    | .agg cs => evTake ie cs (i.toNat * ie.size)
    | .p (.agg cs) => evArrP ie cs i
    | _ => none
   | _, _ => none
  | some ⟨.str, _, _, _⟩ => match x with
   | .p (.v (.string s)) => evByte s i
   | _ => none
  | _ => none
 | _ => none
theorem evIndex_sound {t : TypeId} {x y v : AV} {k : AV -> Prop} (h : evIndex ti t x y = some v) (hk : k v) : wpIndex ti t x y k := by
 unfold evIndex at h; unfold wpIndex
 split at h
 ·split at h
  ·rename_i hi
   simp only [hi]
   split at h
   ·rename_i hie hd
    simp only [hie]
    split at h
    ·exact ⟨of_decide_eq_true hd, evTake_sound h hk⟩
    ·exact ⟨of_decide_eq_true hd, evArrP_sound h hk⟩
    ·cases h
   ·cases h
  ·rename_i hi
   simp only [hi]
   split at h
   ·unfold evByte at h
    split at h
    ·rename_i s _ b hb
     injection h with h; subst h
     obtain ⟨h1, h2⟩ := evIdx_some hb
     refine ⟨b, h1, ?_, hk⟩
     rw [Array.getElem?_toList] at h2
     obtain ⟨h3, h4⟩ := Array.getElem?_eq_some_iff.1 h2
     rw [getElem?_pos s _ (by exact h3)]
     exact congrArg some h4
    ·cases h
   ·cases h
  ·cases h
 ·cases h
def evCut (ti : TypeId -> Option TI) (H : AH) (t : TypeId) (x : AV) (l : Int) (ho : Option Int) : Option AV := match ti t with
 | some ⟨.sl e, _, _, _⟩ => match ti e with
  | some ie => match x with
   | .p (.list nl xs) => match (xs.all fun x => Nat.beq x.cells.length ie.size) && decide (0 <= l /\ l <= ho.getD xs.length /\ ho.getD xs.length <= xs.length) with
    | true => some (.p (.list nl ((xs.take (ho.getD xs.length).toNat).drop l.toNat)))
    | false => none
   | .buf id => match H[id]? with
    | some (some (.buf e' _ xs)) => match Nat.beq e e', decide (0 <= l /\ l <= ho.getD xs.length /\ ho.getD xs.length <= xs.length) with
     | true, true => some (.sub id l.toNat (ho.getD xs.length).toNat)
     | _, _ => none
    | some (some (.frz nl xs)) => match (xs.all fun x => Nat.beq x.cells.length ie.size) && decide (0 <= l /\ l <= ho.getD xs.length /\ ho.getD xs.length <= xs.length) with
     | true => some (.p (.list nl ((xs.take (ho.getD xs.length).toNat).drop l.toNat)))
     | false => none
    | _ => none
   | .sub id lo hi => match H[id]? with
    | some (some (.buf e' _ xs)) => match Nat.beq e e', decide (0 <= l /\ l <= ho.getD ((hi - lo : Nat) : Int) /\ ho.getD ((hi - lo : Nat) : Int) <= ((hi - lo : Nat) : Int)) with
     | true, true => some (.sub id (lo + l.toNat) (lo + (ho.getD ((hi - lo : Nat) : Int)).toNat))
     | _, _ => none
    | _ => none
   | _ => none
  | none => none
 | some ⟨.str, _, _, _⟩ => match x with
  | .p (.v (.string s)) => match decide (0 <= l /\ l <= ho.getD s.size /\ ho.getD s.size <= s.size) with
   | true => some (.p (.v (.string (s.extract l.toNat (ho.getD s.size).toNat))))
   | false => none
  | _ => none
 | _ => none
theorem evAllSz {xs : List PV} {n : Nat} (h : (xs.all fun x => Nat.beq x.cells.length n) = true) : ∀ x ∈ xs, x.cells.length = n := fun x hx => Nat.eq_of_beq_eq_true (List.all_eq_true.1 h x hx)
theorem evCut_sound {t : TypeId} {x v : AV} {l : Int} {ho : Option Int} {k : AV -> Prop} (h : evCut ti H t x l ho = some v) (hk : k v) : wpCut ti H t x l ho k := by
 unfold evCut at h; unfold wpCut
 split at h
 ·rename_i hi
  simp only [hi]
  split at h
  ·rename_i hie
   simp only [hie]
   split at h
   ·split at h
    ·rename_i hd
     injection h with h; subst h
     simp only [Bool.and_eq_true] at hd
     exact ⟨evAllSz hd.1, _, of_decide_eq_true hd.2, rfl, hk⟩
    ·cases h
   ·split at h
    ·rename_i hc
     simp only [hc]
     split at h
     ·rename_i hb hd
      simp only [hb]
      injection h with h; subst h
      exact ⟨of_decide_eq_true hd, hk⟩
     ·cases h
    ·rename_i hc
     simp only [hc]
     split at h
     ·rename_i hd
      injection h with h; subst h
      simp only [Bool.and_eq_true] at hd
      exact ⟨evAllSz hd.1, _, of_decide_eq_true hd.2, rfl, hk⟩
     ·cases h
    ·cases h
   ·split at h
    ·rename_i hc
     simp only [hc]
     split at h
     ·rename_i hb hd
      simp only [hb]
      injection h with h; subst h
      exact ⟨of_decide_eq_true hd, hk⟩
     ·cases h
    ·cases h
   ·cases h
  ·cases h
 ·rename_i hi
  simp only [hi]
  split at h
  ·split at h
   ·rename_i hd
    injection h with h; subst h
    exact ⟨of_decide_eq_true hd, hk⟩
   ·cases h
  ·cases h
 ·cases h
def evSlice (ti : TypeId -> Option TI) (H : AH) (t : TypeId) (x : AV) (lo hi mx : Option AV) : Option AV := match lo, hi, mx with
 | none, none, none => evCut ti H t x 0 none
 | some l, none, none => match asI l with
  | some l => evCut ti H t x l none
  | none => none
 | none, some h, none => match asI h with
  | some h => evCut ti H t x 0 (some h)
  | none => none
 | some l, some h, none => match asI l, asI h with
  | some l, some h => evCut ti H t x l (some h)
  | _, _ => none
 | _, _, _ => none
theorem evSlice_sound {t : TypeId} {x v : AV} {lo hi mx : Option AV} {k : AV -> Prop} (h : evSlice ti H t x lo hi mx = some v) (hk : k v) : wpSlice ti H t x lo hi mx k := by
 unfold evSlice at h; unfold wpSlice
 split at h
 ·exact evCut_sound h hk
 ·split at h
  ·rename_i hl
   simp only [hl]
   exact evCut_sound h hk
  ·cases h
 ·split at h
  ·rename_i hl
   simp only [hl]
   exact evCut_sound h hk
  ·cases h
 ·split at h
  ·rename_i hl hh
   simp only [hl, hh]
   exact evCut_sound h hk
  ·cases h
 ·cases h
def evConv (ti : TypeId -> Option TI) (src dst : TypeId) (x : AV) : Option AV := match ti src, ti dst, x with
 | some ⟨.int _, _, _, _⟩, some ⟨.int kd, _, _, _⟩, .p (.v (.int _ n)) => some (.p (.v (.int kd (kd.wrap n))))
 | some ⟨.str, _, _, _⟩, some ⟨.str, _, _, _⟩, .p (.v (.string s)) => some (.p (.v (.string s)))
 | _, _, _ => none
theorem evConv_sound {s d : TypeId} {x v : AV} {k : AV -> Prop} (h : evConv ti s d x = some v) (hk : k v) : wpConv ti s d x k := by
 unfold evConv at h; unfold wpConv
 split at h
 ·rename_i h1 h2
  simp only [h1, h2]
  injection h with h; subst h
  exact ⟨_, rfl, hk⟩
 ·rename_i h1 h2
  simp only [h1, h2]
  injection h with h; subst h
  exact hk
 ·cases h
def evUn (op : UnOp) (x : AV) : Option AV := match op, x with
 | .not, .p (.v (.bool b)) => some (.p (.v (.bool (!b))))
 | .neg, .p (.v (.int kd n)) => some (.p (.v (.int kd (kd.wrap (0 - n)))))
 | _, _ => none
theorem evUn_sound {op : UnOp} {x v : AV} {k : AV -> Prop} (h : evUn op x = some v) (hk : k v) : wpUn op x k := by
 unfold evUn at h; unfold wpUn
 split at h
 ·injection h with h; subst h
  exact hk
 ·injection h with h; subst h
  exact ⟨_, rfl, hk⟩
 ·cases h
def evBuild (ti : TypeId -> Option TI) (t : TypeId) (parts : List (Nat × AV)) : Option AV := match ti t with
 | some i => match i.k with
  | .st fs => match placesOf ti fs with
   | some ps => match fillA (ps[·]?) (zeroCells i) parts with
    | some cs => some (mkAgg cs)
    | none => none
   | none => none
  | .ar _ e => match ti e with
   | some ie => match fillA (fun j => some (j * ie.size, ie.size)) (zeroCells i) parts with
    | some cs => some (mkAgg cs)
    | none => none
   | none => none
  | _ => none
 | none => none
theorem evBuild_sound {t : TypeId} {parts : List (Nat × AV)} {v : AV} {k : AV -> Prop} (h : evBuild ti t parts = some v) (hk : k v) : wpBuild ti t parts k := by
 unfold evBuild at h; unfold wpBuild
 split at h
 ·rename_i hi
  simp only [hi]
  split at h
  ·rename_i hs
   simp only [hs]
   split at h
   ·rename_i hp
    simp only [hp]
    split at h
    ·rename_i hf
     simp only [hf]
     injection h with h; subst h
     exact hk
    ·cases h
   ·cases h
  ·rename_i hs
   simp only [hs]
   split at h
   ·rename_i hp
    simp only [hp]
    split at h
    ·rename_i hf
     simp only [hf]
     injection h with h; subst h
     exact hk
    ·cases h
   ·cases h
  ·cases h
 ·cases h
def evMinMax (mx : Bool) : AV -> List AV -> Option AV
 | x, [] => some x
 | .p (.v (.int kd a)), .p (.v (.int kd' b)) :: r => match sameK kd kd' with
  | true => match mx with
   | true => evMinMax mx (.p (.v (.int kd (if b > a then b else a)))) r
   | false => evMinMax mx (.p (.v (.int kd (if b < a then b else a)))) r
  | false => none
 | _, _ => none
theorem evMinMax_sound {mx : Bool} {k : AV -> Prop} : ∀ {r : List AV} {x v : AV}, evMinMax mx x r = some v -> k v -> wpMinMax mx x r k
 | [], x, v, h, hk => by
  unfold evMinMax at h
  injection h with h; subst h
  unfold wpMinMax
  exact hk
 | y :: r, x, v, h, hk => by
  unfold evMinMax at h; unfold wpMinMax
  split at h
  ·rename_i h0; cases h0
  ·rename_i he
   injection he with he1 he2
   subst he1; subst he2
   simp only
   split at h
   ·rename_i hs
    simp only [hs]
    split at h
    ·exact evMinMax_sound h hk
    ·exact evMinMax_sound h hk
   ·cases h
  ·cases h
end
end Go.Abs
namespace Go.Abs
open Go.RowKit
section
variable {ti : TypeId -> Option TI} {H : AH}
def evI (kd : IntKind) (n : Int) : Option AV := some (.p (.v (.int kd (kd.wrap n))))
def evB (b : Bool) : Option AV := some (.p (.v (.bool b)))
def evInts (op : BinOp) (kd : IntKind) (a b : Int) : Option AV := match op with
 | .add => evI kd (a + b)
 | .sub => evI kd (a - b)
 | .mul => evI kd (a * b)
 | .quo => match b == 0 with
  | true => none
  | false => evI kd (a.tdiv b)
 | .rem => match b == 0 with
  | true => none
  | false => some (.p (.v (.int kd (a.tmod b))))
 | .and => evI kd ((BitVec.ofInt kd.bits a &&& BitVec.ofInt kd.bits b).toNat : Int)
 | .or => evI kd ((BitVec.ofInt kd.bits a ||| BitVec.ofInt kd.bits b).toNat : Int)
 | .xor => evI kd ((BitVec.ofInt kd.bits a ^^^ BitVec.ofInt kd.bits b).toNat : Int)
 | .andNot => evI kd ((BitVec.ofInt kd.bits a &&& ~~~(BitVec.ofInt kd.bits b)).toNat : Int)
 | .eql => evB (a == b)
 | .neq => evB (a != b)
 | .lss => evB (decide (a < b))
 | .leq => evB (decide (a <= b))
 | .gtr => evB (decide (a > b))
 | .geq => evB (decide (a >= b))
 | _ => none
theorem evI_sound {kd : IntKind} {n : Int} {v : AV} {k : AV -> Prop} (h : evI kd n = some v) (hk : k v) : NW kd n fun n => k (.p (.v (.int kd n))) := by
 injection h with h; subst h
 exact ⟨_, rfl, hk⟩
theorem evB_sound {b : Bool} {v : AV} {k : AV -> Prop} (h : evB b = some v) (hk : k v) : k (.p (.v (.bool b))) := by
 injection h with h; subst h
 exact hk
theorem evInts_sound {op : BinOp} {kd : IntKind} {a b : Int} {v : AV} {k : AV -> Prop} (h : evInts op kd a b = some v) (hk : k v) : wpInts op kd a b k := by
 unfold evInts at h; unfold wpInts
 split at h
 ·exact evI_sound h hk
 ·exact evI_sound h hk
 ·exact evI_sound h hk
 ·split at h
  ·cases h
  ·rename_i hb
   exact ⟨_, by simpa using hb, rfl, evI_sound h hk⟩
 ·split at h
  ·cases h
  ·rename_i hb
   injection h with h; subst h
   exact ⟨_, by simpa using hb, rfl, hk⟩
 ·exact evI_sound h hk
 ·exact evI_sound h hk
 ·exact evI_sound h hk
 ·exact evI_sound h hk
 ·exact evB_sound h hk
 ·exact evB_sound h hk
 ·exact evB_sound h hk
 ·exact evB_sound h hk
 ·exact evB_sound h hk
 ·exact evB_sound h hk
 ·cases h
def evShift (op : BinOp) (kd : IntKind) (a b : Int) : Option AV := match op, decide (0 <= b) with
 | .shl, true => evI kd (a * 2 ^ (min b.toNat kd.bits))
 | .shr, true => some (.p (.v (.int kd (a.fdiv (2 ^ (min b.toNat kd.bits))))))
 | _, _ => none
theorem evShift_sound {op : BinOp} {kd : IntKind} {a b : Int} {v : AV} {k : AV -> Prop} (h : evShift op kd a b = some v) (hk : k v) : wpShift op kd a b k := by
 unfold evShift at h; unfold wpShift
 split at h
 ·rename_i hd
  exact ⟨of_decide_eq_true hd, evI_sound h hk⟩
 ·rename_i hd
  injection h with h; subst h
  exact ⟨of_decide_eq_true hd, _, rfl, hk⟩
 ·cases h
def evStrEq (a b : ByteArray) : Bool := a.data.toList == b.data.toList
theorem evStrEq_eq (a b : ByteArray) : (a.toList == b.toList) = evStrEq a b := by
 unfold evStrEq
 rw [ByteArray.toList_eq, ByteArray.toList_eq]
def evEqPs (ti : TypeId -> Option TI) : List (TypeId × Nat) -> List PV -> List PV -> Option Bool
 | [], _, _ => some true
 | (t, off) :: fs, xs, ys =>
  match ti t, xs[off]?, ys[off]?, evEqPs ti fs xs ys with
  | some i, some (.v x), some (.v y), some r => match i.k, x, y with
   | .int _, .int ka a, .int kb b => match sameK ka kb with
    | true => some (a == b && r)
    | false => none
   | .bool, .bool a, .bool b => some ((a == b) && r)
   | .str, .string a, .string b => some (evStrEq a b && r)
   | _, _, _ => none
  | _, _, _, _ => none
theorem evEqPs_eq : ∀ (fs : List (TypeId × Nat)) (xs ys : List PV), evEqPs ti fs xs ys = eqPs ti fs xs ys
 | [], _, _ => rfl
 | (t, off) :: fs, xs, ys => by
  unfold evEqPs eqPs
  rw [evEqPs_eq fs]
  simp only [evStrEq_eq]
  rfl
def evBin (ti : TypeId -> Option TI) (H : AH) (op : BinOp) (t : TypeId) (x y : AV) : Option AV :=
 match x, y with
 | .p (.v (.int ka a)), .p (.v (.int kb b)) => match isShift op with
  | true => evShift op ka a b
  | false => match sameK ka kb with
   | true => evInts op ka a b
   | false => none
 | .p (.v (.bool a)), .p (.v (.bool b)) => match ti t, op with
  | some ⟨.bool, _, _, _⟩, .eql => evB (a == b)
  | some ⟨.bool, _, _, _⟩, .neq => evB (!(a == b))
  | _, _ => none
 | .p (.v (.string a)), .p (.v (.string b)) => match op with
  | .eql => evB (evStrEq a b)
  | .neq => evB (!evStrEq a b)
  | .add => match Nat.ble (a.size + b.size) 9223372036854775807 with
   | true => some (.p (.v (.string (a ++ b))))
   | false => none
  | .lss => evB (Op.bytesLess a.data.toList b.data.toList)
  | .leq => evB (Op.bytesLess a.data.toList b.data.toList || evStrEq a b)
  | .gtr => evB (!(Op.bytesLess a.data.toList b.data.toList || evStrEq a b))
  | .geq => evB (!Op.bytesLess a.data.toList b.data.toList)
  | _ => none
 | .p (.list nl xs), .p (.list true []) => match ti t, op with
  | some ⟨.sl _, _, _, _⟩, .eql => evB nl
  | some ⟨.sl _, _, _, _⟩, .neq => evB (!nl)
  | _, _ => none
 | .buf id, .p (.list true []) => match ti t, op, H[id]? with
  | some ⟨.sl _, _, _, _⟩, .eql, some (some (.buf _ nl _)) => evB nl
  | some ⟨.sl _, _, _, _⟩, .neq, some (some (.buf _ nl _)) => evB (!nl)
  | some ⟨.sl _, _, _, _⟩, .eql, some (some (.frz nl _)) => evB nl
  | some ⟨.sl _, _, _, _⟩, .neq, some (some (.frz nl _)) => evB (!nl)
  | _, _, _ => none
 | .p (.agg xs), .p (.agg ys) => match ti t with
  | some ⟨.st fs, _, _, _⟩ => match evEqPs ti fs xs ys, op with
   | some r, .eql => evB r
   | some r, .neq => evB (!r)
   | _, _ => none
  | _ => none
 | _, _ => none
theorem evBin_sound {op : BinOp} {t : TypeId} {x y v : AV} {k : AV -> Prop} (h : evBin ti H op t x y = some v) (hk : k v) : wpBin ti H op t x y k := by
 unfold evBin at h; unfold wpBin
 split at h
 ·split at h
  ·rename_i hs
   simp only [hs]
   exact evShift_sound h hk
  ·rename_i hs
   simp only [hs]
   split at h
   ·rename_i hs
    simp only [hs]
    exact evInts_sound h hk
   ·cases h
 ·split at h
  ·rename_i hi
   simp only [hi]
   exact evB_sound h hk
  ·rename_i hi
   simp only [hi]
   exact evB_sound h hk
  ·cases h
 ·split at h
  ·simp only [evStrEq_eq]
   exact evB_sound h hk
  ·simp only [evStrEq_eq]
   exact evB_sound h hk
  ·split at h
   ·rename_i hb
    injection h with h; subst h
    exact ⟨Nat.le_of_ble_eq_true hb, hk⟩
   ·cases h
  ·simp only [ByteArray.toList_eq]
   exact evB_sound h hk
  ·simp only [evStrEq_eq, ByteArray.toList_eq]
   exact evB_sound h hk
  ·simp only [evStrEq_eq, ByteArray.toList_eq]
   exact evB_sound h hk
  ·simp only [ByteArray.toList_eq]
   exact evB_sound h hk
  ·cases h
 ·split at h
  ·rename_i hi
   simp only [hi]
   exact ⟨fun _ => evB_sound h hk⟩
  ·rename_i hi
   simp only [hi]
   exact ⟨fun _ => evB_sound h hk⟩
  ·cases h
 ·split at h
  ·rename_i hi hc
   simp only [hi, hc]
   exact ⟨fun _ => evB_sound h hk⟩
  ·rename_i hi hc
   simp only [hi, hc]
   exact ⟨fun _ => evB_sound h hk⟩
  ·rename_i hi hc
   simp only [hi, hc]
   exact ⟨fun _ => evB_sound h hk⟩
  ·rename_i hi hc
   simp only [hi, hc]
   exact ⟨fun _ => evB_sound h hk⟩
  ·cases h
 ·split at h
  ·rename_i hi
   simp only [hi]
   rw [evEqPs_eq] at h
   split at h
   ·rename_i he
    simp only [he]
    exact evB_sound h hk
   ·rename_i he
    simp only [he]
    exact evB_sound h hk
   ·cases h
  ·cases h
 ·cases h
def evPick (t : Bool) (x y : AV) : AV := match t with
 | true => x
 | false => y
theorem evPick_sound {t : Bool} {x y : AV} {k : AV -> Prop} (hk : k (evPick t x y)) : wpPick t x y k := by
 unfold wpPick
 split
 ·cases t <;> exact hk
 ·cases t <;> exact hk
def evCap (ti : TypeId -> Option TI) (t : TypeId) (x : AV) : Option AV := match x with
 | .p (.list true []) => match ti t with
  | some ⟨.sl _, _, _, _⟩ => some (.p (.v (.int .i64 0)))
  | _ => none
 | _ => none
theorem evCap_sound {t : TypeId} {x v : AV} {k : AV -> Prop} (h : evCap ti t x = some v) (hk : k v) : wpCap ti t x k := by
 unfold evCap at h; unfold wpCap
 split at h
 ·split at h
  ·rename_i hi
   simp only [hi]
   injection h with h; subst h
   exact hk
  ·cases h
 ·cases h
def evQ (ti : TypeId -> Option TI) (σ : AS) (op : Op) : Option AV := match op with
 | .move x => some (σ.ev x)
 | .assign x => some (σ.ev x)
 | .pick c a b => match σ.ev c with
  | .p (.v (.bool t)) => some (evPick t (σ.ev a) (σ.ev b))
  | _ => none
 | .load t a => evLoad ti σ.h t (σ.ev a)
 | .nilCheck x => match σ.ev x with
  | .ptr id o => some (.ptr id o)
  | .bptr id i o => some (.bptr id i o)
  | .rptr cs => some (.rptr cs)
  | .clo fn caps => some (.clo fn caps)
  | _ => none
 | .binOp op t x y _ => evBin ti σ.h op t (σ.ev x) (σ.ev y)
 | .unOp op _ x => evUn op (σ.ev x)
 | .convert s d x => evConv ti s d (σ.ev x)
 | .fieldAddr s x f => evFieldAddr ti s (σ.ev x) f
 | .field s x f => evField ti s (σ.ev x) f
 | .indexAddr t x i => evIndexAddr ti σ.h t (σ.ev x) (σ.ev i)
 | .index t x i => evIndex ti t (σ.ev x) (σ.ev i)
 | .slice t x lo hi mx => evSlice ti σ.h t (σ.ev x) (lo.map σ.ev) (hi.map σ.ev) (mx.map σ.ev)
 | .extract x i => match σ.ev x with
  | .tup xs => xs[i]?
  | _ => none
 | .build t parts => evBuild ti t (parts.toList.map fun p => (p.1, σ.ev p.2))
 | .makeFunc fn first caps => match first.toList with
  | [] => some (.clo fn (caps.toList.map σ.ev))
  | _ => none
 | .call c => match c.callee with
  | .builtin .len => match c.args.toList, c.argTypes.toList with
   | [x], [t] => evLen ti σ.h t (σ.ev x)
   | _, _ => none
  | .builtin .cap => match c.args.toList, c.argTypes.toList with
   | [x], [t] => evCap ti t (σ.ev x)
   | _, _ => none
  | .builtin .max => match c.args.toList with
   | x :: r => evMinMax true (σ.ev x) (r.map σ.ev)
   | _ => none
  | .builtin .min => match c.args.toList with
   | x :: r => evMinMax false (σ.ev x) (r.map σ.ev)
   | _ => none
  | _ => none
 | _ => none
theorem evQ_sound {σ : AS} {op : Op} {v : AV} {k : AV -> Prop} (h : evQ ti σ op = some v) (hk : k v) : wpQ ti σ op k := by
 unfold evQ at h; unfold wpQ
 split at h
 ·injection h with h; subst h; exact hk
 ·injection h with h; subst h; exact hk
 ·split at h
  ·rename_i hc
   simp only [hc]
   injection h with h; subst h
   exact evPick_sound hk
  ·cases h
 ·exact evLoad_sound h hk
 ·split at h <;> first | (cases h; done) | (rename_i hc; simp only [hc]; injection h with h; subst h; exact hk)
 ·exact evBin_sound h hk
 ·exact evUn_sound h hk
 ·exact evConv_sound h hk
 ·exact evFieldAddr_sound h hk
 ·exact evField_sound h hk
 ·exact evIndexAddr_sound h hk
 ·exact evIndex_sound h hk
 ·exact evSlice_sound h hk
 ·split at h
  ·rename_i hc
   simp only [hc, h]
   exact hk
  ·cases h
 ·exact evBuild_sound h hk
 ·split at h
  ·rename_i hc
   simp only [hc]
   injection h with h; subst h
   exact hk
  ·cases h
 ·split at h
  ·rename_i hc
   simp only [hc]
   split at h
   ·rename_i h1 h2
    simp only [h1, h2]
    exact evLen_sound h hk
   ·cases h
  ·rename_i hc
   simp only [hc]
   split at h
   ·rename_i h1 h2
    simp only [h1, h2]
    exact evCap_sound h hk
   ·cases h
  ·rename_i hc
   simp only [hc]
   split at h
   ·rename_i h1
    simp only [h1]
    exact evMinMax_sound h hk
   ·cases h
  ·rename_i hc
   simp only [hc]
   split at h
   ·rename_i h1
    simp only [h1]
    exact evMinMax_sound h hk
   ·cases h
  ·cases h
 ·cases h
end
end Go.Abs
namespace Go.Abs
open Go.RowKit
section
variable {ti : TypeId -> Option TI} {H : AH}
abbrev EV := Option (AV × AH)
def evSrc (H : AH) (e : TypeId) (sz : Nat) (x : AV) : Option (List PV) := match x with
 | .p (.list _ ys) => match ys.all fun x => Nat.beq x.cells.length sz with
  | true => some ys
  | false => none
 | .buf id2 => match H[id2]? with
  | some (some (.buf e2 _ ys)) => match Nat.beq e e2 with
   | true => some ys
   | false => none
  | some (some (.frz _ ys)) => match ys.all fun x => Nat.beq x.cells.length sz with
   | true => some ys
   | false => none
  | _ => none
 | _ => none
theorem evSrc_sound {e : TypeId} {sz : Nat} {x : AV} {ys : List PV} {k : List PV -> Prop} (h : evSrc H e sz x = some ys) (hk : k ys) : wpSrc H e sz x k := by
 unfold evSrc at h; unfold wpSrc
 split at h
 ·split at h
  ·rename_i ha
   injection h with h; subst h
   exact ⟨evAllSz ha, hk⟩
  ·cases h
 ·split at h
  ·rename_i hc
   simp only [hc]
   split at h
   ·rename_i hb
    simp only [hb]
    injection h with h; subst h
    exact hk
   ·cases h
  ·rename_i hc
   simp only [hc]
   split at h
   ·rename_i ha
    injection h with h; subst h
    exact ⟨evAllSz ha, hk⟩
   ·cases h
  ·cases h
 ·cases h
def evSrc2 (H : AH) (e : TypeId) (sz : Nat) (x : AV) : Option (List PV) := match x with
 | .sub id2 lo hi => match H[id2]? with
  | some (some (.buf e2 _ ys)) => match Nat.beq e e2 with
   | true => some ((ys.take hi).drop lo)
   | false => none
  | _ => none
 | _ => evSrc H e sz x
theorem evSrc_sound2 {e : TypeId} {sz : Nat} {x : AV} {ys : List PV} {k : List PV -> Prop} (h : evSrc2 H e sz x = some ys) (hk : k ys) : wpSrc2 H e sz x k := by
 unfold evSrc2 at h
 split at h
 ·unfold wpSrc2
  split at h
  ·rename_i hc
   simp only [hc]
   split at h
   ·rename_i hb
    simp only [hb]
    injection h with h; subst h
    exact hk
   ·cases h
  ·cases h
 unfold evSrc at h; unfold wpSrc2
 split at h
 ·split at h
  ·rename_i ha
   injection h with h; subst h
   exact ⟨evAllSz ha, hk⟩
  ·cases h
 ·split at h
  ·rename_i hc
   simp only [hc]
   split at h
   ·rename_i hb
    simp only [hb]
    injection h with h; subst h
    exact hk
   ·cases h
  ·rename_i hc
   simp only [hc]
   split at h
   ·rename_i ha
    injection h with h; subst h
    exact ⟨evAllSz ha, hk⟩
   ·cases h
  ·cases h
 ·cases h
def evFits (n by_ : Nat) : Bool := Nat.ble n maxLen && Nat.ble (n * by_) 140737488355328
theorem evFits_spec {n by_ : Nat} (h : evFits n by_ = true) : n <= maxLen /\ n * by_ <= 140737488355328 := by
 unfold evFits at h
 rw [Bool.and_eq_true] at h
 exact ⟨Nat.le_of_ble_eq_true h.1, Nat.le_of_ble_eq_true h.2⟩
def evApp1 (H : AH) (e : TypeId) (sz by_ : Nat) (ob : Option Nat) (nl : Bool) (xs : List PV) (x : AV) : EV := match evSrc H e sz x with
 | some ys => match evFits (xs ++ ys).length by_ with
  | true => some (.buf H.length, kill H ob ++ [some (.buf e (ys.isEmpty && nl) (xs ++ ys))])
  | false => none
 | none => none
theorem evApp1_sound {e : TypeId} {sz by_ : Nat} {ob : Option Nat} {nl : Bool} {xs : List PV} {x v : AV} {H' : AH} {k : AV -> AH -> Prop} (h : evApp1 H e sz by_ ob nl xs x = some (v, H')) (hk : k v H') : wpApp1 H e sz by_ ob nl xs x k := by
 unfold evApp1 at h; unfold wpApp1
 split at h
 ·rename_i hs
  split at h
  ·rename_i hf
   injection h with h; injection h with h1 h2; subst h1; subst h2
   exact evSrc_sound hs ⟨_, rfl, evFits_spec hf, hk⟩
  ·cases h
 ·cases h
def evAppend (ti : TypeId -> Option TI) (H : AH) (t : TypeId) (s x : AV) : EV := match ti t with
 | some ⟨.sl e, _, _, _⟩ => match ti e with
  | some ⟨_, sz + 1, by_, _⟩ => match s with
   | .p (.list true []) => evApp1 H e (sz + 1) by_ none true [] x
   | .buf id => match H[id]? with
    | some (some (.buf e' nl xs)) => match Nat.beq e e' with
     | true => evApp1 H e (sz + 1) by_ (some id) nl xs x
     | false => none
    | _ => none
   | .cap _ xs => match evSrc H e (sz + 1) x with
    | some ys => match (xs.all fun x => Nat.beq x.cells.length (sz + 1)) && (Nat.blt 0 ys.length && evFits (xs ++ ys).length by_) with
     | true => some (.buf H.length, H ++ [some (.buf e false (xs ++ ys))])
     | false => none
    | none => none
   | .sub id lo hi => match H[id]? with
    | some (some (.buf e' _ xs)) => match Nat.beq e e' with
     | true => match evSrc H e (sz + 1) x with
      | some ys => match Nat.beq hi xs.length && (Nat.ble lo xs.length && (Nat.blt 0 ys.length && evFits (xs.length + ys.length) by_)) with
       | true => none
       | false => none
      | none => none
     | false => none
    | _ => none
   | _ => none
  | _ => none
 | _ => none
theorem evAppend_sound {t : TypeId} {s x v : AV} {H' : AH} {k : AV -> AH -> Prop} (h : evAppend ti H t s x = some (v, H')) (hk : k v H') : wpAppend ti H t s x k := by
 unfold evAppend at h; unfold wpAppend
 split at h
 ·rename_i hi
  simp only [hi]
  split at h
  ·rename_i hie
   simp only [hie]
   split at h
   ·exact evApp1_sound h hk
   ·split at h
    ·rename_i hc
     simp only [hc]
     split at h
     ·rename_i hb
      simp only [hb]
      exact .own (evApp1_sound h hk)
     ·cases h
    ·cases h
   ·split at h
    ·rename_i hs
     split at h
     ·rename_i hd
      injection h with h; injection h with h1 h2; subst h1; subst h2
      simp only [Bool.and_eq_true] at hd
      have h0 := Nat.le_of_ble_eq_true hd.2.1
      exact evSrc_sound hs ⟨evAllSz hd.1, ⟨h0, h0⟩, _, rfl, evFits_spec hd.2.2, hk⟩
     ·cases h
    ·cases h
   ·split at h
    ·split at h
     ·split at h
      ·split at h <;> cases h
      ·cases h
     ·cases h
    ·cases h
   ·cases h
  ·cases h
 ·cases h
def evAppZ (ti : TypeId -> Option TI) (H : AH) (t t' : TypeId) (s x : AV) : EV := match s, asI x, ti t, ti t' with
 | .p (.list true []), some n, some ⟨.sl e, _, _, _⟩, some ⟨.int _, _, _, _⟩ => match ti e with
  | some ⟨_, _ + 1, by_, z⟩ => match decide (0 < n /\ n * (by_ : Int) <= 281474976710656 /\ n <= 4611686018427387904) with
   | true => some (.buf H.length, H ++ [some (.buf e false (List.replicate n.toNat (pz z)))])
   | false => none
  | _ => none
 | _, _, _, _ => none
theorem evAppZ_sound {t t' : TypeId} {s x v : AV} {H' : AH} {k : AV -> AH -> Prop} (h : evAppZ ti H t t' s x = some (v, H')) (hk : k v H') : wpAppZ ti H t t' s x k := by
 unfold evAppZ at h; unfold wpAppZ
 split at h
 ·rename_i h1 h2 h3
  simp only [h1, h2, h3]
  split at h
  ·rename_i h4
   simp only [h4]
   split at h
   ·rename_i hd
    injection h with h; injection h with h1 h2; subst h1; subst h2
    exact ⟨of_decide_eq_true hd, _, rfl, hk⟩
   ·cases h
  ·cases h
 ·cases h
def evDst (H : AH) (e : TypeId) (x : AV) : Option (Nat × Bool × List PV × Nat × Nat) := match x with
 | .buf id => match H[id]? with
  | some (some (.buf e2 nl xs)) => match Nat.beq e e2 with
   | true => some (id, nl, xs, 0, xs.length)
   | false => none
  | _ => none
 | .sub id lo hi => match H[id]? with
  | some (some (.buf e2 nl xs)) => match Nat.beq e e2 with
   | true => some (id, nl, xs, lo, hi)
   | false => none
  | _ => none
 | _ => none
theorem evDst_sound {e : TypeId} {x : AV} {r : Nat × Bool × List PV × Nat × Nat} {k : Nat -> Bool -> List PV -> Nat -> Nat -> Prop} (h : evDst H e x = some r) (hk : k r.1 r.2.1 r.2.2.1 r.2.2.2.1 r.2.2.2.2) : wpDst H e x k := by
 unfold evDst at h; unfold wpDst
 split at h
 ·split at h
  ·rename_i hc
   simp only [hc]
   split at h
   ·rename_i hb
    simp only [hb]
    injection h with h; subst h
    exact hk
   ·cases h
  ·cases h
 ·split at h
  ·rename_i hc
   simp only [hc]
   split at h
   ·rename_i hb
    simp only [hb]
    injection h with h; subst h
    exact hk
   ·cases h
  ·cases h
 ·cases h
def evCopy (ti : TypeId -> Option TI) (H : AH) (t : TypeId) (x y : AV) : EV := match ti t with
 | some ⟨.sl e, _, _, _⟩ => match ti e with
  | some ⟨_, sz + 1, _, _⟩ => match evDst H e x, evSrc2 H e (sz + 1) y with
   | some (id, nl, xs, lo, hi), some ys => some (.p (.v (.int .i64 (min (hi - lo) ys.length : Nat))), H.set id (some (.buf e nl (xs.take lo ++ ys.take (min (hi - lo) ys.length) ++ xs.drop (lo + min (hi - lo) ys.length)))))
   | _, _ => none
  | _ => none
 | _ => none
theorem evCopy_sound {t : TypeId} {x y v : AV} {H' : AH} {k : AV -> AH -> Prop} (h : evCopy ti H t x y = some (v, H')) (hk : k v H') : wpCopy ti H t x y k := by
 unfold evCopy at h; unfold wpCopy
 split at h
 ·rename_i hi
  simp only [hi]
  split at h
  ·rename_i hie
   simp only [hie]
   split at h
   ·rename_i hd hs
    injection h with h; injection h with h1 h2; subst h1; subst h2
    exact evDst_sound hd (evSrc_sound2 hs ⟨_, _, rfl, rfl, hk⟩)
   ·cases h
  ·cases h
 ·cases h
def evClear (ti : TypeId -> Option TI) (H : AH) (t : TypeId) (x : AV) : EV := match ti t with
 | some ⟨.sl e, _, _, _⟩ => match ti e with
  | some ⟨_, _ + 1, _, z⟩ => match evDst H e x with
   | some (id, nl, xs, lo, hi) => some (.tup [], H.set id (some (.buf e nl (xs.take lo ++ List.replicate (hi - lo) (pz z) ++ xs.drop hi))))
   | none => none
  | _ => none
 | _ => none
theorem evClear_sound {t : TypeId} {x v : AV} {H' : AH} {k : AV -> AH -> Prop} (h : evClear ti H t x = some (v, H')) (hk : k v H') : wpClear ti H t x k := by
 unfold evClear at h; unfold wpClear
 split at h
 ·rename_i hi
  simp only [hi]
  split at h
  ·rename_i hie
   simp only [hie]
   split at h
   ·rename_i hd
    injection h with h; injection h with h1 h2; subst h1; subst h2
    exact evDst_sound hd ⟨_, rfl, hk⟩
   ·cases h
  ·cases h
 ·cases h
def evKeyB (d : TypeDesc) (x : Value) : Bool := match d, x with
 | .bool, .bool _ => true
 | .int k, .int k' _ => sameK k' k
 | .string, .string _ => true
 | _, _ => false
theorem evKeyB_sound {d : TypeDesc} {x : Value} (h : evKeyB d x = true) : MapKept.IsKey d x := by
 unfold evKeyB at h; unfold MapKept.IsKey
 split at h
 ·trivial
 ·exact sameK_eq' h
 ·trivial
 ·cases h
def neKey : Value -> Value -> Bool
 | .int _ a, .int _ b => a != b
 | .bool a, .bool b => a != b
 | .string a, .string b => !(a.data.toList == b.data.toList)
 | _, _ => false
theorem neKey_ne {a b : Value} (h : neKey a b = true) : a ≠ b := by
 rintro rfl
 unfold neKey at h
 split at h
 ·simp at h
 ·simp at h
 ·simp at h
 ·cases h
def evFind (key : Value) : List (Value × Value) -> Option (Option Value)
 | [] => some none
 | (k, v) :: r => match eqV k key with
  | true => match r.all fun e => neKey e.1 key with
   | true => some (some v)
   | false => none
  | false => match neKey k key with
   | true => evFind key r
   | false => none
theorem evFind_sound {key : Value} : ∀ {es : List (Value × Value)} {r : Option Value}, evFind key es = some r -> HasK key es r
 | [], r, h => by
  injection h with h; subst h
  exact fun e he => by cases he
 | (k, v) :: es, r, h => by
  unfold evFind at h
  split at h
  ·rename_i hk
   split at h
   ·rename_i ha
    injection h with h; subst h
    have hk := eqV_eq hk
    refine ⟨⟨_, List.mem_cons_self .., hk⟩, fun e he h1 => ?_⟩
    rcases List.mem_cons.1 he with rfl | he
    ·rfl
    ·exact absurd h1 (neKey_ne (List.all_eq_true.1 ha e he))
   ·cases h
  ·split at h
   ·rename_i hn
    have hn := neKey_ne hn
    have ih := evFind_sound h
    cases r with
    | none =>
     intro e he
     rcases List.mem_cons.1 he with rfl | he
     ·exact hn
     ·exact ih e he
    | some x =>
     obtain ⟨⟨e, he, h1⟩, h2⟩ := ih
     refine ⟨⟨e, List.mem_cons_of_mem _ he, h1⟩, fun e he h1 => ?_⟩
     rcases List.mem_cons.1 he with rfl | he
     ·exact absurd h1 hn
     ·exact h2 e he h1
   ·cases h
def eqVL : List Value -> List Value -> Bool
 | [], [] => true
 | x :: xs, y :: ys => eqV x y && eqVL xs ys
 | _, _ => false
theorem eqVL_eq : ∀ {a b : List Value}, eqVL a b = true -> a = b
 | [], [], _ => rfl
 | x :: xs, y :: ys, h => by
  simp only [eqVL, Bool.and_eq_true] at h
  rw [eqV_eq h.1, eqVL_eq h.2]
 | [], _ :: _, h => by cases h
 | _ :: _, [], h => by cases h
def neVL : List Value -> List Value -> Bool
 | x :: xs, y :: ys => neKey x y || neVL xs ys
 | _, _ => false
theorem neVL_ne : ∀ {a b : List Value}, neVL a b = true -> a ≠ b
 | x :: xs, y :: ys, h => by
  simp only [neVL, Bool.or_eq_true] at h
  intro he
  injection he with h1 h2
  rcases h with h | h
  ·exact neKey_ne h h1
  ·exact neVL_ne h h2
 | [], _, h => by cases h
 | _ :: _, [], h => by cases h
def evSKey (ti : TypeId -> Option TI) (fs : List (TypeId × Nat)) (cs : List PV) (x : Value) : Option Bool := match x with
 | .agg vs => match evEqPs ti fs cs (vs.toList.map .v), vs.toList.all (·.oneCell') with
  | some true, true => match eqVL vs.toList (valsV cs) with
   | true => some true
   | false => none
  | some false, true => match neVL vs.toList (valsV cs) with
   | true => some false
   | false => none
  | _, _ => none
 | _ => none
theorem valsV_v : ∀ (l : List Value), valsV (l.map .v) = l /\ allV (l.map .v) = true
 | [] => ⟨rfl, rfl⟩
 | x :: r => by simp [valsV, allV, valsV_v r]
theorem evSKey_sound {fs : List (TypeId × Nat)} {cs : List PV} {x : Value} {b : Bool} (h : evSKey ti fs cs x = some b) : SKey ti fs cs x /\ (b = true ↔ x = aggV cs) := by
 unfold evSKey at h
 split at h
 ·rename_i vs
  have hx : Value.agg vs = aggV (vs.toList.map .v) := by unfold aggV; rw [(valsV_v _).1]
  split at h
  ·rename_i h1 h2
   split at h
   ·rename_i h3
    injection h with h; subst h
    have he : Value.agg vs = aggV cs := by unfold aggV; rw [<- eqVL_eq h3]
    refine ⟨⟨_, true, ?_, hx, by rw [<- evEqPs_eq]; exact h1, by simp [he]⟩, by simp [he]⟩
    unfold oneV
    rw [(valsV_v _).1, (valsV_v _).2, h2]
    rfl
   ·cases h
  ·rename_i h1 h2
   split at h
   ·rename_i h3
    injection h with h; subst h
    have he : Value.agg vs ≠ aggV cs := by
     unfold aggV
     intro he
     injection he with he
     exact neVL_ne h3 (by rw [he])
    refine ⟨⟨_, false, ?_, hx, by rw [<- evEqPs_eq]; exact h1, by simp [he]⟩, by simp [he]⟩
    unfold oneV
    rw [(valsV_v _).1, (valsV_v _).2, h2]
    rfl
   ·cases h
  ·cases h
 ·cases h
def evFindS (ti : TypeId -> Option TI) (fs : List (TypeId × Nat)) (cs : List PV) : List (Value × Value) -> Option (Option Value)
 | [] => some none
 | (k, v) :: r => match evSKey ti fs cs k, evFindS ti fs cs r with
  | some true, some none => some (some v)
  | some false, some x => some x
  | _, _ => none
theorem evFindS_sound {fs : List (TypeId × Nat)} {cs : List PV} : ∀ {es : List (Value × Value)} {r : Option Value}, evFindS ti fs cs es = some r -> HasK (aggV cs) es r /\ ∀ e ∈ es, SKey ti fs cs e.1
 | [], r, h => by
  injection h with h; subst h
  exact ⟨fun e he => (by cases he), fun e he => (by cases he)⟩
 | (k, v) :: es, r, h => by
  unfold evFindS at h
  split at h
  ·rename_i h1 h2
   injection h with h; subst h
   obtain ⟨g1, g2⟩ := evSKey_sound h1
   obtain ⟨g3, g4⟩ := evFindS_sound h2
   refine ⟨⟨⟨_, List.mem_cons_self .., g2.1 rfl⟩, fun e he h5 => ?_⟩, fun e he => ?_⟩
   ·rcases List.mem_cons.1 he with rfl | he
    ·rfl
    ·exact absurd h5 (g3 e he)
   ·rcases List.mem_cons.1 he with rfl | he
    ·exact g1
    ·exact g4 e he
  ·rename_i h1 h2
   injection h with h; subst h
   obtain ⟨g1, g2⟩ := evSKey_sound h1
   obtain ⟨g3, g4⟩ := evFindS_sound h2
   have hne : k ≠ aggV cs := fun e => by cases g2.2 e
   refine ⟨?_, fun e he => ?_⟩
   ·rename_i x
    cases x with
    | none =>
     intro e he
     rcases List.mem_cons.1 he with rfl | he
     ·exact hne
     ·exact g3 e he
    | some x =>
     obtain ⟨⟨e, he, h5⟩, h6⟩ := g3
     refine ⟨⟨e, List.mem_cons_of_mem _ he, h5⟩, fun e he h5 => ?_⟩
     rcases List.mem_cons.1 he with rfl | he
     ·exact absurd h5 hne
     ·exact h6 e he h5
   ·rcases List.mem_cons.1 he with rfl | he
    ·exact g1
    ·exact g4 e he
  ·cases h
def evLookup (ti : TypeId -> Option TI) (H : AH) (t : TypeId) (ok : Bool) (x ix : AV) : Option AV := match x, ix, ti t with
 | .mp id, .p (.v kv), some ⟨.map kt et, _, _, _⟩ => match ti kt, ti et, H[id]? with
  | some ⟨tk, _, _, _⟩, some ⟨_, _, _, z⟩, some (some (.map es)) => match keyD tk, z.oneCell', evFind kv es with
   | some d, true, some r => match evKeyB d kv && es.all fun e => evKeyB d e.1 with
    | true => match ok with
     | false => some (.p (.v (r.getD z)))
     | true => some (.tup [.p (.v (r.getD z)), .p (.v (.bool r.isSome))])
    | false => none
   | _, _, _ => none
  | _, _, _ => none
 | .mp id, .p (.agg cs), some ⟨.map kt et, _, _, _⟩ => match ti kt, ti et, H[id]? with
  | some ⟨.st fs, _, _, _⟩, some ⟨_, _, _, z⟩, some (some (.map es)) => match z.oneCell' && oneV cs, evEqPs ti fs cs cs, evFindS ti fs cs es with
   | true, some _, some r => match ok with
    | false => some (.p (.v (r.getD z)))
    | true => some (.tup [.p (.v (r.getD z)), .p (.v (.bool r.isSome))])
   | _, _, _ => none
  | _, _, _ => none
 | _, _, _ => none
theorem evLookup_sound {t : TypeId} {ok : Bool} {x ix v : AV} {k : AV -> Prop} (h : evLookup ti H t ok x ix = some v) (hk : k v) : wpLookup ti H t ok x ix k := by
 unfold evLookup at h; unfold wpLookup
 split at h
 ·rename_i hi
  simp only [hi]
  split at h
  ·rename_i h1 h2 h3
   simp only [h1, h2, h3]
   split at h
   ·rename_i h4 h5 h6
    simp only [h4, h5]
    split at h
    ·rename_i hd
     simp only [Bool.and_eq_true] at hd
     refine ⟨_, evKeyB_sound hd.1, fun e he => evKeyB_sound (List.all_eq_true.1 hd.2 e he), evFind_sound h6, ?_⟩
     split at h
     ·injection h with h; subst h; exact hk
     ·injection h with h; subst h; exact hk
    ·cases h
   ·cases h
  ·cases h
 ·rename_i hi
  simp only [hi]
  split at h
  ·rename_i h1 h2 h3
   simp only [h1, h2, h3]
   split at h
   ·rename_i h4 h5 h6
    simp only [Bool.and_eq_true] at h4
    simp only [h4.1]
    obtain ⟨g1, g2⟩ := evFindS_sound h6
    refine ⟨_, _, h4.2, by rw [<- evEqPs_eq]; exact h5, g2, g1, ?_⟩
    split at h
    ·injection h with h; subst h; exact hk
    ·injection h with h; subst h; exact hk
   ·cases h
  ·cases h
 ·cases h
def evMapUpdate (ti : TypeId -> Option TI) (H : AH) (t : TypeId) (x ix v : AV) : EV := match x, ix, v, ti t with
 | .mp id, .p (.v kv), .p (.v vv), some ⟨.map kt _, _, _, _⟩ => match ti kt, H[id]? with
  | some ⟨tk, _, _, _⟩, some (some (.map es)) => match keyD tk with
   | some d => match evKeyB d kv && es.all fun e => evKeyB d e.1 && neKey e.1 kv with
    | true => some (.dead, H.set id (some (.map (es ++ [(kv, vv)]))))
    | false => none
   | none => none
  | _, _ => none
 | .mp id, .p (.agg cs), .p (.v vv), some ⟨.map kt _, _, _, _⟩ => match ti kt, H[id]? with
  | some ⟨.st fs, _, _, _⟩, some (some (.map es)) => match oneV cs, evEqPs ti fs cs cs, evFindS ti fs cs es with
   | true, some _, some none => some (.dead, H.set id (some (.map (es ++ [(aggV cs, vv)]))))
   | _, _, _ => none
  | _, _ => none
 | _, _, _, _ => none
theorem evMapUpdate_sound {t : TypeId} {x ix v r : AV} {H' : AH} {k : AV -> AH -> Prop} (h : evMapUpdate ti H t x ix v = some (r, H')) (hk : k r H') : wpMapUpdate ti H t x ix v k := by
 unfold evMapUpdate at h; unfold wpMapUpdate
 split at h
 ·rename_i hi
  simp only [hi]
  split at h
  ·rename_i h1 h2
   simp only [h1, h2]
   split at h
   ·rename_i h3
    simp only [h3]
    split at h
    ·rename_i hd
     injection h with h; injection h with h4 h5; subst h4; subst h5
     simp only [Bool.and_eq_true] at hd
     have ha := fun e he => Bool.and_eq_true _ _ ▸ List.all_eq_true.1 hd.2 e he
     exact ⟨evKeyB_sound hd.1, fun e he => evKeyB_sound (ha e he).1, fun e he => neKey_ne (ha e he).2, hk⟩
    ·cases h
   ·cases h
  ·cases h
 ·rename_i hi
  simp only [hi]
  split at h
  ·rename_i h1 h2
   simp only [h1, h2]
   split at h
   ·rename_i h3 h4 h5
    injection h with h; injection h with h6 h7; subst h6; subst h7
    obtain ⟨g1, g2⟩ := evFindS_sound h5
    exact ⟨_, _, h3, by rw [<- evEqPs_eq]; exact h4, g2, g1, rfl, hk⟩
   ·cases h
  ·cases h
 ·cases h
def pvInts : List PV -> Option (List Int)
 | [] => some []
 | .v (.int .u8 n) :: r => match pvInts r with
  | some l => some (n :: l)
  | none => none
 | _ :: _ => none
theorem pvInts_eq : ∀ {xs : List PV} {ns : List Int}, pvInts xs = some ns -> xs = ns.map fun n => .v (.int .u8 n)
 | [], ns, h => by injection h with h; subst h; rfl
 | x :: r, ns, h => by
  unfold pvInts at h
  split at h
  ·rename_i h0; cases h0
  ·rename_i he
   injection he with h1 h2
   subst h1; subst h2
   split at h
   ·rename_i hl
    injection h with h; subst h
    rw [List.map_cons, pvInts_eq hl]
   ·cases h
  ·cases h
def evConvB (ti : TypeId -> Option TI) (H : AH) (src dst : TypeId) (x : AV) : Option AV := match x with
 | .buf id => match ti src, ti dst, H[id]? with
  | some ⟨.sl e, _, _, _⟩, some ⟨.str, _, _, _⟩, some (some (.buf e' _ xs)) => match ti e, Nat.beq e e' with
   | some ⟨.int .u8, _, _, _⟩, true => match pvInts xs with
    | some ns => some (.p (.v (.string (bstr ns))))
    | none => none
   | _, _ => none
  | _, _, _ => none
 | .p (.list nl xs) => match bytesT ti src dst with
  | true => match pvInts xs with
   | some ns => some (.p (.v (.string (bstr ns))))
   | none => none
  | false => evConv ti src dst (.p (.list nl xs))
 | x => evConv ti src dst x
theorem evConvB_sound {s d : TypeId} {x v : AV} {k : AV -> Prop} (h : evConvB ti H s d x = some v) (hk : k v) : wpConvB ti H s d x k := by
 cases x with
 | buf id =>
  unfold evConvB at h; unfold wpConvB
  simp only at h ⊢
  split at h
  ·rename_i h1 h2 h3
   simp only [h1, h2, h3]
   split at h
   ·rename_i h4 h5
    simp only [h4, h5]
    split at h
    ·rename_i h6
     injection h with h; subst h
     exact ⟨_, pvInts_eq h6, hk⟩
    ·cases h
   ·cases h
  ·cases h
 | p y =>
  cases y with
  | list nl xs =>
   unfold evConvB at h; unfold wpConvB
   simp only at h ⊢
   split at h
   ·rename_i h1
    simp only [h1]
    split at h
    ·rename_i h6
     injection h with h; subst h
     exact ⟨_, pvInts_eq h6, hk⟩
    ·cases h
   ·rename_i h1
    simp only [h1]
    exact evConv_sound (ti := ti) h hk
  | _ => exact evConv_sound (ti := ti) h hk
 | _ => exact evConv_sound (ti := ti) h hk
def evSl (ti : TypeId -> Option TI) (H : AH) (t : TypeId) (x : AV) (lo hi mx : Option AV) : EV := match evSlice ti H t x lo hi mx with
 | some v => some (v, H)
 | none => none
theorem evSl_sound {t : TypeId} {x v : AV} {lo hi mx : Option AV} {H' : AH} {k : AV -> AH -> Prop} (h : evSl ti H t x lo hi mx = some (v, H')) (hk : k v H') : wpSlice ti H t x lo hi mx fun v => k v H := by
 unfold evSl at h
 split at h
 ·rename_i hs
  injection h with h; injection h with h5 h6; subst h5; subst h6
  exact evSlice_sound hs hk
 ·cases h
def evCutArr (ti : TypeId -> Option TI) (H : AH) (t : TypeId) (x : AV) (lo hi mx : Option AV) : EV := match x with
 | .ptr id off => match off, ti t, lo, hi, mx with
  | 0, some ⟨.ar n e, _, _, _⟩, none, some h, none => match H[id]?, asI h, ti e with
   | some (some (.arr xs)), some h, some ⟨_, 1, _, _⟩ => match decide (0 <= h /\ h <= n /\ n <= 65536) && Nat.beq xs.length n with
    | true => some (.p (.list false (xs.take h.toNat)), H.set id none)
    | false => none
   | _, _, _ => none
  | _, _, _, _, _ => none
 | .p y => match y, mx with
  | .list nl xs, some m => match lo, hi, ti t with
   | none, some h, some ⟨.sl e, _, _, _⟩ => match asI h, asI m, ti e with
    | some h, some m, some _ => match decide (h = m /\ 0 <= h /\ h <= (xs.length : Int)) with
     | true => some (.cap nl (xs.take h.toNat), H)
     | false => none
    | _, _, _ => none
   | _, _, _ => none
  | y, none => evSl ti H t (.p y) lo hi none
  | _, _ => none
 | .buf id => evSl ti H t (.buf id) lo hi mx
 | .sub id a b => evSl ti H t (.sub id a b) lo hi mx
 | _ => none
theorem evCutArr_sound {t : TypeId} {x v : AV} {lo hi mx : Option AV} {H' : AH} {k : AV -> AH -> Prop} (h : evCutArr ti H t x lo hi mx = some (v, H')) (hk : k v H') : wpCutArr ti H t x lo hi mx k := by
 cases x with
 | ptr id off =>
  unfold evCutArr at h
  simp only at h
  split at h
  ·rename_i h1
   unfold wpCutArr
   simp only [h1]
   split at h
   ·rename_i h2 h3 h4
    simp only [h2, h3, h4]
    split at h
    ·rename_i hd
     injection h with h; injection h with h5 h6; subst h5; subst h6
     simp only [Bool.and_eq_true] at hd
     exact ⟨of_decide_eq_true hd.1, Nat.eq_of_beq_eq_true hd.2, hk⟩
    ·cases h
   ·cases h
  ·cases h
 | p y =>
  unfold evCutArr at h
  simp only at h
  split at h
  ·split at h
   ·rename_i h1
    unfold wpCutArr
    simp only [h1]
    split at h
    ·rename_i h2 h3 h4
     simp only [h2, h3, h4]
     split at h
     ·rename_i hd
      injection h with h; injection h with h5 h6; subst h5; subst h6
      exact ⟨of_decide_eq_true hd, _, rfl, hk⟩
     ·cases h
    ·cases h
   ·cases h
  ·cases y with
   | list nl xs =>
    unfold wpCutArr
    cases lo <;> cases hi <;> exact evSl_sound h hk
   | _ => exact evSl_sound h hk
  ·cases h
 | buf id => exact .part (evSl_sound h hk)
 | sub id a b => exact evSl_sound h hk
 | _ => cases h
end
end Go.Abs
namespace Go.Abs
open Go.RowKit
inductive Fr where
 | leaf
 | node (x : AV) (l r : Fr)
def Fr.get : Fr -> Nat -> AV
 | .leaf, _ => .dead
 | .node x l r, i => match Nat.beq i 0 with
  | true => x
  | false => match Nat.beq (i % 2) 1 with
   | true => l.get (i / 2)
   | false => r.get (i / 2 - 1)
def Fr.has : Fr -> Nat -> Bool
 | .leaf, _ => false
 | .node _ l r, i => match Nat.beq i 0 with
  | true => true
  | false => match Nat.beq (i % 2) 1 with
   | true => l.has (i / 2)
   | false => r.has (i / 2 - 1)
def Fr.set : Fr -> Nat -> AV -> Fr
 | .leaf, _, _ => .leaf
 | .node x l r, i, v => match Nat.beq i 0 with
  | true => .node v l r
  | false => match Nat.beq (i % 2) 1 with
   | true => .node x (l.set (i / 2) v) r
   | false => .node x l (r.set (i / 2 - 1) v)
def Fr.of : Nat -> (Nat -> AV) -> Fr
 | 0, _ => .leaf
 | d + 1, f => .node (f 0) (Fr.of d fun i => f (2 * i + 1)) (Fr.of d fun i => f (2 * i + 2))
theorem beq_f {a b : Nat} (h : Nat.beq a b = false) : a ≠ b := fun e => by rw [e, Nat.beq_refl] at h; cases h
theorem Fr.get_set : ∀ {t : Fr} {i : Nat} {v : AV}, t.has i = true -> (t.set i v).get = setFr t.get i v
 | .leaf, i, v, h => by cases h
 | .node x l r, i, v, h => by
  funext j
  unfold Fr.has at h
  unfold Fr.set setFr
  cases hi : Nat.beq i 0 with
  | true =>
   have hi := Nat.eq_of_beq_eq_true hi
   subst hi
   cases hj : Nat.beq j 0 with
   | true => simp only [Fr.get, hj]
   | false => simp only [Fr.get, hj]
  | false =>
   have hi0 := beq_f hi
   simp only [hi] at h
   cases hp : Nat.beq (i % 2) 1 with
   | true =>
    have hp1 := Nat.eq_of_beq_eq_true hp
    simp only [hp] at h
    simp only [Fr.get]
    cases hj : Nat.beq j 0 with
    | true =>
     have hj := Nat.eq_of_beq_eq_true hj
     subst hj
     cases h2 : Nat.beq 0 i with
     | true => exact absurd (Nat.eq_of_beq_eq_true h2).symm hi0
     | false => simp only
    | false =>
     have hj0 := beq_f hj
     cases hq : Nat.beq (j % 2) 1 with
     | true =>
      have hq1 := Nat.eq_of_beq_eq_true hq
      simp only [Fr.get_set h, setFr]
      cases h2 : Nat.beq j i with
      | true => rw [Nat.eq_of_beq_eq_true h2, Nat.beq_refl]
      | false =>
       have := beq_f h2
       cases h3 : Nat.beq (j / 2) (i / 2) with
       | true => exact absurd (Nat.eq_of_beq_eq_true h3) (by omega)
       | false => rfl
     | false =>
      have hq1 := beq_f hq
      simp only
      cases h2 : Nat.beq j i with
      | true => exact absurd (Nat.eq_of_beq_eq_true h2) (by intro e; subst e; exact hq1 hp1)
      | false => rfl
   | false =>
    have hp1 := beq_f hp
    simp only [hp] at h
    simp only [Fr.get]
    cases hj : Nat.beq j 0 with
    | true =>
     have hj := Nat.eq_of_beq_eq_true hj
     subst hj
     cases h2 : Nat.beq 0 i with
     | true => exact absurd (Nat.eq_of_beq_eq_true h2).symm hi0
     | false => simp only
    | false =>
     have hj0 := beq_f hj
     cases hq : Nat.beq (j % 2) 1 with
     | true =>
      have hq1 := Nat.eq_of_beq_eq_true hq
      simp only
      cases h2 : Nat.beq j i with
      | true => exact absurd (Nat.eq_of_beq_eq_true h2) (by intro e; subst e; exact hp1 hq1)
      | false => rfl
     | false =>
      have hq1 := beq_f hq
      simp only [Fr.get_set h, setFr]
      cases h2 : Nat.beq j i with
      | true => rw [Nat.eq_of_beq_eq_true h2, Nat.beq_refl]
      | false =>
       have := beq_f h2
       cases h3 : Nat.beq (j / 2 - 1) (i / 2 - 1) with
       | true => exact absurd (Nat.eq_of_beq_eq_true h3) (by omega)
       | false => rfl
theorem Fr.get_of : ∀ {d : Nat} {f : Nat -> AV} {i : Nat}, (Fr.of d f).get i = f i \/ (Fr.of d f).has i = false /\ (Fr.of d f).get i = .dead
 | 0, f, i => .inr ⟨rfl, rfl⟩
 | d + 1, f, i => by
  unfold Fr.of Fr.get Fr.has
  cases hi : Nat.beq i 0 with
  | true => rw [Nat.eq_of_beq_eq_true hi]; exact .inl rfl
  | false =>
   have hi0 := beq_f hi
   cases hp : Nat.beq (i % 2) 1 with
   | true =>
    have hp1 := Nat.eq_of_beq_eq_true hp
    have := Fr.get_of (d := d) (f := fun i => f (2 * i + 1)) (i := i / 2)
    simp only at this ⊢
    rwa [show 2 * (i / 2) + 1 = i by omega] at this
   | false =>
    have hp1 := beq_f hp
    have := Fr.get_of (d := d) (f := fun i => f (2 * i + 2)) (i := i / 2 - 1)
    simp only at this ⊢
    rwa [show 2 * (i / 2 - 1) + 2 = i by omega] at this
def hasAll (t : Fr) : Nat -> Bool
 | 0 => true
 | n + 1 => t.has n && hasAll t n
theorem hasAll_has {t : Fr} : ∀ {n i : Nat}, hasAll t n = true -> i < n -> t.has i = true
 | n + 1, i, h, hi => by
  simp only [hasAll, Bool.and_eq_true] at h
  by_cases e : i = n
  ·subst e; exact h.1
  ·exact hasAll_has h.2 (by omega)
theorem Fr.of_args {d : Nat} {args : List AV} (h : hasAll (Fr.of d (frArgs args)) args.length = true) : (Fr.of d (frArgs args)).get = frArgs args := by
 funext i
 rcases Fr.get_of (d := d) (f := frArgs args) (i := i) with h1 | ⟨h1, h2⟩
 ·exact h1
 ·rw [h2]
  by_cases hi : i < args.length
  ·rw [hasAll_has h hi] at h1; cases h1
  ·unfold frArgs
   rw [List.getElem?_eq_none (by omega)]
def nN {α : Type} (n : Nat) (k : Nat -> α) : α := match n with
 | 0 => k 0
 | m + 1 => k (m + 1)
def nI {α : Type} (n : Int) (k : Int -> α) : α := match n with
 | .ofNat m => nN m fun m => k (.ofNat m)
 | .negSucc m => nN m fun m => k (.negSucc m)
def nB {α : Type} (b : Bool) (k : Bool -> α) : α := match b with
 | true => k true
 | false => k false
def nV {α : Type} (v : Value) (k : Value -> α) : α := match v with
 | .int kd n => nI n fun n => k (.int kd n)
 | .bool b => nB b fun b => k (.bool b)
 | x => k x
def nA {α : Type} (v : AV) (k : AV -> α) : α := match v with
 | .p (.v x) => nV x fun x => k (.p (.v x))
 | .ptr id off => nN id fun id => nN off fun off => k (.ptr id off)
 | .buf id => nN id fun id => k (.buf id)
 | .bptr id i off => nN id fun id => nN i fun i => nN off fun off => k (.bptr id i off)
 | .sub id lo hi => nN id fun id => nN lo fun lo => nN hi fun hi => k (.sub id lo hi)
 | x => k x
theorem nN_eq {α : Type} (n : Nat) (k : Nat -> α) : nN n k = k n := by cases n <;> rfl
theorem nI_eq {α : Type} (n : Int) (k : Int -> α) : nI n k = k n := by cases n <;> simp only [nI, nN_eq]
theorem nB_eq {α : Type} (b : Bool) (k : Bool -> α) : nB b k = k b := by cases b <;> rfl
theorem nV_eq {α : Type} (v : Value) (k : Value -> α) : nV v k = k v := by
 cases v <;> simp only [nV, nI_eq, nB_eq]
theorem nA_eq {α : Type} (v : AV) (k : AV -> α) : nA v k = k v := by
 unfold nA
 split <;> simp only [nV_eq, nN_eq]
def nH {α : Type} : AH -> (AH -> α) -> α
 | [], k => k []
 | o :: r, k => nH r fun r => k (o :: r)
theorem nH_eq {α : Type} : ∀ (H : AH) (k : AH -> α), nH H k = k H
 | [], _ => rfl
 | o :: r, k => by unfold nH; rw [nH_eq r]
section
variable {P : Program} {ti : TypeId -> Option TI} {H : AH}
def evStore (i : TI) (H : AH) (a x : AV) : EV := match a with
 | .ptr id off => match H[id]? with
  | some (some (.cells cs)) => match x.cells.all AV.one && Nat.beq x.cells.length i.size && Nat.ble (off + i.size) cs.length with
   | true => some (.dead, H.set id (some (.cells (setAt cs off x.cells))))
   | false => none
  | some (some (.arr xs)) => match i.k.isAgg, x with
   | false, .p y => match y.one && Nat.beq i.size 1, Nat.blt off xs.length with
    | true, true => some (.dead, H.set id (some (.arr (xs.set off y))))
    | _, _ => none
   | _, _ => none
  | _ => none
 | .bptr id ix off => match pvOf (frzAll H (avIds H x)) x, (frzAll H (avIds H x))[id]? with
  | some px, some (some (.buf e nl xs)) => match px.cells.all PV.one && Nat.beq px.cells.length i.size && Nat.blt 0 i.size, xs[ix]? with
   | true, some y => match Nat.ble (off + i.size) y.cells.length with
    | true => some (.dead, (frzAll H (avIds H x)).set id (some (.buf e nl (xs.set ix (y.setAt off px.cells)))))
    | false => none
   | _, _ => none
  | _, _ => none
 | _ => none
def evBuildS (ie : TI) (H1 : AH) (e : TypeId) (len : Nat) (parts : List (Nat × AV)) : EV :=
 match fillA (fun j => some (j * ie.size, ie.size)) (baseCells ie len) parts with
 | some cs => match allP cs with
  | some ps => match ps.all PV.one && Nat.ble (len * ie.size) 16777216 && Nat.blt 0 ie.size && (ie.k.isAgg || Nat.beq ie.size 1) with
   | true => some (.buf H1.length, H1 ++ [some (.buf e false (chunk ie.k.isAgg ie.size len ps))])
   | false => none
  | none => match Nat.ble (len * ie.size) 16777216 && Nat.blt 0 ie.size with
   | true => some (.opq, H1)
   | false => none
 | none => none
def evE (ti : TypeId -> Option TI) (σ : AS) (H : AH) (op : Op) : EV := match op with
 | .alloc t => match ti t with
  | some i => match bigAr i with
   | true => some (.ptr H.length 0, H ++ [some (.arr (zeroP i))])
   | false => some (.ptr H.length 0, H ++ [some (.cells (zeroCells i))])
  | none => none
 | .box _ x => match (σ.ev x).cells.all AV.one with
  | true => some (.ptr H.length 0, H ++ [some (.cells (σ.ev x).cells)])
  | false => none
 | .makeSlice t l c => match ti t with
  | some ⟨.sl e, _, _, _⟩ => match ti e, asI (σ.ev l), asI (σ.ev c) with
   | some ⟨_, _ + 1, by_, z⟩, some l, some c => match decide (0 <= l /\ l <= c /\ (by_ : Int) * c <= 281474976710656 /\ c <= 9223372036854775807) with
    | true => some (.buf H.length, H ++ [some (.buf e false (List.replicate l.toNat (pz z)))])
    | false => none
   | _, _, _ => none
  | _ => none
 | .buildSlice t len parts => match litW H len (parts.toList.map fun p => (p.1, σ.ev p.2)) with
  | some _ => none
  | none => match ti t with
  | some ⟨.sl e, _, _, _⟩ => match ti e with
   | some ie => evBuildS ie (frzAll H (parts.toList.flatMap fun p => avIds H (σ.ev p.2))) e len (parts.toList.map fun p => (p.1, thawO (frzAll H (parts.toList.flatMap fun p => avIds H (σ.ev p.2))) (σ.ev p.2)))
   | none => none
  | _ => none
 | .store t a x => match ti t with
  | some i => evStore i H (σ.ev a) (σ.ev x)
  | none => none
 | .call c => match c.callee with
  | .builtin .append => match c.args.toList, c.argTypes.toList with
   | [s, x], [t, t'] => match Nat.beq t t' with
    | true => evAppend ti H t (σ.ev s) (σ.ev x)
    | false => evAppZ ti H t t' (σ.ev s) (σ.ev x)
   | _, _ => none
  | .builtin .copy => match c.args.toList, c.argTypes.toList with
   | [x, y], [t, _] => evCopy ti H t (σ.ev x) (σ.ev y)
   | _, _ => none
  | .builtin .clear => match c.args.toList, c.argTypes.toList with
   | [x], [t] => evClear ti H t (σ.ev x)
   | _, _ => none
  | _ => none
 | .lookup t x ix ok => match evLookup ti H t ok (σ.ev x) (σ.ev ix) with
  | some v => some (v, H)
  | none => none
 | .makeMap _ r => match r with
  | none => some (.mp H.length, H ++ [some (.map [])])
  | some _ => none
 | .mapUpdate t x ix v => evMapUpdate ti H t (σ.ev x) (σ.ev ix) (σ.ev v)
 | .insert t x ix v => evMapUpdate ti H t (σ.ev x) (σ.ev ix) (valV (σ.ev v))
 | .convert s d x => match evConvB ti H s d (σ.ev x) with
  | some v => some (v, H)
  | none => none
 | .slice t x lo hi mx => evCutArr ti H t (σ.ev x) (lo.map σ.ev) (hi.map σ.ev) (mx.map σ.ev)
 | _ => none
theorem evE_sound {σ : AS} {op : Op} {v : AV} {H' : AH} {k : AV -> AH -> Prop} (h : evE ti σ H op = some (v, H')) (hk : k v H') : wpE ti σ H op k := by
 unfold evE at h; unfold wpE
 split at h
 ·split at h
  ·rename_i hi
   simp only [hi]
   split at h
   ·rename_i hb
    simp only [hb]
    injection h with h; injection h with h1 h2; subst h1; subst h2
    exact hk
   ·rename_i hb
    simp only [hb]
    injection h with h; injection h with h1 h2; subst h1; subst h2
    exact hk
  ·cases h
 ·split at h
  ·rename_i hb
   simp only [hb]
   injection h with h; injection h with h1 h2; subst h1; subst h2
   exact hk
  ·cases h
 ·split at h
  ·rename_i hi
   simp only [hi]
   split at h
   ·rename_i h1 h2 h3
    simp only [h1, h2, h3]
    split at h
    ·rename_i hd
     injection h with h; injection h with h4 h5; subst h4; subst h5
     exact ⟨of_decide_eq_true hd, _, rfl, hk⟩
    ·cases h
   ·cases h
  ·cases h
 ·split at h
  ·cases h
  rename_i hlw
  simp only [hlw]
  split at h
  ·rename_i hi
   simp only [hi]
   split at h
   ·rename_i hie
    simp only [hie]
    unfold evBuildS at h
    split at h
    ·rename_i hf
     simp only [hf]
     split at h
     ·rename_i hp
      simp only [hp]
      split at h
      ·rename_i hd
       simp only [hd]
       injection h with h; injection h with h4 h5; subst h4; subst h5
       exact ⟨_, rfl, hk⟩
      ·cases h
     ·rename_i hp
      simp only [hp]
      split at h
      ·rename_i hd
       simp only [hd]
       injection h with h; injection h with h4 h5; subst h4; subst h5
       exact hk
      ·cases h
    ·cases h
   ·cases h
  ·cases h
 ·split at h
  ·rename_i i hi
   simp only [hi]
   unfold evStore at h
   split at h
   ·rename_i ha
    simp only [ha]
    split at h
    ·rename_i hc
     simp only [hc]
     split at h
     ·rename_i hd
      simp only [hd]
      injection h with h; injection h with h4 h5; subst h4; subst h5
      exact hk
     ·cases h
    ·rename_i hc
     simp only [hc]
     split at h
     ·rename_i hg hx
      split at h
      ·rename_i h1 h2
       injection h with h; injection h with h4 h5; subst h4; subst h5
       unfold wpStoreArr
       simp only [hg, hx, h1]
       exact ⟨_, _, rfl, Nat.le_of_ble_eq_true h2, rfl, hk⟩
      ·cases h
     ·cases h
    ·cases h
   ·rename_i ha
    simp only [ha]
    split at h
    ·rename_i h1 h2
     simp only [h1, h2]
     split at h
     ·rename_i h3 h4
      simp only [h3]
      split at h
      ·rename_i h5
       injection h with h; injection h with h6 h7; subst h6; subst h7
       exact ⟨_, Int.natCast_nonneg _, h4, by simp only [h5]; exact ⟨_, rfl, hk⟩⟩
      ·cases h
     ·cases h
    ·cases h
   ·cases h
  ·cases h
 ·split at h
  ·rename_i hc
   simp only [hc]
   split at h
   ·rename_i h1 h2
    simp only [h1, h2]
    split at h
    ·rename_i hb
     simp only [hb]
     exact evAppend_sound h hk
    ·rename_i hb
     simp only [hb]
     exact evAppZ_sound h hk
   ·cases h
  ·rename_i hc
   simp only [hc]
   split at h
   ·rename_i h1 h2
    simp only [h1, h2]
    exact evCopy_sound h hk
   ·cases h
  ·rename_i hc
   simp only [hc]
   split at h
   ·rename_i h1 h2
    simp only [h1, h2]
    exact evClear_sound h hk
   ·cases h
  ·cases h
 ·split at h
  ·rename_i hl
   injection h with h; injection h with h4 h5; subst h4; subst h5
   exact evLookup_sound hl hk
  ·cases h
 ·split at h
  ·injection h with h; injection h with h4 h5; subst h4; subst h5
   exact hk
  ·cases h
 ·exact evMapUpdate_sound h hk
 ·exact evMapUpdate_sound h hk
 ·split at h
  ·rename_i hl
   injection h with h; injection h with h4 h5; subst h4; subst h5
   exact evConvB_sound hl hk
  ·cases h
 ·exact evCutArr_sound h hk
 ·cases h
end
end Go.Abs
namespace Go.Abs
open Go.RowKit
section
variable {P : Program} {ti : TypeId -> Option TI}
abbrev CF := FuncId -> List AV -> AH -> EV
abbrev CQ := FuncId -> List AV -> AH -> Option Value
def CF.ok (P : Program) (C : CF) : Prop := ∀ f args H v H', C f args H = some (v, H') -> ∀ K : AV -> AH -> Prop, K v H' -> CallA P f args H K
def CQ.ok (P : Program) (C : CQ) : Prop := ∀ f args H v, C f args H = some v -> ∀ K : AV -> Prop, K (.p (.v v)) -> CallQ P f args H K
def evCall (C : CF) (σ : AS) (H : AH) (op : Op) : EV := match op with
 | .call c => match c.callee with
  | .value f => match σ.ev f with
   | .clo (.func g) caps => C g (c.args.toList.map σ.ev ++ caps) H
   | _ => none
  | _ => none
 | _ => none
theorem evCall_sound {C : CF} (hC : C.ok P) {σ : AS} {H : AH} {op : Op} {v : AV} {H' : AH} {k : AV -> AH -> Prop} (h : evCall C σ H op = some (v, H')) (hk : k v H') : wpCall P σ H op k := by
 unfold evCall at h; unfold wpCall
 split at h
 ·split at h
  ·rename_i hc
   simp only [hc]
   split at h
   ·rename_i hf
    simp only [hf, evArgs_eq]
    exact hC _ _ _ _ _ h k hk
   ·cases h
  ·cases h
 ·cases h
def evOp (ti : TypeId -> Option TI) (C : CF) (fr : Fr) (H : AH) (op : Op) : EV := match kindOp op with
 | .quiet => match evQ ti ⟨fr.get, H⟩ op with
  | some v => some (v, H)
  | none => none
 | .eff => match evE ti ⟨fr.get, H⟩ H op with
  | some (v, H') => nH H' fun H' => some (v, H')
  | none => none
 | .call => evCall C ⟨fr.get, H⟩ H op
theorem evOp_sound {C : CF} (hC : C.ok P) {fr : Fr} {H : AH} {op : Op} {v : AV} {H' : AH} {k : AV -> AH -> Prop} (h : evOp ti C fr H op = some (v, H')) (hk : k v H') : wpOp P ti fr.get H op k := by
 unfold evOp at h; unfold wpOp
 split at h
 ·rename_i ho
  simp only [ho]
  split at h
  ·rename_i hq
   injection h with h; injection h with h1 h2; subst h1; subst h2
   exact evQ_sound hq hk
  ·cases h
 ·rename_i ho
  simp only [ho]
  split at h
  ·rename_i hq
   rw [nH_eq] at h
   injection h with h; injection h with h1 h2; subst h1; subst h2
   exact evE_sound hq hk
  ·cases h
 ·rename_i ho
  simp only [ho]
  exact evCall_sound hC h hk
def evCallQ (C : CQ) (σ : AS) (H : AH) (op : Op) : Option AV := match op with
 | .call c => match c.callee with
  | .value f => match σ.ev f with
   | .clo (.func g) caps => match C g (c.args.toList.map σ.ev ++ caps) H with
    | some x => some (.p (.v x))
    | none => none
   | _ => none
  | _ => none
 | _ => none
theorem evCallQ_sound {C : CQ} (hC : C.ok P) {σ : AS} {H : AH} {op : Op} {v : AV} {k : AV -> Prop} (h : evCallQ C σ H op = some v) (hk : k v) : wpCallQ P σ H op k := by
 unfold evCallQ at h; unfold wpCallQ
 split at h
 ·split at h
  ·rename_i hc
   simp only [hc]
   split at h
   ·rename_i hf
    simp only [hf, evArgs_eq]
    split at h
    ·rename_i hx
     injection h with h; subst h
     exact hC _ _ _ _ hx k hk
    ·cases h
   ·cases h
  ·cases h
 ·cases h
def evOpQ (ti : TypeId -> Option TI) (C : CQ) (fr : Fr) (H : AH) (op : Op) : Option AV := match kindOp op with
 | .call => evCallQ C ⟨fr.get, H⟩ H op
 | _ => evQ ti ⟨fr.get, H⟩ op
theorem evOpQ_sound {C : CQ} (hC : C.ok P) {fr : Fr} {H : AH} {op : Op} {v : AV} {k : AV -> Prop} (h : evOpQ ti C fr H op = some v) (hk : k v) : wpOpQ P ti true fr.get H op k := by
 unfold evOpQ at h; unfold wpOpQ
 cases ho : kindOp op with
 | call =>
  simp only [ho] at h ⊢
  exact evCallQ_sound hC h hk
 | quiet =>
  simp only [ho] at h ⊢
  exact evQ_sound h hk
 | eff =>
  simp only [ho] at h ⊢
  exact evQ_sound h hk
def evPut (nt : Nat) (dst : Option Tmp) (fr : Fr) (v : AV) : Option Fr := match dst with
 | none => some fr
 | some d => match Nat.blt d nt && fr.has d with
  | true => nA v fun v => some (fr.set d v)
  | false => none
theorem evPut_sound {nt : Nat} {dst : Option Tmp} {fr fr' : Fr} {h : AH} {v : AV} {k : AS -> Prop} (he : evPut nt dst fr v = some fr') (hk : k ⟨fr'.get, h⟩) : wpPut nt dst fr.get h v k := by
 unfold evPut at he; unfold wpPut
 split at he
 ·injection he with he; subst he
  simp only [frcH_eq]
  exact hk
 ·split at he
  ·rename_i hd
   simp only [Bool.and_eq_true] at hd
   rw [nA_eq] at he
   injection he with he; subst he
   simp only [hd.1, frc_eq, frcH_eq]
   rw [<- Fr.get_set hd.2]
   exact hk
  ·cases he
theorem setFr_self {fr : Nat -> AV} {d : Nat} {x : AV} (h : fr d = x) : setFr fr d x = fr := by
 funext s
 unfold setFr
 cases hb : Nat.beq s d with
 | true => rw [Nat.eq_of_beq_eq_true hb, h]
 | false => rfl
def evGuard (ops : List Oper) (g : Option (Nat × Bool)) (fr : Fr) : Option Bool := match g with
 | none => some true
 | some (j, want) => match ops[j]? with
  | some oj => match oj.dst with
   | some d => match fr.get d with
    | .p (.v (.bool b)) => match want with
     | true => some b
     | false => some (!b)
    | .tup [] => some false
    | _ => none
   | none => none
  | none => none
theorem evGuard_sound {ops : List Oper} {g : Option (Nat × Bool)} {fr : Fr} {b : Bool} {yes no : (Nat -> AV) -> Prop} (h : evGuard ops g fr = some b) (hy : b = true -> yes fr.get) (hn : b = false -> no fr.get) : wpGuard ops g fr.get yes no := by
 unfold evGuard at h; unfold wpGuard
 split at h
 ·injection h with h; subst h
  exact hy rfl
 ·split at h
  ·rename_i ho
   simp only [ho]
   split at h
   ·rename_i hd
    simp only [hd]
    split at h
    ·rename_i b0 hf
     simp only [hf]
     split at h
     ·injection h with h; subst h
      unfold br
      cases b0 with
      | true => simp only; rw [setFr_self hf]; exact hy rfl
      | false => simp only; rw [setFr_self hf]; exact hn rfl
     ·injection h with h; subst h
      unfold br
      cases b0 with
      | true => simp only; rw [setFr_self hf]; exact hn rfl
      | false => simp only; rw [setFr_self hf]; exact hy rfl
    ·rename_i hf
     simp only [hf]
     injection h with h; subst h
     exact hn rfl
    ·cases h
   ·cases h
  ·cases h
abbrev ER := Option (Fr × AH)
def evOps (ti : TypeId -> Option TI) (C : CF) (nt : Nat) (ops : List Oper) : List Oper -> Fr -> AH -> ER
 | [], fr, H => some (fr, H)
 | o :: rest, fr, H => match evGuard ops o.guard fr with
  | some true => match evOp ti C fr H o.op with
   | some (v, H') => match evPut nt o.dst fr v with
    | some fr' => evOps ti C nt ops rest fr' H'
    | none => none
   | none => none
  | some false => match evPut nt o.dst fr (.tup []) with
   | some fr' => evOps ti C nt ops rest fr' H
   | none => none
  | none => none
theorem evOps_sound {C : CF} (hC : C.ok P) {nt : Nat} {ops : List Oper} {K : AS -> Prop} : ∀ {rest : List Oper} {fr fr' : Fr} {H H' : AH}, evOps ti C nt ops rest fr H = some (fr', H') -> K ⟨fr'.get, H'⟩ -> wpOps P ti nt ops rest K ⟨fr.get, H⟩
 | [], fr, fr', H, H', h, hk => by
  injection h with h; injection h with h1 h2; subst h1; subst h2
  exact hk
 | o :: rest, fr, fr', H, H', h, hk => by
  unfold evOps at h
  unfold wpOps
  split at h
  ·rename_i hg
   split at h
   ·rename_i v H1 ho
    split at h
    ·rename_i fr1 hp
     exact evGuard_sound hg (fun _ => evOp_sound hC ho (evPut_sound hp (evOps_sound hC h hk))) (fun e => by cases e)
    ·cases h
   ·cases h
  ·rename_i hg
   split at h
   ·rename_i hp
    exact evGuard_sound hg (fun e => by cases e) (fun _ => evPut_sound hp (evOps_sound hC h hk))
   ·cases h
  ·cases h
def evOpsQ (ti : TypeId -> Option TI) (C : CQ) (nt : Nat) (ops : List Oper) : List Oper -> Fr -> AH -> Option Fr
 | [], fr, _ => some fr
 | o :: rest, fr, H => match evGuard ops o.guard fr with
  | some true => match evOpQ ti C fr H o.op with
   | some v => match evPut nt o.dst fr v with
    | some fr' => evOpsQ ti C nt ops rest fr' H
    | none => none
   | none => none
  | some false => match evPut nt o.dst fr (.tup []) with
   | some fr' => evOpsQ ti C nt ops rest fr' H
   | none => none
  | none => none
theorem evOpsQ_sound {C : CQ} (hC : C.ok P) {nt : Nat} {ops : List Oper} {K : AS -> Prop} : ∀ {rest : List Oper} {fr fr' : Fr} {H : AH}, evOpsQ ti C nt ops rest fr H = some fr' -> K ⟨fr'.get, H⟩ -> wpOpsQ P ti nt true ops rest K ⟨fr.get, H⟩
 | [], fr, fr', H, h, hk => by
  injection h with h; subst h
  exact hk
 | o :: rest, fr, fr', H, h, hk => by
  unfold evOpsQ at h
  unfold wpOpsQ
  split at h
  ·rename_i hg
   split at h
   ·rename_i v ho
    split at h
    ·rename_i fr1 hp
     exact evGuard_sound hg (fun _ => evOpQ_sound hC ho (evPut_sound hp (evOpsQ_sound hC h hk))) (fun e => by cases e)
    ·cases h
   ·cases h
  ·rename_i hg
   split at h
   ·rename_i hp
    exact evGuard_sound hg (fun e => by cases e) (fun _ => evPut_sound hp (evOpsQ_sound hC h hk))
   ·cases h
  ·cases h
def eqFr : Fr -> Fr -> Bool
 | .leaf, .leaf => true
 | .node x l r, .node y l' r' => eqA x y && eqFr l l' && eqFr r r'
 | _, _ => false
theorem eqFr_eq : ∀ {a b : Fr}, eqFr a b = true -> a = b
 | .leaf, .leaf, _ => rfl
 | .node x l r, .node y l' r', h => by
  simp only [eqFr, Bool.and_eq_true] at h
  rw [eqA_eq h.1.1, eqFr_eq h.1.2, eqFr_eq h.2]
 | .leaf, .node _ _ _, h => by cases h
 | .node _ _ _, .leaf, h => by cases h
def eqE : List (Value × Value) -> List (Value × Value) -> Bool
 | [], [] => true
 | (a, b) :: r, (c, d) :: s => eqV a c && eqV b d && eqE r s
 | _, _ => false
theorem eqE_eq : ∀ {a b : List (Value × Value)}, eqE a b = true -> a = b
 | [], [], _ => rfl
 | (a, b) :: r, (c, d) :: s, h => by
  simp only [eqE, Bool.and_eq_true] at h
  rw [eqV_eq h.1.1, eqV_eq h.1.2, eqE_eq h.2]
 | [], _ :: _, h => by cases h
 | _ :: _, [], h => by cases h
def eqO : AO -> AO -> Bool
 | .cells a, .cells b => eqAL a b
 | .buf e n xs, .buf f m ys => Nat.beq e f && n == m && eqPL xs ys
 | .frz n xs, .frz m ys => n == m && eqPL xs ys
 | .map a, .map b => eqE a b
 | .arr a, .arr b => eqPL a b
 | .bufL e xs l, .bufL f ys m => Nat.beq e f && (eqPL xs ys && eqAL l m)
 | _, _ => false
theorem eqO_eq {a b : AO} (h : eqO a b = true) : a = b := by
 unfold eqO at h
 split at h
 ·rw [eqAL_eq h]
 ·simp only [Bool.and_eq_true, beq_iff_eq] at h
  rw [Nat.eq_of_beq_eq_true h.1.1, h.1.2, eqPL_eq h.2]
 ·simp only [Bool.and_eq_true, beq_iff_eq] at h
  rw [h.1, eqPL_eq h.2]
 ·rw [eqE_eq h]
 ·rw [eqPL_eq h]
 ·simp only [Bool.and_eq_true] at h
  rw [Nat.eq_of_beq_eq_true h.1, eqPL_eq h.2.1, eqAL_eq h.2.2]
 ·cases h
def eqAH : AH -> AH -> Bool
 | [], [] => true
 | none :: r, none :: s => eqAH r s
 | some a :: r, some b :: s => eqO a b && eqAH r s
 | _, _ => false
theorem eqAH_eq : ∀ {a b : AH}, eqAH a b = true -> a = b
 | [], [], _ => rfl
 | none :: r, none :: s, h => by rw [eqAH_eq (show eqAH r s = true from h)]
 | some a :: r, some b :: s, h => by
  simp only [eqAH, Bool.and_eq_true] at h
  rw [eqO_eq h.1, eqAH_eq h.2]
 | [], _ :: _, h => by cases h
 | none :: _, [], h => by cases h
 | some _ :: _, [], h => by cases h
 | none :: _, some _ :: _, h => by cases h
 | some _ :: _, none :: _, h => by cases h
def eqER (a b : Fr × AH) : Bool := eqFr a.1 b.1 && eqAH a.2 b.2
theorem eqER_eq {a b : Fr × AH} (h : eqER a b = true) : a = b := by
 unfold eqER at h
 simp only [Bool.and_eq_true] at h
 exact Prod.ext (eqFr_eq h.1) (eqAH_eq h.2)
def evFacts (ti : TypeId -> Option TI) (H : AH) : List Fact -> Bool
 | [] => true
 | f :: fs => match evQ ti ⟨f.fr, H⟩ f.o.op with
  | some (.p y) => eqP y f.p && evFacts ti H fs
  | _ => false
theorem evFacts_sound {H : AH} {K : Prop} (hk : K) : ∀ {fs : List Fact}, evFacts ti H fs = true -> factsOK ti H fs K
 | [], _ => hk
 | f :: fs, h => by
  unfold evFacts at h
  split at h
  ·rename_i hq
   simp only [Bool.and_eq_true] at h
   refine evQ_sound hq ⟨by rw [eqP_eq h.1], evFacts_sound hk h.2⟩
  ·cases h
def evStep (ti : TypeId -> Option TI) (C : CF) (nt : Nat) (ops : List Oper) (i : Nat) (fr : Fr) (H : AH) : ER := match ops[i]? with
 | some o => match evGuard ops o.guard fr with
  | some true => match evOp ti C fr H o.op with
   | some (v, H') => match evPut nt o.dst fr v with
    | some fr' => some (fr', H')
    | none => none
   | none => none
  | some false => match evPut nt o.dst fr (.tup []) with
   | some fr' => some (fr', H)
   | none => none
  | none => none
 | none => none
theorem evStep_sound {C : CF} (hC : C.ok P) {nt i : Nat} {ops : List Oper} {K : AS -> Prop} {fr fr' : Fr} {H H' : AH} (h : evStep ti C nt ops i fr H = some (fr', H')) (hk : K ⟨fr'.get, H'⟩) : wpStep P ti nt ops i K ⟨fr.get, H⟩ := by
 unfold evStep at h
 unfold wpStep
 split at h
 ·rename_i ho
  simp only [ho]
  split at h
  ·rename_i hg
   split at h
   ·rename_i v H1 ho
    split at h
    ·rename_i fr1 hp
     injection h with h; injection h with h1 h2; subst h1; subst h2
     exact evGuard_sound hg (fun _ => evOp_sound hC ho (evPut_sound hp hk)) (fun e => by cases e)
    ·cases h
   ·cases h
  ·rename_i hg
   split at h
   ·rename_i hp
    injection h with h; injection h with h1 h2; subst h1; subst h2
    exact evGuard_sound hg (fun e => by cases e) (fun _ => evPut_sound hp hk)
   ·cases h
  ·cases h
 ·cases h
def evSc (ti : TypeId -> Option TI) (C : CF) (nt : Nat) (ops : List Oper) : Sc -> List Fact -> Fr -> AH -> ER
 | .done, _, fr, H => some (fr, H)
 | .take i k, fs, fr, H => match ops[i]? with
  | some o => match isLoad o.op with
   | true => none
   | false => match evGuard ops o.guard fr with
    | some true => match evQ ti ⟨fr.get, H⟩ o.op with
     | some v => match evPut nt o.dst fr v with
      | some fr' => evSc ti C nt ops k fs fr' H
      | none => none
     | none => none
    | some false => match evPut nt o.dst fr (.tup []) with
     | some fr' => evSc ti C nt ops k fs fr' H
     | none => none
    | none => none
  | none => none
 | .load i k, fs, fr, H => match ops[i]? with
  | some o => match o.guard with
   | none => match evQ ti ⟨fr.get, H⟩ o.op with
    | some (.p y) => match mkFact fr.get o y, evPut nt o.dst fr (.p y) with
     | some F, some fr' => evSc ti C nt ops k (F :: fs) fr' H
     | _, _ => none
    | _ => none
   | some _ => none
  | none => none
 | .frz i k, fs, fr, H => match ops[i]? with
  | some o => match evGuard ops o.guard fr with
   | some true => match o.op with
    | .load t x => match (AS.mk fr.get H).ev x with
     | .rptr cs => match evLoad ti H t (.rptr cs) with
      | some v => match evPut nt o.dst fr v with
       | some fr' => evSc ti C nt ops k fs fr' H
       | none => none
      | none => none
     | _ => none
    | _ => none
   | some false => match evPut nt o.dst fr (.tup []) with
    | some fr' => evSc ti C nt ops k fs fr' H
    | none => none
   | none => none
  | none => none
 | .one i k, fs, fr, H => match evStep ti C nt ops i fr H with
  | some (fr', H') => match evFacts ti H' fs with
   | true => evSc ti C nt ops k fs fr' H'
   | false => none
  | none => none
 | .two i j k l, fs, fr, H => match evStep ti C nt ops i fr H, evStep ti C nt ops j fr H with
  | some (fr1, H1), some (fr2, H2) => match evFacts ti H1 fs && evFacts ti H2 fs with
   | true => match evSc ti C nt ops k fs fr1 H1, evSc ti C nt ops l fs fr2 H2 with
    | some r, some s => match eqER r s with
     | true => some r
     | false => none
    | _, _ => none
   | false => none
  | _, _ => none
 | .three i j q k l p, fs, fr, H => match evStep ti C nt ops i fr H, evStep ti C nt ops j fr H, evStep ti C nt ops q fr H with
  | some (fr1, H1), some (fr2, H2), some (fr3, H3) => match evFacts ti H1 fs && evFacts ti H2 fs && evFacts ti H3 fs with
   | true => match evSc ti C nt ops k fs fr1 H1, evSc ti C nt ops l fs fr2 H2, evSc ti C nt ops p fs fr3 H3 with
    | some r, some s, some t => match eqER r s && eqER r t with
     | true => some r
     | false => none
    | _, _, _ => none
   | false => none
  | _, _, _ => none
def mkSc (c : Nat) (i : Nat) (k : Sc) : Sc := match c with
 | 0 => .take i k
 | 1 => .load i k
 | _ => .frz i k
def evTry (ti : TypeId -> Option TI) (nt : Nat) (ops : List Oper) (i : Nat) (fs : List Fact) (fr : Fr) (H : AH) : Option (Nat × Fr × List Fact) := match ops[i]? with
 | some o => match isLoad o.op with
  | false => match evGuard ops o.guard fr with
   | some true => match evQ ti ⟨fr.get, H⟩ o.op with
    | some v => match evPut nt o.dst fr v with
     | some fr' => some (0, fr', fs)
     | none => none
    | none => none
   | some false => match evPut nt o.dst fr (.tup []) with
    | some fr' => some (0, fr', fs)
    | none => none
   | none => none
  | true => match o.op with
   | .load t x => match evGuard ops o.guard fr with
    | some true => match (AS.mk fr.get H).ev x with
     | .rptr cs => match evLoad ti H t (.rptr cs) with
      | some v => match evPut nt o.dst fr v with
       | some fr' => some (2, fr', fs)
       | none => none
      | none => none
     | _ => match o.guard with
      | none => match evQ ti ⟨fr.get, H⟩ o.op with
       | some (.p y) => match mkFact fr.get o y, evPut nt o.dst fr (.p y) with
        | some F, some fr' => some (1, fr', F :: fs)
        | _, _ => none
       | _ => none
      | some _ => none
    | some false => match evPut nt o.dst fr (.tup []) with
     | some fr' => some (2, fr', fs)
     | none => none
    | none => none
   | _ => none
 | none => none
theorem evTry_sound {nt : Nat} {ops : List Oper} {K : AS -> Prop} {i c : Nat} {fs fs' : List Fact} {fr fr' : Fr} {H : AH} {sc : Sc} (h : evTry ti nt ops i fs fr H = some (c, fr', fs')) (hk : wpSc P ti nt ops sc fs' K ⟨fr'.get, H⟩) : wpSc P ti nt ops (mkSc c i sc) fs K ⟨fr.get, H⟩ := by
 unfold evTry at h
 split at h
 ·rename_i o ho
  split at h
  ·rename_i hl
   split at h
   ·rename_i hg
    split at h
    ·rename_i hq
     split at h
     ·rename_i hp
      injection h with h; injection h with h1 h2; injection h2 with h2 h3; subst h1; subst h2; subst h3
      unfold mkSc wpSc
      simp only [ho, hl]
      exact evGuard_sound hg (fun _ => evQ_sound hq (evPut_sound hp hk)) (fun e => by cases e)
     ·cases h
    ·cases h
   ·rename_i hg
    split at h
    ·rename_i hp
     injection h with h; injection h with h1 h2; injection h2 with h2 h3; subst h1; subst h2; subst h3
     unfold mkSc wpSc
     simp only [ho, hl]
     exact evGuard_sound hg (fun e => by cases e) (fun _ => evPut_sound hp hk)
    ·cases h
   ·cases h
  ·split at h
   ·rename_i t x hop
    split at h
    ·rename_i hg
     split at h
     ·rename_i cs hx
      split at h
      ·rename_i hl
       split at h
       ·rename_i hp
        injection h with h; injection h with h1 h2; injection h2 with h2 h3; subst h1; subst h2; subst h3
        unfold mkSc wpSc
        simp only [ho]
        refine evGuard_sound hg (fun _ => ?_) (fun e => by cases e)
        simp only [hop, hx]
        exact evLoad_sound hl (evPut_sound hp hk)
       ·cases h
      ·cases h
     ·split at h
      ·rename_i hgn
       split at h
       ·rename_i hq
        split at h
        ·rename_i hF hp
         injection h with h; injection h with h1 h2; injection h2 with h2 h3; subst h1; subst h2; subst h3
         unfold mkSc wpSc
         simp only [ho, hgn]
         refine evQ_sound hq ?_
         simp only [hF]
         exact evPut_sound hp hk
        ·cases h
       ·cases h
      ·cases h
    ·rename_i hg
     split at h
     ·rename_i hp
      injection h with h; injection h with h1 h2; injection h2 with h2 h3; subst h1; subst h2; subst h3
      unfold mkSc wpSc
      simp only [ho]
      exact evGuard_sound hg (fun e => by cases e) (fun _ => evPut_sound hp hk)
     ·cases h
    ·cases h
   ·cases h
 ·cases h
def evFindQ (ti : TypeId -> Option TI) (nt : Nat) (ops : List Oper) (ls : Array Bool) (fs : List Fact) (fr : Fr) (H : AH) : List Nat -> Option (Nat × Nat × Fr × List Fact)
 | [] => none
 | i :: r => match Region.free .any ops.toArray ls i with
  | true => match evTry ti nt ops i fs fr H with
   | some (c, fr', fs') => some (i, c, fr', fs')
   | none => evFindQ ti nt ops ls fs fr H r
  | false => evFindQ ti nt ops ls fs fr H r
theorem evFindQ_spec {nt : Nat} {ops : List Oper} {ls : Array Bool} {fs : List Fact} {fr : Fr} {H : AH} {i c : Nat} {fr' : Fr} {fs' : List Fact} : ∀ {r : List Nat}, evFindQ ti nt ops ls fs fr H r = some (i, c, fr', fs') -> i ∈ r /\ Region.free .any ops.toArray ls i = true /\ evTry ti nt ops i fs fr H = some (c, fr', fs')
 | [], h => by cases h
 | j :: r, h => by
  unfold evFindQ at h
  split at h
  ·rename_i hf
   split at h
   ·rename_i ht
    injection h with h; injection h with h1 h2; injection h2 with h2 h3; injection h3 with h3 h4; subst h1; subst h2; subst h3; subst h4
    exact ⟨List.mem_cons_self .., hf, ht⟩
   ·obtain ⟨h1, h2⟩ := evFindQ_spec h
    exact ⟨List.mem_cons_of_mem _ h1, h2⟩
  ·obtain ⟨h1, h2⟩ := evFindQ_spec h
   exact ⟨List.mem_cons_of_mem _ h1, h2⟩
def evAuto (ti : TypeId -> Option TI) (C : CF) (nt : Nat) (ops : List Oper) : Nat -> Array Bool -> List Fact -> Fr -> AH -> ER
 | 0, ls, _, fr, H => match (Region.ready .any ops.toArray ls).isEmpty with
  | true => some (fr, H)
  | false => none
 | n + 1, ls, fs, fr, H => match Region.ready .any ops.toArray ls with
  | [] => some (fr, H)
  | i :: r => match evFindQ ti nt ops ls fs fr H (i :: r) with
   | some (j, _, fr', fs') => evAuto ti C nt ops n (ls.setIfInBounds j true) fs' fr' H
   | none => match r with
    | [] => match evStep ti C nt ops i fr H with
     | some (fr', H') => match evFacts ti H' fs && ops[i]?.isSome with
      | true => evAuto ti C nt ops n (ls.setIfInBounds i true) fs fr' H'
      | false => none
     | none => none
    | [j] => match evStep ti C nt ops i fr H, evStep ti C nt ops j fr H with
     | some (fr1, H1), some (fr2, H2) => match evFacts ti H1 fs && evFacts ti H2 fs && (ops[i]?.isSome && ops[j]?.isSome) with
      | true => match evAuto ti C nt ops n (ls.setIfInBounds i true) fs fr1 H1, evAuto ti C nt ops n (ls.setIfInBounds j true) fs fr2 H2 with
       | some r, some s => match eqER r s with
        | true => some r
        | false => none
       | _, _ => none
      | false => none
     | _, _ => none
    | _ => none
theorem evAuto_sound {C : CF} (hC : C.ok P) {nt : Nat} {ops : List Oper} : ∀ {n : Nat} {ls : Array Bool} {fs : List Fact} {fr : Fr} {H : AH} {r : Fr × AH}, evAuto ti C nt ops n ls fs fr H = some r ->
  ∃ sc, scB ops.toArray sc n ls = true /\ ∀ K : AS -> Prop, K ⟨r.1.get, r.2⟩ -> wpSc P ti nt ops sc fs K ⟨fr.get, H⟩
 | 0, ls, fs, fr, H, r, h => by
  unfold evAuto at h
  split at h
  ·rename_i he
   injection h with h; subst h
   exact ⟨.done, by simp only [scB, he], fun K hk => hk⟩
  ·cases h
 | n + 1, ls, fs, fr, H, r, h => by
  unfold evAuto at h
  split at h
  ·rename_i he
   injection h with h; subst h
   exact ⟨.done, by simp only [scB, he]; rfl, fun K hk => hk⟩
  ·rename_i i r0 hr
   split at h
   ·rename_i j c fr' fs' hq
    obtain ⟨h1, h2, h3⟩ := evFindQ_spec hq
    obtain ⟨sc, h4, h5⟩ := evAuto_sound hC h
    refine ⟨mkSc c j sc, ?_, fun K hk => evTry_sound h3 (h5 K hk)⟩
    have h6 : (Region.ready .any ops.toArray ls).contains j = true := by rw [hr]; exact List.contains_iff_mem.2 h1
    unfold mkSc
    split <;> simp only [scB, h6, h2, h4, Bool.and_self]
   ·split at h
    ·split at h
     ·rename_i hs
      split at h
      ·rename_i hf
       simp only [Bool.and_eq_true] at hf
       obtain ⟨sc, h4, h5⟩ := evAuto_sound hC h
       refine ⟨.one i sc, ?_, fun K hk => ?_⟩
       ·simp only [scB, hr, h4, Bool.and_true, List.getElem?_toArray, hf.2]
        exact beq_self_eq_true [i]
       ·unfold wpSc
        exact evStep_sound hC hs (evFacts_sound (h5 K hk) hf.1)
      ·cases h
     ·cases h
    ·rename_i j _
     split at h
     ·rename_i hs1 hs2
      split at h
      ·rename_i hf
       simp only [Bool.and_eq_true] at hf
       split at h
       ·rename_i ha hb
        split at h
        ·rename_i he
         injection h with h; subst h
         have he := eqER_eq he
         obtain ⟨sc, h4, h5⟩ := evAuto_sound hC ha
         obtain ⟨sc2, h6, h7⟩ := evAuto_sound hC hb
         refine ⟨.two i j sc sc2, ?_, fun K hk => ?_⟩
         ·simp only [scB, hr, h4, h6, Bool.and_true, List.getElem?_toArray, hf.2.1, hf.2.2]
          exact beq_self_eq_true [i, j]
         ·unfold wpSc
          exact ⟨evStep_sound hC hs1 (evFacts_sound (h5 K hk) hf.1.1), evStep_sound hC hs2 (evFacts_sound (h7 K (he ▸ hk)) hf.1.2)⟩
        ·cases h
       ·cases h
      ·cases h
     ·cases h
    ·cases h
def evLz (ti : TypeId -> Option TI) (σ : AS) (op : Op) : Option AV := match op with
 | .buildSlice t len parts => match ti t with
  | some ⟨.sl e, _, _, _⟩ => match ti e with
   | some ie => match fillA (fun j => some (j * ie.size, ie.size)) (baseCells ie len) (parts.toList.map fun p => (p.1, σ.ev p.2)) with
    | some cs => match allP cs with
     | some ps => match ps.all PV.one && Nat.ble (len * ie.size) 16777216 && Nat.blt 0 ie.size && (ie.k.isAgg || Nat.beq ie.size 1) with
      | true => some (.p (.list false (chunk ie.k.isAgg ie.size len ps)))
      | false => none
     | none => none
    | none => none
   | none => none
  | _ => none
 | op => evQ ti σ op
theorem evLz_sound {σ : AS} {op : Op} {v : AV} {k : AV -> Prop} (h : evLz ti σ op = some v) (hk : k v) : wpLz ti σ op k := by
 unfold evLz at h
 split at h
 ·unfold wpLz
  split at h
  ·rename_i h1
   simp only [h1]
   split at h
   ·rename_i h2
    simp only [h2]
    split at h
    ·rename_i h3
     simp only [h3]
     split at h
     ·rename_i h4
      simp only [h4]
      split at h
      ·rename_i h5
       simp only [h5]
       injection h with h; subst h
       exact ⟨_, rfl, hk⟩
      ·cases h
     ·cases h
    ·cases h
   ·cases h
  ·cases h
 ·rename_i hne
  unfold wpLz
  split
  ·exact (hne _ _ _ rfl).elim
  ·exact evQ_sound h hk
def evPd (ti : TypeId -> Option TI) (fr : Fr) (H : AH) : List Pd -> Bool
 | [] => true
 | p :: r => match p.b && !memFree p.o.op with
  | true => match evLz ti ⟨fr.get, H⟩ p.o.op with
   | some v => eqA v p.v && evPd ti fr H r
   | none => false
  | false => evPd ti fr H r
theorem evPd_sound {fr : Fr} {H : AH} {X : Prop} (hX : X) : ∀ {pd : List Pd}, evPd ti fr H pd = true -> pdOK ti fr.get H pd X
 | [], _ => hX
 | p :: r, h => by
  unfold evPd at h
  unfold pdOK
  split at h
  ·rename_i hb
   simp only [hb]
   split at h
   ·rename_i v hv
    simp only [Bool.and_eq_true] at h
    exact ⟨evLz_sound hv ⟨eqA_eq h.1⟩, evPd_sound hX h.2⟩
   ·cases h
  ·rename_i hb
   simp only [hb]
   exact evPd_sound hX h
def evLazy (ti : TypeId -> Option TI) (nt : Nat) (ops : List Oper) (pd : List Pd) (fr : Fr) (H : AH) (i : Nat) : Option (Pd × Fr) := match ops[i]? with
 | some o => match selfL ops.toArray i && pd.all (fun p => apL ops.toArray p.i i) with
  | true => match evGuard ops o.guard fr with
   | some true => match evLz ti ⟨fr.get, H⟩ o.op with
    | some v => match evPut nt o.dst fr v with
     | some fr' => some (⟨i, o, true, v⟩, fr')
     | none => none
    | none => none
   | some false => match evPut nt o.dst fr (.tup []) with
    | some fr' => some (⟨i, o, false, .tup []⟩, fr')
    | none => none
   | none => none
  | false => none
 | none => none
def evFindL (ti : TypeId -> Option TI) (nt : Nat) (ops : List Oper) (pd : List Pd) (fr : Fr) (H : AH) : List Nat -> Option (Nat × Pd × Fr)
 | [] => none
 | i :: r => match evLazy ti nt ops pd fr H i with
  | some (p, fr') => some (i, p, fr')
  | none => evFindL ti nt ops pd fr H r
theorem evFindL_spec {nt : Nat} {ops : List Oper} {pd : List Pd} {fr : Fr} {H : AH} : ∀ {l : List Nat} {i : Nat} {p : Pd} {fr' : Fr}, evFindL ti nt ops pd fr H l = some (i, p, fr') -> i ∈ l /\ evLazy ti nt ops pd fr H i = some (p, fr')
 | [], _, _, _, h => by cases h
 | a :: r, i, p, fr', h => by
  unfold evFindL at h
  split at h
  ·rename_i ha
   injection h with h; injection h with h1 h2; injection h2 with h2 h3
   subst h1; subst h2; subst h3
   exact ⟨List.mem_cons_self .., ha⟩
  ·obtain ⟨h1, h2⟩ := evFindL_spec h
   exact ⟨List.mem_cons_of_mem _ h1, h2⟩
theorem evLazy_sound {nt : Nat} {ops : List Oper} {pd : List Pd} {fr fr' : Fr} {H : AH} {i : Nat} {p : Pd} (h : evLazy ti nt ops pd fr H i = some (p, fr')) :
  p.i = i /\ selfL ops.toArray i = true /\ pd.all (fun p => apL ops.toArray p.i i) = true /\ ∀ (k : Ln) (K : AS -> Prop), wpLn P ti nt ops k (p :: pd) K ⟨fr'.get, H⟩ -> wpLn P ti nt ops (.lazy i k) pd K ⟨fr.get, H⟩ := by
 unfold evLazy at h
 split at h
 ·rename_i o ho
  split at h
  ·rename_i hb
   simp only [Bool.and_eq_true] at hb
   split at h
   ·rename_i hg
    split at h
    ·rename_i v hv
     split at h
     ·rename_i hput
      injection h with h; injection h with h1 h2
      subst h1; subst h2
      refine ⟨rfl, hb.1, hb.2, fun k K hK => ?_⟩
      unfold wpLn
      rw [ho]
      exact evGuard_sound hg (fun _ => ⟨evLz_sound (k := fun v' => EqA v' v) hv ⟨rfl⟩, evPut_sound hput hK⟩) (fun h => by cases h)
     ·cases h
    ·cases h
   ·rename_i hg
    split at h
    ·rename_i hput
     injection h with h; injection h with h1 h2
     subst h1; subst h2
     refine ⟨rfl, hb.1, hb.2, fun k K hK => ?_⟩
     unfold wpLn
     rw [ho]
     exact evGuard_sound hg (fun h => by cases h) (fun _ => evPut_sound hput hK)
    ·cases h
   ·cases h
  ·cases h
 ·cases h
def evOne (ti : TypeId -> Option TI) (C : CF) (nt : Nat) (ops : List Oper) (pd : List Pd) (fr : Fr) (H : AH) (j : Nat) : ER := match (dropP ops j pd).all (fun p => apO ops.toArray p.i j) with
 | true => match evStep ti C nt ops j fr H with
  | some (fr', H') => match eqAH H' H || evPd ti fr' H' (dropP ops j pd) with
   | true => some (fr', H')
   | false => none
  | none => none
 | false => none
theorem evOne_sound {C : CF} (hC : C.ok P) {nt : Nat} {ops : List Oper} {pd : List Pd} {fr fr' : Fr} {H H' : AH} {j : Nat} (h : evOne ti C nt ops pd fr H j = some (fr', H')) :
  (dropP ops j pd).all (fun p => apO ops.toArray p.i j) = true /\ ∀ X : AS -> Prop, X ⟨fr'.get, H'⟩ -> match ops[j]? with
  | some o => wpGuard ops o.guard fr.get
   (fun fr => wpOp P ti fr H o.op fun v H' => wpPut nt o.dst fr H' v fun σ => PdC H σ.h (X σ) (pdOK ti σ.fr σ.h (dropP ops j pd) (X σ)))
   (fun fr => wpPut nt o.dst fr H (.tup []) fun σ => PdC H σ.h (X σ) (pdOK ti σ.fr σ.h (dropP ops j pd) (X σ)))
  | none => False := by
 unfold evOne at h
 split at h
 ·rename_i hall
  split at h
  ·rename_i fr1 H1 hs
   split at h
   ·rename_i hpd
    injection h with h; injection h with h1 h2
    subst h1; subst h2
    refine ⟨hall, fun X hX => ?_⟩
    have hK : PdC H H1 (X ⟨fr1.get, H1⟩) (pdOK ti fr1.get H1 (dropP ops j pd) (X ⟨fr1.get, H1⟩)) := by
     rw [Bool.or_eq_true] at hpd
     rcases hpd with h1 | h1
     ·exact .same (eqAH_eq h1) hX
     ·exact .chk (evPd_sound hX h1)
    have h3 := evStep_sound (K := fun σ => PdC H σ.h (X σ) (pdOK ti σ.fr σ.h (dropP ops j pd) (X σ))) hC hs hK
    unfold wpStep at h3
    exact h3
   ·cases h
  ·cases h
 ·cases h
def evLn (ti : TypeId -> Option TI) (C : CF) (nt : Nat) (ops : List Oper) : Nat -> Array Bool -> List Pd -> Fr -> AH -> ER
 | 0, ls, _, fr, H => match (Region.ready .any ops.toArray ls).isEmpty with
  | true => some (fr, H)
  | false => none
 | n + 1, ls, pd, fr, H => match Region.ready .any ops.toArray ls with
  | [] => some (fr, H)
  | i :: r => match evFindL ti nt ops pd fr H (i :: r) with
   | some (q, p, fr') => evLn ti C nt ops n (ls.setIfInBounds q true) (p :: pd) fr' H
   | none => match r with
    | [] => match evOne ti C nt ops pd fr H i with
     | some (fr', H') => evLn ti C nt ops n (ls.setIfInBounds i true) (dropP ops i pd) fr' H'
     | none => none
    | [j] => match evOne ti C nt ops pd fr H i, evOne ti C nt ops pd fr H j with
     | some (fr1, H1), some (fr2, H2) => match evLn ti C nt ops n (ls.setIfInBounds i true) (dropP ops i pd) fr1 H1, evLn ti C nt ops n (ls.setIfInBounds j true) (dropP ops j pd) fr2 H2 with
      | some r, some s => match eqER r s with
       | true => some r
       | false => none
      | _, _ => none
     | _, _ => none
    | _ => none
theorem dropI_rev {ops : List Oper} {j : Nat} {pd : List Pd} : dropI ops.toArray j (pd.map Pd.i).reverse = ((dropP ops j pd).map Pd.i).reverse := by
 unfold dropI dropP
 rw [List.getElem?_toArray]
 cases ops[j]? with
 | none => rfl
 | some o =>
  simp only
  rw [List.filter_reverse, List.filter_map]
  rfl
theorem all_rev {f : Nat -> Bool} {pd : List Pd} : ((pd.map Pd.i).reverse).all f = pd.all fun p => f p.i := by
 rw [List.all_reverse, List.all_map]; rfl
theorem evLn_sound {C : CF} (hC : C.ok P) {nt : Nat} {ops : List Oper} : ∀ {n : Nat} {ls : Array Bool} {pd : List Pd} {fr : Fr} {H : AH} {r : Fr × AH}, evLn ti C nt ops n ls pd fr H = some r ->
  ∃ sc, lnB ops.toArray sc n ls (pd.map Pd.i).reverse = true /\ ∀ K : AS -> Prop, K ⟨r.1.get, r.2⟩ -> wpLn P ti nt ops sc pd K ⟨fr.get, H⟩
 | 0, ls, pd, fr, H, r, h => by
  unfold evLn at h
  split at h
  ·rename_i he
   injection h with h; subst h
   exact ⟨.done, by simp only [lnB, he], fun K hk => hk⟩
  ·cases h
 | n + 1, ls, pd, fr, H, r, h => by
  unfold evLn at h
  split at h
  ·rename_i he
   injection h with h; subst h
   exact ⟨.done, by simp only [lnB, he]; rfl, fun K hk => hk⟩
  ·rename_i i r0 hr
   split at h
   ·rename_i q p fr' hq
    obtain ⟨h1, h2⟩ := evFindL_spec hq
    obtain ⟨h3, h4, h5, h6⟩ := evLazy_sound (P := P) h2
    obtain ⟨sc, h7, h8⟩ := evLn_sound hC h
    refine ⟨.lazy q sc, ?_, fun K hk => h6 _ _ (h8 K hk)⟩
    have h9 : (Region.ready .any ops.toArray ls).contains q = true := by rw [hr]; exact List.contains_iff_mem.2 h1
    rw [List.map_cons, List.reverse_cons, h3] at h7
    simp only [lnB, h9, h4, all_rev, h5, h7, Bool.and_self]
   ·split at h
    ·split at h
     ·rename_i fr1 H1 hs
      obtain ⟨h1, h2⟩ := evOne_sound hC hs
      obtain ⟨sc, h3, h4⟩ := evLn_sound hC h
      refine ⟨.one i sc, ?_, fun K hk => ?_⟩
      ·simp only [lnB, hr, dropI_rev, all_rev, h1, h3, Bool.and_true]
       exact beq_self_eq_true [i]
      ·unfold wpLn
       exact h2 _ (h4 K hk)
     ·cases h
    ·rename_i j _
     split at h
     ·rename_i fr1 H1 fr2 H2 hs1 hs2
      split at h
      ·rename_i ha hb
       split at h
       ·rename_i he
        injection h with h; subst h
        have he := eqER_eq he
        obtain ⟨h1, h2⟩ := evOne_sound hC hs1
        obtain ⟨g1, g2⟩ := evOne_sound hC hs2
        obtain ⟨sc, h4, h5⟩ := evLn_sound hC ha
        obtain ⟨sc2, h6, h7⟩ := evLn_sound hC hb
        refine ⟨.two i j sc sc2, ?_, fun K hk => ?_⟩
        ·simp only [lnB, hr, dropI_rev, all_rev, h1, g1, h4, h6, Bool.and_true]
         exact beq_self_eq_true [i, j]
        ·unfold wpLn
         exact ⟨h2 _ (h5 K hk), g2 _ (h7 K (he ▸ hk))⟩
       ·cases h
      ·cases h
     ·cases h
    ·cases h
def evDraw2 (ti : TypeId -> Option TI) (C : CF) (nt : Nat) (ops : List Oper) (fr : Fr) (H : AH) : ER := match evLn ti C nt ops ops.length (Array.replicate ops.length false) [] fr H with
 | some r => some r
 | none => match Region.noSelect ops.toArray with
  | true => evAuto ti C nt ops ops.length (Array.replicate ops.length false) [] fr H
  | false => none
def evDraw (ti : TypeId -> Option TI) (C : CF) (Q : CQ) (nt : Nat) (ops : List Oper) (fr : Fr) (H : AH) : ER := match Region.lexB .any ops.toArray with
 | true => match evOpsQ ti Q nt ops ops fr H with
  | some fr' => some (fr', H)
  | none => evDraw2 ti C nt ops fr H
 | false => evDraw2 ti C nt ops fr H
theorem evDraw2_sound {C : CF} (hm : P.follows .mixedOrders = true) (hC : C.ok P) {nt k0 : Nat} {ops : List Oper} {K : AS -> Prop} {fr : Fr} {H : AH} {r : Fr × AH} (h : evDraw2 ti C nt ops fr H = some r) (hk : K ⟨r.1.get, r.2⟩) : DrawA true P ti nt k0 ops K ⟨fr.get, H⟩ := by
 unfold evDraw2 at h
 split at h
 ·rename_i hl
  injection h with h; subst h
  obtain ⟨sc, h1, h2⟩ := evLn_sound hC hl
  exact .lin sc hm h1 (h2 K hk)
 ·split at h
  ·rename_i hn
   obtain ⟨sc, h1, h2⟩ := evAuto_sound hC h
   exact .orders sc hm hn h1 (h2 K hk)
  ·cases h
theorem evDraw_sound {C : CF} {Q : CQ} (hm : P.follows .mixedOrders = true) (hC : C.ok P) (hQ : Q.ok P) {nt k0 : Nat} {ops : List Oper} {K : AS -> Prop} {fr : Fr} {H : AH} {r : Fr × AH} (h : evDraw ti C Q nt ops fr H = some r) (hk : K ⟨r.1.get, r.2⟩) : DrawA true P ti nt k0 ops K ⟨fr.get, H⟩ := by
 unfold evDraw at h
 split at h
 ·rename_i hb
  split at h
  ·rename_i hq
   injection h with h; subst h
   exact .quiet hm hb (evOpsQ_sound hQ hq hk)
  ·exact evDraw2_sound hm hC h hk
 ·exact evDraw2_sound hm hC h hk
def evC (ti : TypeId -> Option TI) (C : CF) (Q : CQ) (nt : Nat) : Nat -> Code -> Fr -> AH -> Option (Exit × Fr × AH)
 | 0, _, _, _ => none
 | n + 1, c, fr, H => match c with
  | .skip => some (.normal, fr, H)
  | .region _ ops draw => match draw with
   | true => match evDraw ti C Q nt ops.toList fr H with
    | some (fr', H') => some (.normal, fr', H')
    | none => none
   | false => match evOps ti C nt ops.toList ops.toList fr H with
    | some (fr', H') => some (.normal, fr', H')
    | none => none
  | .seq x y => match evC ti C Q nt n x fr H with
   | some (.normal, fr', H') => evC ti C Q nt n y fr' H'
   | r => r
  | .cond c x y => match (AS.mk fr.get H).ev c with
   | .p (.v (.bool b)) => match b with
    | true => evC ti C Q nt n x fr H
    | false => evC ti C Q nt n y fr H
   | _ => none
  | .block id c => match evC ti C Q nt n c fr H with
   | some (.exit i, fr', H') => match Nat.beq i id with
    | true => some (.normal, fr', H')
    | false => some (.exit i, fr', H')
   | r => r
  | .loop c => match evC ti C Q nt n c fr H with
   | some (.normal, fr', H') => evC ti C Q nt n (.loop c) fr' H'
   | r => r
  | .exit id => some (.exit id, fr, H)
  | .scope c => match evC ti C Q nt n c fr H with
   | some (.goto _, _, _) => none
   | r => r
  | .label _ => some (.normal, fr, H)
  | .ret => some (.ret, fr, H)
  | _ => none
theorem evC_sound {C : CF} {Q : CQ} (hm : P.follows .mixedOrders = true) (hC : C.ok P) (hQ : Q.ok P) {nt k0 : Nat} : ∀ {n : Nat} {c : Code} {fr fr' : Fr} {H H' : AH} {e : Exit}, evC ti C Q nt n c fr H = some (e, fr', H') -> ∀ X : Exit -> AS -> Prop, X e ⟨fr'.get, H'⟩ -> wpA P ti nt k0 c X ⟨fr.get, H⟩
 | 0, c, fr, fr', H, H', e, h, X, hX => by cases h
 | n + 1, c, fr, fr', H, H', e, h, X, hX => by
  unfold evC at h
  split at h
  ·injection h with h; injection h with h1 h2; injection h2 with h2 h3; subst h1; subst h2; subst h3
   exact hX
  ·unfold wpA wpG
   split at h
   ·split at h
    ·rename_i hd
     injection h with h; injection h with h1 h2; injection h2 with h2 h3; subst h1; subst h2; subst h3
     exact evDraw_sound hm hC hQ hd hX
    ·cases h
   ·split at h
    ·rename_i hd
     injection h with h; injection h with h1 h2; injection h2 with h2 h3; subst h1; subst h2; subst h3
     exact evOps_sound hC hd hX
    ·cases h
  ·unfold wpA wpG
   split at h
   ·rename_i h1
    exact evC_sound hm hC hQ h1 _ (evC_sound hm hC hQ h X hX)
   ·rename_i hne
    refine evC_sound hm hC hQ h _ ?_
    cases e with
    | normal => exact (hne _ _ h).elim
    | _ => exact hX
  ·unfold wpA wpG
   split at h
   ·rename_i hb
    simp only [hb]
    refine .plain ?_
    unfold br
    split at h
    ·exact evC_sound hm hC hQ h X hX
    ·exact evC_sound hm hC hQ h X hX
   ·cases h
  ·unfold wpA wpG
   split at h
   ·rename_i i _ _ h1
    refine evC_sound hm hC hQ h1 _ ?_
    unfold inBlockA
    split at h
    ·rename_i hb
     injection h with h; injection h with h1 h2; injection h2 with h2 h3; subst h1; subst h2; subst h3
     simp only [hb]
     exact hX
    ·rename_i hb
     injection h with h; injection h with h1 h2; injection h2 with h2 h3; subst h1; subst h2; subst h3
     simp only [hb]
     exact hX
   ·rename_i hne
    refine evC_sound hm hC hQ h _ ?_
    cases e with
    | exit i => exact (hne _ _ _ h).elim
    | _ => exact hX
  ·rename_i c
   unfold wpA wpG
   split at h
   ·rename_i h1
    refine LoopA.unroll (evC_sound hm hC hQ h1 _ ?_)
    have := evC_sound (k0 := k0) hm hC hQ h X hX
    unfold wpA wpG at this
    exact this
   ·rename_i hne
    refine LoopA.unroll (evC_sound hm hC hQ h _ ?_)
    cases e with
    | normal => exact (hne _ _ h).elim
    | _ => exact hX
  ·injection h with h; injection h with h1 h2; injection h2 with h2 h3; subst h1; subst h2; subst h3
   exact hX
  ·unfold wpA wpG
   split at h
   ·cases h
   ·rename_i hne
    refine evC_sound hm hC hQ h _ ?_
    cases e with
    | goto l => exact (hne _ _ _ h).elim
    | _ => exact hX
  ·injection h with h; injection h with h1 h2; injection h2 with h2 h3; subst h1; subst h2; subst h3
   exact hX
  ·injection h with h; injection h with h1 h2; injection h2 with h2 h3; subst h1; subst h2; subst h3
   exact hX
  ·cases h
end
end Go.Abs
namespace Go.Abs
open Go.RowKit
section
variable {P : Program} {ti : TypeId -> Option TI}
def evRes (ti : TypeId -> Option TI) : List ResultVar -> AS -> Option (List AV)
 | [], _ => some []
 | .tmp t :: r, σ => match evRes ti r σ with
  | some l => some (σ.fr t :: l)
  | none => none
 | .cell a t :: r, σ => match evLoad ti σ.h t (σ.fr a), evRes ti r σ with
  | some x, some l => some (x :: l)
  | _, _ => none
theorem evRes_sound {σ : AS} : ∀ {rs : List ResultVar} {l : List AV}, evRes ti rs σ = some l -> ∀ k : List AV -> Prop, k l -> resA ti rs σ k
 | [], l, h, k, hk => by injection h with h; subst h; exact hk
 | .tmp t :: r, l, h, k, hk => by
  unfold evRes at h
  unfold resA
  rw [frc_eq]
  split at h
  ·rename_i hr
   injection h with h; subst h
   exact evRes_sound hr _ hk
  ·cases h
 | .cell a t :: r, l, h, k, hk => by
  unfold evRes at h
  unfold resA
  split at h
  ·rename_i hx hr
   injection h with h; subst h
   refine evLoad_sound hx ?_
   rw [frc_eq]
   exact evRes_sound hr _ hk
  ·cases h
def isRet : Exit -> Bool
 | .normal => true
 | .ret => true
 | _ => false
def depthOf (n : Nat) : Nat := Nat.log2 n + 2
def evFn (ti : TypeId -> Option TI) (C : CF) (Q : CQ) (fuel : Nat) (fn : Func) (args : List AV) (H : AH) : EV := match fn.body with
 | some c => match Nat.ble args.length fn.ntmps && !(fn.name == "runtime.NumGoroutine") && hasAll (Fr.of (depthOf fn.ntmps) (frArgs args)) args.length with
  | true => match evC ti C Q fn.ntmps fuel c (Fr.of (depthOf fn.ntmps) (frArgs args)) H with
   | some (e, fr', H') => match isRet e with
    | true => match evRes ti fn.results.toList ⟨fr'.get, H'⟩ with
     | some l => some (tupOf l, H')
     | none => none
    | false => none
   | none => none
  | false => none
 | none => none
def evBody (P : Program) (ti : TypeId -> Option TI) (C : CF) (Q : CQ) (fuel : Nat) (f : FuncId) (args : List AV) (H : AH) : EV := match P.funcs[f]? with
 | some fn => evFn ti C Q fuel fn args H
 | none => none
theorem evBody_gen {C : CF} {Q : CQ} (hT : TabOK P ti) (hm : P.follows .mixedOrders = true) (hC : C.ok P) (hQ : Q.ok P) {fuel : Nat} {f : FuncId} {args : List AV} {H : AH} {r : AV} {H' : AH} (h : evBody P ti C Q fuel f args H = some (r, H'))
  {K : AV -> AH -> Prop} (hK : ∀ fr, RetK ti H.length ⟨fr, H'⟩ r K) : ACall P f args H K := by
 unfold evBody at h
 split at h
 ·rename_i fn hf
  unfold evFn at h
  split at h
  ·rename_i c hb
   split at h
   ·rename_i hd
    simp only [Bool.and_eq_true, Bool.not_eq_true'] at hd
    split at h
    ·rename_i e fr' H1 hc
     split at h
     ·rename_i he
      split at h
      ·rename_i l hr
       injection h with h; injection h with h1 h2; subst h1; subst h2
       refine acall_enter hf hb hd.1.2 hT hd.1.1 ?_
       have := evC_sound (k0 := H.length) hm hC hQ hc (wpRet ti fn.results.toList H.length K) ?_
       ·rw [Fr.of_args hd.2] at this
        exact this
       ·have h9 : resA ti fn.results.toList ⟨fr'.get, H1⟩ fun l => RetK ti H.length ⟨fr'.get, H1⟩ (tupOf l) K := evRes_sound hr _ (hK _)
        cases e <;> first | exact h9 | cases he
      ·cases h
     ·cases h
    ·cases h
   ·cases h
  ·cases h
 ·cases h
theorem evBody_sound {C : CF} {Q : CQ} (hT : TabOK P ti) (hm : P.follows .mixedOrders = true) (hC : C.ok P) (hQ : Q.ok P) {fuel : Nat} {f : FuncId} {args : List AV} {H : AH} {r : AV} {H' : AH} (h : evBody P ti C Q fuel f args H = some (r, H'))
  {K : AV -> AH -> Prop} (hK : K r H') : ACall P f args H K := evBody_gen hT hm hC hQ h fun _ => .raw _ _ _ hK
def bufIds (H : AH) : AV -> List Nat
 | .tup l => l.flatMap (avIds H)
 | x => avIds H x
def isP : AV -> Bool
 | .p _ => true
 | _ => false
def pureA : AV -> Bool
 | .p _ => true
 | .tup l => l.all isP
 | _ => false
theorem renL_p {ρ : Nat -> Nat} : ∀ {l : List AV}, l.all isP = true -> renL ρ l = l /\ wfL 0 l = true
 | [], _ => ⟨rfl, rfl⟩
 | .p x :: r, h => by
  simp only [List.all_cons, Bool.and_eq_true] at h
  obtain ⟨h1, h2⟩ := renL_p (ρ := ρ) h.2
  exact ⟨by unfold renL; rw [h1]; rfl, by unfold wfL; rw [h2]; rfl⟩
theorem pureA_ren {ρ : Nat -> Nat} {r : AV} (h : pureA r = true) : r.ren ρ = r /\ r.wf 0 = true := by
 unfold pureA at h
 split at h
 ·exact ⟨rfl, rfl⟩
 ·obtain ⟨h1, h2⟩ := renL_p (ρ := ρ) h
  exact ⟨by unfold AV.ren; rw [h1], by unfold AV.wf; exact h2⟩
 ·cases h
abbrev PF := FuncId -> List AV -> Option AV
def PF.ok (P : Program) (U : PF) : Prop := ∀ f args r, U f args = some r -> ACall P f args [] fun r' H' => r' = r /\ H' = []
def retP (H' : AH) (r : AV) : Option AV := match r with
 | .sub id lo hi => match H'[id]? with
  | some (some (.buf _ nl xs)) => some (.p (.list nl ((xs.take hi).drop lo)))
  | _ => none
 | _ => match pureA (thawT (frzAll H' (bufIds H' r)) r) with
  | true => some (thawT (frzAll H' (bufIds H' r)) r)
  | false => none
def evBodyP (P : Program) (ti : TypeId -> Option TI) (C : CF) (Q : CQ) (fuel : Nat) (f : FuncId) (args : List AV) : Option AV := match evBody P ti C Q fuel f args [] with
 | some (r, H') => retP H' r
 | none => none
theorem evBodyP_sound {C : CF} {Q : CQ} (hT : TabOK P ti) (hm : P.follows .mixedOrders = true) (hC : C.ok P) (hQ : Q.ok P) {fuel : Nat} : PF.ok P (evBodyP P ti C Q fuel) := by
 intro f args r h
 unfold evBodyP at h
 split at h
 ·rename_i r0 H' hb
  unfold retP at h
  split at h
  ·rename_i id lo hi
   split at h
   ·rename_i e nl xs hl
    injection h with h; subst h
    refine evBody_gen hT hm hC hQ hb fun fr => .subz _ id lo hi e nl xs _ hl ?_
    exact .mk _ _ _ [] _ [] rfl rfl trivial rfl rfl ⟨rfl, rfl⟩
   ·cases h
  ·split at h
   ·rename_i hp
    injection h with h; subst h
    refine evBody_gen hT hm hC hQ hb fun fr => .frz _ _ _ (bufIds H' r0) ?_
    exact .mk _ _ _ [] _ [] rfl (pureA_ren hp).1.symm trivial rfl (by rw [show ([] : AH).length = 0 from rfl, (pureA_ren (ρ := id) hp).2]; rfl) ⟨rfl, rfl⟩
   ·cases h
 ·cases h
def look (f : FuncId) (args : List AV) : List (FuncId × List AV × AV) -> Option AV
 | [] => none
 | (g, as_, r) :: t => match Nat.beq g f with
  | true => match eqAL as_ args with
   | true => some r
   | false => look f args t
  | false => look f args t
def tabOk (P : Program) (tab : List (FuncId × List AV × AV)) : Prop := ∀ e ∈ tab, ACall P e.1 e.2.1 [] fun r' H' => r' = e.2.2 /\ H' = []
theorem look_sound {f : FuncId} {args : List AV} {r : AV} : ∀ {tab : List (FuncId × List AV × AV)}, tabOk P tab -> look f args tab = some r -> ACall P f args [] fun r' H' => r' = r /\ H' = []
 | [], _, h => by cases h
 | (g, as_, r0) :: t, ht, h => by
  unfold look at h
  split at h
  ·rename_i hg
   split at h
   ·rename_i ha
    injection h with h; subst h
    have := ht _ (List.mem_cons_self ..)
    simp only [Nat.eq_of_beq_eq_true hg, eqAL_eq ha] at this
    exact this
   ·exact look_sound (fun e he => ht e (List.mem_cons_of_mem _ he)) h
  ·exact look_sound (fun e he => ht e (List.mem_cons_of_mem _ he)) h
def cqOf (U : PF) : CQ := fun f args H => match U f (toLocL H [] true args) with
 | some (.p (.v x)) => some x
 | _ => none
theorem cqOf_ok {U : PF} (hU : U.ok P) : (cqOf U).ok P := by
 intro f args H v h K hK
 unfold cqOf at h
 split at h
 ·rename_i hx
  injection h with h; subst h
  exact ⟨_, hU _ _ _ hx, hK⟩
 ·cases h
def flatAB : AV -> Bool
 | .p x => x.flatb
 | .tup l => l.all fun y => match y with
  | .p x => x.flatb
  | _ => false
 | _ => false
theorem flatAB_flat {r : AV} (h : flatAB r = true) : r.flat /\ ∀ ρ, r.ren ρ = r := by
 unfold flatAB at h
 split at h
 ·exact ⟨flat_ofB h, fun _ => rfl⟩
 ·rename_i l
  have key : ∀ l : List AV, (l.all fun y => match y with
    | .p x => x.flatb
    | _ => false) = true -> flatL l /\ ∀ ρ, renL ρ l = l := by
   intro l
   induction l with
   | nil => exact fun _ => ⟨trivial, fun _ => rfl⟩
   | cons y r ih =>
    intro h
    simp only [List.all_cons, Bool.and_eq_true] at h
    obtain ⟨h1, h2⟩ := h
    obtain ⟨h3, h4⟩ := ih h2
    split at h1
    ·exact ⟨⟨flat_ofB h1, h3⟩, fun ρ => by unfold renL; rw [h4]; rfl⟩
    ·cases h1
  obtain ⟨h1, h2⟩ := key l h
  exact ⟨h1, fun ρ => by unfold AV.ren; rw [h2]⟩
 ·cases h
def callBy (mode : Nat) (W : CF) (U : PF) : CF := fun f args H => match mode with
 | 0 => W f args H
 | 1 => match U f (toLocL H [] true args) with
  | some r => match flatAB r with
   | true => some (r, H)
   | false => none
  | none => none
 | _ => match U f (toLocL (frzAll H (args.flatMap (avIds H))) [] false args) with
  | some r => match pureA r with
   | true => some (r, frzAll H (args.flatMap (avIds H)))
   | false => none
  | none => none
theorem backH_nil (H : AH) : backH H [] [] = H := by simp [backH, setIds, renH]
theorem callBy_ok {mode : Nat} {W : CF} {U : PF} (hW : W.ok P) (hU : U.ok P) : (callBy mode W U).ok P := by
 intro f args H v H' h K hK
 unfold callBy at h
 split at h
 ·exact hW _ _ _ _ _ h K hK
 ·split at h
  ·rename_i r hr
   split at h
   ·rename_i hf
    injection h with h; injection h with h1 h2; subst h1; subst h2
    obtain ⟨h3, h4⟩ := flatAB_flat hf
    refine .lend ((hU _ _ _ hr).mono ?_)
    rintro r' H' ⟨rfl, rfl⟩
    refine ⟨h3, trivial, ?_⟩
    rw [h4]
    simpa [renH] using hK
   ·cases h
  ·cases h
 ·split at h
  ·rename_i r hr
   split at h
   ·rename_i hf
    injection h with h; injection h with h1 h2; subst h1; subst h2
    refine .loc [] (args.flatMap (avIds H)) rfl rfl ((hU _ _ _ hr).mono ?_)
    rintro r' H' ⟨rfl, rfl⟩
    rw [(pureA_ren hf).1, backH_nil]
    exact hK
   ·cases h
  ·cases h
abbrev XF := FuncId -> List AV -> Option AV
def XF.ok (P : Program) (X : XF) : Prop := ∀ f args v, X f args = some v -> ExtA P f args v
theorem two_args {args : List AV} {x y : Value} {P : Program} {H : AH} {m : Nat -> Value} {S : Nat -> Prop} {w : World} {vals : Array Value} (ha : args = [.p (.v x), .p (.v y)]) (hl : vals.size = args.length)
  (hr : ∀ (j : Nat) (x : AV), args[j]? = some x -> Rd P H m S w x (vals.getD j undef)) : vals = #[x, y] := by
 subst ha
 obtain ⟨l⟩ := vals
 match l, hl with
 | [a, b], _ =>
  have h0 := hr 0 _ rfl
  have h1 := hr 1 _ rfl
  have e0 : a = x := by cases h0 with | p _ _ h => cases h; rfl
  have e1 : b = y := by cases h1 with | p _ _ h => cases h; rfl
  rw [e0, e1]
theorem ExtA.indexByte {P : Program} {f : FuncId} {fn : Func} (hf : P.funcs[f]? = some fn) (hname : (fn.name == "runtime.NumGoroutine") = false) (hb : fn.body.isNone = true) (hn : Extern.findNext fn = none) (he : Extern.find fn = some Extern.BytealgIndexByte.indexByte) (s : ByteArray) (c : Int) :
  ExtA P f [.p (.v (.string s)), .p (.v (.int .u8 c))] (.p (.v (.int .i64 (Lib.indexByte s.data.toList c.toNat.toUInt8)))) :=
 ⟨fun H m S w vals hp hl hr => by
  rw [two_args rfl hl hr, run_callFunc_extern hf hname hb hn he, Lib.run_indexByteString]
  exact ⟨_, rfl, .p _ _ (.v _ rfl)⟩⟩
theorem ExtA.count {P : Program} {f : FuncId} {fn : Func} (hf : P.funcs[f]? = some fn) (hname : (fn.name == "runtime.NumGoroutine") = false) (hb : fn.body.isNone = true) (hn : Extern.findNext fn = none) (he : Extern.find fn = some Extern.BytealgCount.count) (s : ByteArray) (c : Int) :
  ExtA P f [.p (.v (.string s)), .p (.v (.int .u8 c))] (.p (.v (.int .i64 (Lib.countByte s.data.toList c.toNat.toUInt8 : Nat)))) :=
 ⟨fun H m S w vals hp hl hr => by
  rw [two_args rfl hl hr, run_callFunc_extern hf hname hb hn he, Lib.run_countString]
  exact ⟨_, rfl, .p _ _ (.v _ rfl)⟩⟩
def orExt (X : XF) (C : CF) : CF := fun f args H => match X f args with
 | some v => some (v, H)
 | none => C f args H
theorem orExt_ok {P : Program} {X : XF} {C : CF} (hX : X.ok P) (hC : C.ok P) : (orExt X C).ok P := by
 intro f args H v H' h K hK
 unfold orExt at h
 split at h
 ·rename_i hx
  injection h with h; injection h with h1 h2; subst h1; subst h2
  exact .ext _ (hX _ _ _ hx) hK
 ·exact hC _ _ _ _ _ h K hK
def evPair (P : Program) (ti : TypeId -> Option TI) (X : XF) (fuel : Nat) (mode : FuncId -> Nat) (tab : List (FuncId × List AV × AV)) : Nat -> PF × CF
 | 0 => (fun _ _ => none, fun _ _ _ => none)
 | n + 1 =>
  (fun f args => match look f args tab with
   | some r => some r
   | none => evBodyP P ti (evPair P ti X fuel mode tab n).2 (cqOf (evPair P ti X fuel mode tab n).1) fuel f args,
    orExt X fun f args H => callBy (mode f) (evBody P ti (evPair P ti X fuel mode tab n).2 (cqOf (evPair P ti X fuel mode tab n).1) fuel)
   (fun f args => match look f args tab with
   | some r => some r
   | none => evBodyP P ti (evPair P ti X fuel mode tab n).2 (cqOf (evPair P ti X fuel mode tab n).1) fuel f args) f args H)
theorem evPair_ok (hT : TabOK P ti) (hm : P.follows .mixedOrders = true) {X : XF} (hX : X.ok P) {fuel : Nat} {mode : FuncId -> Nat} {tab : List (FuncId × List AV × AV)} (ht : tabOk P tab) : ∀ n, (evPair P ti X fuel mode tab n).1.ok P /\ (evPair P ti X fuel mode tab n).2.ok P
 | 0 => ⟨fun _ _ _ h => (by cases h), fun _ _ _ _ _ h => (by cases h)⟩
 | n + 1 => by
  obtain ⟨h1, h2⟩ := evPair_ok hT hm hX (fuel := fuel) (mode := mode) ht n
  have hU : PF.ok P (evPair P ti X fuel mode tab (n + 1)).1 := by
   intro f args r h
   simp only [evPair] at h
   split at h
   ·rename_i hl
    injection h with h; subst h
    exact look_sound ht hl
   ·exact evBodyP_sound hT hm h2 (cqOf_ok h1) _ _ _ h
  refine ⟨hU, orExt_ok hX fun f args H v H' h K hK => ?_⟩
  exact callBy_ok (W := evBody P ti (evPair P ti X fuel mode tab n).2 (cqOf (evPair P ti X fuel mode tab n).1) fuel) (U := (evPair P ti X fuel mode tab (n + 1)).1)
   (fun _ _ _ _ _ h K hK => .all (evBody_sound hT hm h2 (cqOf_ok h1) h hK)) hU _ _ _ _ _ h K hK
theorem ev_acall (hT : TabOK P ti) (hm : P.follows .mixedOrders = true) {X : XF} (hX : X.ok P) {fuel : Nat} {mode : FuncId -> Nat} {tab : List (FuncId × List AV × AV)} (ht : tabOk P tab) (n : Nat) {f : FuncId} {args : List AV} {r : AV} (h : (evPair P ti X fuel mode tab n).1 f args = some r) :
  ACall P f args [] fun r' H' => r' = r /\ H' = [] := (evPair_ok hT hm hX ht n).1 _ _ _ h
end
end Go.Abs
namespace Go.Proofs.YtnhifaofkndclaaGreatDoor
open Go.Abs
set_option maxRecDepth 100000
def xf (f : FuncId) (args : List AV) : Option AV := match args with
 | [.p (.v (.string s)), .p (.v (.int .u8 c))] => match Nat.beq f 224 with
  | true => some (.p (.v (.int .i64 (Lib.indexByte s.data.toList c.toNat.toUInt8))))
  | false => match Nat.beq f 243 with
   | true => some (.p (.v (.int .i64 (Lib.countByte s.data.toList c.toNat.toUInt8 : Nat))))
   | false => none
 | _ => none
theorem xf_ok : XF.ok Tryz.prog xf := by
 intro f args v h
 unfold xf at h
 split at h
 ·split at h
  ·rename_i hf
   have hf := Nat.eq_of_beq_eq_true hf
   subst hf
   injection h with h; subst h
   exact ExtA.indexByte Tryz.func224 (by kernel_rfl) (by kernel_rfl) (by kernel_rfl) (by kernel_rfl) _ _
  ·split at h
   ·rename_i hf
    have hf := Nat.eq_of_beq_eq_true hf
    subst hf
    injection h with h; subst h
    exact ExtA.count Tryz.func243 (by kernel_rfl) (by kernel_rfl) (by kernel_rfl) (by kernel_rfl) _ _
   ·cases h
 ·cases h
theorem mixed : Tryz.prog.follows .mixedOrders = true := by kernel_rfl
open Go.Abs
theorem gpI {P : Prop} (h : P := by
 (first | ((first | apply AppA.snoc (f := pI) (a := _) rfl | apply AppA.one (f := pI) (a := _) rfl); (first | omega | (simp only [lenS] at *; omega) | grind)) | apply IsL.set (f := pI) (a := _) rfl | apply IsL.rep (f := pI) (a := _) rfl | apply IsL.lit (f := pI) [] rfl | apply IsL.lit (f := pI) [_] rfl | apply IsL.lit (f := pI) [_, _] rfl | apply IsL.lit (f := pI) [_, _, _] rfl) <;> (solve_by_elim (newGoals := .nonDependentOnly) (symm := false) (exfalso := false) (transparency := .reducible) only [rfl, park_])) : P := h
theorem park_ {P : Prop} (x : P) (_ : x = x) : P := x
theorem ar_ {P : Prop} (h : P := by (first | omega | (simp only [lenS] at *; omega) | grind)) : P := h
theorem ar2_ {P : Prop} (h : P := by (first | omega | (simp only []; omega) | (simp; omega) | (first | omega | (simp only [lenS] at *; omega) | grind))) : P := h
theorem gC {P : Prop} (h : P := by
 (first | ((first | apply LenA.map | apply NilA.map | apply NilA.mk); intro _) | ((first | apply NW.as | apply ValA.as); with_reducible assumption) | ((first | apply NW.i64 | apply NW.u32 | apply NW.u64 | apply NW.u8 | apply InA.nat | apply InA.map | apply CutA.lo | apply CutA.hi); (first | omega | (simp only [lenS] at *; omega) | grind)) | ((first | (apply RemA.as; assumption) | apply RemA.self); (first | omega | (simp only [lenS] at *; omega) | grind)) | (apply ValA.as; assumption) | apply ValA.self | (apply NW.as; assumption) | (apply SzA.map; (intro _; rfl)) | with_reducible apply br_pt | with_reducible apply br_pf | with_reducible apply br_mt | with_reducible apply br_mf | apply Both.mk | ((first | apply br_T | apply br_F | apply br_mT | apply br_mF); assumption) | ((first | apply br_lss | apply br_leq | apply br_gtr | apply br_geq | apply br_dec | apply br_beq | apply br_bne | apply br_beqB | apply br_bneB | apply br_not | apply br_m | apply br_intro) <;> intro h0 <;> first | (exfalso; first | omega | exact tf h0 (by assumption) | exact tf (by assumption) h0 | exact h0 (by assumption) | exact h0 rfl | exact of_decide_eq_false h0 rfl) | skip) | refine ArrA.mk _ rfl rfl ?_ | (apply IdxA.lit; omega; exact rfl) | ((first | apply IdxA.of_nat | (apply IdxA.of_map; (first | omega | (simp only [lenS] at *; omega) | grind))); rotate_left; (first | omega | (simp only [lenS] at *; omega) | grind)) | apply AppC.own | apply CutO.part | (apply And.intro; (first | with_reducible rfl | (show (_ : AV) = _; rfl) | (first | omega | (simp only [lenS] at *; omega) | grind)))) <;> (solve_by_elim (newGoals := .nonDependentOnly) (symm := false) (exfalso := false) (transparency := .reducible) only [rfl, park_])) : P := h
theorem gE {P : Prop} (h : P := by
 ((first | apply AppA.map | apply AppA.nil); (first | omega | (simp only [lenS] at *; omega) | grind)) <;> (solve_by_elim (newGoals := .nonDependentOnly) (symm := false) (exfalso := false) (transparency := .reducible) only [rfl, park_])) : P := h
theorem fin_ {P : Prop} (h : P := by
 (repeat' (first | exact trivial | refine And.intro ?_ ?_ | with_reducible rfl | (refine pIEq ?_; exact ar_) | (refine bufMap ?_) | (refine bufNil ?_) | (refine bufEq ?_) | rfl)) <;> (solve_by_elim (newGoals := .nonDependentOnly) (symm := false) (exfalso := false) (transparency := .reducible) only [rfl, park_])) : P := h
open Go.Abs
set_option maxRecDepth 100000
theorem tmod_range (x n : Int) (h : 0 < n) : x.tmod n < n /\ -n < x.tmod n := ⟨Int.tmod_lt_of_pos x h, Int.lt_tmod_of_pos x h⟩
def modI (x n : Int) : Int := if n < 1 then 0 else if x.tmod n < 0 then x.tmod n + n else x.tmod n
theorem modI_range (x n : Int) : 0 <= modI x n /\ (modI x n < n \/ modI x n = 0) := by
 unfold modI
 split
 ·omega
 ·have h1 := tmod_range x n (by omega)
  split <;> omega
theorem yea1d {P : Prop} (h : P := by
 ((conv => whnf); repeat' ((first | apply CondA.plain | refine' gC | refine' gpI | refine' gpB | refine' gE | (apply DrawA.quiet (by kernel_rfl) (by kernel_rfl); (conv => whnf); fail_if_success (show False))) <;> (conv => whnf))) <;> (solve_by_elim (newGoals := .nonDependentOnly) (symm := false) (exfalso := false) (transparency := .reducible) only [rfl, park_])) : P := h
theorem Mod_call (x n : Int) (hn : n <= 4611686018427387904) : ACall Tryz.prog 81 [.p (pI x), .p (pI n)] [] fun r H => r = .p (pI (modI x n)) /\ H = [] := by
 refine acall_enter Tryz.func81 rfl rfl tabOK rfl ?_
 have h1 : ¬ n < 1 -> x.tmod n < n := fun h => (tmod_range x n (by omega)).1
 have h2 : ¬ n < 1 -> -n < x.tmod n := fun h => (tmod_range x n (by omega)).2
 refine' yea1d
 all_goals refine RetK.p ⟨?_, rfl⟩
 ·rw [modI, if_pos (by omega)]; rfl
 ·rw [modI, if_neg (by omega), if_pos (by omega)]; rfl
 ·rw [modI, if_neg (by omega), if_neg (by omega)]; rfl
def src (nl : Bool) (ts : List Int) (i : Nat) : AH := [some (.cells [.p (.list nl (ts.map pI)), .p (pI i)])]
theorem Raw_call (nl : Bool) (ts : List Int) (i : Nat) (h : i <= ts.length) :
  ACall Tryz.prog 82 [.ptr 0 0] (src nl ts i) fun r H => ∃ v i', i' <= ts.length /\ r = .p (pI v) /\ H = src nl ts i' := by
 refine acall_enter Tryz.func82 rfl rfl tabOK rfl ?_
 refine' yea1d
 ·(refine' RetK.auto (.p (pI 0)) (src nl ts i) rfl rfl rfl rfl _ _ _ <;> refine' fin_)
  exact ⟨0, i, h, rfl, rfl⟩
 ·(refine' RetK.auto (.p (pI ts[((i : Int) + 1 - 1).toNat])) (src nl ts (i + 1)) rfl rfl rfl rfl _ _ _ <;> refine' fin_)
  exact ⟨_, i + 1, by omega, rfl, rfl⟩
theorem N_call (nl : Bool) (ts : List Int) (i : Nat) (h : i <= ts.length) (n : Int) (hn : n <= 4611686018427387904) :
  ACall Tryz.prog 37 [.ptr 0 0, .p (pI n)] (src nl ts i) fun r H => ∃ v i', 0 <= v /\ (v < n \/ v = 0) /\ i' <= ts.length /\ r = .p (pI v) /\ H = src nl ts i' := by
 refine acall_enter Tryz.func37 rfl rfl tabOK rfl ?_
 refine' yea1d
 refine CallA.all ((Raw_call nl ts i h).mono ?_)
 rintro r H ⟨v, i', hi', rfl, rfl⟩
 (conv => whnf); repeat' ((first | refine' zea1d | (refine CallA.scalar (Mod_call v n hn) ?_)) <;> (conv => whnf))
 have hr := modI_range v n
 (refine' RetK.auto (.p (pI (modI v n))) (src nl ts i') rfl rfl rfl rfl _ _ _ <;> refine' fin_)
 exact ⟨_, i', hr.1, hr.2, hi', rfl, rfl⟩
theorem Range_call (nl : Bool) (ts : List Int) (i : Nat) (h : i <= ts.length) (lo hi : Int) (h1 : -1152921504606846976 <= lo /\ lo <= 1152921504606846976) (h2 : -1152921504606846976 <= hi /\ hi <= 1152921504606846976) :
  ACall Tryz.prog 90 [.ptr 0 0, .p (pI lo), .p (pI hi)] (src nl ts i) fun r H => ∃ v i', lo <= v /\ (v <= hi \/ v = lo) /\ i' <= ts.length /\ r = .p (pI v) /\ H = src nl ts i' := by
 refine acall_enter Tryz.func90 rfl rfl tabOK rfl ?_
 refine' yea1d
 refine CallA.all ((N_call nl ts i h _ (by omega)).mono ?_)
 rintro r H ⟨v, i', hv, hv2, hi', rfl, rfl⟩
 refine' yea1d
 (refine' RetK.auto (.p (pI (lo + v))) (src nl ts i') rfl rfl rfl rfl _ _ _ <;> refine' fin_)
 exact ⟨_, i', by omega, by omega, hi', rfl, rfl⟩
theorem Pick_call (nl nl2 : Bool) (ts : List Int) (i : Nat) (h : i <= ts.length) (xs : List Int) (h0 : 0 < xs.length) (h1 : xs.length <= 1000000) :
  ACall Tryz.prog 93 [.ptr 0 0, .p (.list nl2 (xs.map pI))] (src nl ts i) fun r H => ∃ v i', v ∈ xs /\ i' <= ts.length /\ r = .p (pI v) /\ H = src nl ts i' := by
 refine acall_enter Tryz.func93 rfl rfl tabOK rfl ?_
 refine' yea1d
 refine CallA.loc [0] [] rfl rfl ((N_call nl ts i h _ (by omega)).mono ?_)
 rintro r H ⟨v, i', hv, hv2, hi', rfl, rfl⟩
 refine' yea1d
 (refine' RetK.auto (.p (pI (xs[v.toNat]'(by omega)))) (src nl ts i') rfl rfl rfl rfl _ _ _ <;> refine' fin_)
 exact ⟨_, i', List.getElem_mem _, hi', rfl, rfl⟩
theorem New_call (nl : Bool) (ts : List Int) : ACall Tryz.prog 4 [.p (.list nl (ts.map pI))] [] fun r H => ∃ ts', r = .ptr 0 0 /\ H = src nl ts' 0 := by
 refine acall_enter Tryz.func4 rfl rfl tabOK rfl ?_
 refine' yea1d
 (refine' RetK.auto (.ptr 0 0) (src nl ((ts.take (if (500 : Int) < (ts.length : Int) then 500 else (ts.length : Int)).toNat)) 0) rfl rfl rfl rfl _ _ _ <;> refine' fin_)
 exact ⟨_, rfl, rfl⟩
end Go.Proofs.YtnhifaofkndclaaGreatDoor
