/- PART 2 OF WHAT THE LAW EngineBusy STANDS ON: TX5, NodF5, BitsF5, EvJ, EvK, EvL, FunF5, FunA5, FunB5, FunC5, FunD5, MemF5, MemC5, TabF5, TabC5, TabD5. Conditions: each part names its own. -/
import Derived.Test.YtnofenejoebkhaaGreatG1
import Derived.Test.YtnofenejoebkhaaGreatProg
import Derived.Laws.OwnMore
import Derived.WalkKit
import Derived.ProofKit
import Derived.OpenShut
import Derived.Carry
import Derived.Deep.Slices
import Derived.Laws.AppendOwn
/- PRINTED BY PROGRAM: the functions that calls may reach, each with a body or one of the atomic accesses. Conditions: none. -/
namespace Go.Proofs.YtnofenejoebkhaaGreat.Ev
open Go
def X : List (Nat × Ext) := [(2, .go), (3, .go), (4, .go), (5, .go), (6, .go), (7, .go), (8, .go), (9, .go), (10, .go), (11, .go), (12, .go), (13, .go), (14, .go), (15, .go), (16, .go), (17, .go), (18, .go), (19, .go), (20, .go), (21, .go), (22, .go), (23, .go), (24, .go), (25, .go), (26, .go), (27, .go), (28, .go), (29, .go), (30, .go), (31, .go), (32, .go), (33, .go), (34, .go), (35, .go), (36, .go), (37, .go), (38, .go), (39, .go), (40, .go), (41, .go), (42, .go), (43, .go), (44, .go), (45, .go), (46, .go), (47, .go), (48, .go), (49, .go), (50, .go), (51, .go), (52, .go), (53, .go), (54, .go), (55, .go), (56, .go), (57, .go), (58, .go), (59, .go), (60, .go), (61, .go), (62, .go), (63, .go), (64, .go), (65, .go), (66, .go), (67, .go), (68, .go), (69, .go), (70, .go), (71, .go), (72, .go), (73, .go), (74, .go), (75, .go), (76, .go), (77, .go), (78, .go), (79, .go), (80, .go), (81, .go), (82, .go), (83, .go), (84, .go), (85, .go), (86, .go), (87, .go), (88, .go), (89, .go), (90, .go), (91, .go), (92, .go), (93, .go), (94, .go), (95, .go), (96, .go), (97, .go), (98, .go), (99, .go), (100, .go), (101, .go), (102, .go), (103, .go), (104, .go), (105, .go), (106, .go), (107, .go), (108, .go), (109, .go), (110, .go), (111, .go), (112, .go), (113, .go), (114, .go), (115, .go), (116, .go), (117, .go), (118, .go), (119, .go), (120, .go), (121, .go), (122, .go), (123, .go), (124, .go), (125, .go), (126, .go), (127, .go), (128, .go), (129, .go), (130, .go), (131, .go), (132, .go), (133, .go), (134, .go), (135, .go), (136, .go), (137, .go), (138, .go), (139, .go), (140, .go), (141, .go), (142, .go), (143, .go), (144, .go), (145, .go), (146, .go), (147, .go), (148, .go), (149, .go), (150, .go), (151, .go), (152, .go), (153, .go), (154, .go), (155, .go), (156, .go), (157, .go), (158, .go), (159, .go), (160, .go), (161, .go), (162, .go), (163, .go), (164, .go), (165, .go), (166, .go), (167, .go), (168, .go), (169, .go), (170, .go), (171, .go), (172, .go), (173, .go), (174, .go), (175, .go), (176, .go), (177, .go), (178, .go), (179, .go), (180, .go), (181, .go), (182, .go), (183, .go), (184, .go), (185, .go), (186, .go), (187, .go), (188, .go), (189, .go), (190, .go), (191, .go), (192, .go), (193, .go), (194, .go), (195, .go), (196, .go), (197, .go), (198, .go), (199, .go), (200, .go), (201, .go), (202, .go), (203, .go), (204, .go), (205, .go), (206, .go), (207, .go), (208, .go), (209, .go), (210, .go), (211, .go), (212, .go), (213, .go), (214, .go), (215, .go), (216, .go), (217, .go), (218, .go), (219, .go), (220, .go), (221, .go), (222, .go), (223, .go), (224, .go), (225, .go), (226, .go), (227, .go), (228, .go), (229, .go), (230, .go), (231, .go), (232, .go), (233, .go), (234, .go), (235, .go), (236, .go), (237, .go), (238, .go), (239, .go), (240, .go), (241, .go), (242, .go), (243, .go), (244, .go), (245, .go), (246, .go), (247, .go), (248, .load .u64), (249, .cas .u64), (250, .add .i64), (251, .go), (252, .go), (253, .go), (254, .go), (255, .go), (256, .go), (257, .go), (258, .go), (259, .go), (260, .go), (261, .go), (262, .go), (263, .go), (264, .go), (265, .go), (266, .go), (267, .go), (268, .go), (269, .go), (270, .go), (271, .go), (272, .go), (273, .go), (274, .go), (275, .go), (276, .go), (277, .go), (278, .go), (279, .go), (280, .go), (281, .go), (282, .go), (283, .go), (284, .go), (285, .go), (286, .go), (287, .go), (288, .go), (289, .go), (290, .go), (291, .go), (292, .go), (293, .go), (294, .go), (295, .go), (296, .go), (297, .go), (298, .go), (299, .go), (300, .go), (301, .go), (302, .go), (303, .go), (304, .go), (305, .go), (306, .go), (307, .go), (308, .go), (309, .go), (310, .go), (311, .go), (312, .go), (313, .go), (314, .go), (315, .go), (316, .go), (317, .go), (318, .go), (319, .go), (320, .go), (321, .go), (322, .go), (323, .go), (324, .go), (325, .go), (326, .go), (327, .go), (328, .go), (329, .go), (330, .go), (331, .go), (332, .go), (333, .go), (334, .go), (335, .go), (336, .go), (337, .store), (338, .go), (339, .go), (340, .go), (341, .go), (342, .go), (343, .go), (344, .go), (345, .go), (346, .go), (347, .go), (348, .go), (349, .go), (350, .go), (351, .go), (352, .go), (353, .go), (354, .go), (355, .go), (356, .go), (357, .go), (358, .go), (359, .go), (360, .go), (361, .go), (362, .go), (363, .go), (364, .go), (365, .go), (366, .go), (367, .go), (368, .go), (369, .go), (370, .go), (388, .go), (391, .go), (392, .go), (395, .go), (397, .go), (398, .go), (399, .go), (400, .go)]
theorem x2 : ExtOk Tryz.prog 2 (.go) := ⟨Tryz.f2, Tryz.func2, by kernel_rfl, by kernel_rfl⟩
theorem x3 : ExtOk Tryz.prog 3 (.go) := ⟨Tryz.f3, Tryz.func3, by kernel_rfl, by kernel_rfl⟩
theorem x4 : ExtOk Tryz.prog 4 (.go) := ⟨Tryz.f4, Tryz.func4, by kernel_rfl, by kernel_rfl⟩
theorem x5 : ExtOk Tryz.prog 5 (.go) := ⟨Tryz.f5, Tryz.func5, by kernel_rfl, by kernel_rfl⟩
theorem x6 : ExtOk Tryz.prog 6 (.go) := ⟨Tryz.f6, Tryz.func6, by kernel_rfl, by kernel_rfl⟩
theorem x7 : ExtOk Tryz.prog 7 (.go) := ⟨Tryz.f7, Tryz.func7, by kernel_rfl, by kernel_rfl⟩
theorem x8 : ExtOk Tryz.prog 8 (.go) := ⟨Tryz.f8, Tryz.func8, by kernel_rfl, by kernel_rfl⟩
theorem x9 : ExtOk Tryz.prog 9 (.go) := ⟨Tryz.f9, Tryz.func9, by kernel_rfl, by kernel_rfl⟩
theorem x10 : ExtOk Tryz.prog 10 (.go) := ⟨Tryz.f10, Tryz.func10, by kernel_rfl, by kernel_rfl⟩
theorem x11 : ExtOk Tryz.prog 11 (.go) := ⟨Tryz.f11, Tryz.func11, by kernel_rfl, by kernel_rfl⟩
theorem x12 : ExtOk Tryz.prog 12 (.go) := ⟨Tryz.f12, Tryz.func12, by kernel_rfl, by kernel_rfl⟩
theorem x13 : ExtOk Tryz.prog 13 (.go) := ⟨Tryz.f13, Tryz.func13, by kernel_rfl, by kernel_rfl⟩
theorem x14 : ExtOk Tryz.prog 14 (.go) := ⟨Tryz.f14, Tryz.func14, by kernel_rfl, by kernel_rfl⟩
theorem x15 : ExtOk Tryz.prog 15 (.go) := ⟨Tryz.f15, Tryz.func15, by kernel_rfl, by kernel_rfl⟩
theorem x16 : ExtOk Tryz.prog 16 (.go) := ⟨Tryz.f16, Tryz.func16, by kernel_rfl, by kernel_rfl⟩
theorem x17 : ExtOk Tryz.prog 17 (.go) := ⟨Tryz.f17, Tryz.func17, by kernel_rfl, by kernel_rfl⟩
theorem x18 : ExtOk Tryz.prog 18 (.go) := ⟨Tryz.f18, Tryz.func18, by kernel_rfl, by kernel_rfl⟩
theorem x19 : ExtOk Tryz.prog 19 (.go) := ⟨Tryz.f19, Tryz.func19, by kernel_rfl, by kernel_rfl⟩
theorem x20 : ExtOk Tryz.prog 20 (.go) := ⟨Tryz.f20, Tryz.func20, by kernel_rfl, by kernel_rfl⟩
theorem x21 : ExtOk Tryz.prog 21 (.go) := ⟨Tryz.f21, Tryz.func21, by kernel_rfl, by kernel_rfl⟩
theorem x22 : ExtOk Tryz.prog 22 (.go) := ⟨Tryz.f22, Tryz.func22, by kernel_rfl, by kernel_rfl⟩
theorem x23 : ExtOk Tryz.prog 23 (.go) := ⟨Tryz.f23, Tryz.func23, by kernel_rfl, by kernel_rfl⟩
theorem x24 : ExtOk Tryz.prog 24 (.go) := ⟨Tryz.f24, Tryz.func24, by kernel_rfl, by kernel_rfl⟩
theorem x25 : ExtOk Tryz.prog 25 (.go) := ⟨Tryz.f25, Tryz.func25, by kernel_rfl, by kernel_rfl⟩
theorem x26 : ExtOk Tryz.prog 26 (.go) := ⟨Tryz.f26, Tryz.func26, by kernel_rfl, by kernel_rfl⟩
theorem x27 : ExtOk Tryz.prog 27 (.go) := ⟨Tryz.f27, Tryz.func27, by kernel_rfl, by kernel_rfl⟩
theorem x28 : ExtOk Tryz.prog 28 (.go) := ⟨Tryz.f28, Tryz.func28, by kernel_rfl, by kernel_rfl⟩
theorem x29 : ExtOk Tryz.prog 29 (.go) := ⟨Tryz.f29, Tryz.func29, by kernel_rfl, by kernel_rfl⟩
theorem x30 : ExtOk Tryz.prog 30 (.go) := ⟨Tryz.f30, Tryz.func30, by kernel_rfl, by kernel_rfl⟩
theorem x31 : ExtOk Tryz.prog 31 (.go) := ⟨Tryz.f31, Tryz.func31, by kernel_rfl, by kernel_rfl⟩
theorem x32 : ExtOk Tryz.prog 32 (.go) := ⟨Tryz.f32, Tryz.func32, by kernel_rfl, by kernel_rfl⟩
theorem x33 : ExtOk Tryz.prog 33 (.go) := ⟨Tryz.f33, Tryz.func33, by kernel_rfl, by kernel_rfl⟩
theorem x34 : ExtOk Tryz.prog 34 (.go) := ⟨Tryz.f34, Tryz.func34, by kernel_rfl, by kernel_rfl⟩
theorem x35 : ExtOk Tryz.prog 35 (.go) := ⟨Tryz.f35, Tryz.func35, by kernel_rfl, by kernel_rfl⟩
theorem x36 : ExtOk Tryz.prog 36 (.go) := ⟨Tryz.f36, Tryz.func36, by kernel_rfl, by kernel_rfl⟩
theorem x37 : ExtOk Tryz.prog 37 (.go) := ⟨Tryz.f37, Tryz.func37, by kernel_rfl, by kernel_rfl⟩
theorem x38 : ExtOk Tryz.prog 38 (.go) := ⟨Tryz.f38, Tryz.func38, by kernel_rfl, by kernel_rfl⟩
theorem x39 : ExtOk Tryz.prog 39 (.go) := ⟨Tryz.f39, Tryz.func39, by kernel_rfl, by kernel_rfl⟩
theorem x40 : ExtOk Tryz.prog 40 (.go) := ⟨Tryz.f40, Tryz.func40, by kernel_rfl, by kernel_rfl⟩
theorem x41 : ExtOk Tryz.prog 41 (.go) := ⟨Tryz.f41, Tryz.func41, by kernel_rfl, by kernel_rfl⟩
theorem x42 : ExtOk Tryz.prog 42 (.go) := ⟨Tryz.f42, Tryz.func42, by kernel_rfl, by kernel_rfl⟩
theorem x43 : ExtOk Tryz.prog 43 (.go) := ⟨Tryz.f43, Tryz.func43, by kernel_rfl, by kernel_rfl⟩
theorem x44 : ExtOk Tryz.prog 44 (.go) := ⟨Tryz.f44, Tryz.func44, by kernel_rfl, by kernel_rfl⟩
theorem x45 : ExtOk Tryz.prog 45 (.go) := ⟨Tryz.f45, Tryz.func45, by kernel_rfl, by kernel_rfl⟩
theorem x46 : ExtOk Tryz.prog 46 (.go) := ⟨Tryz.f46, Tryz.func46, by kernel_rfl, by kernel_rfl⟩
theorem x47 : ExtOk Tryz.prog 47 (.go) := ⟨Tryz.f47, Tryz.func47, by kernel_rfl, by kernel_rfl⟩
theorem x48 : ExtOk Tryz.prog 48 (.go) := ⟨Tryz.f48, Tryz.func48, by kernel_rfl, by kernel_rfl⟩
theorem x49 : ExtOk Tryz.prog 49 (.go) := ⟨Tryz.f49, Tryz.func49, by kernel_rfl, by kernel_rfl⟩
theorem x50 : ExtOk Tryz.prog 50 (.go) := ⟨Tryz.f50, Tryz.func50, by kernel_rfl, by kernel_rfl⟩
theorem x51 : ExtOk Tryz.prog 51 (.go) := ⟨Tryz.f51, Tryz.func51, by kernel_rfl, by kernel_rfl⟩
theorem x52 : ExtOk Tryz.prog 52 (.go) := ⟨Tryz.f52, Tryz.func52, by kernel_rfl, by kernel_rfl⟩
theorem x53 : ExtOk Tryz.prog 53 (.go) := ⟨Tryz.f53, Tryz.func53, by kernel_rfl, by kernel_rfl⟩
theorem x54 : ExtOk Tryz.prog 54 (.go) := ⟨Tryz.f54, Tryz.func54, by kernel_rfl, by kernel_rfl⟩
theorem x55 : ExtOk Tryz.prog 55 (.go) := ⟨Tryz.f55, Tryz.func55, by kernel_rfl, by kernel_rfl⟩
theorem x56 : ExtOk Tryz.prog 56 (.go) := ⟨Tryz.f56, Tryz.func56, by kernel_rfl, by kernel_rfl⟩
theorem x57 : ExtOk Tryz.prog 57 (.go) := ⟨Tryz.f57, Tryz.func57, by kernel_rfl, by kernel_rfl⟩
theorem x58 : ExtOk Tryz.prog 58 (.go) := ⟨Tryz.f58, Tryz.func58, by kernel_rfl, by kernel_rfl⟩
theorem x59 : ExtOk Tryz.prog 59 (.go) := ⟨Tryz.f59, Tryz.func59, by kernel_rfl, by kernel_rfl⟩
theorem x60 : ExtOk Tryz.prog 60 (.go) := ⟨Tryz.f60, Tryz.func60, by kernel_rfl, by kernel_rfl⟩
theorem x61 : ExtOk Tryz.prog 61 (.go) := ⟨Tryz.f61, Tryz.func61, by kernel_rfl, by kernel_rfl⟩
theorem x62 : ExtOk Tryz.prog 62 (.go) := ⟨Tryz.f62, Tryz.func62, by kernel_rfl, by kernel_rfl⟩
theorem x63 : ExtOk Tryz.prog 63 (.go) := ⟨Tryz.f63, Tryz.func63, by kernel_rfl, by kernel_rfl⟩
theorem x64 : ExtOk Tryz.prog 64 (.go) := ⟨Tryz.f64, Tryz.func64, by kernel_rfl, by kernel_rfl⟩
theorem x65 : ExtOk Tryz.prog 65 (.go) := ⟨Tryz.f65, Tryz.func65, by kernel_rfl, by kernel_rfl⟩
theorem x66 : ExtOk Tryz.prog 66 (.go) := ⟨Tryz.f66, Tryz.func66, by kernel_rfl, by kernel_rfl⟩
theorem x67 : ExtOk Tryz.prog 67 (.go) := ⟨Tryz.f67, Tryz.func67, by kernel_rfl, by kernel_rfl⟩
theorem x68 : ExtOk Tryz.prog 68 (.go) := ⟨Tryz.f68, Tryz.func68, by kernel_rfl, by kernel_rfl⟩
theorem x69 : ExtOk Tryz.prog 69 (.go) := ⟨Tryz.f69, Tryz.func69, by kernel_rfl, by kernel_rfl⟩
theorem x70 : ExtOk Tryz.prog 70 (.go) := ⟨Tryz.f70, Tryz.func70, by kernel_rfl, by kernel_rfl⟩
theorem x71 : ExtOk Tryz.prog 71 (.go) := ⟨Tryz.f71, Tryz.func71, by kernel_rfl, by kernel_rfl⟩
theorem x72 : ExtOk Tryz.prog 72 (.go) := ⟨Tryz.f72, Tryz.func72, by kernel_rfl, by kernel_rfl⟩
theorem x73 : ExtOk Tryz.prog 73 (.go) := ⟨Tryz.f73, Tryz.func73, by kernel_rfl, by kernel_rfl⟩
theorem x74 : ExtOk Tryz.prog 74 (.go) := ⟨Tryz.f74, Tryz.func74, by kernel_rfl, by kernel_rfl⟩
theorem x75 : ExtOk Tryz.prog 75 (.go) := ⟨Tryz.f75, Tryz.func75, by kernel_rfl, by kernel_rfl⟩
theorem x76 : ExtOk Tryz.prog 76 (.go) := ⟨Tryz.f76, Tryz.func76, by kernel_rfl, by kernel_rfl⟩
theorem x77 : ExtOk Tryz.prog 77 (.go) := ⟨Tryz.f77, Tryz.func77, by kernel_rfl, by kernel_rfl⟩
theorem x78 : ExtOk Tryz.prog 78 (.go) := ⟨Tryz.f78, Tryz.func78, by kernel_rfl, by kernel_rfl⟩
theorem x79 : ExtOk Tryz.prog 79 (.go) := ⟨Tryz.f79, Tryz.func79, by kernel_rfl, by kernel_rfl⟩
theorem x80 : ExtOk Tryz.prog 80 (.go) := ⟨Tryz.f80, Tryz.func80, by kernel_rfl, by kernel_rfl⟩
theorem x81 : ExtOk Tryz.prog 81 (.go) := ⟨Tryz.f81, Tryz.func81, by kernel_rfl, by kernel_rfl⟩
theorem x82 : ExtOk Tryz.prog 82 (.go) := ⟨Tryz.f82, Tryz.func82, by kernel_rfl, by kernel_rfl⟩
theorem x83 : ExtOk Tryz.prog 83 (.go) := ⟨Tryz.f83, Tryz.func83, by kernel_rfl, by kernel_rfl⟩
theorem x84 : ExtOk Tryz.prog 84 (.go) := ⟨Tryz.f84, Tryz.func84, by kernel_rfl, by kernel_rfl⟩
theorem x85 : ExtOk Tryz.prog 85 (.go) := ⟨Tryz.f85, Tryz.func85, by kernel_rfl, by kernel_rfl⟩
theorem x86 : ExtOk Tryz.prog 86 (.go) := ⟨Tryz.f86, Tryz.func86, by kernel_rfl, by kernel_rfl⟩
theorem x87 : ExtOk Tryz.prog 87 (.go) := ⟨Tryz.f87, Tryz.func87, by kernel_rfl, by kernel_rfl⟩
theorem x88 : ExtOk Tryz.prog 88 (.go) := ⟨Tryz.f88, Tryz.func88, by kernel_rfl, by kernel_rfl⟩
theorem x89 : ExtOk Tryz.prog 89 (.go) := ⟨Tryz.f89, Tryz.func89, by kernel_rfl, by kernel_rfl⟩
theorem x90 : ExtOk Tryz.prog 90 (.go) := ⟨Tryz.f90, Tryz.func90, by kernel_rfl, by kernel_rfl⟩
theorem x91 : ExtOk Tryz.prog 91 (.go) := ⟨Tryz.f91, Tryz.func91, by kernel_rfl, by kernel_rfl⟩
theorem x92 : ExtOk Tryz.prog 92 (.go) := ⟨Tryz.f92, Tryz.func92, by kernel_rfl, by kernel_rfl⟩
theorem x93 : ExtOk Tryz.prog 93 (.go) := ⟨Tryz.f93, Tryz.func93, by kernel_rfl, by kernel_rfl⟩
theorem x94 : ExtOk Tryz.prog 94 (.go) := ⟨Tryz.f94, Tryz.func94, by kernel_rfl, by kernel_rfl⟩
theorem x95 : ExtOk Tryz.prog 95 (.go) := ⟨Tryz.f95, Tryz.func95, by kernel_rfl, by kernel_rfl⟩
theorem x96 : ExtOk Tryz.prog 96 (.go) := ⟨Tryz.f96, Tryz.func96, by kernel_rfl, by kernel_rfl⟩
theorem x97 : ExtOk Tryz.prog 97 (.go) := ⟨Tryz.f97, Tryz.func97, by kernel_rfl, by kernel_rfl⟩
theorem x98 : ExtOk Tryz.prog 98 (.go) := ⟨Tryz.f98, Tryz.func98, by kernel_rfl, by kernel_rfl⟩
theorem x99 : ExtOk Tryz.prog 99 (.go) := ⟨Tryz.f99, Tryz.func99, by kernel_rfl, by kernel_rfl⟩
theorem x100 : ExtOk Tryz.prog 100 (.go) := ⟨Tryz.f100, Tryz.func100, by kernel_rfl, by kernel_rfl⟩
theorem x101 : ExtOk Tryz.prog 101 (.go) := ⟨Tryz.f101, Tryz.func101, by kernel_rfl, by kernel_rfl⟩
theorem x102 : ExtOk Tryz.prog 102 (.go) := ⟨Tryz.f102, Tryz.func102, by kernel_rfl, by kernel_rfl⟩
theorem x103 : ExtOk Tryz.prog 103 (.go) := ⟨Tryz.f103, Tryz.func103, by kernel_rfl, by kernel_rfl⟩
theorem x104 : ExtOk Tryz.prog 104 (.go) := ⟨Tryz.f104, Tryz.func104, by kernel_rfl, by kernel_rfl⟩
theorem x105 : ExtOk Tryz.prog 105 (.go) := ⟨Tryz.f105, Tryz.func105, by kernel_rfl, by kernel_rfl⟩
theorem x106 : ExtOk Tryz.prog 106 (.go) := ⟨Tryz.f106, Tryz.func106, by kernel_rfl, by kernel_rfl⟩
theorem x107 : ExtOk Tryz.prog 107 (.go) := ⟨Tryz.f107, Tryz.func107, by kernel_rfl, by kernel_rfl⟩
theorem x108 : ExtOk Tryz.prog 108 (.go) := ⟨Tryz.f108, Tryz.func108, by kernel_rfl, by kernel_rfl⟩
theorem x109 : ExtOk Tryz.prog 109 (.go) := ⟨Tryz.f109, Tryz.func109, by kernel_rfl, by kernel_rfl⟩
theorem x110 : ExtOk Tryz.prog 110 (.go) := ⟨Tryz.f110, Tryz.func110, by kernel_rfl, by kernel_rfl⟩
theorem x111 : ExtOk Tryz.prog 111 (.go) := ⟨Tryz.f111, Tryz.func111, by kernel_rfl, by kernel_rfl⟩
theorem x112 : ExtOk Tryz.prog 112 (.go) := ⟨Tryz.f112, Tryz.func112, by kernel_rfl, by kernel_rfl⟩
theorem x113 : ExtOk Tryz.prog 113 (.go) := ⟨Tryz.f113, Tryz.func113, by kernel_rfl, by kernel_rfl⟩
theorem x114 : ExtOk Tryz.prog 114 (.go) := ⟨Tryz.f114, Tryz.func114, by kernel_rfl, by kernel_rfl⟩
theorem x115 : ExtOk Tryz.prog 115 (.go) := ⟨Tryz.f115, Tryz.func115, by kernel_rfl, by kernel_rfl⟩
theorem x116 : ExtOk Tryz.prog 116 (.go) := ⟨Tryz.f116, Tryz.func116, by kernel_rfl, by kernel_rfl⟩
theorem x117 : ExtOk Tryz.prog 117 (.go) := ⟨Tryz.f117, Tryz.func117, by kernel_rfl, by kernel_rfl⟩
theorem x118 : ExtOk Tryz.prog 118 (.go) := ⟨Tryz.f118, Tryz.func118, by kernel_rfl, by kernel_rfl⟩
theorem x119 : ExtOk Tryz.prog 119 (.go) := ⟨Tryz.f119, Tryz.func119, by kernel_rfl, by kernel_rfl⟩
theorem x120 : ExtOk Tryz.prog 120 (.go) := ⟨Tryz.f120, Tryz.func120, by kernel_rfl, by kernel_rfl⟩
theorem x121 : ExtOk Tryz.prog 121 (.go) := ⟨Tryz.f121, Tryz.func121, by kernel_rfl, by kernel_rfl⟩
theorem x122 : ExtOk Tryz.prog 122 (.go) := ⟨Tryz.f122, Tryz.func122, by kernel_rfl, by kernel_rfl⟩
theorem x123 : ExtOk Tryz.prog 123 (.go) := ⟨Tryz.f123, Tryz.func123, by kernel_rfl, by kernel_rfl⟩
theorem x124 : ExtOk Tryz.prog 124 (.go) := ⟨Tryz.f124, Tryz.func124, by kernel_rfl, by kernel_rfl⟩
theorem x125 : ExtOk Tryz.prog 125 (.go) := ⟨Tryz.f125, Tryz.func125, by kernel_rfl, by kernel_rfl⟩
theorem x126 : ExtOk Tryz.prog 126 (.go) := ⟨Tryz.f126, Tryz.func126, by kernel_rfl, by kernel_rfl⟩
theorem x127 : ExtOk Tryz.prog 127 (.go) := ⟨Tryz.f127, Tryz.func127, by kernel_rfl, by kernel_rfl⟩
theorem x128 : ExtOk Tryz.prog 128 (.go) := ⟨Tryz.f128, Tryz.func128, by kernel_rfl, by kernel_rfl⟩
theorem x129 : ExtOk Tryz.prog 129 (.go) := ⟨Tryz.f129, Tryz.func129, by kernel_rfl, by kernel_rfl⟩
theorem x130 : ExtOk Tryz.prog 130 (.go) := ⟨Tryz.f130, Tryz.func130, by kernel_rfl, by kernel_rfl⟩
theorem x131 : ExtOk Tryz.prog 131 (.go) := ⟨Tryz.f131, Tryz.func131, by kernel_rfl, by kernel_rfl⟩
theorem x132 : ExtOk Tryz.prog 132 (.go) := ⟨Tryz.f132, Tryz.func132, by kernel_rfl, by kernel_rfl⟩
theorem x133 : ExtOk Tryz.prog 133 (.go) := ⟨Tryz.f133, Tryz.func133, by kernel_rfl, by kernel_rfl⟩
theorem x134 : ExtOk Tryz.prog 134 (.go) := ⟨Tryz.f134, Tryz.func134, by kernel_rfl, by kernel_rfl⟩
theorem x135 : ExtOk Tryz.prog 135 (.go) := ⟨Tryz.f135, Tryz.func135, by kernel_rfl, by kernel_rfl⟩
theorem x136 : ExtOk Tryz.prog 136 (.go) := ⟨Tryz.f136, Tryz.func136, by kernel_rfl, by kernel_rfl⟩
theorem x137 : ExtOk Tryz.prog 137 (.go) := ⟨Tryz.f137, Tryz.func137, by kernel_rfl, by kernel_rfl⟩
theorem x138 : ExtOk Tryz.prog 138 (.go) := ⟨Tryz.f138, Tryz.func138, by kernel_rfl, by kernel_rfl⟩
theorem x139 : ExtOk Tryz.prog 139 (.go) := ⟨Tryz.f139, Tryz.func139, by kernel_rfl, by kernel_rfl⟩
theorem x140 : ExtOk Tryz.prog 140 (.go) := ⟨Tryz.f140, Tryz.func140, by kernel_rfl, by kernel_rfl⟩
theorem x141 : ExtOk Tryz.prog 141 (.go) := ⟨Tryz.f141, Tryz.func141, by kernel_rfl, by kernel_rfl⟩
theorem x142 : ExtOk Tryz.prog 142 (.go) := ⟨Tryz.f142, Tryz.func142, by kernel_rfl, by kernel_rfl⟩
theorem x143 : ExtOk Tryz.prog 143 (.go) := ⟨Tryz.f143, Tryz.func143, by kernel_rfl, by kernel_rfl⟩
theorem x144 : ExtOk Tryz.prog 144 (.go) := ⟨Tryz.f144, Tryz.func144, by kernel_rfl, by kernel_rfl⟩
theorem x145 : ExtOk Tryz.prog 145 (.go) := ⟨Tryz.f145, Tryz.func145, by kernel_rfl, by kernel_rfl⟩
theorem x146 : ExtOk Tryz.prog 146 (.go) := ⟨Tryz.f146, Tryz.func146, by kernel_rfl, by kernel_rfl⟩
theorem x147 : ExtOk Tryz.prog 147 (.go) := ⟨Tryz.f147, Tryz.func147, by kernel_rfl, by kernel_rfl⟩
theorem x148 : ExtOk Tryz.prog 148 (.go) := ⟨Tryz.f148, Tryz.func148, by kernel_rfl, by kernel_rfl⟩
theorem x149 : ExtOk Tryz.prog 149 (.go) := ⟨Tryz.f149, Tryz.func149, by kernel_rfl, by kernel_rfl⟩
theorem x150 : ExtOk Tryz.prog 150 (.go) := ⟨Tryz.f150, Tryz.func150, by kernel_rfl, by kernel_rfl⟩
theorem x151 : ExtOk Tryz.prog 151 (.go) := ⟨Tryz.f151, Tryz.func151, by kernel_rfl, by kernel_rfl⟩
theorem x152 : ExtOk Tryz.prog 152 (.go) := ⟨Tryz.f152, Tryz.func152, by kernel_rfl, by kernel_rfl⟩
theorem x153 : ExtOk Tryz.prog 153 (.go) := ⟨Tryz.f153, Tryz.func153, by kernel_rfl, by kernel_rfl⟩
theorem x154 : ExtOk Tryz.prog 154 (.go) := ⟨Tryz.f154, Tryz.func154, by kernel_rfl, by kernel_rfl⟩
theorem x155 : ExtOk Tryz.prog 155 (.go) := ⟨Tryz.f155, Tryz.func155, by kernel_rfl, by kernel_rfl⟩
theorem x156 : ExtOk Tryz.prog 156 (.go) := ⟨Tryz.f156, Tryz.func156, by kernel_rfl, by kernel_rfl⟩
theorem x157 : ExtOk Tryz.prog 157 (.go) := ⟨Tryz.f157, Tryz.func157, by kernel_rfl, by kernel_rfl⟩
theorem x158 : ExtOk Tryz.prog 158 (.go) := ⟨Tryz.f158, Tryz.func158, by kernel_rfl, by kernel_rfl⟩
theorem x159 : ExtOk Tryz.prog 159 (.go) := ⟨Tryz.f159, Tryz.func159, by kernel_rfl, by kernel_rfl⟩
theorem x160 : ExtOk Tryz.prog 160 (.go) := ⟨Tryz.f160, Tryz.func160, by kernel_rfl, by kernel_rfl⟩
theorem x161 : ExtOk Tryz.prog 161 (.go) := ⟨Tryz.f161, Tryz.func161, by kernel_rfl, by kernel_rfl⟩
theorem x162 : ExtOk Tryz.prog 162 (.go) := ⟨Tryz.f162, Tryz.func162, by kernel_rfl, by kernel_rfl⟩
theorem x163 : ExtOk Tryz.prog 163 (.go) := ⟨Tryz.f163, Tryz.func163, by kernel_rfl, by kernel_rfl⟩
theorem x164 : ExtOk Tryz.prog 164 (.go) := ⟨Tryz.f164, Tryz.func164, by kernel_rfl, by kernel_rfl⟩
theorem x165 : ExtOk Tryz.prog 165 (.go) := ⟨Tryz.f165, Tryz.func165, by kernel_rfl, by kernel_rfl⟩
theorem x166 : ExtOk Tryz.prog 166 (.go) := ⟨Tryz.f166, Tryz.func166, by kernel_rfl, by kernel_rfl⟩
theorem x167 : ExtOk Tryz.prog 167 (.go) := ⟨Tryz.f167, Tryz.func167, by kernel_rfl, by kernel_rfl⟩
theorem x168 : ExtOk Tryz.prog 168 (.go) := ⟨Tryz.f168, Tryz.func168, by kernel_rfl, by kernel_rfl⟩
theorem x169 : ExtOk Tryz.prog 169 (.go) := ⟨Tryz.f169, Tryz.func169, by kernel_rfl, by kernel_rfl⟩
theorem x170 : ExtOk Tryz.prog 170 (.go) := ⟨Tryz.f170, Tryz.func170, by kernel_rfl, by kernel_rfl⟩
theorem x171 : ExtOk Tryz.prog 171 (.go) := ⟨Tryz.f171, Tryz.func171, by kernel_rfl, by kernel_rfl⟩
theorem x172 : ExtOk Tryz.prog 172 (.go) := ⟨Tryz.f172, Tryz.func172, by kernel_rfl, by kernel_rfl⟩
theorem x173 : ExtOk Tryz.prog 173 (.go) := ⟨Tryz.f173, Tryz.func173, by kernel_rfl, by kernel_rfl⟩
theorem x174 : ExtOk Tryz.prog 174 (.go) := ⟨Tryz.f174, Tryz.func174, by kernel_rfl, by kernel_rfl⟩
theorem x175 : ExtOk Tryz.prog 175 (.go) := ⟨Tryz.f175, Tryz.func175, by kernel_rfl, by kernel_rfl⟩
theorem x176 : ExtOk Tryz.prog 176 (.go) := ⟨Tryz.f176, Tryz.func176, by kernel_rfl, by kernel_rfl⟩
theorem x177 : ExtOk Tryz.prog 177 (.go) := ⟨Tryz.f177, Tryz.func177, by kernel_rfl, by kernel_rfl⟩
theorem x178 : ExtOk Tryz.prog 178 (.go) := ⟨Tryz.f178, Tryz.func178, by kernel_rfl, by kernel_rfl⟩
theorem x179 : ExtOk Tryz.prog 179 (.go) := ⟨Tryz.f179, Tryz.func179, by kernel_rfl, by kernel_rfl⟩
theorem x180 : ExtOk Tryz.prog 180 (.go) := ⟨Tryz.f180, Tryz.func180, by kernel_rfl, by kernel_rfl⟩
theorem x181 : ExtOk Tryz.prog 181 (.go) := ⟨Tryz.f181, Tryz.func181, by kernel_rfl, by kernel_rfl⟩
theorem x182 : ExtOk Tryz.prog 182 (.go) := ⟨Tryz.f182, Tryz.func182, by kernel_rfl, by kernel_rfl⟩
theorem x183 : ExtOk Tryz.prog 183 (.go) := ⟨Tryz.f183, Tryz.func183, by kernel_rfl, by kernel_rfl⟩
theorem x184 : ExtOk Tryz.prog 184 (.go) := ⟨Tryz.f184, Tryz.func184, by kernel_rfl, by kernel_rfl⟩
theorem x185 : ExtOk Tryz.prog 185 (.go) := ⟨Tryz.f185, Tryz.func185, by kernel_rfl, by kernel_rfl⟩
theorem x186 : ExtOk Tryz.prog 186 (.go) := ⟨Tryz.f186, Tryz.func186, by kernel_rfl, by kernel_rfl⟩
theorem x187 : ExtOk Tryz.prog 187 (.go) := ⟨Tryz.f187, Tryz.func187, by kernel_rfl, by kernel_rfl⟩
theorem x188 : ExtOk Tryz.prog 188 (.go) := ⟨Tryz.f188, Tryz.func188, by kernel_rfl, by kernel_rfl⟩
theorem x189 : ExtOk Tryz.prog 189 (.go) := ⟨Tryz.f189, Tryz.func189, by kernel_rfl, by kernel_rfl⟩
theorem x190 : ExtOk Tryz.prog 190 (.go) := ⟨Tryz.f190, Tryz.func190, by kernel_rfl, by kernel_rfl⟩
theorem x191 : ExtOk Tryz.prog 191 (.go) := ⟨Tryz.f191, Tryz.func191, by kernel_rfl, by kernel_rfl⟩
theorem x192 : ExtOk Tryz.prog 192 (.go) := ⟨Tryz.f192, Tryz.func192, by kernel_rfl, by kernel_rfl⟩
theorem x193 : ExtOk Tryz.prog 193 (.go) := ⟨Tryz.f193, Tryz.func193, by kernel_rfl, by kernel_rfl⟩
theorem x194 : ExtOk Tryz.prog 194 (.go) := ⟨Tryz.f194, Tryz.func194, by kernel_rfl, by kernel_rfl⟩
theorem x195 : ExtOk Tryz.prog 195 (.go) := ⟨Tryz.f195, Tryz.func195, by kernel_rfl, by kernel_rfl⟩
theorem x196 : ExtOk Tryz.prog 196 (.go) := ⟨Tryz.f196, Tryz.func196, by kernel_rfl, by kernel_rfl⟩
theorem x197 : ExtOk Tryz.prog 197 (.go) := ⟨Tryz.f197, Tryz.func197, by kernel_rfl, by kernel_rfl⟩
theorem x198 : ExtOk Tryz.prog 198 (.go) := ⟨Tryz.f198, Tryz.func198, by kernel_rfl, by kernel_rfl⟩
theorem x199 : ExtOk Tryz.prog 199 (.go) := ⟨Tryz.f199, Tryz.func199, by kernel_rfl, by kernel_rfl⟩
theorem x200 : ExtOk Tryz.prog 200 (.go) := ⟨Tryz.f200, Tryz.func200, by kernel_rfl, by kernel_rfl⟩
theorem x201 : ExtOk Tryz.prog 201 (.go) := ⟨Tryz.f201, Tryz.func201, by kernel_rfl, by kernel_rfl⟩
theorem x202 : ExtOk Tryz.prog 202 (.go) := ⟨Tryz.f202, Tryz.func202, by kernel_rfl, by kernel_rfl⟩
theorem x203 : ExtOk Tryz.prog 203 (.go) := ⟨Tryz.f203, Tryz.func203, by kernel_rfl, by kernel_rfl⟩
theorem x204 : ExtOk Tryz.prog 204 (.go) := ⟨Tryz.f204, Tryz.func204, by kernel_rfl, by kernel_rfl⟩
theorem x205 : ExtOk Tryz.prog 205 (.go) := ⟨Tryz.f205, Tryz.func205, by kernel_rfl, by kernel_rfl⟩
theorem x206 : ExtOk Tryz.prog 206 (.go) := ⟨Tryz.f206, Tryz.func206, by kernel_rfl, by kernel_rfl⟩
theorem x207 : ExtOk Tryz.prog 207 (.go) := ⟨Tryz.f207, Tryz.func207, by kernel_rfl, by kernel_rfl⟩
theorem x208 : ExtOk Tryz.prog 208 (.go) := ⟨Tryz.f208, Tryz.func208, by kernel_rfl, by kernel_rfl⟩
theorem x209 : ExtOk Tryz.prog 209 (.go) := ⟨Tryz.f209, Tryz.func209, by kernel_rfl, by kernel_rfl⟩
theorem x210 : ExtOk Tryz.prog 210 (.go) := ⟨Tryz.f210, Tryz.func210, by kernel_rfl, by kernel_rfl⟩
theorem x211 : ExtOk Tryz.prog 211 (.go) := ⟨Tryz.f211, Tryz.func211, by kernel_rfl, by kernel_rfl⟩
theorem x212 : ExtOk Tryz.prog 212 (.go) := ⟨Tryz.f212, Tryz.func212, by kernel_rfl, by kernel_rfl⟩
theorem x213 : ExtOk Tryz.prog 213 (.go) := ⟨Tryz.f213, Tryz.func213, by kernel_rfl, by kernel_rfl⟩
theorem x214 : ExtOk Tryz.prog 214 (.go) := ⟨Tryz.f214, Tryz.func214, by kernel_rfl, by kernel_rfl⟩
theorem x215 : ExtOk Tryz.prog 215 (.go) := ⟨Tryz.f215, Tryz.func215, by kernel_rfl, by kernel_rfl⟩
theorem x216 : ExtOk Tryz.prog 216 (.go) := ⟨Tryz.f216, Tryz.func216, by kernel_rfl, by kernel_rfl⟩
theorem x217 : ExtOk Tryz.prog 217 (.go) := ⟨Tryz.f217, Tryz.func217, by kernel_rfl, by kernel_rfl⟩
theorem x218 : ExtOk Tryz.prog 218 (.go) := ⟨Tryz.f218, Tryz.func218, by kernel_rfl, by kernel_rfl⟩
theorem x219 : ExtOk Tryz.prog 219 (.go) := ⟨Tryz.f219, Tryz.func219, by kernel_rfl, by kernel_rfl⟩
theorem x220 : ExtOk Tryz.prog 220 (.go) := ⟨Tryz.f220, Tryz.func220, by kernel_rfl, by kernel_rfl⟩
theorem x221 : ExtOk Tryz.prog 221 (.go) := ⟨Tryz.f221, Tryz.func221, by kernel_rfl, by kernel_rfl⟩
theorem x222 : ExtOk Tryz.prog 222 (.go) := ⟨Tryz.f222, Tryz.func222, by kernel_rfl, by kernel_rfl⟩
theorem x223 : ExtOk Tryz.prog 223 (.go) := ⟨Tryz.f223, Tryz.func223, by kernel_rfl, by kernel_rfl⟩
theorem x224 : ExtOk Tryz.prog 224 (.go) := ⟨Tryz.f224, Tryz.func224, by kernel_rfl, by kernel_rfl⟩
theorem x225 : ExtOk Tryz.prog 225 (.go) := ⟨Tryz.f225, Tryz.func225, by kernel_rfl, by kernel_rfl⟩
theorem x226 : ExtOk Tryz.prog 226 (.go) := ⟨Tryz.f226, Tryz.func226, by kernel_rfl, by kernel_rfl⟩
theorem x227 : ExtOk Tryz.prog 227 (.go) := ⟨Tryz.f227, Tryz.func227, by kernel_rfl, by kernel_rfl⟩
theorem x228 : ExtOk Tryz.prog 228 (.go) := ⟨Tryz.f228, Tryz.func228, by kernel_rfl, by kernel_rfl⟩
theorem x229 : ExtOk Tryz.prog 229 (.go) := ⟨Tryz.f229, Tryz.func229, by kernel_rfl, by kernel_rfl⟩
theorem x230 : ExtOk Tryz.prog 230 (.go) := ⟨Tryz.f230, Tryz.func230, by kernel_rfl, by kernel_rfl⟩
theorem x231 : ExtOk Tryz.prog 231 (.go) := ⟨Tryz.f231, Tryz.func231, by kernel_rfl, by kernel_rfl⟩
theorem x232 : ExtOk Tryz.prog 232 (.go) := ⟨Tryz.f232, Tryz.func232, by kernel_rfl, by kernel_rfl⟩
theorem x233 : ExtOk Tryz.prog 233 (.go) := ⟨Tryz.f233, Tryz.func233, by kernel_rfl, by kernel_rfl⟩
theorem x234 : ExtOk Tryz.prog 234 (.go) := ⟨Tryz.f234, Tryz.func234, by kernel_rfl, by kernel_rfl⟩
theorem x235 : ExtOk Tryz.prog 235 (.go) := ⟨Tryz.f235, Tryz.func235, by kernel_rfl, by kernel_rfl⟩
theorem x236 : ExtOk Tryz.prog 236 (.go) := ⟨Tryz.f236, Tryz.func236, by kernel_rfl, by kernel_rfl⟩
theorem x237 : ExtOk Tryz.prog 237 (.go) := ⟨Tryz.f237, Tryz.func237, by kernel_rfl, by kernel_rfl⟩
theorem x238 : ExtOk Tryz.prog 238 (.go) := ⟨Tryz.f238, Tryz.func238, by kernel_rfl, by kernel_rfl⟩
theorem x239 : ExtOk Tryz.prog 239 (.go) := ⟨Tryz.f239, Tryz.func239, by kernel_rfl, by kernel_rfl⟩
theorem x240 : ExtOk Tryz.prog 240 (.go) := ⟨Tryz.f240, Tryz.func240, by kernel_rfl, by kernel_rfl⟩
theorem x241 : ExtOk Tryz.prog 241 (.go) := ⟨Tryz.f241, Tryz.func241, by kernel_rfl, by kernel_rfl⟩
theorem x242 : ExtOk Tryz.prog 242 (.go) := ⟨Tryz.f242, Tryz.func242, by kernel_rfl, by kernel_rfl⟩
theorem x243 : ExtOk Tryz.prog 243 (.go) := ⟨Tryz.f243, Tryz.func243, by kernel_rfl, by kernel_rfl⟩
theorem x244 : ExtOk Tryz.prog 244 (.go) := ⟨Tryz.f244, Tryz.func244, by kernel_rfl, by kernel_rfl⟩
theorem x245 : ExtOk Tryz.prog 245 (.go) := ⟨Tryz.f245, Tryz.func245, by kernel_rfl, by kernel_rfl⟩
theorem x246 : ExtOk Tryz.prog 246 (.go) := ⟨Tryz.f246, Tryz.func246, by kernel_rfl, by kernel_rfl⟩
theorem x247 : ExtOk Tryz.prog 247 (.go) := ⟨Tryz.f247, Tryz.func247, by kernel_rfl, by kernel_rfl⟩
theorem x248 : ExtOk Tryz.prog 248 (.load .u64) := ⟨Tryz.f248, Tryz.func248, by kernel_rfl, by kernel_rfl, by kernel_rfl, by kernel_rfl⟩
theorem x249 : ExtOk Tryz.prog 249 (.cas .u64) := ⟨Tryz.f249, Tryz.func249, by kernel_rfl, by kernel_rfl, by kernel_rfl, by kernel_rfl⟩
theorem x250 : ExtOk Tryz.prog 250 (.add .i64) := ⟨Tryz.f250, Tryz.func250, by kernel_rfl, by kernel_rfl, by kernel_rfl, by kernel_rfl⟩
theorem x251 : ExtOk Tryz.prog 251 (.go) := ⟨Tryz.f251, Tryz.func251, by kernel_rfl, by kernel_rfl⟩
theorem x252 : ExtOk Tryz.prog 252 (.go) := ⟨Tryz.f252, Tryz.func252, by kernel_rfl, by kernel_rfl⟩
theorem x253 : ExtOk Tryz.prog 253 (.go) := ⟨Tryz.f253, Tryz.func253, by kernel_rfl, by kernel_rfl⟩
theorem x254 : ExtOk Tryz.prog 254 (.go) := ⟨Tryz.f254, Tryz.func254, by kernel_rfl, by kernel_rfl⟩
theorem x255 : ExtOk Tryz.prog 255 (.go) := ⟨Tryz.f255, Tryz.func255, by kernel_rfl, by kernel_rfl⟩
theorem x256 : ExtOk Tryz.prog 256 (.go) := ⟨Tryz.f256, Tryz.func256, by kernel_rfl, by kernel_rfl⟩
theorem x257 : ExtOk Tryz.prog 257 (.go) := ⟨Tryz.f257, Tryz.func257, by kernel_rfl, by kernel_rfl⟩
theorem x258 : ExtOk Tryz.prog 258 (.go) := ⟨Tryz.f258, Tryz.func258, by kernel_rfl, by kernel_rfl⟩
theorem x259 : ExtOk Tryz.prog 259 (.go) := ⟨Tryz.f259, Tryz.func259, by kernel_rfl, by kernel_rfl⟩
theorem x260 : ExtOk Tryz.prog 260 (.go) := ⟨Tryz.f260, Tryz.func260, by kernel_rfl, by kernel_rfl⟩
theorem x261 : ExtOk Tryz.prog 261 (.go) := ⟨Tryz.f261, Tryz.func261, by kernel_rfl, by kernel_rfl⟩
theorem x262 : ExtOk Tryz.prog 262 (.go) := ⟨Tryz.f262, Tryz.func262, by kernel_rfl, by kernel_rfl⟩
theorem x263 : ExtOk Tryz.prog 263 (.go) := ⟨Tryz.f263, Tryz.func263, by kernel_rfl, by kernel_rfl⟩
theorem x264 : ExtOk Tryz.prog 264 (.go) := ⟨Tryz.f264, Tryz.func264, by kernel_rfl, by kernel_rfl⟩
theorem x265 : ExtOk Tryz.prog 265 (.go) := ⟨Tryz.f265, Tryz.func265, by kernel_rfl, by kernel_rfl⟩
theorem x266 : ExtOk Tryz.prog 266 (.go) := ⟨Tryz.f266, Tryz.func266, by kernel_rfl, by kernel_rfl⟩
theorem x267 : ExtOk Tryz.prog 267 (.go) := ⟨Tryz.f267, Tryz.func267, by kernel_rfl, by kernel_rfl⟩
theorem x268 : ExtOk Tryz.prog 268 (.go) := ⟨Tryz.f268, Tryz.func268, by kernel_rfl, by kernel_rfl⟩
theorem x269 : ExtOk Tryz.prog 269 (.go) := ⟨Tryz.f269, Tryz.func269, by kernel_rfl, by kernel_rfl⟩
theorem x270 : ExtOk Tryz.prog 270 (.go) := ⟨Tryz.f270, Tryz.func270, by kernel_rfl, by kernel_rfl⟩
theorem x271 : ExtOk Tryz.prog 271 (.go) := ⟨Tryz.f271, Tryz.func271, by kernel_rfl, by kernel_rfl⟩
theorem x272 : ExtOk Tryz.prog 272 (.go) := ⟨Tryz.f272, Tryz.func272, by kernel_rfl, by kernel_rfl⟩
theorem x273 : ExtOk Tryz.prog 273 (.go) := ⟨Tryz.f273, Tryz.func273, by kernel_rfl, by kernel_rfl⟩
theorem x274 : ExtOk Tryz.prog 274 (.go) := ⟨Tryz.f274, Tryz.func274, by kernel_rfl, by kernel_rfl⟩
theorem x275 : ExtOk Tryz.prog 275 (.go) := ⟨Tryz.f275, Tryz.func275, by kernel_rfl, by kernel_rfl⟩
theorem x276 : ExtOk Tryz.prog 276 (.go) := ⟨Tryz.f276, Tryz.func276, by kernel_rfl, by kernel_rfl⟩
theorem x277 : ExtOk Tryz.prog 277 (.go) := ⟨Tryz.f277, Tryz.func277, by kernel_rfl, by kernel_rfl⟩
theorem x278 : ExtOk Tryz.prog 278 (.go) := ⟨Tryz.f278, Tryz.func278, by kernel_rfl, by kernel_rfl⟩
theorem x279 : ExtOk Tryz.prog 279 (.go) := ⟨Tryz.f279, Tryz.func279, by kernel_rfl, by kernel_rfl⟩
theorem x280 : ExtOk Tryz.prog 280 (.go) := ⟨Tryz.f280, Tryz.func280, by kernel_rfl, by kernel_rfl⟩
theorem x281 : ExtOk Tryz.prog 281 (.go) := ⟨Tryz.f281, Tryz.func281, by kernel_rfl, by kernel_rfl⟩
theorem x282 : ExtOk Tryz.prog 282 (.go) := ⟨Tryz.f282, Tryz.func282, by kernel_rfl, by kernel_rfl⟩
theorem x283 : ExtOk Tryz.prog 283 (.go) := ⟨Tryz.f283, Tryz.func283, by kernel_rfl, by kernel_rfl⟩
theorem x284 : ExtOk Tryz.prog 284 (.go) := ⟨Tryz.f284, Tryz.func284, by kernel_rfl, by kernel_rfl⟩
theorem x285 : ExtOk Tryz.prog 285 (.go) := ⟨Tryz.f285, Tryz.func285, by kernel_rfl, by kernel_rfl⟩
theorem x286 : ExtOk Tryz.prog 286 (.go) := ⟨Tryz.f286, Tryz.func286, by kernel_rfl, by kernel_rfl⟩
theorem x287 : ExtOk Tryz.prog 287 (.go) := ⟨Tryz.f287, Tryz.func287, by kernel_rfl, by kernel_rfl⟩
theorem x288 : ExtOk Tryz.prog 288 (.go) := ⟨Tryz.f288, Tryz.func288, by kernel_rfl, by kernel_rfl⟩
theorem x289 : ExtOk Tryz.prog 289 (.go) := ⟨Tryz.f289, Tryz.func289, by kernel_rfl, by kernel_rfl⟩
theorem x290 : ExtOk Tryz.prog 290 (.go) := ⟨Tryz.f290, Tryz.func290, by kernel_rfl, by kernel_rfl⟩
theorem x291 : ExtOk Tryz.prog 291 (.go) := ⟨Tryz.f291, Tryz.func291, by kernel_rfl, by kernel_rfl⟩
theorem x292 : ExtOk Tryz.prog 292 (.go) := ⟨Tryz.f292, Tryz.func292, by kernel_rfl, by kernel_rfl⟩
theorem x293 : ExtOk Tryz.prog 293 (.go) := ⟨Tryz.f293, Tryz.func293, by kernel_rfl, by kernel_rfl⟩
theorem x294 : ExtOk Tryz.prog 294 (.go) := ⟨Tryz.f294, Tryz.func294, by kernel_rfl, by kernel_rfl⟩
theorem x295 : ExtOk Tryz.prog 295 (.go) := ⟨Tryz.f295, Tryz.func295, by kernel_rfl, by kernel_rfl⟩
theorem x296 : ExtOk Tryz.prog 296 (.go) := ⟨Tryz.f296, Tryz.func296, by kernel_rfl, by kernel_rfl⟩
theorem x297 : ExtOk Tryz.prog 297 (.go) := ⟨Tryz.f297, Tryz.func297, by kernel_rfl, by kernel_rfl⟩
theorem x298 : ExtOk Tryz.prog 298 (.go) := ⟨Tryz.f298, Tryz.func298, by kernel_rfl, by kernel_rfl⟩
theorem x299 : ExtOk Tryz.prog 299 (.go) := ⟨Tryz.f299, Tryz.func299, by kernel_rfl, by kernel_rfl⟩
theorem x300 : ExtOk Tryz.prog 300 (.go) := ⟨Tryz.f300, Tryz.func300, by kernel_rfl, by kernel_rfl⟩
theorem x301 : ExtOk Tryz.prog 301 (.go) := ⟨Tryz.f301, Tryz.func301, by kernel_rfl, by kernel_rfl⟩
theorem x302 : ExtOk Tryz.prog 302 (.go) := ⟨Tryz.f302, Tryz.func302, by kernel_rfl, by kernel_rfl⟩
theorem x303 : ExtOk Tryz.prog 303 (.go) := ⟨Tryz.f303, Tryz.func303, by kernel_rfl, by kernel_rfl⟩
theorem x304 : ExtOk Tryz.prog 304 (.go) := ⟨Tryz.f304, Tryz.func304, by kernel_rfl, by kernel_rfl⟩
theorem x305 : ExtOk Tryz.prog 305 (.go) := ⟨Tryz.f305, Tryz.func305, by kernel_rfl, by kernel_rfl⟩
theorem x306 : ExtOk Tryz.prog 306 (.go) := ⟨Tryz.f306, Tryz.func306, by kernel_rfl, by kernel_rfl⟩
theorem x307 : ExtOk Tryz.prog 307 (.go) := ⟨Tryz.f307, Tryz.func307, by kernel_rfl, by kernel_rfl⟩
theorem x308 : ExtOk Tryz.prog 308 (.go) := ⟨Tryz.f308, Tryz.func308, by kernel_rfl, by kernel_rfl⟩
theorem x309 : ExtOk Tryz.prog 309 (.go) := ⟨Tryz.f309, Tryz.func309, by kernel_rfl, by kernel_rfl⟩
theorem x310 : ExtOk Tryz.prog 310 (.go) := ⟨Tryz.f310, Tryz.func310, by kernel_rfl, by kernel_rfl⟩
theorem x311 : ExtOk Tryz.prog 311 (.go) := ⟨Tryz.f311, Tryz.func311, by kernel_rfl, by kernel_rfl⟩
theorem x312 : ExtOk Tryz.prog 312 (.go) := ⟨Tryz.f312, Tryz.func312, by kernel_rfl, by kernel_rfl⟩
theorem x313 : ExtOk Tryz.prog 313 (.go) := ⟨Tryz.f313, Tryz.func313, by kernel_rfl, by kernel_rfl⟩
theorem x314 : ExtOk Tryz.prog 314 (.go) := ⟨Tryz.f314, Tryz.func314, by kernel_rfl, by kernel_rfl⟩
theorem x315 : ExtOk Tryz.prog 315 (.go) := ⟨Tryz.f315, Tryz.func315, by kernel_rfl, by kernel_rfl⟩
theorem x316 : ExtOk Tryz.prog 316 (.go) := ⟨Tryz.f316, Tryz.func316, by kernel_rfl, by kernel_rfl⟩
theorem x317 : ExtOk Tryz.prog 317 (.go) := ⟨Tryz.f317, Tryz.func317, by kernel_rfl, by kernel_rfl⟩
theorem x318 : ExtOk Tryz.prog 318 (.go) := ⟨Tryz.f318, Tryz.func318, by kernel_rfl, by kernel_rfl⟩
theorem x319 : ExtOk Tryz.prog 319 (.go) := ⟨Tryz.f319, Tryz.func319, by kernel_rfl, by kernel_rfl⟩
theorem x320 : ExtOk Tryz.prog 320 (.go) := ⟨Tryz.f320, Tryz.func320, by kernel_rfl, by kernel_rfl⟩
theorem x321 : ExtOk Tryz.prog 321 (.go) := ⟨Tryz.f321, Tryz.func321, by kernel_rfl, by kernel_rfl⟩
theorem x322 : ExtOk Tryz.prog 322 (.go) := ⟨Tryz.f322, Tryz.func322, by kernel_rfl, by kernel_rfl⟩
theorem x323 : ExtOk Tryz.prog 323 (.go) := ⟨Tryz.f323, Tryz.func323, by kernel_rfl, by kernel_rfl⟩
theorem x324 : ExtOk Tryz.prog 324 (.go) := ⟨Tryz.f324, Tryz.func324, by kernel_rfl, by kernel_rfl⟩
theorem x325 : ExtOk Tryz.prog 325 (.go) := ⟨Tryz.f325, Tryz.func325, by kernel_rfl, by kernel_rfl⟩
theorem x326 : ExtOk Tryz.prog 326 (.go) := ⟨Tryz.f326, Tryz.func326, by kernel_rfl, by kernel_rfl⟩
theorem x327 : ExtOk Tryz.prog 327 (.go) := ⟨Tryz.f327, Tryz.func327, by kernel_rfl, by kernel_rfl⟩
theorem x328 : ExtOk Tryz.prog 328 (.go) := ⟨Tryz.f328, Tryz.func328, by kernel_rfl, by kernel_rfl⟩
theorem x329 : ExtOk Tryz.prog 329 (.go) := ⟨Tryz.f329, Tryz.func329, by kernel_rfl, by kernel_rfl⟩
theorem x330 : ExtOk Tryz.prog 330 (.go) := ⟨Tryz.f330, Tryz.func330, by kernel_rfl, by kernel_rfl⟩
theorem x331 : ExtOk Tryz.prog 331 (.go) := ⟨Tryz.f331, Tryz.func331, by kernel_rfl, by kernel_rfl⟩
theorem x332 : ExtOk Tryz.prog 332 (.go) := ⟨Tryz.f332, Tryz.func332, by kernel_rfl, by kernel_rfl⟩
theorem x333 : ExtOk Tryz.prog 333 (.go) := ⟨Tryz.f333, Tryz.func333, by kernel_rfl, by kernel_rfl⟩
theorem x334 : ExtOk Tryz.prog 334 (.go) := ⟨Tryz.f334, Tryz.func334, by kernel_rfl, by kernel_rfl⟩
theorem x335 : ExtOk Tryz.prog 335 (.go) := ⟨Tryz.f335, Tryz.func335, by kernel_rfl, by kernel_rfl⟩
theorem x336 : ExtOk Tryz.prog 336 (.go) := ⟨Tryz.f336, Tryz.func336, by kernel_rfl, by kernel_rfl⟩
theorem x337 : ExtOk Tryz.prog 337 (.store) := ⟨Tryz.f337, Tryz.func337, by kernel_rfl, by kernel_rfl, by kernel_rfl, by kernel_rfl⟩
theorem x338 : ExtOk Tryz.prog 338 (.go) := ⟨Tryz.f338, Tryz.func338, by kernel_rfl, by kernel_rfl⟩
theorem x339 : ExtOk Tryz.prog 339 (.go) := ⟨Tryz.f339, Tryz.func339, by kernel_rfl, by kernel_rfl⟩
theorem x340 : ExtOk Tryz.prog 340 (.go) := ⟨Tryz.f340, Tryz.func340, by kernel_rfl, by kernel_rfl⟩
theorem x341 : ExtOk Tryz.prog 341 (.go) := ⟨Tryz.f341, Tryz.func341, by kernel_rfl, by kernel_rfl⟩
theorem x342 : ExtOk Tryz.prog 342 (.go) := ⟨Tryz.f342, Tryz.func342, by kernel_rfl, by kernel_rfl⟩
theorem x343 : ExtOk Tryz.prog 343 (.go) := ⟨Tryz.f343, Tryz.func343, by kernel_rfl, by kernel_rfl⟩
theorem x344 : ExtOk Tryz.prog 344 (.go) := ⟨Tryz.f344, Tryz.func344, by kernel_rfl, by kernel_rfl⟩
theorem x345 : ExtOk Tryz.prog 345 (.go) := ⟨Tryz.f345, Tryz.func345, by kernel_rfl, by kernel_rfl⟩
theorem x346 : ExtOk Tryz.prog 346 (.go) := ⟨Tryz.f346, Tryz.func346, by kernel_rfl, by kernel_rfl⟩
theorem x347 : ExtOk Tryz.prog 347 (.go) := ⟨Tryz.f347, Tryz.func347, by kernel_rfl, by kernel_rfl⟩
theorem x348 : ExtOk Tryz.prog 348 (.go) := ⟨Tryz.f348, Tryz.func348, by kernel_rfl, by kernel_rfl⟩
theorem x349 : ExtOk Tryz.prog 349 (.go) := ⟨Tryz.f349, Tryz.func349, by kernel_rfl, by kernel_rfl⟩
theorem x350 : ExtOk Tryz.prog 350 (.go) := ⟨Tryz.f350, Tryz.func350, by kernel_rfl, by kernel_rfl⟩
theorem x351 : ExtOk Tryz.prog 351 (.go) := ⟨Tryz.f351, Tryz.func351, by kernel_rfl, by kernel_rfl⟩
theorem x352 : ExtOk Tryz.prog 352 (.go) := ⟨Tryz.f352, Tryz.func352, by kernel_rfl, by kernel_rfl⟩
theorem x353 : ExtOk Tryz.prog 353 (.go) := ⟨Tryz.f353, Tryz.func353, by kernel_rfl, by kernel_rfl⟩
theorem x354 : ExtOk Tryz.prog 354 (.go) := ⟨Tryz.f354, Tryz.func354, by kernel_rfl, by kernel_rfl⟩
theorem x355 : ExtOk Tryz.prog 355 (.go) := ⟨Tryz.f355, Tryz.func355, by kernel_rfl, by kernel_rfl⟩
theorem x356 : ExtOk Tryz.prog 356 (.go) := ⟨Tryz.f356, Tryz.func356, by kernel_rfl, by kernel_rfl⟩
theorem x357 : ExtOk Tryz.prog 357 (.go) := ⟨Tryz.f357, Tryz.func357, by kernel_rfl, by kernel_rfl⟩
theorem x358 : ExtOk Tryz.prog 358 (.go) := ⟨Tryz.f358, Tryz.func358, by kernel_rfl, by kernel_rfl⟩
theorem x359 : ExtOk Tryz.prog 359 (.go) := ⟨Tryz.f359, Tryz.func359, by kernel_rfl, by kernel_rfl⟩
theorem x360 : ExtOk Tryz.prog 360 (.go) := ⟨Tryz.f360, Tryz.func360, by kernel_rfl, by kernel_rfl⟩
theorem x361 : ExtOk Tryz.prog 361 (.go) := ⟨Tryz.f361, Tryz.func361, by kernel_rfl, by kernel_rfl⟩
theorem x362 : ExtOk Tryz.prog 362 (.go) := ⟨Tryz.f362, Tryz.func362, by kernel_rfl, by kernel_rfl⟩
theorem x363 : ExtOk Tryz.prog 363 (.go) := ⟨Tryz.f363, Tryz.func363, by kernel_rfl, by kernel_rfl⟩
theorem x364 : ExtOk Tryz.prog 364 (.go) := ⟨Tryz.f364, Tryz.func364, by kernel_rfl, by kernel_rfl⟩
theorem x365 : ExtOk Tryz.prog 365 (.go) := ⟨Tryz.f365, Tryz.func365, by kernel_rfl, by kernel_rfl⟩
theorem x366 : ExtOk Tryz.prog 366 (.go) := ⟨Tryz.f366, Tryz.func366, by kernel_rfl, by kernel_rfl⟩
theorem x367 : ExtOk Tryz.prog 367 (.go) := ⟨Tryz.f367, Tryz.func367, by kernel_rfl, by kernel_rfl⟩
theorem x368 : ExtOk Tryz.prog 368 (.go) := ⟨Tryz.f368, Tryz.func368, by kernel_rfl, by kernel_rfl⟩
theorem x369 : ExtOk Tryz.prog 369 (.go) := ⟨Tryz.f369, Tryz.func369, by kernel_rfl, by kernel_rfl⟩
theorem x370 : ExtOk Tryz.prog 370 (.go) := ⟨Tryz.f370, Tryz.func370, by kernel_rfl, by kernel_rfl⟩
theorem x388 : ExtOk Tryz.prog 388 (.go) := ⟨Tryz.f388, Tryz.func388, by kernel_rfl, by kernel_rfl⟩
theorem x391 : ExtOk Tryz.prog 391 (.go) := ⟨Tryz.f391, Tryz.func391, by kernel_rfl, by kernel_rfl⟩
theorem x392 : ExtOk Tryz.prog 392 (.go) := ⟨Tryz.f392, Tryz.func392, by kernel_rfl, by kernel_rfl⟩
theorem x395 : ExtOk Tryz.prog 395 (.go) := ⟨Tryz.f395, Tryz.func395, by kernel_rfl, by kernel_rfl⟩
theorem x397 : ExtOk Tryz.prog 397 (.go) := ⟨Tryz.f397, Tryz.func397, by kernel_rfl, by kernel_rfl⟩
theorem x398 : ExtOk Tryz.prog 398 (.go) := ⟨Tryz.f398, Tryz.func398, by kernel_rfl, by kernel_rfl⟩
theorem x399 : ExtOk Tryz.prog 399 (.go) := ⟨Tryz.f399, Tryz.func399, by kernel_rfl, by kernel_rfl⟩
theorem x400 : ExtOk Tryz.prog 400 (.go) := ⟨Tryz.f400, Tryz.func400, by kernel_rfl, by kernel_rfl⟩
set_option maxRecDepth 100000 in
theorem Xok : XOk Tryz.prog X := xok_of_all ((xok_cons x2 (xok_cons x3 (xok_cons x4 (xok_cons x5 (xok_cons x6 (xok_cons x7 (xok_cons x8 (xok_cons x9 (xok_cons x10 (xok_cons x11 (xok_cons x12 (xok_cons x13 (xok_cons x14 (xok_cons x15 (xok_cons x16 (xok_cons x17 (xok_cons x18 (xok_cons x19 (xok_cons x20 (xok_cons x21 (xok_cons x22 (xok_cons x23 (xok_cons x24 (xok_cons x25 (xok_cons x26 (xok_cons x27 (xok_cons x28 (xok_cons x29 (xok_cons x30 (xok_cons x31 (xok_cons x32 (xok_cons x33 (xok_cons x34 (xok_cons x35 (xok_cons x36 (xok_cons x37 (xok_cons x38 (xok_cons x39 (xok_cons x40 (xok_cons x41 (xok_cons x42 (xok_cons x43 (xok_cons x44 (xok_cons x45 (xok_cons x46 (xok_cons x47 (xok_cons x48 (xok_cons x49 (xok_cons x50 (xok_cons x51 (xok_cons x52 (xok_cons x53 (xok_cons x54 (xok_cons x55 (xok_cons x56 (xok_cons x57 (xok_cons x58 (xok_cons x59 (xok_cons x60 (xok_cons x61 (xok_cons x62 (xok_cons x63 (xok_cons x64 (xok_cons x65 (xok_cons x66 (xok_cons x67 (xok_cons x68 (xok_cons x69 (xok_cons x70 (xok_cons x71 (xok_cons x72 (xok_cons x73 (xok_cons x74 (xok_cons x75 (xok_cons x76 (xok_cons x77 (xok_cons x78 (xok_cons x79 (xok_cons x80 (xok_cons x81 (xok_cons x82 (xok_cons x83 (xok_cons x84 (xok_cons x85 (xok_cons x86 (xok_cons x87 (xok_cons x88 (xok_cons x89 (xok_cons x90 (xok_cons x91 (xok_cons x92 (xok_cons x93 (xok_cons x94 (xok_cons x95 (xok_cons x96 (xok_cons x97 (xok_cons x98 (xok_cons x99 (xok_cons x100 (xok_cons x101 (xok_cons x102 (xok_cons x103 (xok_cons x104 (xok_cons x105 (xok_cons x106 (xok_cons x107 (xok_cons x108 (xok_cons x109 (xok_cons x110 (xok_cons x111 (xok_cons x112 (xok_cons x113 (xok_cons x114 (xok_cons x115 (xok_cons x116 (xok_cons x117 (xok_cons x118 (xok_cons x119 (xok_cons x120 (xok_cons x121 (xok_cons x122 (xok_cons x123 (xok_cons x124 (xok_cons x125 (xok_cons x126 (xok_cons x127 (xok_cons x128 (xok_cons x129 (xok_cons x130 (xok_cons x131 (xok_cons x132 (xok_cons x133 (xok_cons x134 (xok_cons x135 (xok_cons x136 (xok_cons x137 (xok_cons x138 (xok_cons x139 (xok_cons x140 (xok_cons x141 (xok_cons x142 (xok_cons x143 (xok_cons x144 (xok_cons x145 (xok_cons x146 (xok_cons x147 (xok_cons x148 (xok_cons x149 (xok_cons x150 (xok_cons x151 (xok_cons x152 (xok_cons x153 (xok_cons x154 (xok_cons x155 (xok_cons x156 (xok_cons x157 (xok_cons x158 (xok_cons x159 (xok_cons x160 (xok_cons x161 (xok_cons x162 (xok_cons x163 (xok_cons x164 (xok_cons x165 (xok_cons x166 (xok_cons x167 (xok_cons x168 (xok_cons x169 (xok_cons x170 (xok_cons x171 (xok_cons x172 (xok_cons x173 (xok_cons x174 (xok_cons x175 (xok_cons x176 (xok_cons x177 (xok_cons x178 (xok_cons x179 (xok_cons x180 (xok_cons x181 (xok_cons x182 (xok_cons x183 (xok_cons x184 (xok_cons x185 (xok_cons x186 (xok_cons x187 (xok_cons x188 (xok_cons x189 (xok_cons x190 (xok_cons x191 (xok_cons x192 (xok_cons x193 (xok_cons x194 (xok_cons x195 (xok_cons x196 (xok_cons x197 (xok_cons x198 (xok_cons x199 (xok_cons x200 (xok_cons x201 (xok_cons x202 (xok_cons x203 (xok_cons x204 (xok_cons x205 (xok_cons x206 (xok_cons x207 (xok_cons x208 (xok_cons x209 (xok_cons x210 (xok_cons x211 (xok_cons x212 (xok_cons x213 (xok_cons x214 (xok_cons x215 (xok_cons x216 (xok_cons x217 (xok_cons x218 (xok_cons x219 (xok_cons x220 (xok_cons x221 (xok_cons x222 (xok_cons x223 (xok_cons x224 (xok_cons x225 (xok_cons x226 (xok_cons x227 (xok_cons x228 (xok_cons x229 (xok_cons x230 (xok_cons x231 (xok_cons x232 (xok_cons x233 (xok_cons x234 (xok_cons x235 (xok_cons x236 (xok_cons x237 (xok_cons x238 (xok_cons x239 (xok_cons x240 (xok_cons x241 (xok_cons x242 (xok_cons x243 (xok_cons x244 (xok_cons x245 (xok_cons x246 (xok_cons x247 (xok_cons x248 (xok_cons x249 (xok_cons x250 (xok_cons x251 (xok_cons x252 (xok_cons x253 (xok_cons x254 (xok_cons x255 (xok_cons x256 (xok_cons x257 (xok_cons x258 (xok_cons x259 (xok_cons x260 (xok_cons x261 (xok_cons x262 (xok_cons x263 (xok_cons x264 (xok_cons x265 (xok_cons x266 (xok_cons x267 (xok_cons x268 (xok_cons x269 (xok_cons x270 (xok_cons x271 (xok_cons x272 (xok_cons x273 (xok_cons x274 (xok_cons x275 (xok_cons x276 (xok_cons x277 (xok_cons x278 (xok_cons x279 (xok_cons x280 (xok_cons x281 (xok_cons x282 (xok_cons x283 (xok_cons x284 (xok_cons x285 (xok_cons x286 (xok_cons x287 (xok_cons x288 (xok_cons x289 (xok_cons x290 (xok_cons x291 (xok_cons x292 (xok_cons x293 (xok_cons x294 (xok_cons x295 (xok_cons x296 (xok_cons x297 (xok_cons x298 (xok_cons x299 (xok_cons x300 (xok_cons x301 (xok_cons x302 (xok_cons x303 (xok_cons x304 (xok_cons x305 (xok_cons x306 (xok_cons x307 (xok_cons x308 (xok_cons x309 (xok_cons x310 (xok_cons x311 (xok_cons x312 (xok_cons x313 (xok_cons x314 (xok_cons x315 (xok_cons x316 (xok_cons x317 (xok_cons x318 (xok_cons x319 (xok_cons x320 (xok_cons x321 (xok_cons x322 (xok_cons x323 (xok_cons x324 (xok_cons x325 (xok_cons x326 (xok_cons x327 (xok_cons x328 (xok_cons x329 (xok_cons x330 (xok_cons x331 (xok_cons x332 (xok_cons x333 (xok_cons x334 (xok_cons x335 (xok_cons x336 (xok_cons x337 (xok_cons x338 (xok_cons x339 (xok_cons x340 (xok_cons x341 (xok_cons x342 (xok_cons x343 (xok_cons x344 (xok_cons x345 (xok_cons x346 (xok_cons x347 (xok_cons x348 (xok_cons x349 (xok_cons x350 (xok_cons x351 (xok_cons x352 (xok_cons x353 (xok_cons x354 (xok_cons x355 (xok_cons x356 (xok_cons x357 (xok_cons x358 (xok_cons x359 (xok_cons x360 (xok_cons x361 (xok_cons x362 (xok_cons x363 (xok_cons x364 (xok_cons x365 (xok_cons x366 (xok_cons x367 (xok_cons x368 (xok_cons x369 (xok_cons x370 (xok_cons x388 (xok_cons x391 (xok_cons x392 (xok_cons x395 (xok_cons x397 (xok_cons x398 (xok_cons x399 (xok_cons x400 xok_nil))))))))))))))))))))))))))))))))))))))))))))))))))))))))))))))))))))))))))))))))))))))))))))))))))))))))))))))))))))))))))))))))))))))))))))))))))))))))))))))))))))))))))))))))))))))))))))))))))))))))))))))))))))))))))))))))))))))))))))))))))))))))))))))))))))))))))))))))))))))))))))))))))))))))))))))))))))))))))))))))))))))))))))))))))))))))))))))))))))))))))))))))))))))))))
theorem mix : Tryz.prog.follows .mixedOrders = true := by kernel_rfl
end Go.Proofs.YtnofenejoebkhaaGreat.Ev
/- PRINTED BY PROGRAM: what each of these functions does, computed over heaps by the evaluator, and that its calls do so. Conditions: none. -/
namespace Go.Proofs.YtnofenejoebkhaaGreat.Ev
open Go
-- spinney/nodes.New
namespace F61
def T : Hint := ⟨[(5, [0, 1])], []⟩
noncomputable def body : Code := (Tryz.f61.body).getD .skip
noncomputable def en (S : Stop) (p : List Nat) (κ : XK) : Fr → Heap → Prop := E Tryz.prog X T S (sub body p) κ
def fn (K : KK) : XK := fin Tryz.prog Tryz.f61.results.toList K
def f5 (x0 x1 : Int) : Fr := [(0, (.int .i64 x0)), (1, (.int .i64 x1))]
def J0 (k5 : Int → Int → Heap → Prop) (x0 x1 : Int) (h : Heap) (K : KK) : Prop :=
  bcase (decide (x0 < (1 : Int))) (K (.tuple #[(.pointer none), (.int .i64 (40 : Int))]) h) (bcase (decide (x0 > (8 : Int))) (K (.tuple #[(.pointer none), (.int .i64 (40 : Int))]) h) (bcase (decide (x1 < (1 : Int))) (K (.tuple #[(.pointer none), (.int .i64 (60 : Int))]) h) (bcase (decide (x1 > (32768 : Int))) (K (.tuple #[(.pointer none), (.int .i64 (60 : Int))]) h) (k5 x0 x1 h))))
theorem E0 (S : Stop) (x0 x1 : Int) (h : Heap) (K : KK) : (E Tryz.prog X T S body (fin Tryz.prog Tryz.f61.results.toList K) (args0 0 [(.int .i64 x0), (.int .i64 x1)]) h) = J0 (fun x0 x1 h => S (en S [1, 1] (fn K)) (f5 x0 x1) h) x0 x1 h K := by kernel_rfl
def Jk5 (x0 x1 : Int) (h : Heap) (K : KK) : Prop :=
  CallsH Tryz.prog 108 [(.int .i64 x0)] h (fun v1 h2 => ldP (some v1) (fun p3 => newK h2 (.cells #[(.int .i64 x1), (.pointer p3), (.slice none 0 0), (.slice none 0 0), (.pointer none), (.map none), (.pointer none), (.bool false)] 185) (fun b4 h5 => CallsH Tryz.prog 110 [(.int .i64 (256 : Int))] h5 (fun v6 h7 => ldI .i64 (some v6) (fun n8 => CallsH Tryz.prog 89 [(.int .i64 n8)] h7 (fun v9 h10 => ldP (some v9) (fun p11 => CallsH Tryz.prog 109 [(.pointer p11), (.int .i64 (0 : Int)), (.int .i64 (256 : Int))] h10 (fun v12 h13 => (∃ p14 : Option Addr, ∃ n15 : Int, v12 = (.tuple #[(.pointer p14), (.int .i64 n15)]) ∧ stK h13 (Addr.add (Addr.add (Addr.mk b4 0 none) 6) 0) (.pointer p14) (fun h16 => CallsH Tryz.prog 111 [(.pointer (some (Addr.mk b4 0 none))), (.int .i64 (32 : Int)), (.slice none 0 0)] h16 (fun v17 h18 => (v17 = (.tuple #[]) ∧ K (.tuple #[(.pointer (some (Addr.mk b4 0 none))), (.int .i64 (0 : Int))]) h18))))))))))))
theorem Ek5 (S : Stop) (x0 x1 : Int) (h : Heap) (K : KK) : (en S [1, 1] (fn K) (f5 x0 x1) h) = Jk5 x0 x1 h K := by kernel_rfl
def wk5 (x0 x1 : Int) (h : Heap) (K : KK) : Prop :=
  Jk5 x0 x1 h K
theorem ek5 (K : KK) (x0 x1 : Int) (h : Heap) : (en S0 [1, 1] (fn K) (f5 x0 x1) h) = wk5 x0 x1 h K := (Ek5 S0 x0 x1 h K).trans (rfl)
def w (x0 x1 : Int) (h : Heap) (K : KK) : Prop :=
  J0 (fun x0 x1 h => wk5 x0 x1 h K) x0 x1 h K
theorem e0 (K : KK) (x0 x1 : Int) (h : Heap) : (E Tryz.prog X T S0 body (fin Tryz.prog Tryz.f61.results.toList K) (args0 0 [(.int .i64 x0), (.int .i64 x1)]) h) = w x0 x1 h K := (E0 S0 x0 x1 h K).trans (cg1 (fun q0 => J0 q0 x0 x1 h K) (by funext x0 x1 h; exact ek5 K x0 x1 h))
theorem hb : Tryz.f61.body = some body := by kernel_rfl
theorem ok : okCode T Tryz.f61.ntmps body = true := by kernel_rfl
theorem spec (x0 : Int) (x1 : Int) (h : Heap) (K : KK) (H : w x0 x1 h K) : CallsH Tryz.prog 61 [(.int .i64 x0), (.int .i64 x1)] h K :=
  calls_of_E (T := T) Xok mix Tryz.func61 hb ok rfl (by rw [e0]; exact H)
end F61
-- (*spinney/nodes.Store).Is
namespace F74
def T : Hint := ⟨[], []⟩
noncomputable def body : Code := (Tryz.f74.body).getD .skip
def J0 (x0 : Addr) (x1 : Int) (h : Heap) (K : KK) : Prop :=
  bcase (decide (x1 ≤ (1 : Int))) (K (.bool true) h) (CallsH Tryz.prog 117 [(.pointer (some x0)), (.int .u32 x1)] h (fun v1 h2 => ldP (some v1) (fun p3 => K (.bool (!(Option.isNone p3))) h2)))
theorem E0 (S : Stop) (x0 : Addr) (x1 : Int) (h : Heap) (K : KK) : (E Tryz.prog X T S body (fin Tryz.prog Tryz.f74.results.toList K) (args0 0 [(.pointer (some x0)), (.int .u32 x1)]) h) = J0 x0 x1 h K := by kernel_rfl
def w (x0 : Addr) (x1 : Int) (h : Heap) (K : KK) : Prop :=
  J0 x0 x1 h K
theorem e0 (K : KK) (x0 : Addr) (x1 : Int) (h : Heap) : (E Tryz.prog X T S0 body (fin Tryz.prog Tryz.f74.results.toList K) (args0 0 [(.pointer (some x0)), (.int .u32 x1)]) h) = w x0 x1 h K := (E0 S0 x0 x1 h K).trans (rfl)
theorem hb : Tryz.f74.body = some body := by kernel_rfl
theorem ok : okCode T Tryz.f74.ntmps body = true := by kernel_rfl
theorem spec (x0 : Addr) (x1 : Int) (h : Heap) (K : KK) (H : w x0 x1 h K) : CallsH Tryz.prog 74 [(.pointer (some x0)), (.int .u32 x1)] h K :=
  calls_of_E (T := T) Xok mix Tryz.func74 hb ok rfl (by rw [e0]; exact H)
end F74
-- (*spinney/nodes.Store).at
namespace F117
def T : Hint := ⟨[], []⟩
noncomputable def body : Code := (Tryz.f117.body).getD .skip
def J0 (x0 : Addr) (x1 : Int) (h : Heap) (K : KK) : Prop :=
  bcase (decide (x1 < (2 : Int))) (K (.pointer none) h) (ldS (rd h (Addr.add x0 2)) (fun _ l2 _ => bcase (decide ((IntKind.wrap .i64 ((IntKind.wrap .i64 x1) - (2 : Int))) ≥ (Nat.cast l2 : Int))) (K (.pointer none) h) (ldS (rd h (Addr.add x0 2)) (fun p4 l5 _ => ptrK p4 (fun a7 => (0 ≤ (IntKind.wrap .u32 (x1 - (2 : Int))) ∧ (IntKind.wrap .u32 (x1 - (2 : Int))) < (Nat.cast l5 : Int) ∧ ldB (rd h (Addr.add (Addr.add a7 (Int.toNat (IntKind.wrap .u32 (x1 - (2 : Int))) * 4)) 0)) (fun b8 => bcase (!b8) (K (.pointer none) h) (ldS (rd h (Addr.add x0 2)) (fun p9 l10 _ => ptrK p9 (fun a12 => (0 ≤ (IntKind.wrap .u32 (x1 - (2 : Int))) ∧ (IntKind.wrap .u32 (x1 - (2 : Int))) < (Nat.cast l10 : Int) ∧ K (.pointer (some (Addr.add a12 (Int.toNat (IntKind.wrap .u32 (x1 - (2 : Int))) * 4)))) h)))))))))))
theorem E0 (S : Stop) (x0 : Addr) (x1 : Int) (h : Heap) (K : KK) : (E Tryz.prog X T S body (fin Tryz.prog Tryz.f117.results.toList K) (args0 0 [(.pointer (some x0)), (.int .u32 x1)]) h) = J0 x0 x1 h K := by kernel_rfl
def w (x0 : Addr) (x1 : Int) (h : Heap) (K : KK) : Prop :=
  J0 x0 x1 h K
theorem e0 (K : KK) (x0 : Addr) (x1 : Int) (h : Heap) : (E Tryz.prog X T S0 body (fin Tryz.prog Tryz.f117.results.toList K) (args0 0 [(.pointer (some x0)), (.int .u32 x1)]) h) = w x0 x1 h K := (E0 S0 x0 x1 h K).trans (rfl)
theorem hb : Tryz.f117.body = some body := by kernel_rfl
theorem ok : okCode T Tryz.f117.ntmps body = true := by kernel_rfl
theorem spec (x0 : Addr) (x1 : Int) (h : Heap) (K : KK) (H : w x0 x1 h K) : CallsH Tryz.prog 117 [(.pointer (some x0)), (.int .u32 x1)] h K :=
  calls_of_E (T := T) Xok mix Tryz.func117 hb ok rfl (by rw [e0]; exact H)
end F117
-- (*spinney/nodes.Store).Level
namespace F71
def T : Hint := ⟨[], []⟩
noncomputable def body : Code := (Tryz.f71.body).getD .skip
def J0 (x0 : Addr) (x1 : Int) (h : Heap) (K : KK) : Prop :=
  bcase (decide (x1 ≤ (1 : Int))) (CallsH Tryz.prog 75 [(.pointer (some x0))] h (fun v1 h2 => ldI .i64 (some v1) (fun n3 => K (.int .i64 n3) h2))) (CallsH Tryz.prog 117 [(.pointer (some x0)), (.int .u32 x1)] h (fun v4 h5 => ldP (some v4) (fun p6 => bcase (!(Option.isNone p6)) (ptrK p6 (fun a7 => ldI .i64 (rd h5 (Addr.add a7 1)) (fun n8 => K (.int .i64 n8) h5))) (K (.int .i64 (-1 : Int)) h5))))
theorem E0 (S : Stop) (x0 : Addr) (x1 : Int) (h : Heap) (K : KK) : (E Tryz.prog X T S body (fin Tryz.prog Tryz.f71.results.toList K) (args0 0 [(.pointer (some x0)), (.int .u32 x1)]) h) = J0 x0 x1 h K := by kernel_rfl
def w (x0 : Addr) (x1 : Int) (h : Heap) (K : KK) : Prop :=
  J0 x0 x1 h K
theorem e0 (K : KK) (x0 : Addr) (x1 : Int) (h : Heap) : (E Tryz.prog X T S0 body (fin Tryz.prog Tryz.f71.results.toList K) (args0 0 [(.pointer (some x0)), (.int .u32 x1)]) h) = w x0 x1 h K := (E0 S0 x0 x1 h K).trans (rfl)
theorem hb : Tryz.f71.body = some body := by kernel_rfl
theorem ok : okCode T Tryz.f71.ntmps body = true := by kernel_rfl
theorem spec (x0 : Addr) (x1 : Int) (h : Heap) (K : KK) (H : w x0 x1 h K) : CallsH Tryz.prog 71 [(.pointer (some x0)), (.int .u32 x1)] h K :=
  calls_of_E (T := T) Xok mix Tryz.func71 hb ok rfl (by rw [e0]; exact H)
end F71
-- (*spinney/nodes.Store).Low
namespace F72
def T : Hint := ⟨[], []⟩
noncomputable def body : Code := (Tryz.f72.body).getD .skip
def J0 (x0 : Addr) (x1 : Int) (h : Heap) (K : KK) : Prop :=
  CallsH Tryz.prog 117 [(.pointer (some x0)), (.int .u32 x1)] h (fun v1 h2 => ldP (some v1) (fun p3 => bcase (!(Option.isNone p3)) (ptrK p3 (fun a4 => ldI .u32 (rd h2 (Addr.add a4 2)) (fun n5 => K (.int .u32 n5) h2))) (CallsH Tryz.prog 118 [(.pointer (some x0)), (.int .u32 x1)] h2 (fun v6 h7 => ldI .i64 (some v6) (fun n8 => K (.int .u32 (bitsI .and .u32 x1 (IntKind.wrap .u32 n8))) h7)))))
theorem E0 (S : Stop) (x0 : Addr) (x1 : Int) (h : Heap) (K : KK) : (E Tryz.prog X T S body (fin Tryz.prog Tryz.f72.results.toList K) (args0 0 [(.pointer (some x0)), (.int .u32 x1)]) h) = J0 x0 x1 h K := by kernel_rfl
def w (x0 : Addr) (x1 : Int) (h : Heap) (K : KK) : Prop :=
  J0 x0 x1 h K
theorem e0 (K : KK) (x0 : Addr) (x1 : Int) (h : Heap) : (E Tryz.prog X T S0 body (fin Tryz.prog Tryz.f72.results.toList K) (args0 0 [(.pointer (some x0)), (.int .u32 x1)]) h) = w x0 x1 h K := (E0 S0 x0 x1 h K).trans (rfl)
theorem hb : Tryz.f72.body = some body := by kernel_rfl
theorem ok : okCode T Tryz.f72.ntmps body = true := by kernel_rfl
theorem spec (x0 : Addr) (x1 : Int) (h : Heap) (K : KK) (H : w x0 x1 h K) : CallsH Tryz.prog 72 [(.pointer (some x0)), (.int .u32 x1)] h K :=
  calls_of_E (T := T) Xok mix Tryz.func72 hb ok rfl (by rw [e0]; exact H)
end F72
-- (*spinney/nodes.Store).High
namespace F73
def T : Hint := ⟨[], []⟩
noncomputable def body : Code := (Tryz.f73.body).getD .skip
def J0 (x0 : Addr) (x1 : Int) (h : Heap) (K : KK) : Prop :=
  CallsH Tryz.prog 117 [(.pointer (some x0)), (.int .u32 x1)] h (fun v1 h2 => ldP (some v1) (fun p3 => bcase (!(Option.isNone p3)) (ptrK p3 (fun a4 => ldI .u32 (rd h2 (Addr.add a4 3)) (fun n5 => K (.int .u32 n5) h2))) (CallsH Tryz.prog 118 [(.pointer (some x0)), (.int .u32 x1)] h2 (fun v6 h7 => ldI .i64 (some v6) (fun n8 => K (.int .u32 (bitsI .and .u32 x1 (IntKind.wrap .u32 n8))) h7)))))
theorem E0 (S : Stop) (x0 : Addr) (x1 : Int) (h : Heap) (K : KK) : (E Tryz.prog X T S body (fin Tryz.prog Tryz.f73.results.toList K) (args0 0 [(.pointer (some x0)), (.int .u32 x1)]) h) = J0 x0 x1 h K := by kernel_rfl
def w (x0 : Addr) (x1 : Int) (h : Heap) (K : KK) : Prop :=
  J0 x0 x1 h K
theorem e0 (K : KK) (x0 : Addr) (x1 : Int) (h : Heap) : (E Tryz.prog X T S0 body (fin Tryz.prog Tryz.f73.results.toList K) (args0 0 [(.pointer (some x0)), (.int .u32 x1)]) h) = w x0 x1 h K := (E0 S0 x0 x1 h K).trans (rfl)
theorem hb : Tryz.f73.body = some body := by kernel_rfl
theorem ok : okCode T Tryz.f73.ntmps body = true := by kernel_rfl
theorem spec (x0 : Addr) (x1 : Int) (h : Heap) (K : KK) (H : w x0 x1 h K) : CallsH Tryz.prog 73 [(.pointer (some x0)), (.int .u32 x1)] h K :=
  calls_of_E (T := T) Xok mix Tryz.func73 hb ok rfl (by rw [e0]; exact H)
end F73
-- (*spinney/nodes.Store).has
namespace F199
def T : Hint := ⟨[(3, [0, 1, 6, 14, 15])], []⟩
noncomputable def body : Code := (Tryz.f199.body).getD .skip
noncomputable def en (S : Stop) (p : List Nat) (κ : XK) : Fr → Heap → Prop := E Tryz.prog X T S (sub body p) κ
noncomputable def ln (S : Stop) (p : List Nat) (κ : XK) (n : Nat) : Fr → Heap → Prop := loopN S (E Tryz.prog X T S (sub body p)) (cutQ T (sub body p)) κ n
def fn (K : KK) : XK := fin Tryz.prog Tryz.f199.results.toList K
noncomputable def c0 (S : Stop) (K : KK) : XK := seqN S (cutQ T (sub body [1, 1, 1])) (en S [1, 1, 1] (fn K)) (fn K)
noncomputable def c1 (S : Stop) (K : KK) : XK := blockN 0 (c0 S K)
noncomputable def c2 (S : Stop) (n3 : Nat) (K : KK) : XK := backN S (cutQ T (sub body [1, 1, 0, 1, 0, 0])) (ln S [1, 1, 0, 1, 0, 0] (c1 S K) n3) (c1 S K)
def f3 (x0 : Addr) (x1 x6 x14 x15 : Int) : Fr := [(0, (.pointer (some x0))), (1, (.int .u64 x1)), (6, (.int .i64 x6)), (14, (.int .i64 x14)), (15, (.int .i64 x15))]
def J0 (k3 : Addr → Int → Int → Int → Int → Heap → Prop) (x0 : Addr) (x1 : Int) (h : Heap) (_K : KK) : Prop :=
  ldP (rd h (Addr.add x0 4)) (fun p1 => CallsH Tryz.prog 200 [(.pointer p1)] h (fun v2 h3 => ldI .i64 (some v2) (fun n4 => k3 x0 x1 n4 n4 (0 : Int) h3)))
theorem E0 (S : Stop) (x0 : Addr) (x1 : Int) (h : Heap) (K : KK) : (E Tryz.prog X T S body (fin Tryz.prog Tryz.f199.results.toList K) (args0 0 [(.pointer (some x0)), (.int .u64 x1)]) h) = J0 (fun x0 x1 x6 x14 x15 h => S (en S [1, 1, 0, 1] (c0 S K)) (f3 x0 x1 x6 x14 x15) h) x0 x1 h K := by kernel_rfl
def Jk3 (lp3 : Addr → Int → Int → Int → Int → Heap → Prop) (x0 : Addr) (x1 x6 x14 x15 : Int) (h : Heap) (_K : KK) : Prop :=
  lp3 x0 x1 x6 x14 x15 h
theorem Ek3 (S : Stop) (x0 : Addr) (x1 x6 x14 x15 : Int) (h : Heap) (K : KK) : (en S [1, 1, 0, 1] (c0 S K) (f3 x0 x1 x6 x14 x15) h) = Jk3 (fun x0 x1 x6 x14 x15 h => ∃ n, S (ln S [1, 1, 0, 1, 0, 0] (c1 S K) n) (f3 x0 x1 x6 x14 x15) h) x0 x1 x6 x14 x15 h K := by kernel_rfl
def JL3 (bk3 : Addr → Int → Int → Int → Int → Heap → Prop) (x0 : Addr) (x1 x6 x14 x15 : Int) (h : Heap) (K : KK) : Prop :=
  bcase (decide (x15 < x14)) (CallsH Tryz.prog 246 [(.int .u64 x1), (.int .i64 x6)] h (fun v1 h2 => ldI .i64 (some v1) (fun n3 => (x6 ≠ 0 ∧ ldP (rd h2 (Addr.add x0 4)) (fun p4 => CallsH Tryz.prog 247 [(.pointer p4), (.int .i64 (Int.tmod (IntKind.wrap .i64 (n3 + x15)) x6))] h2 (fun v5 h6 => ldI .u64 (some v5) (fun n7 => bcase (n7 == x1) (ldM (rd h6 (Addr.add x0 5)) (fun r8 => lookK h6 r8 .i64 .i64 (Int.tmod (IntKind.wrap .i64 (n3 + x15)) x6) (fun o9 => ldI .u32 (some (lkV (.int .u32 (0 : Int)) o9)) (fun n10 => K (.tuple #[(.int .u32 n10), (.bool true)]) h6)))) (bcase (n7 == (0 : Int)) (K (.tuple #[(.int .u32 (0 : Int)), (.bool false)]) h6) (bk3 x0 x1 x6 x14 (IntKind.wrap .i64 (x15 + (1 : Int))) h6))))))))) (K (.tuple #[(.int .u32 (0 : Int)), (.bool false)]) h)
theorem EL3 (S : Stop) (n3 : Nat) (x0 : Addr) (x1 x6 x14 x15 : Int) (h : Heap) (K : KK) : (en S [1, 1, 0, 1, 0, 0] (c2 S n3 K) (f3 x0 x1 x6 x14 x15) h) = JL3 (fun x0 x1 x6 x14 x15 h => S (ln S [1, 1, 0, 1, 0, 0] (c1 S K) n3) (f3 x0 x1 x6 x14 x15) h) x0 x1 x6 x14 x15 h K := by kernel_rfl
def wL3 : Nat → Addr → Int → Int → Int → Int → Heap → KK → Prop
  | 0, _, _, _, _, _, _, _ => False
  | n + 1, x0, x1, x6, x14, x15, h, K => JL3 (fun x0 x1 x6 x14 x15 h => wL3 n x0 x1 x6 x14 x15 h K) x0 x1 x6 x14 x15 h K
theorem eL3 (K : KK) : ∀ (n : Nat) (x0 : Addr) (x1 x6 x14 x15 : Int) (h : Heap), (ln S0 [1, 1, 0, 1, 0, 0] (c1 S0 K) n (f3 x0 x1 x6 x14 x15) h) = wL3 n x0 x1 x6 x14 x15 h K
  | 0, _, _, _, _, _, _ => rfl
  | n + 1, x0, x1, x6, x14, x15, h => (EL3 S0 n x0 x1 x6 x14 x15 h K).trans (cg1 (fun q0 => JL3 q0 x0 x1 x6 x14 x15 h K) (by funext x0 x1 x6 x14 x15 h; exact (fun x0 x1 x6 x14 x15 h => eL3 K n x0 x1 x6 x14 x15 h) x0 x1 x6 x14 x15 h))
def wk3 (x0 : Addr) (x1 x6 x14 x15 : Int) (h : Heap) (K : KK) : Prop :=
  Jk3 (fun x0 x1 x6 x14 x15 h => ∃ m, wL3 m x0 x1 x6 x14 x15 h K) x0 x1 x6 x14 x15 h K
theorem ek3 (K : KK) (x0 : Addr) (x1 x6 x14 x15 : Int) (h : Heap) : (en S0 [1, 1, 0, 1] (c0 S0 K) (f3 x0 x1 x6 x14 x15) h) = wk3 x0 x1 x6 x14 x15 h K := (Ek3 S0 x0 x1 x6 x14 x15 h K).trans (cg1 (fun q0 => Jk3 q0 x0 x1 x6 x14 x15 h K) (by funext x0 x1 x6 x14 x15 h; exact ex_congr fun m => eL3 K m x0 x1 x6 x14 x15 h))
def w (x0 : Addr) (x1 : Int) (h : Heap) (K : KK) : Prop :=
  J0 (fun x0 x1 x6 x14 x15 h => wk3 x0 x1 x6 x14 x15 h K) x0 x1 h K
theorem e0 (K : KK) (x0 : Addr) (x1 : Int) (h : Heap) : (E Tryz.prog X T S0 body (fin Tryz.prog Tryz.f199.results.toList K) (args0 0 [(.pointer (some x0)), (.int .u64 x1)]) h) = w x0 x1 h K := (E0 S0 x0 x1 h K).trans (cg1 (fun q0 => J0 q0 x0 x1 h K) (by funext x0 x1 x6 x14 x15 h; exact ek3 K x0 x1 x6 x14 x15 h))
theorem hb : Tryz.f199.body = some body := by kernel_rfl
theorem ok : okCode T Tryz.f199.ntmps body = true := by kernel_rfl
theorem spec (x0 : Addr) (x1 : Int) (h : Heap) (K : KK) (H : w x0 x1 h K) : CallsH Tryz.prog 199 [(.pointer (some x0)), (.int .u64 x1)] h K :=
  calls_of_E (T := T) Xok mix Tryz.func199 hb ok rfl (by rw [e0]; exact H)
end F199
-- (*spinney/nodes.Store).finds
namespace F197
def T : Hint := ⟨[(3, [6, 7]), (4, [6])], []⟩
noncomputable def body : Code := (Tryz.f197.body).getD .skip
noncomputable def en (S : Stop) (p : List Nat) (κ : XK) : Fr → Heap → Prop := E Tryz.prog X T S (sub body p) κ
noncomputable def ln (S : Stop) (p : List Nat) (κ : XK) (n : Nat) : Fr → Heap → Prop := loopN S (E Tryz.prog X T S (sub body p)) (cutQ T (sub body p)) κ n
def fn (K : KK) : XK := fin Tryz.prog Tryz.f197.results.toList K
noncomputable def c0 (S : Stop) (K : KK) : XK := seqN S (cutQ T (sub body [1, 1, 1])) (en S [1, 1, 1] (fn K)) (fn K)
noncomputable def c1 (S : Stop) (K : KK) : XK := blockN 0 (c0 S K)
noncomputable def c2 (S : Stop) (n3 : Nat) (K : KK) : XK := backN S (cutQ T (sub body [1, 1, 0, 1, 0, 0])) (ln S [1, 1, 0, 1, 0, 0] (c1 S K) n3) (c1 S K)
def f3 (x6 : Option Addr) (x7 : Value) : Fr := [(6, (.pointer x6)), (7, x7)]
def f4 (x6 : Option Addr) : Fr := [(6, (.pointer x6))]
def J0 (k3 : (Option Addr) → Value → Heap → Prop) (x0 : Addr) (x1 : Int) (h : Heap) (_K : KK) : Prop :=
  ldP (rd h (Addr.add x0 4)) (fun p1 => CallsH Tryz.prog 241 [(.pointer p1), (.int .u64 x1)] h (fun v2 h3 => ldP (some v2) (fun p4 => k3 p4 (.func (.func 242) #[(.pointer p4)] #[]) h3)))
theorem E0 (S : Stop) (x0 : Addr) (x1 : Int) (h : Heap) (K : KK) : (E Tryz.prog X T S body (fin Tryz.prog Tryz.f197.results.toList K) (args0 0 [(.pointer (some x0)), (.int .u64 x1)]) h) = J0 (fun x6 x7 h => S (en S [1, 1, 0, 1] (c0 S K)) (f3 x6 x7) h) x0 x1 h K := by kernel_rfl
def Jk3 (lp3 : (Option Addr) → Value → Heap → Prop) (x6 : Option Addr) (x7 : Value) (h : Heap) (_K : KK) : Prop :=
  lp3 x6 x7 h
theorem Ek3 (S : Stop) (x6 : Option Addr) (x7 : Value) (h : Heap) (K : KK) : (en S [1, 1, 0, 1] (c0 S K) (f3 x6 x7) h) = Jk3 (fun x6 x7 h => ∃ n, S (ln S [1, 1, 0, 1, 0, 0] (c1 S K) n) (f3 x6 x7) h) x6 x7 h K := by kernel_rfl
def JL3 (bk3 : (Option Addr) → Value → Heap → Prop) (k4 : (Option Addr) → Heap → Prop) (x6 : Option Addr) (x7 : Value) (h : Heap) (_K : KK) : Prop :=
  dynK Tryz.prog X x7 [] h (fun v1 h2 => ldB (some v1) (fun b3 => bcase (!b3) (bk3 x6 x7 h2) (k4 x6 h2)))
theorem EL3 (S : Stop) (n3 : Nat) (x6 : Option Addr) (x7 : Value) (h : Heap) (K : KK) : (en S [1, 1, 0, 1, 0, 0] (c2 S n3 K) (f3 x6 x7) h) = JL3 (fun x6 x7 h => S (ln S [1, 1, 0, 1, 0, 0] (c1 S K) n3) (f3 x6 x7) h) (fun x6 h => S (en S [1, 1, 1] (fn K)) (f4 x6) h) x6 x7 h K := by kernel_rfl
def Jk4 (x6 : Option Addr) (h : Heap) (K : KK) : Prop :=
  CallsH Tryz.prog 243 [(.pointer x6)] h (fun v1 h2 => (∃ n3 : Int, ∃ n4 : Int, v1 = (.tuple #[(.int .i64 n3), (.int .i64 n4)]) ∧ CallsH Tryz.prog 244 [(.pointer x6)] h2 (fun v5 h6 => ldB (some v5) (fun b7 => K (.tuple #[(.int .i64 n3), (.bool b7)]) h6))))
theorem Ek4 (S : Stop) (x6 : Option Addr) (h : Heap) (K : KK) : (en S [1, 1, 1] (fn K) (f4 x6) h) = Jk4 x6 h K := by kernel_rfl
def wk4 (x6 : Option Addr) (h : Heap) (K : KK) : Prop :=
  Jk4 x6 h K
theorem ek4 (K : KK) (x6 : Option Addr) (h : Heap) : (en S0 [1, 1, 1] (fn K) (f4 x6) h) = wk4 x6 h K := (Ek4 S0 x6 h K).trans (rfl)
def wL3 : Nat → (Option Addr) → Value → Heap → KK → Prop
  | 0, _, _, _, _ => False
  | n + 1, x6, x7, h, K => JL3 (fun x6 x7 h => wL3 n x6 x7 h K) (fun x6 h => wk4 x6 h K) x6 x7 h K
theorem eL3 (K : KK) : ∀ (n : Nat) (x6 : Option Addr) (x7 : Value) (h : Heap), (ln S0 [1, 1, 0, 1, 0, 0] (c1 S0 K) n (f3 x6 x7) h) = wL3 n x6 x7 h K
  | 0, _, _, _ => rfl
  | n + 1, x6, x7, h => (EL3 S0 n x6 x7 h K).trans (cg2 (fun q0 q1 => JL3 q0 q1 x6 x7 h K) (by funext x6 x7 h; exact (fun x6 x7 h => eL3 K n x6 x7 h) x6 x7 h) (by funext x6 h; exact ek4 K x6 h))
def wk3 (x6 : Option Addr) (x7 : Value) (h : Heap) (K : KK) : Prop :=
  Jk3 (fun x6 x7 h => ∃ m, wL3 m x6 x7 h K) x6 x7 h K
theorem ek3 (K : KK) (x6 : Option Addr) (x7 : Value) (h : Heap) : (en S0 [1, 1, 0, 1] (c0 S0 K) (f3 x6 x7) h) = wk3 x6 x7 h K := (Ek3 S0 x6 x7 h K).trans (cg1 (fun q0 => Jk3 q0 x6 x7 h K) (by funext x6 x7 h; exact ex_congr fun m => eL3 K m x6 x7 h))
def w (x0 : Addr) (x1 : Int) (h : Heap) (K : KK) : Prop :=
  J0 (fun x6 x7 h => wk3 x6 x7 h K) x0 x1 h K
theorem e0 (K : KK) (x0 : Addr) (x1 : Int) (h : Heap) : (E Tryz.prog X T S0 body (fin Tryz.prog Tryz.f197.results.toList K) (args0 0 [(.pointer (some x0)), (.int .u64 x1)]) h) = w x0 x1 h K := (E0 S0 x0 x1 h K).trans (cg1 (fun q0 => J0 q0 x0 x1 h K) (by funext x6 x7 h; exact ek3 K x6 x7 h))
theorem hb : Tryz.f197.body = some body := by kernel_rfl
theorem ok : okCode T Tryz.f197.ntmps body = true := by kernel_rfl
theorem spec (x0 : Addr) (x1 : Int) (h : Heap) (K : KK) (H : w x0 x1 h K) : CallsH Tryz.prog 197 [(.pointer (some x0)), (.int .u64 x1)] h K :=
  calls_of_E (T := T) Xok mix Tryz.func197 hb ok rfl (by rw [e0]; exact H)
end F197
-- (*spinney/nodes.Store).lays
namespace F160
def T : Hint := ⟨[], []⟩
noncomputable def body : Code := (Tryz.f160.body).getD .skip
def J0 (x0 : Addr) (x1 : Int) (x2_0 : Bool) (x2_1 x2_2 x2_3 : Int) (h : Heap) (K : KK) : Prop :=
  newK h (.cells #[(.bool x2_0), (.int .i64 x2_1), (.int .u32 x2_2), (.int .u32 x2_3)] 195) (fun b1 h2 => ldI .i64 (rd h2 (Addr.add (Addr.mk b1 0 none) 1)) (fun n3 => ldI .u32 (rd h2 (Addr.add (Addr.mk b1 0 none) 2)) (fun n4 => ldI .u32 (rd h2 (Addr.add (Addr.mk b1 0 none) 3)) (fun n5 => CallsH Tryz.prog 198 [(.int .i64 n3), (.int .u32 n4), (.int .u32 n5)] h2 (fun v6 h7 => ldI .u64 (some v6) (fun n8 => CallsH Tryz.prog 197 [(.pointer (some x0)), (.int .u64 n8)] h7 (fun v9 h10 => (∃ n11 : Int, ∃ b12 : Bool, v9 = (.tuple #[(.int .i64 n11), (.bool b12)]) ∧ ldM (rd h10 (Addr.add x0 5)) (fun r13 => updK h10 r13 .i64 .i64 n11 (.int .u32 x1) (fun h14 => K (.tuple #[]) h14))))))))))
theorem E0 (S : Stop) (x0 : Addr) (x1 : Int) (x2_0 : Bool) (x2_1 x2_2 x2_3 : Int) (h : Heap) (K : KK) : (E Tryz.prog X T S body (fin Tryz.prog Tryz.f160.results.toList K) (args0 0 [(.pointer (some x0)), (.int .u32 x1), (.agg #[(.bool x2_0), (.int .i64 x2_1), (.int .u32 x2_2), (.int .u32 x2_3)])]) h) = J0 x0 x1 x2_0 x2_1 x2_2 x2_3 h K := by kernel_rfl
def w (x0 : Addr) (x1 : Int) (x2_0 : Bool) (x2_1 x2_2 x2_3 : Int) (h : Heap) (K : KK) : Prop :=
  J0 x0 x1 x2_0 x2_1 x2_2 x2_3 h K
theorem e0 (K : KK) (x0 : Addr) (x1 : Int) (x2_0 : Bool) (x2_1 x2_2 x2_3 : Int) (h : Heap) : (E Tryz.prog X T S0 body (fin Tryz.prog Tryz.f160.results.toList K) (args0 0 [(.pointer (some x0)), (.int .u32 x1), (.agg #[(.bool x2_0), (.int .i64 x2_1), (.int .u32 x2_2), (.int .u32 x2_3)])]) h) = w x0 x1 x2_0 x2_1 x2_2 x2_3 h K := (E0 S0 x0 x1 x2_0 x2_1 x2_2 x2_3 h K).trans (rfl)
theorem hb : Tryz.f160.body = some body := by kernel_rfl
theorem ok : okCode T Tryz.f160.ntmps body = true := by kernel_rfl
theorem spec (x0 : Addr) (x1 : Int) (x2_0 : Bool) (x2_1 : Int) (x2_2 : Int) (x2_3 : Int) (h : Heap) (K : KK) (H : w x0 x1 x2_0 x2_1 x2_2 x2_3 h K) : CallsH Tryz.prog 160 [(.pointer (some x0)), (.int .u32 x1), (.agg #[(.bool x2_0), (.int .i64 x2_1), (.int .u32 x2_2), (.int .u32 x2_3)])] h K :=
  calls_of_E (T := T) Xok mix Tryz.func160 hb ok rfl (by rw [e0]; exact H)
end F160
-- (*spinney/nodes.Store).grows
namespace F111
def T : Hint := ⟨[(4, [0, 6, 29, 30, 31]), (8, [0, 6]), (9, [0, 6, 42, 43, 44])], []⟩
noncomputable def body : Code := (Tryz.f111.body).getD .skip
noncomputable def en (S : Stop) (p : List Nat) (κ : XK) : Fr → Heap → Prop := E Tryz.prog X T S (sub body p) κ
noncomputable def ln (S : Stop) (p : List Nat) (κ : XK) (n : Nat) : Fr → Heap → Prop := loopN S (E Tryz.prog X T S (sub body p)) (cutQ T (sub body p)) κ n
def fn (K : KK) : XK := fin Tryz.prog Tryz.f111.results.toList K
noncomputable def c0 (S : Stop) (K : KK) : XK := seqN S (cutQ T (sub body [1, 1, 1, 1])) (en S [1, 1, 1, 1] (fn K)) (fn K)
noncomputable def c1 (S : Stop) (K : KK) : XK := blockN 0 (c0 S K)
noncomputable def c2 (S : Stop) (n4 : Nat) (K : KK) : XK := backN S (cutQ T (sub body [1, 1, 1, 0, 1, 0, 0])) (ln S [1, 1, 1, 0, 1, 0, 0] (c1 S K) n4) (c1 S K)
noncomputable def c3 (_S : Stop) (K : KK) : XK := blockN 2 (fn K)
noncomputable def c4 (S : Stop) (n9 : Nat) (K : KK) : XK := backN S (cutQ T (sub body [1, 1, 1, 1, 1, 0, 0])) (ln S [1, 1, 1, 1, 1, 0, 0] (c3 S K) n9) (c3 S K)
def f4 (x0 : Addr) (x6 : Option Nat) (x29p : Option Addr) (x29l x29c : Nat) (x30 x31 : Int) : Fr := [(0, (.pointer (some x0))), (6, (.map x6)), (29, (.slice x29p x29l x29c)), (30, (.int .i64 x30)), (31, (.int .i64 x31))]
def f8 (x0 : Addr) (x6 : Option Nat) : Fr := [(0, (.pointer (some x0))), (6, (.map x6))]
def f9 (x0 : Addr) (x6 : Option Nat) (x42p : Option Addr) (x42l x42c : Nat) (x43 x44 : Int) : Fr := [(0, (.pointer (some x0))), (6, (.map x6)), (42, (.slice x42p x42l x42c)), (43, (.int .i64 x43)), (44, (.int .i64 x44))]
def J0 (k4 : Addr → (Option Nat) → (Option Addr) → Nat → Nat → Int → Int → Heap → Prop) (x0 : Addr) (x1 : Int) (x2p : Option Addr) (x2l x2c : Nat) (h : Heap) (_K : KK) : Prop :=
  CallsH Tryz.prog 89 [(.int .i64 x1)] h (fun v1 h2 => ldP (some v1) (fun p3 => CallsH Tryz.prog 159 [(.pointer p3), (.int .i64 (0 : Int)), (.int .i64 x1)] h2 (fun v4 h5 => (∃ p6 : Option Addr, ∃ n7 : Int, v4 = (.tuple #[(.pointer p6), (.int .i64 n7)]) ∧ stK h5 (Addr.add (Addr.add x0 4) 0) (.pointer p6) (fun h8 => newK h8 (.map #[] 0) (fun b9 h10 => stK h10 (Addr.add (Addr.add x0 5) 0) (.map (some b9)) (fun h11 => newK h11 (.map #[] 0) (fun b12 h13 => k4 x0 (some b12) x2p x2l x2c (Nat.cast x2l : Int) (0 : Int) h13))))))))
theorem E0 (S : Stop) (x0 : Addr) (x1 : Int) (x2p : Option Addr) (x2l x2c : Nat) (h : Heap) (K : KK) : (E Tryz.prog X T S body (fin Tryz.prog Tryz.f111.results.toList K) (args0 0 [(.pointer (some x0)), (.int .i64 x1), (.slice x2p x2l x2c)]) h) = J0 (fun x0 x6 x29p x29l x29c x30 x31 h => S (en S [1, 1, 1, 0, 1] (c0 S K)) (f4 x0 x6 x29p x29l x29c x30 x31) h) x0 x1 x2p x2l x2c h K := by kernel_rfl
def Jk4 (lp4 : Addr → (Option Nat) → (Option Addr) → Nat → Nat → Int → Int → Heap → Prop) (x0 : Addr) (x6 : Option Nat) (x29p : Option Addr) (x29l x29c : Nat) (x30 x31 : Int) (h : Heap) (_K : KK) : Prop :=
  lp4 x0 x6 x29p x29l x29c x30 x31 h
theorem Ek4 (S : Stop) (x0 : Addr) (x6 : Option Nat) (x29p : Option Addr) (x29l x29c : Nat) (x30 x31 : Int) (h : Heap) (K : KK) : (en S [1, 1, 1, 0, 1] (c0 S K) (f4 x0 x6 x29p x29l x29c x30 x31) h) = Jk4 (fun x0 x6 x29p x29l x29c x30 x31 h => ∃ n, S (ln S [1, 1, 1, 0, 1, 0, 0] (c1 S K) n) (f4 x0 x6 x29p x29l x29c x30 x31) h) x0 x6 x29p x29l x29c x30 x31 h K := by kernel_rfl
def JL4 (bk4 : Addr → (Option Nat) → (Option Addr) → Nat → Nat → Int → Int → Heap → Prop) (k8 : Addr → (Option Nat) → Heap → Prop) (x0 : Addr) (x6 : Option Nat) (x29p : Option Addr) (x29l x29c : Nat) (x30 x31 : Int) (h : Heap) (_K : KK) : Prop :=
  bcase (decide (x31 < x30)) (ptrK x29p (fun a1 => (0 ≤ x31 ∧ x31 < (Nat.cast x29l : Int) ∧ ldI .u32 (rd h (Addr.add a1 (Int.toNat x31 * 1))) (fun n2 => updK h x6 .u32 .u32 n2 (.agg #[]) (fun h3 => bk4 x0 x6 x29p x29l x29c x30 (IntKind.wrap .i64 (x31 + (1 : Int))) h3))))) (k8 x0 x6 h)
theorem EL4 (S : Stop) (n4 : Nat) (x0 : Addr) (x6 : Option Nat) (x29p : Option Addr) (x29l x29c : Nat) (x30 x31 : Int) (h : Heap) (K : KK) : (en S [1, 1, 1, 0, 1, 0, 0] (c2 S n4 K) (f4 x0 x6 x29p x29l x29c x30 x31) h) = JL4 (fun x0 x6 x29p x29l x29c x30 x31 h => S (ln S [1, 1, 1, 0, 1, 0, 0] (c1 S K) n4) (f4 x0 x6 x29p x29l x29c x30 x31) h) (fun x0 x6 h => S (en S [1, 1, 1, 1] (fn K)) (f8 x0 x6) h) x0 x6 x29p x29l x29c x30 x31 h K := by kernel_rfl
def Jk8 (k9 : Addr → (Option Nat) → (Option Addr) → Nat → Nat → Int → Int → Heap → Prop) (x0 : Addr) (x6 : Option Nat) (h : Heap) (_K : KK) : Prop :=
  ldS (rd h (Addr.add x0 2)) (fun p1 l2 c3 => k9 x0 x6 p1 l2 c3 (Nat.cast l2 : Int) (0 : Int) h)
theorem Ek8 (S : Stop) (x0 : Addr) (x6 : Option Nat) (h : Heap) (K : KK) : (en S [1, 1, 1, 1] (fn K) (f8 x0 x6) h) = Jk8 (fun x0 x6 x42p x42l x42c x43 x44 h => S (en S [1, 1, 1, 1, 1] (fn K)) (f9 x0 x6 x42p x42l x42c x43 x44) h) x0 x6 h K := by kernel_rfl
def Jk9 (lp9 : Addr → (Option Nat) → (Option Addr) → Nat → Nat → Int → Int → Heap → Prop) (x0 : Addr) (x6 : Option Nat) (x42p : Option Addr) (x42l x42c : Nat) (x43 x44 : Int) (h : Heap) (_K : KK) : Prop :=
  lp9 x0 x6 x42p x42l x42c x43 x44 h
theorem Ek9 (S : Stop) (x0 : Addr) (x6 : Option Nat) (x42p : Option Addr) (x42l x42c : Nat) (x43 x44 : Int) (h : Heap) (K : KK) : (en S [1, 1, 1, 1, 1] (fn K) (f9 x0 x6 x42p x42l x42c x43 x44) h) = Jk9 (fun x0 x6 x42p x42l x42c x43 x44 h => ∃ n, S (ln S [1, 1, 1, 1, 1, 0, 0] (c3 S K) n) (f9 x0 x6 x42p x42l x42c x43 x44) h) x0 x6 x42p x42l x42c x43 x44 h K := by kernel_rfl
def JL9 (bk9 : Addr → (Option Nat) → (Option Addr) → Nat → Nat → Int → Int → Heap → Prop) (x0 : Addr) (x6 : Option Nat) (x42p : Option Addr) (x42l x42c : Nat) (x43 x44 : Int) (h : Heap) (K : KK) : Prop :=
  bcase (decide (x44 < x43)) (ptrK x42p (fun a1 => (0 ≤ x44 ∧ x44 < (Nat.cast x42l : Int) ∧ ldB (rd h (Addr.add (Addr.add a1 (Int.toNat x44 * 4)) 0)) (fun b2 => ldI .i64 (rd h (Addr.add (Addr.add a1 (Int.toNat x44 * 4)) 1)) (fun n3 => ldI .u32 (rd h (Addr.add (Addr.add a1 (Int.toNat x44 * 4)) 2)) (fun n4 => ldI .u32 (rd h (Addr.add (Addr.add a1 (Int.toNat x44 * 4)) 3)) (fun n5 => newK h (.cells #[(.bool false), (.int .i64 (0 : Int)), (.int .u32 (0 : Int)), (.int .u32 (0 : Int))] 195) (fun b6 h7 => stK h7 (Addr.add (Addr.mk b6 0 none) 0) (.bool b2) (fun h8 => stK h8 (Addr.add (Addr.mk b6 0 none) 1) (.int .i64 n3) (fun h9 => stK h9 (Addr.add (Addr.mk b6 0 none) 2) (.int .u32 n4) (fun h10 => stK h10 (Addr.add (Addr.mk b6 0 none) 3) (.int .u32 n5) (fun h11 => lookK h11 x6 .u32 .u32 (IntKind.wrap .u32 (IntKind.wrap .i64 (x44 + (2 : Int)))) (fun o12 => ldV (some (lkV (.agg #[]) o12)) (fun v13 => newK h11 (.cells #[] 218) (fun b14 h15 => storeE Tryz.prog 218 (some (Addr.mk b14 0 none)) v13 h15 (fun h16 => ldB (rd h16 (Addr.add (Addr.mk b6 0 none) 0)) (fun b17 => bcase b17 (bcase (!(Option.isSome o12)) (ldB (rd h16 (Addr.add (Addr.mk b6 0 none) 0)) (fun b18 => ldI .i64 (rd h16 (Addr.add (Addr.mk b6 0 none) 1)) (fun n19 => ldI .u32 (rd h16 (Addr.add (Addr.mk b6 0 none) 2)) (fun n20 => ldI .u32 (rd h16 (Addr.add (Addr.mk b6 0 none) 3)) (fun n21 => CallsH Tryz.prog 160 [(.pointer (some x0)), (.int .u32 (IntKind.wrap .u32 (IntKind.wrap .i64 (x44 + (2 : Int))))), (.agg #[(.bool b18), (.int .i64 n19), (.int .u32 n20), (.int .u32 n21)])] h16 (fun v22 h23 => (v22 = (.tuple #[]) ∧ bk9 x0 x6 x42p x42l x42c x43 (IntKind.wrap .i64 (x44 + (1 : Int))) h23))))))) (bk9 x0 x6 x42p x42l x42c x43 (IntKind.wrap .i64 (x44 + (1 : Int))) h16)) (bk9 x0 x6 x42p x42l x42c x43 (IntKind.wrap .i64 (x44 + (1 : Int))) h16)))))))))))))))))) (K (.tuple #[]) h)
theorem EL9 (S : Stop) (n9 : Nat) (x0 : Addr) (x6 : Option Nat) (x42p : Option Addr) (x42l x42c : Nat) (x43 x44 : Int) (h : Heap) (K : KK) : (en S [1, 1, 1, 1, 1, 0, 0] (c4 S n9 K) (f9 x0 x6 x42p x42l x42c x43 x44) h) = JL9 (fun x0 x6 x42p x42l x42c x43 x44 h => S (ln S [1, 1, 1, 1, 1, 0, 0] (c3 S K) n9) (f9 x0 x6 x42p x42l x42c x43 x44) h) x0 x6 x42p x42l x42c x43 x44 h K := by kernel_rfl
def wL9 : Nat → Addr → (Option Nat) → (Option Addr) → Nat → Nat → Int → Int → Heap → KK → Prop
  | 0, _, _, _, _, _, _, _, _, _ => False
  | n + 1, x0, x6, x42p, x42l, x42c, x43, x44, h, K => JL9 (fun x0 x6 x42p x42l x42c x43 x44 h => wL9 n x0 x6 x42p x42l x42c x43 x44 h K) x0 x6 x42p x42l x42c x43 x44 h K
theorem eL9 (K : KK) : ∀ (n : Nat) (x0 : Addr) (x6 : Option Nat) (x42p : Option Addr) (x42l x42c : Nat) (x43 x44 : Int) (h : Heap), (ln S0 [1, 1, 1, 1, 1, 0, 0] (c3 S0 K) n (f9 x0 x6 x42p x42l x42c x43 x44) h) = wL9 n x0 x6 x42p x42l x42c x43 x44 h K
  | 0, _, _, _, _, _, _, _, _ => rfl
  | n + 1, x0, x6, x42p, x42l, x42c, x43, x44, h => (EL9 S0 n x0 x6 x42p x42l x42c x43 x44 h K).trans (cg1 (fun q0 => JL9 q0 x0 x6 x42p x42l x42c x43 x44 h K) (by funext x0 x6 x42p x42l x42c x43 x44 h; exact (fun x0 x6 x42p x42l x42c x43 x44 h => eL9 K n x0 x6 x42p x42l x42c x43 x44 h) x0 x6 x42p x42l x42c x43 x44 h))
def wk9 (x0 : Addr) (x6 : Option Nat) (x42p : Option Addr) (x42l x42c : Nat) (x43 x44 : Int) (h : Heap) (K : KK) : Prop :=
  Jk9 (fun x0 x6 x42p x42l x42c x43 x44 h => ∃ m, wL9 m x0 x6 x42p x42l x42c x43 x44 h K) x0 x6 x42p x42l x42c x43 x44 h K
theorem ek9 (K : KK) (x0 : Addr) (x6 : Option Nat) (x42p : Option Addr) (x42l x42c : Nat) (x43 x44 : Int) (h : Heap) : (en S0 [1, 1, 1, 1, 1] (fn K) (f9 x0 x6 x42p x42l x42c x43 x44) h) = wk9 x0 x6 x42p x42l x42c x43 x44 h K := (Ek9 S0 x0 x6 x42p x42l x42c x43 x44 h K).trans (cg1 (fun q0 => Jk9 q0 x0 x6 x42p x42l x42c x43 x44 h K) (by funext x0 x6 x42p x42l x42c x43 x44 h; exact ex_congr fun m => eL9 K m x0 x6 x42p x42l x42c x43 x44 h))
def wk8 (x0 : Addr) (x6 : Option Nat) (h : Heap) (K : KK) : Prop :=
  Jk8 (fun x0 x6 x42p x42l x42c x43 x44 h => wk9 x0 x6 x42p x42l x42c x43 x44 h K) x0 x6 h K
theorem ek8 (K : KK) (x0 : Addr) (x6 : Option Nat) (h : Heap) : (en S0 [1, 1, 1, 1] (fn K) (f8 x0 x6) h) = wk8 x0 x6 h K := (Ek8 S0 x0 x6 h K).trans (cg1 (fun q0 => Jk8 q0 x0 x6 h K) (by funext x0 x6 x42p x42l x42c x43 x44 h; exact ek9 K x0 x6 x42p x42l x42c x43 x44 h))
def wL4 : Nat → Addr → (Option Nat) → (Option Addr) → Nat → Nat → Int → Int → Heap → KK → Prop
  | 0, _, _, _, _, _, _, _, _, _ => False
  | n + 1, x0, x6, x29p, x29l, x29c, x30, x31, h, K => JL4 (fun x0 x6 x29p x29l x29c x30 x31 h => wL4 n x0 x6 x29p x29l x29c x30 x31 h K) (fun x0 x6 h => wk8 x0 x6 h K) x0 x6 x29p x29l x29c x30 x31 h K
theorem eL4 (K : KK) : ∀ (n : Nat) (x0 : Addr) (x6 : Option Nat) (x29p : Option Addr) (x29l x29c : Nat) (x30 x31 : Int) (h : Heap), (ln S0 [1, 1, 1, 0, 1, 0, 0] (c1 S0 K) n (f4 x0 x6 x29p x29l x29c x30 x31) h) = wL4 n x0 x6 x29p x29l x29c x30 x31 h K
  | 0, _, _, _, _, _, _, _, _ => rfl
  | n + 1, x0, x6, x29p, x29l, x29c, x30, x31, h => (EL4 S0 n x0 x6 x29p x29l x29c x30 x31 h K).trans (cg2 (fun q0 q1 => JL4 q0 q1 x0 x6 x29p x29l x29c x30 x31 h K) (by funext x0 x6 x29p x29l x29c x30 x31 h; exact (fun x0 x6 x29p x29l x29c x30 x31 h => eL4 K n x0 x6 x29p x29l x29c x30 x31 h) x0 x6 x29p x29l x29c x30 x31 h) (by funext x0 x6 h; exact ek8 K x0 x6 h))
def wk4 (x0 : Addr) (x6 : Option Nat) (x29p : Option Addr) (x29l x29c : Nat) (x30 x31 : Int) (h : Heap) (K : KK) : Prop :=
  Jk4 (fun x0 x6 x29p x29l x29c x30 x31 h => ∃ m, wL4 m x0 x6 x29p x29l x29c x30 x31 h K) x0 x6 x29p x29l x29c x30 x31 h K
theorem ek4 (K : KK) (x0 : Addr) (x6 : Option Nat) (x29p : Option Addr) (x29l x29c : Nat) (x30 x31 : Int) (h : Heap) : (en S0 [1, 1, 1, 0, 1] (c0 S0 K) (f4 x0 x6 x29p x29l x29c x30 x31) h) = wk4 x0 x6 x29p x29l x29c x30 x31 h K := (Ek4 S0 x0 x6 x29p x29l x29c x30 x31 h K).trans (cg1 (fun q0 => Jk4 q0 x0 x6 x29p x29l x29c x30 x31 h K) (by funext x0 x6 x29p x29l x29c x30 x31 h; exact ex_congr fun m => eL4 K m x0 x6 x29p x29l x29c x30 x31 h))
def w (x0 : Addr) (x1 : Int) (x2p : Option Addr) (x2l x2c : Nat) (h : Heap) (K : KK) : Prop :=
  J0 (fun x0 x6 x29p x29l x29c x30 x31 h => wk4 x0 x6 x29p x29l x29c x30 x31 h K) x0 x1 x2p x2l x2c h K
theorem e0 (K : KK) (x0 : Addr) (x1 : Int) (x2p : Option Addr) (x2l x2c : Nat) (h : Heap) : (E Tryz.prog X T S0 body (fin Tryz.prog Tryz.f111.results.toList K) (args0 0 [(.pointer (some x0)), (.int .i64 x1), (.slice x2p x2l x2c)]) h) = w x0 x1 x2p x2l x2c h K := (E0 S0 x0 x1 x2p x2l x2c h K).trans (cg1 (fun q0 => J0 q0 x0 x1 x2p x2l x2c h K) (by funext x0 x6 x29p x29l x29c x30 x31 h; exact ek4 K x0 x6 x29p x29l x29c x30 x31 h))
theorem hb : Tryz.f111.body = some body := by kernel_rfl
theorem ok : okCode T Tryz.f111.ntmps body = true := by kernel_rfl
theorem spec (x0 : Addr) (x1 : Int) (x2p : Option Addr) (x2l : Nat) (x2c : Nat) (h : Heap) (K : KK) (H : w x0 x1 x2p x2l x2c h K) : CallsH Tryz.prog 111 [(.pointer (some x0)), (.int .i64 x1), (.slice x2p x2l x2c)] h K :=
  calls_of_E (T := T) Xok mix Tryz.func111 hb ok rfl (by rw [e0]; exact H)
end F111
-- (*spinney/nodes.Store).Mk
namespace F161
def T : Hint := ⟨[(9, [0, 1, 2, 3]), (17, [0, 1, 2, 3])], [(13, [[(0, []), (2, []), (3, []), (4, []), (5, []), (1, [2, 3, 4, 5]), (6, [])]]), (15, [[(0, []), (4, []), (5, []), (6, []), (7, []), (1, [4, 5, 6, 7]), (2, []), (3, []), (8, [2, 3]), (9, [])]])]⟩
noncomputable def body : Code := (Tryz.f161.body).getD .skip
noncomputable def en (S : Stop) (p : List Nat) (κ : XK) : Fr → Heap → Prop := E Tryz.prog X T S (sub body p) κ
def fn (K : KK) : XK := fin Tryz.prog Tryz.f161.results.toList K
def f9 (x0 : Addr) (x1 x2 x3 : Int) : Fr := [(0, (.pointer (some x0))), (1, (.int .i64 x1)), (2, (.int .u32 x2)), (3, (.int .u32 x3))]
def f17 (x0 : Addr) (x1 x2 x3 : Int) : Fr := [(0, (.pointer (some x0))), (1, (.int .i64 x1)), (2, (.int .u32 x2)), (3, (.int .u32 x3))]
def J0 (k9 : Addr → Int → Int → Int → Heap → Prop) (x0 : Addr) (x1 x2 x3 : Int) (h : Heap) (K : KK) : Prop :=
  bcase (decide (x1 < (0 : Int))) (K (.tuple #[(.int .u32 (0 : Int)), (.int .i64 (40 : Int))]) h) (CallsH Tryz.prog 75 [(.pointer (some x0))] h (fun v1 h2 => ldI .i64 (some v1) (fun n3 => bcase (decide (x1 ≥ n3)) (K (.tuple #[(.int .u32 (0 : Int)), (.int .i64 (40 : Int))]) h2) (CallsH Tryz.prog 74 [(.pointer (some x0)), (.int .u32 x2)] h2 (fun v4 h5 => ldB (some v4) (fun b6 => bcase (!b6) (K (.tuple #[(.int .u32 (0 : Int)), (.int .i64 (101 : Int))]) h5) (CallsH Tryz.prog 74 [(.pointer (some x0)), (.int .u32 x3)] h5 (fun v7 h8 => ldB (some v7) (fun b9 => bcase (!b9) (K (.tuple #[(.int .u32 (0 : Int)), (.int .i64 (101 : Int))]) h8) (CallsH Tryz.prog 71 [(.pointer (some x0)), (.int .u32 x2)] h8 (fun v10 h11 => ldI .i64 (some v10) (fun n12 => bcase (decide (n12 ≤ x1)) (K (.tuple #[(.int .u32 (0 : Int)), (.int .i64 (100 : Int))]) h11) (CallsH Tryz.prog 71 [(.pointer (some x0)), (.int .u32 x3)] h11 (fun v13 h14 => ldI .i64 (some v13) (fun n15 => bcase (decide (n15 ≤ x1)) (K (.tuple #[(.int .u32 (0 : Int)), (.int .i64 (100 : Int))]) h14) (bcase (x2 == x3) (K (.tuple #[(.int .u32 x2), (.int .i64 (0 : Int))]) h14) (k9 x0 x1 x2 x3 h14)))))))))))))))))
theorem E0 (S : Stop) (x0 : Addr) (x1 x2 x3 : Int) (h : Heap) (K : KK) : (E Tryz.prog X T S body (fin Tryz.prog Tryz.f161.results.toList K) (args0 0 [(.pointer (some x0)), (.int .i64 x1), (.int .u32 x2), (.int .u32 x3)]) h) = J0 (fun x0 x1 x2 x3 h => S (en S [1, 1] (fn K)) (f9 x0 x1 x2 x3) h) x0 x1 x2 x3 h K := by kernel_rfl
def Jk9 (k17 : Addr → Int → Int → Int → Heap → Prop) (x0 : Addr) (x1 x2 x3 : Int) (h : Heap) (K : KK) : Prop :=
  CallsH Tryz.prog 198 [(.int .i64 x1), (.int .u32 x2), (.int .u32 x3)] h (fun v1 h2 => ldI .u64 (some v1) (fun n3 => CallsH Tryz.prog 199 [(.pointer (some x0)), (.int .u64 n3)] h2 (fun v4 h5 => (∃ n6 : Int, ∃ b7 : Bool, v4 = (.tuple #[(.int .u32 n6), (.bool b7)]) ∧ bcase b7 (K (.tuple #[(.int .u32 n6), (.int .i64 (0 : Int))]) h5) (ldI .i64 (rd h5 (Addr.add x0 0)) (fun n8 => CallsH Tryz.prog 45 [(.pointer (some x0))] h5 (fun v9 h10 => ldI .i64 (some v9) (fun n11 => ((.pointer (some x0)) = ((.pointer (some x0)) : Value) ∧ ((.pointer (some x0)) = ((.pointer (some x0)) : Value) ∧ ((.pointer (some (Addr.add x0 0))) = ((.pointer (some (Addr.add x0 0))) : Value) ∧ ldI .i64 (rd h10 (Addr.add x0 0)) (fun n12 => ((.int .i64 n12) = ((.int .i64 n8) : Value) ∧ bcase (decide (n11 ≥ n8)) (K (.tuple #[(.int .u32 (0 : Int)), (.int .i64 (60 : Int))]) h10) (ldP (rd h10 (Addr.add x0 4)) (fun p13 => CallsH Tryz.prog 45 [(.pointer (some x0))] h10 (fun v14 h15 => ldI .i64 (some v14) (fun n16 => ((.pointer (some x0)) = ((.pointer (some x0)) : Value) ∧ ((.pointer (some x0)) = ((.pointer (some x0)) : Value) ∧ ((.pointer (some (Addr.add x0 4))) = ((.pointer (some (Addr.add x0 4))) : Value) ∧ ldP (rd h15 (Addr.add x0 4)) (fun p17 => ((.pointer p17) = ((.pointer p13) : Value) ∧ CallsH Tryz.prog 200 [(.pointer p13)] h15 (fun v18 h19 => ldI .i64 (some v18) (fun n20 => ((.int .i64 (IntKind.wrap .i64 (n16 + (1 : Int)))) = ((.int .i64 (IntKind.wrap .i64 (n16 + (1 : Int)))) : Value) ∧ ((.int .i64 (IntKind.wrap .i64 ((2 : Int) * (IntKind.wrap .i64 (n16 + (1 : Int)))))) = ((.int .i64 (IntKind.wrap .i64 ((2 : Int) * (IntKind.wrap .i64 (n16 + (1 : Int)))))) : Value) ∧ bcase (decide ((IntKind.wrap .i64 ((2 : Int) * (IntKind.wrap .i64 (n16 + (1 : Int))))) > n20)) (ldP (rd h19 (Addr.add x0 4)) (fun p21 => CallsH Tryz.prog 200 [(.pointer p21)] h19 (fun v22 h23 => ldI .i64 (some v22) (fun n24 => CallsH Tryz.prog 111 [(.pointer (some x0)), (.int .i64 (IntKind.wrap .i64 ((2 : Int) * n24))), (.slice none 0 0)] h23 (fun v25 h26 => (v25 = (.tuple #[]) ∧ k17 x0 x1 x2 x3 h26)))))) (k17 x0 x1 x2 x3 h19)))))))))))))))))))))))))))
theorem Ek9 (S : Stop) (x0 : Addr) (x1 x2 x3 : Int) (h : Heap) (K : KK) : (en S [1, 1] (fn K) (f9 x0 x1 x2 x3) h) = Jk9 (fun x0 x1 x2 x3 h => S (en S [1, 1, 1, 1, 1, 1] (fn K)) (f17 x0 x1 x2 x3) h) x0 x1 x2 x3 h K := by kernel_rfl
def Jk17 (x0 : Addr) (x1 x2 x3 : Int) (h : Heap) (K : KK) : Prop :=
  CallsH Tryz.prog 201 [(.pointer (some x0))] h (fun v1 h2 => ldI .u32 (some v1) (fun n3 => ldS (rd h2 (Addr.add x0 2)) (fun p4 l5 _ => ptrK p4 (fun a7 => (0 ≤ (IntKind.wrap .u32 (n3 - (2 : Int))) ∧ (IntKind.wrap .u32 (n3 - (2 : Int))) < (Nat.cast l5 : Int) ∧ stK h2 (Addr.add (Addr.add a7 (Int.toNat (IntKind.wrap .u32 (n3 - (2 : Int))) * 4)) 0) (.bool true) (fun h8 => stK h8 (Addr.add (Addr.add a7 (Int.toNat (IntKind.wrap .u32 (n3 - (2 : Int))) * 4)) 1) (.int .i64 x1) (fun h9 => stK h9 (Addr.add (Addr.add a7 (Int.toNat (IntKind.wrap .u32 (n3 - (2 : Int))) * 4)) 2) (.int .u32 x2) (fun h10 => stK h10 (Addr.add (Addr.add a7 (Int.toNat (IntKind.wrap .u32 (n3 - (2 : Int))) * 4)) 3) (.int .u32 x3) (fun h11 => ldS (rd h11 (Addr.add x0 2)) (fun p12 l13 _ => ptrK p12 (fun a15 => (0 ≤ (IntKind.wrap .u32 (n3 - (2 : Int))) ∧ (IntKind.wrap .u32 (n3 - (2 : Int))) < (Nat.cast l13 : Int) ∧ ldB (rd h11 (Addr.add (Addr.add a15 (Int.toNat (IntKind.wrap .u32 (n3 - (2 : Int))) * 4)) 0)) (fun b16 => ldI .i64 (rd h11 (Addr.add (Addr.add a15 (Int.toNat (IntKind.wrap .u32 (n3 - (2 : Int))) * 4)) 1)) (fun n17 => ldI .u32 (rd h11 (Addr.add (Addr.add a15 (Int.toNat (IntKind.wrap .u32 (n3 - (2 : Int))) * 4)) 2)) (fun n18 => ldI .u32 (rd h11 (Addr.add (Addr.add a15 (Int.toNat (IntKind.wrap .u32 (n3 - (2 : Int))) * 4)) 3)) (fun n19 => CallsH Tryz.prog 160 [(.pointer (some x0)), (.int .u32 n3), (.agg #[(.bool b16), (.int .i64 n17), (.int .u32 n18), (.int .u32 n19)])] h11 (fun v20 h21 => (v20 = (.tuple #[]) ∧ K (.tuple #[(.int .u32 n3), (.int .i64 (0 : Int))]) h21))))))))))))))))))
theorem Ek17 (S : Stop) (x0 : Addr) (x1 x2 x3 : Int) (h : Heap) (K : KK) : (en S [1, 1, 1, 1, 1, 1] (fn K) (f17 x0 x1 x2 x3) h) = Jk17 x0 x1 x2 x3 h K := by kernel_rfl
def wk17 (x0 : Addr) (x1 x2 x3 : Int) (h : Heap) (K : KK) : Prop :=
  Jk17 x0 x1 x2 x3 h K
theorem ek17 (K : KK) (x0 : Addr) (x1 x2 x3 : Int) (h : Heap) : (en S0 [1, 1, 1, 1, 1, 1] (fn K) (f17 x0 x1 x2 x3) h) = wk17 x0 x1 x2 x3 h K := (Ek17 S0 x0 x1 x2 x3 h K).trans (rfl)
def wk9 (x0 : Addr) (x1 x2 x3 : Int) (h : Heap) (K : KK) : Prop :=
  Jk9 (fun x0 x1 x2 x3 h => wk17 x0 x1 x2 x3 h K) x0 x1 x2 x3 h K
theorem ek9 (K : KK) (x0 : Addr) (x1 x2 x3 : Int) (h : Heap) : (en S0 [1, 1] (fn K) (f9 x0 x1 x2 x3) h) = wk9 x0 x1 x2 x3 h K := (Ek9 S0 x0 x1 x2 x3 h K).trans (cg1 (fun q0 => Jk9 q0 x0 x1 x2 x3 h K) (by funext x0 x1 x2 x3 h; exact ek17 K x0 x1 x2 x3 h))
def w (x0 : Addr) (x1 x2 x3 : Int) (h : Heap) (K : KK) : Prop :=
  J0 (fun x0 x1 x2 x3 h => wk9 x0 x1 x2 x3 h K) x0 x1 x2 x3 h K
theorem e0 (K : KK) (x0 : Addr) (x1 x2 x3 : Int) (h : Heap) : (E Tryz.prog X T S0 body (fin Tryz.prog Tryz.f161.results.toList K) (args0 0 [(.pointer (some x0)), (.int .i64 x1), (.int .u32 x2), (.int .u32 x3)]) h) = w x0 x1 x2 x3 h K := (E0 S0 x0 x1 x2 x3 h K).trans (cg1 (fun q0 => J0 q0 x0 x1 x2 x3 h K) (by funext x0 x1 x2 x3 h; exact ek9 K x0 x1 x2 x3 h))
theorem hb : Tryz.f161.body = some body := by kernel_rfl
theorem ok : okCode T Tryz.f161.ntmps body = true := by kernel_rfl
theorem spec (x0 : Addr) (x1 : Int) (x2 : Int) (x3 : Int) (h : Heap) (K : KK) (H : w x0 x1 x2 x3 h K) : CallsH Tryz.prog 161 [(.pointer (some x0)), (.int .i64 x1), (.int .u32 x2), (.int .u32 x3)] h K :=
  calls_of_E (T := T) Xok mix Tryz.func161 hb ok rfl (by rw [e0]; exact H)
end F161
-- (*spinney/nodes.Store).Len
namespace F45
def T : Hint := ⟨[], [(1, [[(0, []), (1, []), (2, []), (3, []), (4, []), (5, []), (6, []), (7, []), (8, []), (9, []), (10, []), (11, [])]])]⟩
noncomputable def body : Code := (Tryz.f45.body).getD .skip
def J0 (x0 : Addr) (h : Heap) (K : KK) : Prop :=
  ldS (rd h (Addr.add x0 2)) (fun _ l2 _ => ldS (rd h (Addr.add x0 3)) (fun _ l5 _ => K (.int .i64 (IntKind.wrap .i64 ((Nat.cast l2 : Int) - (Nat.cast l5 : Int)))) h))
theorem E0 (S : Stop) (x0 : Addr) (h : Heap) (K : KK) : (E Tryz.prog X T S body (fin Tryz.prog Tryz.f45.results.toList K) (args0 0 [(.pointer (some x0))]) h) = J0 x0 h K := by kernel_rfl
def w (x0 : Addr) (h : Heap) (K : KK) : Prop :=
  J0 x0 h K
theorem e0 (K : KK) (x0 : Addr) (h : Heap) : (E Tryz.prog X T S0 body (fin Tryz.prog Tryz.f45.results.toList K) (args0 0 [(.pointer (some x0))]) h) = w x0 h K := (E0 S0 x0 h K).trans (rfl)
theorem hb : Tryz.f45.body = some body := by kernel_rfl
theorem ok : okCode T Tryz.f45.ntmps body = true := by kernel_rfl
theorem spec (x0 : Addr) (h : Heap) (K : KK) (H : w x0 h K) : CallsH Tryz.prog 45 [(.pointer (some x0))] h K :=
  calls_of_E (T := T) Xok mix Tryz.func45 hb ok rfl (by rw [e0]; exact H)
end F45
-- (*spinney/nodes.Store).handle
namespace F201
def T : Hint := ⟨[], []⟩
noncomputable def body : Code := (Tryz.f201.body).getD .skip
def J0 (x0 : Addr) (h : Heap) (K : KK) : Prop :=
  ldS (rd h (Addr.add x0 3)) (fun _ l2 _ => bcase (decide ((Nat.cast l2 : Int) > (0 : Int))) (ldS (rd h (Addr.add x0 3)) (fun p4 l5 _ => ptrK p4 (fun a7 => (0 ≤ (IntKind.wrap .i64 ((Nat.cast l2 : Int) - (1 : Int))) ∧ (IntKind.wrap .i64 ((Nat.cast l2 : Int) - (1 : Int))) < (Nat.cast l5 : Int) ∧ ldI .u32 (rd h (Addr.add a7 (Int.toNat (IntKind.wrap .i64 ((Nat.cast l2 : Int) - (1 : Int))) * 1))) (fun n8 => ldS (rd h (Addr.add x0 3)) (fun p9 _ c11 => (0 ≤ (IntKind.wrap .i64 ((Nat.cast l2 : Int) - (1 : Int))) ∧ (IntKind.wrap .i64 ((Nat.cast l2 : Int) - (1 : Int))) ≤ (Nat.cast c11 : Int) ∧ stK h (Addr.add (Addr.add x0 3) 0) (.slice (if c11 = 0 then p9 else Option.map (fun a => Addr.add a (0 * 1)) p9) (Int.toNat (IntKind.wrap .i64 ((Nat.cast l2 : Int) - (1 : Int))) - 0) (c11 - 0)) (fun h12 => K (.int .u32 n8) h12)))))))) (ldS (rd h (Addr.add x0 2)) (fun p13 l14 c15 => newK h (.cells #[(.bool false), (.int .i64 (0 : Int)), (.int .u32 (0 : Int)), (.int .u32 (0 : Int))] 195) (fun b16 h17 => appK h17 195 4 24 #[(.bool false), (.int .i64 (0 : Int)), (.int .u32 (0 : Int)), (.int .u32 (0 : Int))] p13 l14 c15 (some (Addr.mk b16 0 none)) 1 (fun p18 l19 c20 h21 => stK h21 (Addr.add (Addr.add x0 2) 0) (.slice p18 l19 c20) (fun h22 => ldS (rd h22 (Addr.add x0 2)) (fun _ l24 _ => K (.int .u32 (IntKind.wrap .u32 (IntKind.wrap .i64 ((IntKind.wrap .i64 ((Nat.cast l24 : Int) - (1 : Int))) + (2 : Int))))) h22)))))))
theorem E0 (S : Stop) (x0 : Addr) (h : Heap) (K : KK) : (E Tryz.prog X T S body (fin Tryz.prog Tryz.f201.results.toList K) (args0 0 [(.pointer (some x0))]) h) = J0 x0 h K := by kernel_rfl
def w (x0 : Addr) (h : Heap) (K : KK) : Prop :=
  J0 x0 h K
theorem e0 (K : KK) (x0 : Addr) (h : Heap) : (E Tryz.prog X T S0 body (fin Tryz.prog Tryz.f201.results.toList K) (args0 0 [(.pointer (some x0))]) h) = w x0 h K := (E0 S0 x0 h K).trans (rfl)
theorem hb : Tryz.f201.body = some body := by kernel_rfl
theorem ok : okCode T Tryz.f201.ntmps body = true := by kernel_rfl
theorem spec (x0 : Addr) (h : Heap) (K : KK) (H : w x0 h K) : CallsH Tryz.prog 201 [(.pointer (some x0))] h K :=
  calls_of_E (T := T) Xok mix Tryz.func201 hb ok rfl (by rw [e0]; exact H)
end F201
-- (*spinney/nodes.Store).Vars
namespace F75
def T : Hint := ⟨[], []⟩
noncomputable def body : Code := (Tryz.f75.body).getD .skip
def J0 (x0 : Addr) (h : Heap) (K : KK) : Prop :=
  ldP (rd h (Addr.add x0 1)) (fun p1 => CallsH Tryz.prog 119 [(.pointer p1)] h (fun v2 h3 => ldI .i64 (some v2) (fun n4 => K (.int .i64 n4) h3)))
theorem E0 (S : Stop) (x0 : Addr) (h : Heap) (K : KK) : (E Tryz.prog X T S body (fin Tryz.prog Tryz.f75.results.toList K) (args0 0 [(.pointer (some x0))]) h) = J0 x0 h K := by kernel_rfl
def w (x0 : Addr) (h : Heap) (K : KK) : Prop :=
  J0 x0 h K
theorem e0 (K : KK) (x0 : Addr) (h : Heap) : (E Tryz.prog X T S0 body (fin Tryz.prog Tryz.f75.results.toList K) (args0 0 [(.pointer (some x0))]) h) = w x0 h K := (E0 S0 x0 h K).trans (rfl)
theorem hb : Tryz.f75.body = some body := by kernel_rfl
theorem ok : okCode T Tryz.f75.ntmps body = true := by kernel_rfl
theorem spec (x0 : Addr) (h : Heap) (K : KK) (H : w x0 h K) : CallsH Tryz.prog 75 [(.pointer (some x0))] h K :=
  calls_of_E (T := T) Xok mix Tryz.func75 hb ok rfl (by rw [e0]; exact H)
end F75
-- (*spinney/nodes.Store).Order
namespace F47
def T : Hint := ⟨[], []⟩
noncomputable def body : Code := (Tryz.f47.body).getD .skip
def J0 (x0 : Addr) (h : Heap) (K : KK) : Prop :=
  ldP (rd h (Addr.add x0 1)) (fun p1 => CallsH Tryz.prog 104 [(.pointer p1)] h (fun v2 h3 => ldP (some v2) (fun p4 => K (.pointer p4) h3)))
theorem E0 (S : Stop) (x0 : Addr) (h : Heap) (K : KK) : (E Tryz.prog X T S body (fin Tryz.prog Tryz.f47.results.toList K) (args0 0 [(.pointer (some x0))]) h) = J0 x0 h K := by kernel_rfl
def w (x0 : Addr) (h : Heap) (K : KK) : Prop :=
  J0 x0 h K
theorem e0 (K : KK) (x0 : Addr) (h : Heap) : (E Tryz.prog X T S0 body (fin Tryz.prog Tryz.f47.results.toList K) (args0 0 [(.pointer (some x0))]) h) = w x0 h K := (E0 S0 x0 h K).trans (rfl)
theorem hb : Tryz.f47.body = some body := by kernel_rfl
theorem ok : okCode T Tryz.f47.ntmps body = true := by kernel_rfl
theorem spec (x0 : Addr) (h : Heap) (K : KK) (H : w x0 h K) : CallsH Tryz.prog 47 [(.pointer (some x0))] h K :=
  calls_of_E (T := T) Xok mix Tryz.func47 hb ok rfl (by rw [e0]; exact H)
end F47
-- spinney/nodes.key
namespace F198
def T : Hint := ⟨[], []⟩
noncomputable def body : Code := (Tryz.f198.body).getD .skip
def J0 (x0 x1 x2 : Int) (h : Heap) (K : KK) : Prop :=
  CallsH Tryz.prog 245 [(.int .u8 (IntKind.wrap .u8 x0)), (.int .u32 x1), (.int .u32 x2)] h (fun v1 h2 => ldI .u64 (some v1) (fun n3 => K (.int .u64 n3) h2))
theorem E0 (S : Stop) (x0 x1 x2 : Int) (h : Heap) (K : KK) : (E Tryz.prog X T S body (fin Tryz.prog Tryz.f198.results.toList K) (args0 0 [(.int .i64 x0), (.int .u32 x1), (.int .u32 x2)]) h) = J0 x0 x1 x2 h K := by kernel_rfl
def w (x0 x1 x2 : Int) (h : Heap) (K : KK) : Prop :=
  J0 x0 x1 x2 h K
theorem e0 (K : KK) (x0 x1 x2 : Int) (h : Heap) : (E Tryz.prog X T S0 body (fin Tryz.prog Tryz.f198.results.toList K) (args0 0 [(.int .i64 x0), (.int .u32 x1), (.int .u32 x2)]) h) = w x0 x1 x2 h K := (E0 S0 x0 x1 x2 h K).trans (rfl)
theorem hb : Tryz.f198.body = some body := by kernel_rfl
theorem ok : okCode T Tryz.f198.ntmps body = true := by kernel_rfl
theorem spec (x0 : Int) (x1 : Int) (x2 : Int) (h : Heap) (K : KK) (H : w x0 x1 x2 h K) : CallsH Tryz.prog 198 [(.int .i64 x0), (.int .u32 x1), (.int .u32 x2)] h K :=
  calls_of_E (T := T) Xok mix Tryz.func198 hb ok rfl (by rw [e0]; exact H)
end F198
-- (*spinney/nodes.Store).constant
namespace F118
def T : Hint := ⟨[], []⟩
noncomputable def body : Code := (Tryz.f118.body).getD .skip
def J0 (_x0 : Addr) (x1 : Int) (h : Heap) (K : KK) : Prop :=
  bcase (decide (x1 ≤ (1 : Int))) (K (.int .i64 (1 : Int)) h) (K (.int .i64 (0 : Int)) h)
theorem E0 (S : Stop) (x0 : Addr) (x1 : Int) (h : Heap) (K : KK) : (E Tryz.prog X T S body (fin Tryz.prog Tryz.f118.results.toList K) (args0 0 [(.pointer (some x0)), (.int .u32 x1)]) h) = J0 x0 x1 h K := by kernel_rfl
def w (x0 : Addr) (x1 : Int) (h : Heap) (K : KK) : Prop :=
  J0 x0 x1 h K
theorem e0 (K : KK) (x0 : Addr) (x1 : Int) (h : Heap) : (E Tryz.prog X T S0 body (fin Tryz.prog Tryz.f118.results.toList K) (args0 0 [(.pointer (some x0)), (.int .u32 x1)]) h) = w x0 x1 h K := (E0 S0 x0 x1 h K).trans (rfl)
theorem hb : Tryz.f118.body = some body := by kernel_rfl
theorem ok : okCode T Tryz.f118.ntmps body = true := by kernel_rfl
theorem spec (x0 : Addr) (x1 : Int) (h : Heap) (K : KK) (H : w x0 x1 h K) : CallsH Tryz.prog 118 [(.pointer (some x0)), (.int .u32 x1)] h K :=
  calls_of_E (T := T) Xok mix Tryz.func118 hb ok rfl (by rw [e0]; exact H)
end F118
end Go.Proofs.YtnofenejoebkhaaGreat.Ev
/- PRINTED BY PROGRAM: what each of these functions does, computed over heaps by the evaluator, and that its calls do so. Conditions: none. -/
namespace Go.Proofs.YtnofenejoebkhaaGreat.Ev
open Go
-- spinney/bits.Home
namespace F246
def T : Hint := ⟨[], []⟩
noncomputable def body : Code := (Tryz.f246.body).getD .skip
def J0 (x0 x1 : Int) (h : Heap) (K : KK) : Prop :=
  bcase (decide (x1 < (1 : Int))) (K (.int .i64 (0 : Int)) h) (CallsH Tryz.prog 286 [(.int .u64 x0)] h (fun v1 h2 => ldI .u64 (some v1) (fun n3 => ((IntKind.wrap .u64 x1) ≠ 0 ∧ K (.int .i64 (IntKind.wrap .i64 (Int.tmod n3 (IntKind.wrap .u64 x1)))) h2))))
theorem E0 (S : Stop) (x0 x1 : Int) (h : Heap) (K : KK) : (E Tryz.prog X T S body (fin Tryz.prog Tryz.f246.results.toList K) (args0 0 [(.int .u64 x0), (.int .i64 x1)]) h) = J0 x0 x1 h K := by kernel_rfl
def w (x0 x1 : Int) (h : Heap) (K : KK) : Prop :=
  J0 x0 x1 h K
theorem e0 (K : KK) (x0 x1 : Int) (h : Heap) : (E Tryz.prog X T S0 body (fin Tryz.prog Tryz.f246.results.toList K) (args0 0 [(.int .u64 x0), (.int .i64 x1)]) h) = w x0 x1 h K := (E0 S0 x0 x1 h K).trans (rfl)
theorem hb : Tryz.f246.body = some body := by kernel_rfl
theorem ok : okCode T Tryz.f246.ntmps body = true := by kernel_rfl
theorem spec (x0 : Int) (x1 : Int) (h : Heap) (K : KK) (H : w x0 x1 h K) : CallsH Tryz.prog 246 [(.int .u64 x0), (.int .i64 x1)] h K :=
  calls_of_E (T := T) Xok mix Tryz.func246 hb ok rfl (by rw [e0]; exact H)
end F246
-- spinney/bits.Mix
namespace F286
def T : Hint := ⟨[(2, [0, 5, 6]), (7, [0])], []⟩
noncomputable def body : Code := (Tryz.f286.body).getD .skip
noncomputable def en (S : Stop) (p : List Nat) (κ : XK) : Fr → Heap → Prop := E Tryz.prog X T S (sub body p) κ
noncomputable def ln (S : Stop) (p : List Nat) (κ : XK) (n : Nat) : Fr → Heap → Prop := loopN S (E Tryz.prog X T S (sub body p)) (cutQ T (sub body p)) κ n
def fn (K : KK) : XK := fin Tryz.prog Tryz.f286.results.toList K
noncomputable def c0 (S : Stop) (K : KK) : XK := seqN S (cutQ T (sub body [1, 1])) (en S [1, 1] (fn K)) (fn K)
noncomputable def c1 (S : Stop) (K : KK) : XK := blockN 0 (c0 S K)
noncomputable def c2 (S : Stop) (n2 : Nat) (K : KK) : XK := backN S (cutQ T (sub body [1, 0, 1, 0, 0])) (ln S [1, 0, 1, 0, 0] (c1 S K) n2) (c1 S K)
def f2 (x0 x6 : Int) : Fr := [(0, (.int .u64 x0)), (5, (.agg #[(.int .u64 (18397679294719823053 : Int)), (.int .u64 (14181476777654086739 : Int))])), (6, (.int .i64 x6))]
def f7 (x0 : Int) : Fr := [(0, (.int .u64 x0))]
def J0 (k2 : Int → Int → Heap → Prop) (x0 : Int) (h : Heap) (_K : KK) : Prop :=
  k2 x0 (0 : Int) h
theorem E0 (S : Stop) (x0 : Int) (h : Heap) (K : KK) : (E Tryz.prog X T S body (fin Tryz.prog Tryz.f286.results.toList K) (args0 0 [(.int .u64 x0)]) h) = J0 (fun x0 x6 h => S (en S [1, 0, 1] (c0 S K)) (f2 x0 x6) h) x0 h K := by kernel_rfl
def Jk2 (lp2 : Int → Int → Heap → Prop) (x0 x6 : Int) (h : Heap) (_K : KK) : Prop :=
  lp2 x0 x6 h
theorem Ek2 (S : Stop) (x0 x6 : Int) (h : Heap) (K : KK) : (en S [1, 0, 1] (c0 S K) (f2 x0 x6) h) = Jk2 (fun x0 x6 h => ∃ n, S (ln S [1, 0, 1, 0, 0] (c1 S K) n) (f2 x0 x6) h) x0 x6 h K := by kernel_rfl
def JL2 (bk2 : Int → Int → Heap → Prop) (k7 : Int → Heap → Prop) (x0 x6 : Int) (h : Heap) (_K : KK) : Prop :=
  bcase (decide (x6 < (2 : Int))) ((0 ≤ x6 ∧ x6 < (Nat.cast 2 : Int) ∧ ldI .u64 ([(.int .u64 (18397679294719823053 : Int)), (.int .u64 (14181476777654086739 : Int))] : List Value)[Int.toNat x6]? (fun n1 => (0 ≤ (33 : Int) ∧ bk2 (IntKind.wrap .u64 ((bitsI .xor .u64 x0 (Int.fdiv x0 (2 ^ (min (Int.toNat (33 : Int)) (IntKind.bits .u64))))) * n1)) (IntKind.wrap .i64 (x6 + (1 : Int))) h)))) (k7 x0 h)
theorem EL2 (S : Stop) (n2 : Nat) (x0 x6 : Int) (h : Heap) (K : KK) : (en S [1, 0, 1, 0, 0] (c2 S n2 K) (f2 x0 x6) h) = JL2 (fun x0 x6 h => S (ln S [1, 0, 1, 0, 0] (c1 S K) n2) (f2 x0 x6) h) (fun x0 h => S (en S [1, 1] (fn K)) (f7 x0) h) x0 x6 h K := by kernel_rfl
def Jk7 (x0 : Int) (h : Heap) (K : KK) : Prop :=
  (0 ≤ (33 : Int) ∧ K (.int .u64 (bitsI .xor .u64 x0 (Int.fdiv x0 (2 ^ (min (Int.toNat (33 : Int)) (IntKind.bits .u64)))))) h)
theorem Ek7 (S : Stop) (x0 : Int) (h : Heap) (K : KK) : (en S [1, 1] (fn K) (f7 x0) h) = Jk7 x0 h K := by kernel_rfl
def wk7 (x0 : Int) (h : Heap) (K : KK) : Prop :=
  Jk7 x0 h K
theorem ek7 (K : KK) (x0 : Int) (h : Heap) : (en S0 [1, 1] (fn K) (f7 x0) h) = wk7 x0 h K := (Ek7 S0 x0 h K).trans (rfl)
def wL2 : Nat → Int → Int → Heap → KK → Prop
  | 0, _, _, _, _ => False
  | n + 1, x0, x6, h, K => JL2 (fun x0 x6 h => wL2 n x0 x6 h K) (fun x0 h => wk7 x0 h K) x0 x6 h K
theorem eL2 (K : KK) : ∀ (n : Nat) (x0 x6 : Int) (h : Heap), (ln S0 [1, 0, 1, 0, 0] (c1 S0 K) n (f2 x0 x6) h) = wL2 n x0 x6 h K
  | 0, _, _, _ => rfl
  | n + 1, x0, x6, h => (EL2 S0 n x0 x6 h K).trans (cg2 (fun q0 q1 => JL2 q0 q1 x0 x6 h K) (by funext x0 x6 h; exact (fun x0 x6 h => eL2 K n x0 x6 h) x0 x6 h) (by funext x0 h; exact ek7 K x0 h))
def wk2 (x0 x6 : Int) (h : Heap) (K : KK) : Prop :=
  Jk2 (fun x0 x6 h => ∃ m, wL2 m x0 x6 h K) x0 x6 h K
theorem ek2 (K : KK) (x0 x6 : Int) (h : Heap) : (en S0 [1, 0, 1] (c0 S0 K) (f2 x0 x6) h) = wk2 x0 x6 h K := (Ek2 S0 x0 x6 h K).trans (cg1 (fun q0 => Jk2 q0 x0 x6 h K) (by funext x0 x6 h; exact ex_congr fun m => eL2 K m x0 x6 h))
def w (x0 : Int) (h : Heap) (K : KK) : Prop :=
  J0 (fun x0 x6 h => wk2 x0 x6 h K) x0 h K
theorem e0 (K : KK) (x0 : Int) (h : Heap) : (E Tryz.prog X T S0 body (fin Tryz.prog Tryz.f286.results.toList K) (args0 0 [(.int .u64 x0)]) h) = w x0 h K := (E0 S0 x0 h K).trans (cg1 (fun q0 => J0 q0 x0 h K) (by funext x0 x6 h; exact ek2 K x0 x6 h))
theorem hb : Tryz.f286.body = some body := by kernel_rfl
theorem ok : okCode T Tryz.f286.ntmps body = true := by kernel_rfl
theorem spec (x0 : Int) (h : Heap) (K : KK) (H : w x0 h K) : CallsH Tryz.prog 286 [(.int .u64 x0)] h K :=
  calls_of_E (T := T) Xok mix Tryz.func286 hb ok rfl (by rw [e0]; exact H)
end F286
-- spinney/bits.Node
namespace F245
def T : Hint := ⟨[], []⟩
noncomputable def body : Code := (Tryz.f245.body).getD .skip
def J0 (x0 x1 x2 : Int) (h : Heap) (K : KK) : Prop :=
  (0 ≤ (56 : Int) ∧ (0 ≤ (28 : Int) ∧ K (.int .u64 (bitsI .or .u64 (bitsI .or .u64 (IntKind.wrap .u64 ((IntKind.wrap .u64 x0) * 2 ^ (min (Int.toNat (56 : Int)) (IntKind.bits .u64)))) (IntKind.wrap .u64 ((IntKind.wrap .u64 (bitsI .and .u32 x1 (268435455 : Int))) * 2 ^ (min (Int.toNat (28 : Int)) (IntKind.bits .u64))))) (IntKind.wrap .u64 (bitsI .and .u32 x2 (268435455 : Int))))) h))
theorem E0 (S : Stop) (x0 x1 x2 : Int) (h : Heap) (K : KK) : (E Tryz.prog X T S body (fin Tryz.prog Tryz.f245.results.toList K) (args0 0 [(.int .u8 x0), (.int .u32 x1), (.int .u32 x2)]) h) = J0 x0 x1 x2 h K := by kernel_rfl
def w (x0 x1 x2 : Int) (h : Heap) (K : KK) : Prop :=
  J0 x0 x1 x2 h K
theorem e0 (K : KK) (x0 x1 x2 : Int) (h : Heap) : (E Tryz.prog X T S0 body (fin Tryz.prog Tryz.f245.results.toList K) (args0 0 [(.int .u8 x0), (.int .u32 x1), (.int .u32 x2)]) h) = w x0 x1 x2 h K := (E0 S0 x0 x1 x2 h K).trans (rfl)
theorem hb : Tryz.f245.body = some body := by kernel_rfl
theorem ok : okCode T Tryz.f245.ntmps body = true := by kernel_rfl
theorem spec (x0 : Int) (x1 : Int) (x2 : Int) (h : Heap) (K : KK) (H : w x0 x1 x2 h K) : CallsH Tryz.prog 245 [(.int .u8 x0), (.int .u32 x1), (.int .u32 x2)] h K :=
  calls_of_E (T := T) Xok mix Tryz.func245 hb ok rfl (by rw [e0]; exact H)
end F245
end Go.Proofs.YtnofenejoebkhaaGreat.Ev
/- HEAPS: blocks that hold cells, what is read there, what a store and a new block leave alone. Conditions: none. -/
namespace Go.Proofs.YtnofenejoebkhaaGreat.Ev
open Go
/-- block b holds these cells, none of them frozen -/
def At (h : Heap) (b : Nat) (c : List Value) : Prop := ∃ e, h[b]? = some (.cells c.toArray e)
/-- of what was there, at most the blocks S have turned -/
structure Only (S : List Nat) (h h' : Heap) : Prop where
  size : h.size ≤ h'.size
  same : ∀ b, b < h.size → b ∉ S → h'[b]? = h[b]?
  fzn : ∀ a, fz h' a = fz h a

theorem At.lt {h : Heap} {b : Nat} {c : List Value} (H : At h b c) : b < h.size := by
  obtain ⟨e, H⟩ := H
  exact (Array.getElem?_eq_some_iff.1 H).1
theorem At.rd {h : Heap} {b : Nat} {c : List Value} (H : At h b c) (i : Nat) : rd h ⟨b, i, none⟩ = c[i]? := by
  obtain ⟨e, H⟩ := H
  simp [Ev.rd, H]
theorem At.fz {h : Heap} {b : Nat} {c : List Value} (H : At h b c) (i : Nat) (s : Option Nat) : fz h ⟨b, i, s⟩ = false := by
  obtain ⟨e, H⟩ := H
  simp [Ev.fz, H]
theorem At.only {S : List Nat} {h h' : Heap} {b : Nat} {c : List Value} (H : At h b c) (O : Only S h h') (hb : b ∉ S) : At h' b c := by
  obtain ⟨e, H⟩ := H
  exact ⟨e, (O.same b (Array.getElem?_eq_some_iff.1 H).1 hb).trans H⟩
theorem At.inj {h : Heap} {b : Nat} {c d : List Value} (H : At h b c) (G : At h b d) : c = d := by
  obtain ⟨e, H⟩ := H
  obtain ⟨f, G⟩ := G
  rw [H] at G
  injection G with G
  injection G with G
  exact List.toArray_inj G

theorem Only.refl (S : List Nat) (h : Heap) : Only S h h := ⟨Nat.le_refl _, fun _ _ _ => rfl, fun _ => rfl⟩
theorem Only.trans {S T : List Nat} {h h' h'' : Heap} (A : Only S h h') (B : Only T h' h'') (hT : ∀ b, b ∈ T → b < h.size → b ∈ S) : Only S h h'' :=
  ⟨Nat.le_trans A.size B.size, fun b hb hS => (B.same b (Nat.lt_of_lt_of_le hb A.size) (fun hbT => hS (hT b hbT hb))).trans (A.same b hb hS),
   fun a => (B.fzn a).trans (A.fzn a)⟩
theorem Only.mono {S T : List Nat} {h h' : Heap} (A : Only S h h') (hS : ∀ b, b ∈ S → b < h.size → b ∈ T) : Only T h h' :=
  Only.trans (Only.refl T h) A hS
theorem Only.push_cells (h : Heap) (c : Array Value) (e : TypeId) : Only [] h (h.push (.cells c e)) := by
  refine ⟨by simp, fun b hb _ => by simp [Array.getElem?_push, Nat.ne_of_lt hb], fun a => ?_⟩
  unfold fz
  rw [Array.getElem?_push]
  by_cases ha : a.block = h.size
  · rw [if_pos ha, ha]
    simp
  · rw [if_neg ha]
theorem Only.push_map (h : Heap) (es : Array MapEntry) (n : Nat) : Only [] h (h.push (.map es n)) := by
  refine ⟨by simp, fun b hb _ => by simp [Array.getElem?_push, Nat.ne_of_lt hb], fun a => ?_⟩
  unfold fz
  rw [Array.getElem?_push]
  by_cases ha : a.block = h.size
  · rw [if_pos ha, ha]
    simp
  · rw [if_neg ha]
theorem wr_other (h : Heap) (a : Addr) (v : Value) (b : Nat) (hb : b ≠ a.block) : (wr h a v)[b]? = h[b]? := by
  unfold wr
  rw [Array.getElem?_modify, if_neg (fun e => hb e.symm)]
theorem Only.wr (h : Heap) (a : Addr) (v : Value) : Only [a.block] h (wr h a v) := by
  refine ⟨by simp [Ev.wr], fun b _ hS => wr_other h a v b (by simpa using hS), fun x => ?_⟩
  unfold Ev.fz
  by_cases hx : x.block = a.block
  · unfold Ev.wr
    rw [Array.getElem?_modify, if_pos hx.symm]
    cases hh : h[x.block]? with
    | none => simp
    | some o => cases o <;> simp
  · rw [wr_other h a v x.block hx]
theorem At.wr {h : Heap} {b : Nat} {c : List Value} (H : At h b c) (i : Nat) (v : Value) : At (wr h ⟨b, i, none⟩ v) b (c.set i v) := by
  obtain ⟨e, H⟩ := H
  refine ⟨e, ?_⟩
  unfold Ev.wr
  rw [Array.getElem?_modify, if_pos rfl, H]
  simp
theorem At.push (h : Heap) (c : Array Value) (e : TypeId) : At (h.push (.cells c e)) h.size c.toList := ⟨e, by simp⟩
@[simp] theorem add_mk (b o n : Nat) : Addr.add ⟨b, o, none⟩ n = ⟨b, o + n, none⟩ := by
  unfold Addr.add
  split
  · next h => subst h; rfl
  · rfl
theorem add_zero (a : Addr) : Addr.add a 0 = a := by simp [Addr.add]

theorem ldI_of {k : IntKind} {x : Option Value} {K : Int → Prop} {n : Int} (hx : x = some (.int k n)) (hK : K n) : ldI k x K := ⟨n, hx, hK⟩
theorem ldB_of {x : Option Value} {K : Bool → Prop} {n : Bool} (hx : x = some (.bool n)) (hK : K n) : ldB x K := ⟨n, hx, hK⟩
theorem ldP_of {x : Option Value} {K : Option Addr → Prop} {n : Option Addr} (hx : x = some (.pointer n)) (hK : K n) : ldP x K := ⟨n, hx, hK⟩
theorem ldS_of {x : Option Value} {K : Option Addr → Nat → Nat → Prop} {p : Option Addr} {l c : Nat} (hx : x = some (.slice p l c)) (hK : K p l c) : ldS x K := ⟨p, l, c, hx, hK⟩
@[simp] theorem ldI_some {k : IntKind} {K : Int → Prop} {n : Int} : ldI k (some (.int k n)) K ↔ K n :=
  ⟨fun ⟨m, e, h⟩ => by injection e with e; injection e with _ e; exact e ▸ h, ldI_of rfl⟩
@[simp] theorem ldB_some {K : Bool → Prop} {n : Bool} : ldB (some (.bool n)) K ↔ K n :=
  ⟨fun ⟨m, e, h⟩ => by injection e with e; injection e with e; exact e ▸ h, ldB_of rfl⟩
@[simp] theorem ldP_some {K : Option Addr → Prop} {n : Option Addr} : ldP (some (.pointer n)) K ↔ K n :=
  ⟨fun ⟨m, e, h⟩ => by injection e with e; injection e with e; exact e ▸ h, ldP_of rfl⟩
@[simp] theorem ldS_some {K : Option Addr → Nat → Nat → Prop} {p : Option Addr} {l c : Nat} : ldS (some (.slice p l c)) K ↔ K p l c :=
  ⟨fun ⟨_, _, _, e, h⟩ => by injection e with e; injection e with e1 e2 e3; subst e1; subst e2; subst e3; exact h, ldS_of rfl⟩
@[simp] theorem ldM_some {K : Option Nat → Prop} {n : Option Nat} : ldM (some (.map n)) K ↔ K n :=
  ⟨fun ⟨m, e, h⟩ => by injection e with e; injection e with e; exact e ▸ h, fun h => ⟨n, rfl, h⟩⟩
@[simp] theorem ldV_some {K : Value → Prop} {v : Value} : ldV (some v) K ↔ K v :=
  ⟨fun ⟨m, e, h⟩ => by injection e with e; exact e ▸ h, fun h => ⟨v, rfl, h⟩⟩
@[simp] theorem ptrK_some {a : Addr} {K : Addr → Prop} : ptrK (some a) K ↔ K a := Iff.rfl
@[simp] theorem bcase_true {t f : Prop} : bcase true t f ↔ t := Iff.rfl
@[simp] theorem bcase_false {t f : Prop} : bcase false t f ↔ f := Iff.rfl
theorem bcase_of {b : Bool} {t f : Prop} (ht : b = true → t) (hf : b = false → f) : bcase b t f := by
  cases b with
  | true => exact ht rfl
  | false => exact hf rfl

theorem stK_at {h : Heap} {b i : Nat} {c : List Value} {v : Value} {K : Heap → Prop} (H : At h b c) (hi : i < c.length) (hv : v.oneCell' = true)
    (hK : ∀ h', At h' b (c.set i v) → Only [b] h h' → h'.size = h.size → K h') : stK h ⟨b, i, none⟩ v K := by
  unfold stK
  rw [hv]
  refine ⟨?_, H.fz i none, hK _ (H.wr i v) (Only.wr h ⟨b, i, none⟩ v) (by simp [Ev.wr])⟩
  rw [H.rd]
  simp [hi]
theorem newK_at {h : Heap} {c : Array Value} {e : TypeId} {K : Nat → Heap → Prop}
    (hK : ∀ h', At h' h.size c.toList → Only [] h h' → h'.size = h.size + 1 → K h.size h') : newK h (.cells c e) K :=
  hK _ (At.push h c e) (Only.push_cells h c e) (by simp)
theorem CallsH.mono {P : Program} {f : FuncId} {args : List Value} {h : Heap} {K K' : Value → Heap → Prop} (H : CallsH P f args h K) (hK : ∀ v h', K v h' → K' v h') : CallsH P f args h K' :=
  fun w hw => (H w hw).mono fun _ _ ⟨v, e, s, k⟩ => ⟨v, e, s, hK _ _ k⟩

theorem wrap_i64 {n : Int} (h0 : -9223372036854775808 ≤ n) (h1 : n < 9223372036854775808) : IntKind.wrap .i64 n = n := by
  rw [IntKind.wrap_i64]; omega
theorem wrap_u64 {n : Int} (h0 : 0 ≤ n) (h1 : n < 18446744073709551616) : IntKind.wrap .u64 n = n := by
  simp [IntKind.wrap, IntKind.bits, IntKind.signed]; omega
theorem wrap_u64' (n : Int) : IntKind.wrap .u64 n = n % 18446744073709551616 := by
  simp [IntKind.wrap, IntKind.bits, IntKind.signed]
theorem dynK_go {P : Program} {X : List (Nat × Ext)} {g : Nat} {first captured : Array Value} {args : List Value} {h : Heap} {K : Value → Heap → Prop} (hx : xget X g = some .go)
    (H : CallsH P g (first.toList ++ args ++ captured.toList) h K) : dynK P X (.func (.func g) first captured) args h K := by
  unfold dynK
  simp only [hx]
  exact H
end Go.Proofs.YtnofenejoebkhaaGreat.Ev
/- FROM A CALL SEEN FROM THE HEAP TO A LAW's ROW: the call returns true, nothing that was there has turned: so each argument reads as it read. Conditions: the table is laid out, the parameters' types can be read back. -/
namespace Go.Proofs.YtnofenejoebkhaaGreat.Ev
open Go Go.ChangeShapes Go.WideShapes Go.ChangeAt Go.RowKit
/-- what a law's call ends in -/
def Lawful (h : Heap) (v : Value) (h' : Heap) : Prop := v = .bool true ∧ Only [] h h'

theorem frz (w : World) (a : Addr) : w.frozen? a = fz w.heap a := by
  unfold World.frozen? fz
  rfl
theorem law_calls {P : Program} {f : FuncId} {args : List Value} {W : World} (H : CallsH P f args W.heap (Lawful W.heap)) :
    Calls P f args.toArray W fun e W' => e = .returned (.bool true) ∧ Below W.heap.size W W' ∧ ∀ a, W'.frozen? a = W.frozen? a := by
  refine (H W rfl).mono fun e W' ⟨v, he, hs, hv, hO⟩ => ?_
  subst hv
  exact ⟨he, ⟨hs.1, hs.2.1, hs.2.2, hO.size, fun k hk => hO.same k hk (by simp)⟩, fun a => by rw [frz, frz]; exact hO.fzn a⟩

theorem trodAll_stays {H : Type} {enc : TypeId × Value → H} {P : Program} (hl : laidOutB P = true) {W W' : World} {sp : Nat → Bool} :
    ∀ (ts : List TypeId) (vs : List Value) (ds : List (DataW H)) (ps : List MemPlace), ts.all (fun t => P.readableRec t && decide (t < P.types.size)) = true →
      DataW.TrodAll enc P W 0 (fun _ => true) true ts vs ds ps → (∀ p ∈ ps, W.sameAt W' p) → (∀ p ∈ ps, sp p.block = true) → DataW.TrodAll enc P W' 0 sp true ts vs ds ps
  | [], [], [], _, _, h, _, _ => h
  | t :: ts, v :: vs, d :: ds, ps, hr, ⟨p, q, hd, hds, e⟩, hsame, hsp => by
    subst e
    simp only [List.all_cons, Bool.and_eq_true, decide_eq_true_eq] at hr
    exact ⟨p, q, WideElems.Trod_stays hl hr.1.1 hr.1.2 hd (fun x hx => hsame x (List.mem_append.2 (.inl hx))) (fun x hx => hsp x (List.mem_append.2 (.inl hx))),
      trodAll_stays hl ts vs ds q hr.2 hds (fun x hx => hsame x (List.mem_append.2 (.inr hx))) (fun x hx => hsp x (List.mem_append.2 (.inr hx))), rfl⟩
  | [], _ :: _, _, _, _, h, _, _ => h.elim
  | [], [], _ :: _, _, _, h, _, _ => h.elim
  | _ :: _, [], _, _, _, h, _, _ => h.elim
  | _ :: _, _ :: _, [], _, _, h, _, _ => h.elim

theorem post_law {H : Type} {enc : TypeId × Value → H} {P : Program} {f : Func} {s : ChangeSpec} {apart fresh handsOn again : Bool} {W W' : World} {args : Array Value} {ds gs : List (DataW H)} {before : List MemPlace} {tb : TypeId}
    (hl : laidOutB P = true) (hread : f.params.toList.all (fun t => P.readableRec t && decide (t < P.types.size)) = true)
    (hres : f.resultTypes = #[tb]) (hb : P.underlying tb = some .bool) (hvars : s.vars = [])
    (hW : DataW.Whole enc P f.params.toList s.vars apart W args.toList ds gs before)
    (hs : s.fn H ds = { results := [.lit (.bool true)], args := ds })
    (hB : Below W.heap.size W W') (hfz : ∀ a, W'.frozen? a = W.frozen? a) : s.post enc P f apart fresh handsOn again W args (.bool true) W' := by
  have hlt : ∀ p ∈ before, p.block < W.heap.size := fun p hp => hW.lt p hp
  obtain ⟨p, q, hA, hV, rfl, hz, hn⟩ := id hW
  rw [hvars] at hV
  obtain ⟨rfl, rfl⟩ : gs = [] ∧ q = [] := by
    cases gs with
    | nil => exact ⟨rfl, hV⟩
    | cons _ _ => exact hV.elim
  refine post_of_same (pa := p) (pv := []) hW (fun _ _ _ => ?_) (fun sp hsp => ?_) (fun sp hsp => ?_) rfl (hB.frame _) hfz ?_
  · rw [hres, List.append_nil, hs]
    exact trodAll_cons_mk (shut_bool hb _) trodAll_mk0
  · rw [List.append_nil, hs]
    exact trodAll_stays hl _ _ _ _ hread hA (fun x hx => hB.same (hlt x (List.mem_append.2 (.inl hx)))) (fun x hx => hsp x (List.mem_append.2 (.inl hx)))
  · rw [List.append_nil, hs, hvars]
    rfl
  · exact ok_one hres rfl (okWide_bool_mk hb _)

/-- a row of whole numbers in memory -/
def Ints (h : Heap) (k : IntKind) (p : Option Addr) (zs : List Int) : Prop :=
  ∀ i, i < zs.length → ∃ a, p = some a ∧ rd h (a.add i) = some (.int k (zs.getD i 0))
theorem Ints.only {S : List Nat} {h h' : Heap} {k : IntKind} {p : Option Addr} {zs : List Int} (H : Ints h k p zs) (O : Only S h h') (hS : ∀ b ∈ S, h.size ≤ b) : Ints h' k p zs := by
  intro i hi
  obtain ⟨a, e, hr⟩ := H i hi
  refine ⟨a, e, ?_⟩
  rw [← hr]
  have hb : (a.add i).block < h.size := by
    apply Classical.byContradiction
    intro hn
    have : h[(a.add i).block]? = none := Array.getElem?_eq_none (by omega)
    simp [rd, this] at hr
  unfold rd
  rw [O.same _ hb fun hm => absurd (hS _ hm) (by omega)]
theorem wf_range {k : IntKind} {n : Int} (h : (Lit.int k n).wf = true) : k.min ≤ n ∧ n ≤ k.max := by
  simpa [Lit.wf] using h
/-- a row of records of N cells -/
def Recs (h : Heap) (p : Option Addr) (l N : Nat) (s : Nat → Nat → Value) : Prop :=
  ∀ i j, i < l → j < N → ∃ a, p = some a ∧ rd h (a.add (i * N + j)) = some (s i j)
theorem rd_only {S : List Nat} {h h' : Heap} {a : Addr} {v : Value} (H : rd h a = some v) (O : Only S h h') (hS : ∀ b ∈ S, h.size ≤ b) : rd h' a = some v := by
  rw [← H]
  have hb : a.block < h.size := by
    apply Classical.byContradiction
    intro hn
    have : h[a.block]? = none := Array.getElem?_eq_none (by omega)
    simp [rd, this] at H
  unfold rd
  rw [O.same _ hb fun hm => absurd (hS _ hm) (by omega)]
theorem Recs.only {S : List Nat} {h h' : Heap} {p : Option Addr} {l N : Nat} {s : Nat → Nat → Value} (H : Recs h p l N s) (O : Only S h h') (hS : ∀ b ∈ S, h.size ≤ b) : Recs h' p l N s := by
  intro i j hi hj
  obtain ⟨a, e, hr⟩ := H i j hi hj
  exact ⟨a, e, rd_only hr O hS⟩
/-- a choice along a row -/
theorem pick {α : Type} [Inhabited α] {l : Nat} {Q : Nat → α → Prop} (H : ∀ i, i < l → ∃ n, Q i n) : ∃ f : Nat → α, ∀ i, i < l → Q i (f i) :=
  ⟨fun i => if h : i < l then (H i h).choose else default, fun i hi => by simp only [dif_pos hi]; exact (H i hi).choose_spec⟩
theorem Only.nil {h h' h'' : Heap} {S : List Nat} (A : Only [] h h') (B : Only S h' h'') (hS : ∀ b ∈ S, h.size ≤ b) : Only [] h h'' :=
  A.trans B fun b hb hl => absurd (hS b hb) (by omega)
theorem tmod_fit {z : Int} (h : IntKind.min .u8 ≤ z ∧ z ≤ IntKind.max .u8) {d : Int} (hd : 0 < d) : 0 ≤ z.tmod d ∧ z.tmod d < d := by
  have h0 : 0 ≤ z := h.1
  rw [Int.tmod_eq_emod_of_nonneg h0]
  exact ⟨Int.emod_nonneg _ (by omega), Int.emod_lt_of_pos _ hd⟩
end Go.Proofs.YtnofenejoebkhaaGreat.Ev
/- SLICES OF A CALL's OWN: how they grow, one element at a time. Conditions: the slice stands (Own). -/
namespace Go.Proofs.YtnofenejoebkhaaGreat.Ev
open Go
theorem stL_own {b o : Nat} {K : Heap → Prop} : ∀ (new : List Value) (i : Nat) (c : List Value) (h : Heap), At h b c → o + i + new.length ≤ c.length → (∀ v ∈ new, v.oneCell' = true) →
    (∀ h', At h' b (c.take (o + i) ++ new ++ c.drop (o + i + new.length)) → Only [b] h h' → h'.size = h.size → K h') → stL ⟨b, o, none⟩ i new h K := by
  intro new
  induction new with
  | nil =>
    intro i c h A hi hv hK
    unfold stL
    exact hK h (by simpa using A) (Only.refl _ _) rfl
  | cons v vs ih =>
    intro i c h A hi hv hK
    simp only [List.length_cons] at hi
    unfold stL
    rw [add_mk]
    refine stK_at A (by omega) (hv v (by simp)) fun h1 A1 O1 z1 => ih (i + 1) _ h1 A1 (by simp; omega) (fun x hx => hv x (by simp [hx])) fun h2 A2 O2 z2 => hK h2 ?_ (O1.trans O2 (by simp)) (z2.trans z1)
    have e : (c.set (o + i) v).take (o + (i + 1)) = c.take (o + i) ++ [v] := by
      rw [show o + (i + 1) = (o + i) + 1 by omega, List.take_set, List.take_succ_eq_append_getElem (by omega), List.set_append_right _ _ (by simp; omega)]
      simp [List.length_take, Nat.min_eq_left (by omega : o + i ≤ c.length)]
    have e2 : (c.set (o + i) v).drop (o + (i + 1) + vs.length) = c.drop (o + i + (vs.length + 1)) := by
      rw [List.drop_set_of_lt (by omega)]
      congr 1
      omega
    rw [e, e2] at A2
    simpa using A2

/-- a slice whose cells are cs, in a block of its own behind lo, or none yet -/
def Own (h : Heap) (lo N : Nat) (p : Option Addr) (l c : Nat) (cs : List Value) : Prop :=
  cs.length = l * N ∧ ((p = none ∧ l = 0 ∧ c = 0) ∨ ∃ (b : Nat) (sp : List Value), p = some ⟨b, 0, none⟩ ∧ lo ≤ b ∧ l ≤ c ∧ sp.length = (c - l) * N ∧ At h b (cs ++ sp))
def OwnB : Option Addr → List Nat
  | some a => [a.block]
  | none => []
theorem Own.nil (h : Heap) (lo N : Nat) : Own h lo N none 0 0 [] := ⟨by simp, Or.inl ⟨rfl, rfl, rfl⟩⟩
theorem Own.only {S : List Nat} {h h' : Heap} {lo N : Nat} {p : Option Addr} {l c : Nat} {cs : List Value} (H : Own h lo N p l c cs) (O : Only S h h') (hS : ∀ b, p = some ⟨b, 0, none⟩ → b ∉ S) : Own h' lo N p l c cs := by
  obtain ⟨e, H⟩ := H
  rcases H with H | ⟨b, sp, h1, h2, h3, h4, h5⟩
  · exact ⟨e, Or.inl H⟩
  · exact ⟨e, Or.inr ⟨b, sp, h1, h2, h3, h4, h5.only O (hS b h1)⟩⟩
theorem Own.lt {h : Heap} {lo N : Nat} {p : Option Addr} {l c : Nat} {cs : List Value} (H : Own h lo N p l c cs) : ∀ b ∈ OwnB p, lo ≤ b ∧ b < h.size := by
  obtain ⟨-, H⟩ := H
  rcases H with ⟨e, -⟩ | ⟨b, sp, h1, h2, -, -, h5⟩
  · subst e; simp [OwnB]
  · subst h1
    intro x hx
    simp [OwnB] at hx
    subst hx
    exact ⟨h2, h5.lt⟩
theorem Own.rd {h : Heap} {lo N : Nat} {p : Option Addr} {l c : Nat} {cs : List Value} (H : Own h lo N p l c cs) {j : Nat} (hj : j < cs.length) : ∃ b, p = some ⟨b, 0, none⟩ ∧ rd h ⟨b, j, none⟩ = cs[j]? := by
  obtain ⟨e, H⟩ := H
  rcases H with ⟨-, h0, -⟩ | ⟨b, sp, h1, h2, -, -, h5⟩
  · subst h0
    simp at e
    simp [e] at hj
  · exact ⟨b, h1, by rw [h5.rd, List.getElem?_append_left hj]⟩
theorem isRow_at {h : Heap} {b o : Nat} {c new : List Value} (A : At h b c) (hn : ∀ j v, new[j]? = some v → c[o + j]? = some v) : isRow h ⟨b, o, none⟩ new := by
  intro j v hj
  rw [add_mk, A.rd]
  exact hn j v hj
theorem size_zeroCells (z : Array Value) (n : Nat) : (Builtin.zeroCells z n).toList.length = n * z.size := by
  simp [Builtin.zeroCells]
/-- one element more -/
theorem own_app {h : Heap} {lo N by_ : Nat} {z : Array Value} {p : Option Addr} {l c bx : Nat} {cs new : List Value} {e : TypeId} {K : Option Addr → Nat → Nat → Heap → Prop}
    (H : Own h lo N p l c cs) (A : At h bx new) (hnew : new.length = N) (hz : z.size = N) (hcap : (l + 1) * by_ ≤ 140737488355328) (hv : ∀ v ∈ new, v.oneCell' = true) (hlo : lo ≤ h.size)
    (hK : ∀ p' c' h', Own h' lo N p' (l + 1) c' (cs ++ new) → Only (OwnB p) h h' → (∀ b ∈ OwnB p', b ∈ OwnB p ∨ h.size ≤ b) → K p' (l + 1) c' h') :
    appK h e N by_ z p l c (some ⟨bx, 0, none⟩) 1 K := by
  obtain ⟨hlen, H⟩ := H
  refine ⟨new, by omega, isRow_at A (by simp), fun hle => ?_, fun hlt => ⟨cs, hlen, ?_, hcap, fun cap hc => ?_⟩⟩
  · rcases H with ⟨-, h0, h1⟩ | ⟨b, sp, rfl, h2, h3, h4, h5⟩
    · omega
    · show stL ((⟨b, 0, none⟩ : Addr).add (l * N)) 0 new h _
      rw [add_mk, Nat.zero_add]
      have hsp : N ≤ sp.length := by
        rw [h4]
        have : 1 * N ≤ (c - l) * N := Nat.mul_le_mul_right _ (by omega)
        omega
      refine stL_own new 0 _ h h5 (by simp; omega) hv fun h' A' O' z' => hK _ _ h' ⟨by simp [hlen, hnew, Nat.add_mul], Or.inr ⟨b, sp.drop N, rfl, h2, hle, ?_, ?_⟩⟩ O' fun x hx => Or.inl hx
      · rw [List.length_drop, h4, show c - l = (c - (l + 1)) + 1 by omega, Nat.add_mul]
        omega
      · rw [Nat.add_zero, ← hlen, List.take_left, hnew, List.drop_append, List.drop_eq_nil_of_le (by omega : cs.length ≤ cs.length + N)] at A'
        simpa using A'
  · rcases H with ⟨e, h0, -⟩ | ⟨b, sp, rfl, -, -, -, h5⟩
    · subst e
      exact h0
    · exact isRow_at h5 fun j v hj => by
        rw [Nat.zero_add, List.getElem?_append_left (List.getElem?_eq_some_iff.1 hj).1]
        exact hj
  · refine hK _ _ _ ⟨by simp [hlen, hnew, Nat.add_mul], Or.inr ⟨h.size, (Builtin.zeroCells z (cap - (l + 1))).toList, rfl, hlo, hc, by rw [size_zeroCells, hz], ?_⟩⟩ ((Only.push_cells h _ e).mono (by simp)) fun x hx => Or.inr ?_
    · have := At.push h (cs.toArray ++ new.toArray ++ Builtin.zeroCells z (cap - (l + 1))) e
      simpa using this
    · simp [OwnB] at hx
      omega
theorem Own.set {h : Heap} {lo N : Nat} {l c b j : Nat} {cs : List Value} {v : Value} {K : Heap → Prop} (H : Own h lo N (some ⟨b, 0, none⟩) l c cs) (hj : j < cs.length) (hv : v.oneCell' = true)
    (hK : ∀ h', Own h' lo N (some ⟨b, 0, none⟩) l c (cs.set j v) → Only [b] h h' → K h') : stK h ⟨b, j, none⟩ v K := by
  obtain ⟨e, H⟩ := H
  rcases H with ⟨h1, -⟩ | ⟨b', sp, h1, h2, h3, h4, h5⟩
  · cases h1
  · injection h1 with h1
    injection h1 with h1
    subst h1
    refine stK_at h5 (by simp; omega) hv fun h' A O _ => hK h' ⟨by simp [e], Or.inr ⟨b, sp, rfl, h2, h3, h4, ?_⟩⟩ O
    rw [List.set_append_left _ _ hj] at A
    exact A
def rowV (L : Nat) (g : Nat → Value) : List Value := (List.range L).map g
theorem rowV_len (L : Nat) (g : Nat → Value) : (rowV L g).length = L := by simp [rowV]
theorem rowV_get {L k : Nat} {g : Nat → Value} (hk : k < L) : (rowV L g)[k]? = some (g k) := by simp [rowV, hk]
theorem rowV_set (L k : Nat) (g : Nat → Value) (v : Value) : (rowV L g).set k v = rowV L fun j => if j = k then v else g j := by
  apply List.ext_getElem?
  intro i
  by_cases hi : i < L
  · rw [rowV_get hi, List.getElem?_set]
    by_cases h : k = i
    · subst h
      rw [if_pos rfl, if_pos (by rw [rowV_len]; exact hi), if_pos rfl]
    · rw [if_neg h, rowV_get hi, if_neg (Ne.symm h)]
  · rw [List.getElem?_eq_none (by simp [rowV_len]; omega), List.getElem?_eq_none (by simp [rowV_len]; omega)]
theorem rowV_succ (L : Nat) (g : Nat → Value) : rowV (L + 1) g = rowV L g ++ [g L] := by simp [rowV, List.range_succ]
theorem rowV_ext {L : Nat} {g g' : Nat → Value} (h : ∀ k, k < L → g k = g' k) : rowV L g = rowV L g' := List.map_congr_left fun k hk => h k (List.mem_range.1 hk)

end Go.Proofs.YtnofenejoebkhaaGreat.Ev
/- PRINTED BY PROGRAM: what each of these functions does, computed over heaps by the evaluator, and that its calls do so. Conditions: none. -/
namespace Go.Proofs.YtnofenejoebkhaaGreat.Ev
open Go
-- spinney/spinneyref3.set
namespace F87
def T : Hint := ⟨[], [(1, [[(0, []), (1, []), (2, []), (3, []), (4, []), (5, []), (6, []), (7, []), (8, []), (9, []), (10, []), (11, []), (12, []), (13, []), (14, []), (15, [])]])]⟩
noncomputable def body : Code := (Tryz.f87.body).getD .skip
def J0 (x0 : Addr) (x1 : Int) (x2 : Bool) (h : Heap) (K : KK) : Prop :=
  bcase x2 (((64 : Int) ≠ 0 ∧ ((64 : Int) ≠ 0 ∧ (0 ≤ (IntKind.wrap .u8 (Int.tdiv x1 (64 : Int))) ∧ (IntKind.wrap .u8 (Int.tdiv x1 (64 : Int))) < (Nat.cast 4 : Int) ∧ ldI .u64 (rd h (Addr.add x0 (Int.toNat (IntKind.wrap .u8 (Int.tdiv x1 (64 : Int))) * 1))) (fun n1 => ((64 : Int) ≠ 0 ∧ (0 ≤ (Int.tmod x1 (64 : Int)) ∧ (0 ≤ (IntKind.wrap .u8 (Int.tdiv x1 (64 : Int))) ∧ (IntKind.wrap .u8 (Int.tdiv x1 (64 : Int))) < (Nat.cast 4 : Int) ∧ stK h (Addr.add (Addr.add x0 (Int.toNat (IntKind.wrap .u8 (Int.tdiv x1 (64 : Int))) * 1)) 0) (.int .u64 (bitsI .or .u64 n1 (IntKind.wrap .u64 ((1 : Int) * 2 ^ (min (Int.toNat (Int.tmod x1 (64 : Int))) (IntKind.bits .u64)))))) (fun h2 => K (.tuple #[]) h2))))))))) (K (.tuple #[]) h)
theorem E0 (S : Stop) (x0 : Addr) (x1 : Int) (x2 : Bool) (h : Heap) (K : KK) : (E Tryz.prog X T S body (fin Tryz.prog Tryz.f87.results.toList K) (args0 0 [(.pointer (some x0)), (.int .u8 x1), (.bool x2)]) h) = J0 x0 x1 x2 h K := by kernel_rfl
def w (x0 : Addr) (x1 : Int) (x2 : Bool) (h : Heap) (K : KK) : Prop :=
  J0 x0 x1 x2 h K
theorem e0 (K : KK) (x0 : Addr) (x1 : Int) (x2 : Bool) (h : Heap) : (E Tryz.prog X T S0 body (fin Tryz.prog Tryz.f87.results.toList K) (args0 0 [(.pointer (some x0)), (.int .u8 x1), (.bool x2)]) h) = w x0 x1 x2 h K := (E0 S0 x0 x1 x2 h K).trans (rfl)
theorem hb : Tryz.f87.body = some body := by kernel_rfl
theorem ok : okCode T Tryz.f87.ntmps body = true := by kernel_rfl
theorem spec (x0 : Addr) (x1 : Int) (x2 : Bool) (h : Heap) (K : KK) (H : w x0 x1 x2 h K) : CallsH Tryz.prog 87 [(.pointer (some x0)), (.int .u8 x1), (.bool x2)] h K :=
  calls_of_E (T := T) Xok mix Tryz.func87 hb ok rfl (by rw [e0]; exact H)
end F87
-- spinney/spinneyref3.Var
namespace F33
def T : Hint := ⟨[(3, [0, 2, 3, 4])], []⟩
noncomputable def body : Code := (Tryz.f33.body).getD .skip
noncomputable def en (S : Stop) (p : List Nat) (κ : XK) : Fr → Heap → Prop := E Tryz.prog X T S (sub body p) κ
noncomputable def ln (S : Stop) (p : List Nat) (κ : XK) (n : Nat) : Fr → Heap → Prop := loopN S (E Tryz.prog X T S (sub body p)) (cutQ T (sub body p)) κ n
def fn (K : KK) : XK := fin Tryz.prog Tryz.f33.results.toList K
noncomputable def c0 (S : Stop) (K : KK) : XK := seqN S (cutQ T (sub body [1, 1, 1])) (en S [1, 1, 1] (fn K)) (fn K)
noncomputable def c1 (S : Stop) (K : KK) : XK := blockN 0 (c0 S K)
noncomputable def c2 (S : Stop) (n3 : Nat) (K : KK) : XK := backN S (cutQ T (sub body [1, 1, 0, 1, 0, 0])) (ln S [1, 1, 0, 1, 0, 0] (c1 S K) n3) (c1 S K)
def f3 (x0 : Int) (x2 x3 : Addr) (x4 : Int) : Fr := [(0, (.int .i64 x0)), (2, (.pointer (some x2))), (3, (.pointer (some x3))), (4, (.int .i64 x4))]
def J0 (k3 : Int → Addr → Addr → Int → Heap → Prop) (x0 : Int) (h : Heap) (_K : KK) : Prop :=
  newK h (.cells #[(.int .u64 (0 : Int)), (.int .u64 (0 : Int)), (.int .u64 (0 : Int)), (.int .u64 (0 : Int))] 51) (fun b1 h2 => newK h2 (.cells #[(.int .u64 (0 : Int)), (.int .u64 (0 : Int)), (.int .u64 (0 : Int)), (.int .u64 (0 : Int))] 51) (fun b3 h4 => stK h4 (Addr.add (Addr.mk b3 0 none) 0) (.int .u64 (0 : Int)) (fun h5 => stK h5 (Addr.add (Addr.mk b3 0 none) 1) (.int .u64 (0 : Int)) (fun h6 => stK h6 (Addr.add (Addr.mk b3 0 none) 2) (.int .u64 (0 : Int)) (fun h7 => stK h7 (Addr.add (Addr.mk b3 0 none) 3) (.int .u64 (0 : Int)) (fun h8 => k3 x0 (Addr.mk b1 0 none) (Addr.mk b3 0 none) (0 : Int) h8))))))
theorem E0 (S : Stop) (x0 : Int) (h : Heap) (K : KK) : (E Tryz.prog X T S body (fin Tryz.prog Tryz.f33.results.toList K) (args0 0 [(.int .i64 x0)]) h) = J0 (fun x0 x2 x3 x4 h => S (en S [1, 1, 0, 1] (c0 S K)) (f3 x0 x2 x3 x4) h) x0 h K := by kernel_rfl
def Jk3 (lp3 : Int → Addr → Addr → Int → Heap → Prop) (x0 : Int) (x2 x3 : Addr) (x4 : Int) (h : Heap) (_K : KK) : Prop :=
  lp3 x0 x2 x3 x4 h
theorem Ek3 (S : Stop) (x0 : Int) (x2 x3 : Addr) (x4 : Int) (h : Heap) (K : KK) : (en S [1, 1, 0, 1] (c0 S K) (f3 x0 x2 x3 x4) h) = Jk3 (fun x0 x2 x3 x4 h => ∃ n, S (ln S [1, 1, 0, 1, 0, 0] (c1 S K) n) (f3 x0 x2 x3 x4) h) x0 x2 x3 x4 h K := by kernel_rfl
def JL3 (bk3 : Int → Addr → Addr → Int → Heap → Prop) (x0 : Int) (x2 x3 : Addr) (x4 : Int) (h : Heap) (K : KK) : Prop :=
  bcase (decide (x4 < (256 : Int))) (bcase (decide (x0 ≥ (0 : Int))) (bcase (decide (x0 < (8 : Int))) ((0 ≤ (IntKind.wrap .u64 x0) ∧ CallsH Tryz.prog 87 [(.pointer (some x3)), (.int .u8 (IntKind.wrap .u8 x4)), (.bool ((bitsI .and .i64 (Int.fdiv x4 (2 ^ (min (Int.toNat (IntKind.wrap .u64 x0)) (IntKind.bits .i64)))) (1 : Int)) == (1 : Int)))] h (fun v1 h2 => (v1 = (.tuple #[]) ∧ bk3 x0 x2 x3 (IntKind.wrap .i64 (x4 + (1 : Int))) h2)))) (ldI .u64 (rd h (Addr.add x3 0)) (fun n3 => ldI .u64 (rd h (Addr.add x3 1)) (fun n4 => ldI .u64 (rd h (Addr.add x3 2)) (fun n5 => ldI .u64 (rd h (Addr.add x3 3)) (fun n6 => stK h (Addr.add x2 0) (.int .u64 n3) (fun h7 => stK h7 (Addr.add x2 1) (.int .u64 n4) (fun h8 => stK h8 (Addr.add x2 2) (.int .u64 n5) (fun h9 => stK h9 (Addr.add x2 3) (.int .u64 n6) (fun h10 => ldI .u64 (rd h10 (Addr.add x2 0)) (fun n11 => ldI .u64 (rd h10 (Addr.add x2 1)) (fun n12 => ldI .u64 (rd h10 (Addr.add x2 2)) (fun n13 => ldI .u64 (rd h10 (Addr.add x2 3)) (fun n14 => K (.agg #[(.int .u64 n11), (.int .u64 n12), (.int .u64 n13), (.int .u64 n14)]) h10)))))))))))))) (ldI .u64 (rd h (Addr.add x3 0)) (fun n15 => ldI .u64 (rd h (Addr.add x3 1)) (fun n16 => ldI .u64 (rd h (Addr.add x3 2)) (fun n17 => ldI .u64 (rd h (Addr.add x3 3)) (fun n18 => stK h (Addr.add x2 0) (.int .u64 n15) (fun h19 => stK h19 (Addr.add x2 1) (.int .u64 n16) (fun h20 => stK h20 (Addr.add x2 2) (.int .u64 n17) (fun h21 => stK h21 (Addr.add x2 3) (.int .u64 n18) (fun h22 => ldI .u64 (rd h22 (Addr.add x2 0)) (fun n23 => ldI .u64 (rd h22 (Addr.add x2 1)) (fun n24 => ldI .u64 (rd h22 (Addr.add x2 2)) (fun n25 => ldI .u64 (rd h22 (Addr.add x2 3)) (fun n26 => K (.agg #[(.int .u64 n23), (.int .u64 n24), (.int .u64 n25), (.int .u64 n26)]) h22)))))))))))))) (ldI .u64 (rd h (Addr.add x3 0)) (fun n27 => ldI .u64 (rd h (Addr.add x3 1)) (fun n28 => ldI .u64 (rd h (Addr.add x3 2)) (fun n29 => ldI .u64 (rd h (Addr.add x3 3)) (fun n30 => stK h (Addr.add x2 0) (.int .u64 n27) (fun h31 => stK h31 (Addr.add x2 1) (.int .u64 n28) (fun h32 => stK h32 (Addr.add x2 2) (.int .u64 n29) (fun h33 => stK h33 (Addr.add x2 3) (.int .u64 n30) (fun h34 => ldI .u64 (rd h34 (Addr.add x2 0)) (fun n35 => ldI .u64 (rd h34 (Addr.add x2 1)) (fun n36 => ldI .u64 (rd h34 (Addr.add x2 2)) (fun n37 => ldI .u64 (rd h34 (Addr.add x2 3)) (fun n38 => K (.agg #[(.int .u64 n35), (.int .u64 n36), (.int .u64 n37), (.int .u64 n38)]) h34)))))))))))))
theorem EL3 (S : Stop) (n3 : Nat) (x0 : Int) (x2 x3 : Addr) (x4 : Int) (h : Heap) (K : KK) : (en S [1, 1, 0, 1, 0, 0] (c2 S n3 K) (f3 x0 x2 x3 x4) h) = JL3 (fun x0 x2 x3 x4 h => S (ln S [1, 1, 0, 1, 0, 0] (c1 S K) n3) (f3 x0 x2 x3 x4) h) x0 x2 x3 x4 h K := by kernel_rfl
def wL3 : Nat → Int → Addr → Addr → Int → Heap → KK → Prop
  | 0, _, _, _, _, _, _ => False
  | n + 1, x0, x2, x3, x4, h, K => JL3 (fun x0 x2 x3 x4 h => wL3 n x0 x2 x3 x4 h K) x0 x2 x3 x4 h K
theorem eL3 (K : KK) : ∀ (n : Nat) (x0 : Int) (x2 x3 : Addr) (x4 : Int) (h : Heap), (ln S0 [1, 1, 0, 1, 0, 0] (c1 S0 K) n (f3 x0 x2 x3 x4) h) = wL3 n x0 x2 x3 x4 h K
  | 0, _, _, _, _, _ => rfl
  | n + 1, x0, x2, x3, x4, h => (EL3 S0 n x0 x2 x3 x4 h K).trans (cg1 (fun q0 => JL3 q0 x0 x2 x3 x4 h K) (by funext x0 x2 x3 x4 h; exact (fun x0 x2 x3 x4 h => eL3 K n x0 x2 x3 x4 h) x0 x2 x3 x4 h))
def wk3 (x0 : Int) (x2 x3 : Addr) (x4 : Int) (h : Heap) (K : KK) : Prop :=
  Jk3 (fun x0 x2 x3 x4 h => ∃ m, wL3 m x0 x2 x3 x4 h K) x0 x2 x3 x4 h K
theorem ek3 (K : KK) (x0 : Int) (x2 x3 : Addr) (x4 : Int) (h : Heap) : (en S0 [1, 1, 0, 1] (c0 S0 K) (f3 x0 x2 x3 x4) h) = wk3 x0 x2 x3 x4 h K := (Ek3 S0 x0 x2 x3 x4 h K).trans (cg1 (fun q0 => Jk3 q0 x0 x2 x3 x4 h K) (by funext x0 x2 x3 x4 h; exact ex_congr fun m => eL3 K m x0 x2 x3 x4 h))
def w (x0 : Int) (h : Heap) (K : KK) : Prop :=
  J0 (fun x0 x2 x3 x4 h => wk3 x0 x2 x3 x4 h K) x0 h K
theorem e0 (K : KK) (x0 : Int) (h : Heap) : (E Tryz.prog X T S0 body (fin Tryz.prog Tryz.f33.results.toList K) (args0 0 [(.int .i64 x0)]) h) = w x0 h K := (E0 S0 x0 h K).trans (cg1 (fun q0 => J0 q0 x0 h K) (by funext x0 x2 x3 x4 h; exact ek3 K x0 x2 x3 x4 h))
theorem hb : Tryz.f33.body = some body := by kernel_rfl
theorem ok : okCode T Tryz.f33.ntmps body = true := by kernel_rfl
theorem spec (x0 : Int) (h : Heap) (K : KK) (H : w x0 h K) : CallsH Tryz.prog 33 [(.int .i64 x0)] h K :=
  calls_of_E (T := T) Xok mix Tryz.func33 hb ok rfl (by rw [e0]; exact H)
end F33
-- spinney/spinneyref3.Or
namespace F146
def T : Hint := ⟨[(2, [2, 3, 4, 5])], [(4, [[(0, []), (1, []), (2, []), (3, []), (4, []), (5, []), (6, []), (7, []), (8, []), (9, [])]])]⟩
noncomputable def body : Code := (Tryz.f146.body).getD .skip
noncomputable def en (S : Stop) (p : List Nat) (κ : XK) : Fr → Heap → Prop := E Tryz.prog X T S (sub body p) κ
noncomputable def ln (S : Stop) (p : List Nat) (κ : XK) (n : Nat) : Fr → Heap → Prop := loopN S (E Tryz.prog X T S (sub body p)) (cutQ T (sub body p)) κ n
def fn (K : KK) : XK := fin Tryz.prog Tryz.f146.results.toList K
noncomputable def c0 (S : Stop) (K : KK) : XK := seqN S (cutQ T (sub body [1, 1])) (en S [1, 1] (fn K)) (fn K)
noncomputable def c1 (S : Stop) (K : KK) : XK := blockN 0 (c0 S K)
noncomputable def c2 (S : Stop) (n2 : Nat) (K : KK) : XK := backN S (cutQ T (sub body [1, 0, 1, 0, 0])) (ln S [1, 0, 1, 0, 0] (c1 S K) n2) (c1 S K)
def f2 (x2 x3 x4 : Addr) (x5 : Int) : Fr := [(2, (.pointer (some x2))), (3, (.pointer (some x3))), (4, (.pointer (some x4))), (5, (.int .i64 x5))]
def J0 (k2 : Addr → Addr → Addr → Int → Heap → Prop) (x0_0 x0_1 x0_2 x0_3 x1_0 x1_1 x1_2 x1_3 : Int) (h : Heap) (_K : KK) : Prop :=
  newK h (.cells #[(.int .u64 x0_0), (.int .u64 x0_1), (.int .u64 x0_2), (.int .u64 x0_3)] 51) (fun b1 h2 => newK h2 (.cells #[(.int .u64 x1_0), (.int .u64 x1_1), (.int .u64 x1_2), (.int .u64 x1_3)] 51) (fun b3 h4 => newK h4 (.cells #[(.int .u64 (0 : Int)), (.int .u64 (0 : Int)), (.int .u64 (0 : Int)), (.int .u64 (0 : Int))] 51) (fun b5 h6 => k2 (Addr.mk b1 0 none) (Addr.mk b3 0 none) (Addr.mk b5 0 none) (0 : Int) h6)))
theorem E0 (S : Stop) (x0_0 x0_1 x0_2 x0_3 x1_0 x1_1 x1_2 x1_3 : Int) (h : Heap) (K : KK) : (E Tryz.prog X T S body (fin Tryz.prog Tryz.f146.results.toList K) (args0 0 [(.agg #[(.int .u64 x0_0), (.int .u64 x0_1), (.int .u64 x0_2), (.int .u64 x0_3)]), (.agg #[(.int .u64 x1_0), (.int .u64 x1_1), (.int .u64 x1_2), (.int .u64 x1_3)])]) h) = J0 (fun x2 x3 x4 x5 h => S (en S [1, 0, 1] (c0 S K)) (f2 x2 x3 x4 x5) h) x0_0 x0_1 x0_2 x0_3 x1_0 x1_1 x1_2 x1_3 h K := by kernel_rfl
def Jk2 (lp2 : Addr → Addr → Addr → Int → Heap → Prop) (x2 x3 x4 : Addr) (x5 : Int) (h : Heap) (_K : KK) : Prop :=
  lp2 x2 x3 x4 x5 h
theorem Ek2 (S : Stop) (x2 x3 x4 : Addr) (x5 : Int) (h : Heap) (K : KK) : (en S [1, 0, 1] (c0 S K) (f2 x2 x3 x4 x5) h) = Jk2 (fun x2 x3 x4 x5 h => ∃ n, S (ln S [1, 0, 1, 0, 0] (c1 S K) n) (f2 x2 x3 x4 x5) h) x2 x3 x4 x5 h K := by kernel_rfl
def JL2 (bk2 : Addr → Addr → Addr → Int → Heap → Prop) (x2 x3 x4 : Addr) (x5 : Int) (h : Heap) (K : KK) : Prop :=
  bcase (decide (x5 < (4 : Int))) ((0 ≤ x5 ∧ x5 < (Nat.cast 4 : Int) ∧ ldI .u64 (rd h (Addr.add x2 (Int.toNat x5 * 1))) (fun n1 => (0 ≤ x5 ∧ x5 < (Nat.cast 4 : Int) ∧ ldI .u64 (rd h (Addr.add x3 (Int.toNat x5 * 1))) (fun n2 => (0 ≤ x5 ∧ x5 < (Nat.cast 4 : Int) ∧ stK h (Addr.add (Addr.add x2 (Int.toNat x5 * 1)) 0) (.int .u64 (bitsI .or .u64 n1 n2)) (fun h3 => bk2 x2 x3 x4 (IntKind.wrap .i64 (x5 + (1 : Int))) h3))))))) (ldI .u64 (rd h (Addr.add x2 0)) (fun n4 => ldI .u64 (rd h (Addr.add x2 1)) (fun n5 => ldI .u64 (rd h (Addr.add x2 2)) (fun n6 => ldI .u64 (rd h (Addr.add x2 3)) (fun n7 => stK h (Addr.add x4 0) (.int .u64 n4) (fun h8 => stK h8 (Addr.add x4 1) (.int .u64 n5) (fun h9 => stK h9 (Addr.add x4 2) (.int .u64 n6) (fun h10 => stK h10 (Addr.add x4 3) (.int .u64 n7) (fun h11 => ldI .u64 (rd h11 (Addr.add x4 0)) (fun n12 => ldI .u64 (rd h11 (Addr.add x4 1)) (fun n13 => ldI .u64 (rd h11 (Addr.add x4 2)) (fun n14 => ldI .u64 (rd h11 (Addr.add x4 3)) (fun n15 => K (.agg #[(.int .u64 n12), (.int .u64 n13), (.int .u64 n14), (.int .u64 n15)]) h11)))))))))))))
theorem EL2 (S : Stop) (n2 : Nat) (x2 x3 x4 : Addr) (x5 : Int) (h : Heap) (K : KK) : (en S [1, 0, 1, 0, 0] (c2 S n2 K) (f2 x2 x3 x4 x5) h) = JL2 (fun x2 x3 x4 x5 h => S (ln S [1, 0, 1, 0, 0] (c1 S K) n2) (f2 x2 x3 x4 x5) h) x2 x3 x4 x5 h K := by kernel_rfl
def wL2 : Nat → Addr → Addr → Addr → Int → Heap → KK → Prop
  | 0, _, _, _, _, _, _ => False
  | n + 1, x2, x3, x4, x5, h, K => JL2 (fun x2 x3 x4 x5 h => wL2 n x2 x3 x4 x5 h K) x2 x3 x4 x5 h K
theorem eL2 (K : KK) : ∀ (n : Nat) (x2 x3 x4 : Addr) (x5 : Int) (h : Heap), (ln S0 [1, 0, 1, 0, 0] (c1 S0 K) n (f2 x2 x3 x4 x5) h) = wL2 n x2 x3 x4 x5 h K
  | 0, _, _, _, _, _ => rfl
  | n + 1, x2, x3, x4, x5, h => (EL2 S0 n x2 x3 x4 x5 h K).trans (cg1 (fun q0 => JL2 q0 x2 x3 x4 x5 h K) (by funext x2 x3 x4 x5 h; exact (fun x2 x3 x4 x5 h => eL2 K n x2 x3 x4 x5 h) x2 x3 x4 x5 h))
def wk2 (x2 x3 x4 : Addr) (x5 : Int) (h : Heap) (K : KK) : Prop :=
  Jk2 (fun x2 x3 x4 x5 h => ∃ m, wL2 m x2 x3 x4 x5 h K) x2 x3 x4 x5 h K
theorem ek2 (K : KK) (x2 x3 x4 : Addr) (x5 : Int) (h : Heap) : (en S0 [1, 0, 1] (c0 S0 K) (f2 x2 x3 x4 x5) h) = wk2 x2 x3 x4 x5 h K := (Ek2 S0 x2 x3 x4 x5 h K).trans (cg1 (fun q0 => Jk2 q0 x2 x3 x4 x5 h K) (by funext x2 x3 x4 x5 h; exact ex_congr fun m => eL2 K m x2 x3 x4 x5 h))
def w (x0_0 x0_1 x0_2 x0_3 x1_0 x1_1 x1_2 x1_3 : Int) (h : Heap) (K : KK) : Prop :=
  J0 (fun x2 x3 x4 x5 h => wk2 x2 x3 x4 x5 h K) x0_0 x0_1 x0_2 x0_3 x1_0 x1_1 x1_2 x1_3 h K
theorem e0 (K : KK) (x0_0 x0_1 x0_2 x0_3 x1_0 x1_1 x1_2 x1_3 : Int) (h : Heap) : (E Tryz.prog X T S0 body (fin Tryz.prog Tryz.f146.results.toList K) (args0 0 [(.agg #[(.int .u64 x0_0), (.int .u64 x0_1), (.int .u64 x0_2), (.int .u64 x0_3)]), (.agg #[(.int .u64 x1_0), (.int .u64 x1_1), (.int .u64 x1_2), (.int .u64 x1_3)])]) h) = w x0_0 x0_1 x0_2 x0_3 x1_0 x1_1 x1_2 x1_3 h K := (E0 S0 x0_0 x0_1 x0_2 x0_3 x1_0 x1_1 x1_2 x1_3 h K).trans (cg1 (fun q0 => J0 q0 x0_0 x0_1 x0_2 x0_3 x1_0 x1_1 x1_2 x1_3 h K) (by funext x2 x3 x4 x5 h; exact ek2 K x2 x3 x4 x5 h))
theorem hb : Tryz.f146.body = some body := by kernel_rfl
theorem ok : okCode T Tryz.f146.ntmps body = true := by kernel_rfl
theorem spec (x0_0 : Int) (x0_1 : Int) (x0_2 : Int) (x0_3 : Int) (x1_0 : Int) (x1_1 : Int) (x1_2 : Int) (x1_3 : Int) (h : Heap) (K : KK) (H : w x0_0 x0_1 x0_2 x0_3 x1_0 x1_1 x1_2 x1_3 h K) : CallsH Tryz.prog 146 [(.agg #[(.int .u64 x0_0), (.int .u64 x0_1), (.int .u64 x0_2), (.int .u64 x0_3)]), (.agg #[(.int .u64 x1_0), (.int .u64 x1_1), (.int .u64 x1_2), (.int .u64 x1_3)])] h K :=
  calls_of_E (T := T) Xok mix Tryz.func146 hb ok rfl (by rw [e0]; exact H)
end F146
end Go.Proofs.YtnofenejoebkhaaGreat.Ev
/- FUNCTIONS OF EIGHT VARIABLES as four words (package spinneyref3): bits, plainly; set, Const, Eval. Conditions: the words are in their bounds. -/
namespace Go.Proofs.YtnofenejoebkhaaGreat.Ev
open Go
def U64 : Nat := 18446744073709551616
theorem U64_pow : U64 = 2 ^ 64 := by decide
theorem ofInt_nat {a : Nat} (ha : a < U64) : (BitVec.ofInt 64 (a : Int)).toNat = a := by
  unfold U64 at ha
  rw [BitVec.toNat_ofInt]
  omega
theorem wrapU {a : Nat} (ha : a < U64) : IntKind.wrap .u64 (a : Int) = a := wrap_u64 (by omega) (by unfold U64 at ha; omega)
theorem bor {a b : Nat} (ha : a < U64) (hb : b < U64) : bitsI .or .u64 (a : Int) (b : Int) = ((a ||| b : Nat) : Int) := by
  unfold bitsI
  show IntKind.wrap .u64 ((BitVec.ofInt 64 (a : Int) ||| BitVec.ofInt 64 (b : Int)).toNat : Int) = _
  rw [BitVec.toNat_or, ofInt_nat ha, ofInt_nat hb]
  exact wrapU (by rw [U64_pow] at *; exact Nat.or_lt_two_pow ha hb)
theorem band {a b : Nat} (ha : a < U64) (hb : b < U64) : bitsI .and .u64 (a : Int) (b : Int) = ((a &&& b : Nat) : Int) := by
  unfold bitsI
  show IntKind.wrap .u64 ((BitVec.ofInt 64 (a : Int) &&& BitVec.ofInt 64 (b : Int)).toNat : Int) = _
  rw [BitVec.toNat_and, ofInt_nat ha, ofInt_nat hb]
  exact wrapU (by rw [U64_pow] at *; exact Nat.and_lt_two_pow _ hb)
/-- the value at x -/
def fb (g : Nat → Nat) (x : Nat) : Bool := (g (x / 64)).testBit (x % 64)
def WOk (g : Nat → Nat) : Prop := ∀ i, i < 4 → g i < U64
theorem fb_ext {g g' : Nat → Nat} (hg : WOk g) (hg' : WOk g') (h : ∀ x, x < 256 → fb g x = fb g' x) : ∀ i, i < 4 → g i = g' i := fun i hi => by
  apply Nat.eq_of_testBit_eq
  intro k
  by_cases hk : k < 64
  · have := h (i * 64 + k) (by omega)
    unfold fb at this
    rwa [show (i * 64 + k) / 64 = i by omega, show (i * 64 + k) % 64 = k by omega] at this
  · have a := hg i hi
    have b := hg' i hi
    rw [U64_pow] at a b
    rw [Nat.testBit_lt_two_pow (Nat.lt_of_lt_of_le a (Nat.pow_le_pow_right (by omega) (by omega))), Nat.testBit_lt_two_pow (Nat.lt_of_lt_of_le b (Nat.pow_le_pow_right (by omega) (by omega)))]
def wrow (g : Nat → Nat) : List Value := rowV 4 fun i => .int .u64 (g i : Int)
/-- a bit set -/
def sbit (g : Nat → Nat) (x : Nat) (v : Bool) : Nat → Nat := fun i => if v = true ∧ i = x / 64 then g i ||| 2 ^ (x % 64) else g i
theorem pow_lt (k : Nat) (hk : k < 64) : 2 ^ k < U64 := by rw [U64_pow]; exact Nat.pow_lt_pow_right (by omega) hk
theorem sbit_ok {g : Nat → Nat} (hg : WOk g) {x : Nat} {v : Bool} : WOk (sbit g x v) := fun i hi => by
  unfold sbit
  split
  · have a := hg i hi
    have b := pow_lt (x % 64) (Nat.mod_lt _ (by omega))
    rw [U64_pow] at *
    exact Nat.or_lt_two_pow a b
  · exact hg i hi
theorem sbit_fb (g : Nat → Nat) (x : Nat) (v : Bool) (y : Nat) : fb (sbit g x v) y = (fb g y || (v && decide (y = x))) := by
  unfold fb sbit
  cases v
  · simp
  · by_cases h : y / 64 = x / 64
    · rw [if_pos ⟨rfl, h⟩, Nat.testBit_or, Nat.testBit_two_pow]
      congr 1
      by_cases e : y = x
      · subst e; simp
      · simp only [Bool.true_and, decide_eq_false e, decide_eq_false_iff_not]
        omega
    · rw [if_neg (fun hh => h hh.2)]
      have : y ≠ x := fun e => h (by rw [e])
      simp [this]
theorem tdiv64 {x : Nat} (hx : x < 256) : IntKind.wrap .u8 (Int.tdiv (x : Int) 64) = ((x / 64 : Nat) : Int) := by
  rw [Int.tdiv_eq_ediv_of_nonneg (by omega)]
  simp [IntKind.wrap, IntKind.bits, IntKind.signed]; omega
theorem tmod64 (x : Nat) : Int.tmod (x : Int) 64 = ((x % 64 : Nat) : Int) := by
  rw [Int.tmod_eq_emod_of_nonneg (by omega)]
  rfl
theorem min64 {k : Nat} (hk : k < 64) : min (Int.toNat (k : Int)) (IntKind.bits .u64) = k := by
  rw [Int.toNat_natCast]
  show min k 64 = k
  omega
theorem wr_rd {h : Heap} {b : Nat} {g : Nat → Nat} (A : At h b (wrow g)) {i : Nat} (hi : i < 4) : rd h ⟨b, i, none⟩ = some (.int .u64 (g i : Int)) := by
  rw [A.rd]
  exact rowV_get hi
theorem wr_st {h : Heap} {b : Nat} {g : Nat → Nat} (A : At h b (wrow g)) {i : Nat} (hi : i < 4) {v : Nat} {K : Heap → Prop} (hK : ∀ h', At h' b (wrow fun j => if j = i then v else g j) → Only [b] h h' → K h') : stK h ⟨b, i, none⟩ (.int .u64 (v : Int)) K :=
  stK_at A (by unfold wrow; rw [rowV_len]; exact hi) rfl fun h' A' O' _ => hK h' (by
    unfold wrow at A' ⊢
    rw [rowV_set] at A'
    have e : (rowV 4 fun j => if j = i then Value.int .u64 (v : Int) else .int .u64 (g j : Int)) = rowV 4 fun j => .int .u64 ((if j = i then v else g j : Nat) : Int) := rowV_ext fun j _ => by split <;> rfl
    rw [e] at A'
    exact A') O'
theorem set51 {h : Heap} {b x : Nat} {g : Nat → Nat} {v : Bool} {K : Value → Heap → Prop} (A : At h b (wrow g)) (hg : WOk g) (hx : x < 256) (hK : ∀ h', At h' b (wrow (sbit g x v)) → Only [b] h h' → K (.tuple #[]) h') :
    CallsH Tryz.prog 87 [.pointer (some ⟨b, 0, none⟩), .int .u8 (x : Int), .bool v] h K := by
  refine F87.spec _ _ _ h K ?_
  unfold F87.w F87.J0
  refine bcase_of (fun hv => ?_) fun hv => ?_
  · subst hv
    have q : x / 64 < 4 := by omega
    rw [tdiv64 hx, tmod64]
    refine ⟨by decide, by decide, by omega, by omega, ?_⟩
    rw [add_mk, Int.toNat_natCast, Nat.zero_add, Nat.mul_one, wr_rd A q, ldI_some, min64 (by omega)]
    refine ⟨by decide, by omega, by omega, by omega, ?_⟩
    rw [add_mk, Nat.add_zero, show (1 : Int) * 2 ^ (x % 64) = ((2 ^ (x % 64) : Nat) : Int) by simp, wrapU (pow_lt _ (by omega)), bor (hg _ q) (pow_lt _ (by omega))]
    refine wr_st A q fun h' A' O' => hK h' ?_ O'
    have e : (fun j => if j = x / 64 then g (x / 64) ||| 2 ^ (x % 64) else g j) = sbit g x true := by
      funext j
      unfold sbit
      by_cases hj : j = x / 64
      · subst hj; simp
      · rw [if_neg hj, if_neg (fun h => hj h.2)]
    rw [e] at A'
    exact A'
  · subst hv
    refine hK h ?_ (Only.refl _ _)
    have e : sbit g x false = g := by
      funext j
      unfold sbit
      rw [if_neg (fun h => by cases h.1)]
    rw [e]
    exact A
end Go.Proofs.YtnofenejoebkhaaGreat.Ev
/- FUNCTIONS OF EIGHT VARIABLES as four words (package spinneyref3): Const, Or. Conditions: the words are in their bounds. -/
namespace Go.Proofs.YtnofenejoebkhaaGreat.Ev
open Go
theorem wrap8 {x : Nat} (h : x < 256) : IntKind.wrap .u8 (x : Int) = x := by
  simp [IntKind.wrap, IntKind.bits, IntKind.signed]; omega
def aggW (g : Nat → Nat) : Value := .agg #[.int .u64 (g 0 : Int), .int .u64 (g 1 : Int), .int .u64 (g 2 : Int), .int .u64 (g 3 : Int)]
/-- the words carried to the result's block, and handed back -/
theorem copy4 {h : Heap} {b c : Nat} {g g0 : Nat → Nat} {K : Value → Heap → Prop} (A : At h b (wrow g)) (C : At h c (wrow g0)) (hne : b ≠ c) (hK : ∀ h', Only [c] h h' → K (aggW g) h') :
    ldI .u64 (rd h (Addr.add ⟨b, 0, none⟩ 0)) (fun n4 => ldI .u64 (rd h (Addr.add ⟨b, 0, none⟩ 1)) (fun n5 => ldI .u64 (rd h (Addr.add ⟨b, 0, none⟩ 2)) (fun n6 => ldI .u64 (rd h (Addr.add ⟨b, 0, none⟩ 3)) (fun n7 => stK h (Addr.add ⟨c, 0, none⟩ 0) (.int .u64 n4) (fun h8 => stK h8 (Addr.add ⟨c, 0, none⟩ 1) (.int .u64 n5) (fun h9 => stK h9 (Addr.add ⟨c, 0, none⟩ 2) (.int .u64 n6) (fun h10 => stK h10 (Addr.add ⟨c, 0, none⟩ 3) (.int .u64 n7) (fun h11 => ldI .u64 (rd h11 (Addr.add ⟨c, 0, none⟩ 0)) (fun n12 => ldI .u64 (rd h11 (Addr.add ⟨c, 0, none⟩ 1)) (fun n13 => ldI .u64 (rd h11 (Addr.add ⟨c, 0, none⟩ 2)) (fun n14 => ldI .u64 (rd h11 (Addr.add ⟨c, 0, none⟩ 3)) (fun n15 => K (.agg #[(.int .u64 n12), (.int .u64 n13), (.int .u64 n14), (.int .u64 n15)]) h11)))))))))))) := by
  simp only [add_mk, Nat.zero_add]
  rw [wr_rd A (by decide : 0 < 4), ldI_some, wr_rd A (by decide : 1 < 4), ldI_some, wr_rd A (by decide : 2 < 4), ldI_some, wr_rd A (by decide : 3 < 4), ldI_some]
  refine wr_st C (by decide) fun h1 C1 O1 => wr_st C1 (by decide) fun h2 C2 O2 => wr_st C2 (by decide) fun h3 C3 O3 => wr_st C3 (by decide) fun h4 C4 O4 => ?_
  rw [wr_rd C4 (by decide : 0 < 4), ldI_some, wr_rd C4 (by decide : 1 < 4), ldI_some, wr_rd C4 (by decide : 2 < 4), ldI_some, wr_rd C4 (by decide : 3 < 4), ldI_some]
  exact hK h4 (((O1.trans O2 (by simp)).trans O3 (by simp)).trans O4 (by simp))
theorem zero_fb (y : Nat) : fb (fun _ => 0) y = false := by simp [fb]
end Go.Proofs.YtnofenejoebkhaaGreat.Ev
/- FUNCTIONS OF EIGHT VARIABLES as four words (package spinneyref3): Or. Conditions: the words are in their bounds. -/
namespace Go.Proofs.YtnofenejoebkhaaGreat.Ev
open Go
theorem or_lt {a b : Nat} (ha : a < U64) (hb : b < U64) : a ||| b < U64 := by
  rw [U64_pow] at *
  exact Nat.or_lt_two_pow ha hb
def orTo (f g : Nat → Nat) (i : Nat) : Nat → Nat := fun j => if j < i then f j ||| g j else f j
theorem orTo_ok {f g : Nat → Nat} (hf : WOk f) (hg : WOk g) (i : Nat) : WOk (orTo f g i) := fun j hj => by
  unfold orTo
  split
  · exact or_lt (hf j hj) (hg j hj)
  · exact hf j hj
theorem orTo_fb (f g : Nat → Nat) {y : Nat} (hy : y < 256) : fb (orTo f g 4) y = (fb f y || fb g y) := by
  unfold fb orTo
  rw [if_pos (by omega), Nat.testBit_or]
theorem or27 {h : Heap} {f g : Nat → Nat} {K : Value → Heap → Prop} (hf : WOk f) (hg : WOk g) (hK : ∀ h' k, WOk k → (∀ y, y < 256 → fb k y = (fb f y || fb g y)) → Only [] h h' → K (aggW k) h') : CallsH Tryz.prog 146 [aggW f, aggW g] h K := by
  refine F146.spec _ _ _ _ _ _ _ _ h K ?_
  unfold F146.w F146.J0
  refine newK_at fun h1 A1 O1 z1 => newK_at fun h2 A2 O2 z2 => newK_at fun h3 A3 O3 z3 => ?_
  replace A1 : At h1 h.size (wrow f) := A1
  replace A2 : At h2 h1.size (wrow g) := A2
  replace A3 : At h3 h2.size (wrow fun _ => 0) := A3
  have B1 := (A1.only O2 (by simp)).only O3 (by simp)
  have B2 := A2.only O3 (by simp)
  have O13 : Only [] h h3 := (O1.trans O2 (by simp)).trans O3 (by simp)
  unfold F146.wk2 F146.Jk2
  have main : ∀ (d i : Nat) (h' : Heap), i + d = 4 → At h' h.size (wrow (orTo f g i)) → At h' h1.size (wrow g) → At h' h2.size (wrow fun _ => 0) → Only [] h h' →
      F146.wL2 (d + 1) ⟨h.size, 0, none⟩ ⟨h1.size, 0, none⟩ ⟨h2.size, 0, none⟩ i h' K := by
    intro d
    induction d with
    | zero =>
      intro i h' hd A B C O
      unfold F146.wL2 F146.JL2
      rw [show decide ((i : Int) < 4) = false by simp; omega, bcase_false]
      have hi : i = 4 := by omega
      subst hi
      exact copy4 A C (by omega) fun h'' O'' => hK h'' _ (orTo_ok hf hg 4) (fun y hy => orTo_fb f g hy) (O.trans O'' (by intro b hb hlt; simp at hb; omega))
    | succ d ih =>
      intro i h' hd A B C O
      unfold F146.wL2 F146.JL2
      have hi : i < 4 := by omega
      rw [show decide ((i : Int) < 4) = true by simp; omega, bcase_true, show IntKind.wrap .i64 ((i : Int) + 1) = ((i + 1 : Nat) : Int) by rw [wrap_i64 (by omega) (by omega)]; omega]
      refine ⟨by omega, by omega, ?_⟩
      rw [add_mk, add_mk, show 0 + Int.toNat (i : Int) * 1 = i by omega, wr_rd A hi, ldI_some]
      refine ⟨by omega, by omega, ?_⟩
      rw [wr_rd B hi, ldI_some]
      refine ⟨by omega, by omega, ?_⟩
      have e0 : orTo f g i i = f i := if_neg (by omega)
      rw [add_mk, Nat.add_zero, e0, bor (hf i hi) (hg i hi)]
      refine wr_st A hi fun h'' A'' O'' => ih (i + 1) h'' (by omega) ?_ (B.only O'' (by simp; omega)) (C.only O'' (by simp; omega)) (O.trans O'' (by intro b hb hlt; simp at hb; omega))
      have e : (fun j => if j = i then f i ||| g i else orTo f g i j) = orTo f g (i + 1) := by
        funext j
        unfold orTo
        by_cases hj : j = i
        · subst hj; rw [if_pos rfl, if_pos (by omega)]
        · rw [if_neg hj]
          by_cases hl : j < i
          · rw [if_pos hl, if_pos (by omega)]
          · rw [if_neg hl, if_neg (by omega)]
      rw [e] at A''
      exact A''
  have e0 : orTo f g 0 = f := by funext j; unfold orTo; rw [if_neg (by omega)]
  exact ⟨_, main 4 0 h3 (by omega) (by rw [e0]; exact B1) B2 A3 O13⟩
end Go.Proofs.YtnofenejoebkhaaGreat.Ev
/- FUNCTIONS OF EIGHT VARIABLES as four words: a variable fixed, plainly. Conditions: the words are in their bounds. -/
namespace Go.Proofs.YtnofenejoebkhaaGreat.Ev
open Go
end Go.Proofs.YtnofenejoebkhaaGreat.Ev
/- PRINTED BY PROGRAM: what each of these functions does, computed over heaps by the evaluator, and that its calls do so. Conditions: none. -/
namespace Go.Proofs.YtnofenejoebkhaaGreat.Ev
open Go
-- spinney/mem.New
namespace F89
def T : Hint := ⟨[], []⟩
noncomputable def body : Code := (Tryz.f89.body).getD .skip
def J0 (x0 : Int) (h : Heap) (K : KK) : Prop :=
  (0 ≤ (if (262144 : Int) < (if (0 : Int) > x0 then (0 : Int) else x0) then (262144 : Int) else (if (0 : Int) > x0 then (0 : Int) else x0)) ∧ (if (262144 : Int) < (if (0 : Int) > x0 then (0 : Int) else x0) then (262144 : Int) else (if (0 : Int) > x0 then (0 : Int) else x0)) ≤ (if (262144 : Int) < (if (0 : Int) > x0 then (0 : Int) else x0) then (262144 : Int) else (if (0 : Int) > x0 then (0 : Int) else x0)) ∧ ((Nat.cast 8 : Int) * (if (262144 : Int) < (if (0 : Int) > x0 then (0 : Int) else x0) then (262144 : Int) else (if (0 : Int) > x0 then (0 : Int) else x0)) ≤ 281474976710656) ∧ (if (262144 : Int) < (if (0 : Int) > x0 then (0 : Int) else x0) then (262144 : Int) else (if (0 : Int) > x0 then (0 : Int) else x0)) ≤ 9223372036854775807 ∧ newK h (.cells (madeCells #[(.int .u64 (0 : Int))] (Int.toNat (if (262144 : Int) < (if (0 : Int) > x0 then (0 : Int) else x0) then (262144 : Int) else (if (0 : Int) > x0 then (0 : Int) else x0)) * 1)) 315) (fun b1 h2 => newK h2 (.cells #[(.slice (some (Addr.mk b1 0 none)) (Int.toNat (if (262144 : Int) < (if (0 : Int) > x0 then (0 : Int) else x0) then (262144 : Int) else (if (0 : Int) > x0 then (0 : Int) else x0))) (Int.toNat (if (262144 : Int) < (if (0 : Int) > x0 then (0 : Int) else x0) then (262144 : Int) else (if (0 : Int) > x0 then (0 : Int) else x0)))), (.int .i64 (0 : Int)), (.int .i64 (0 : Int))] 224) (fun b3 h4 => K (.pointer (some (Addr.mk b3 0 none))) h4)))
theorem E0 (S : Stop) (x0 : Int) (h : Heap) (K : KK) : (E Tryz.prog X T S body (fin Tryz.prog Tryz.f89.results.toList K) (args0 0 [(.int .i64 x0)]) h) = J0 x0 h K := by kernel_rfl
def w (x0 : Int) (h : Heap) (K : KK) : Prop :=
  J0 x0 h K
theorem e0 (K : KK) (x0 : Int) (h : Heap) : (E Tryz.prog X T S0 body (fin Tryz.prog Tryz.f89.results.toList K) (args0 0 [(.int .i64 x0)]) h) = w x0 h K := (E0 S0 x0 h K).trans (rfl)
theorem hb : Tryz.f89.body = some body := by kernel_rfl
theorem ok : okCode T Tryz.f89.ntmps body = true := by kernel_rfl
theorem spec (x0 : Int) (h : Heap) (K : KK) (H : w x0 h K) : CallsH Tryz.prog 89 [(.int .i64 x0)] h K :=
  calls_of_E (T := T) Xok mix Tryz.func89 hb ok rfl (by rw [e0]; exact H)
end F89
-- spinney/cache.Cells
namespace F110
def T : Hint := ⟨[], []⟩
noncomputable def body : Code := (Tryz.f110.body).getD .skip
def J0 (x0 : Int) (h : Heap) (K : KK) : Prop :=
  bcase (decide (x0 < (1 : Int))) (K (.int .i64 (0 : Int)) h) (K (.int .i64 (IntKind.wrap .i64 ((3 : Int) * x0))) h)
theorem E0 (S : Stop) (x0 : Int) (h : Heap) (K : KK) : (E Tryz.prog X T S body (fin Tryz.prog Tryz.f110.results.toList K) (args0 0 [(.int .i64 x0)]) h) = J0 x0 h K := by kernel_rfl
def w (x0 : Int) (h : Heap) (K : KK) : Prop :=
  J0 x0 h K
theorem e0 (K : KK) (x0 : Int) (h : Heap) : (E Tryz.prog X T S0 body (fin Tryz.prog Tryz.f110.results.toList K) (args0 0 [(.int .i64 x0)]) h) = w x0 h K := (E0 S0 x0 h K).trans (rfl)
theorem hb : Tryz.f110.body = some body := by kernel_rfl
theorem ok : okCode T Tryz.f110.ntmps body = true := by kernel_rfl
theorem spec (x0 : Int) (h : Heap) (K : KK) (H : w x0 h K) : CallsH Tryz.prog 110 [(.int .i64 x0)] h K :=
  calls_of_E (T := T) Xok mix Tryz.func110 hb ok rfl (by rw [e0]; exact H)
end F110
-- (*spinney/mem.Mem).Len
namespace F132
def T : Hint := ⟨[], []⟩
noncomputable def body : Code := (Tryz.f132.body).getD .skip
def J0 (x0 : Addr) (h : Heap) (K : KK) : Prop :=
  ldS (rd h (Addr.add x0 0)) (fun _ l2 _ => K (.int .i64 (Nat.cast l2 : Int)) h)
theorem E0 (S : Stop) (x0 : Addr) (h : Heap) (K : KK) : (E Tryz.prog X T S body (fin Tryz.prog Tryz.f132.results.toList K) (args0 0 [(.pointer (some x0))]) h) = J0 x0 h K := by kernel_rfl
def w (x0 : Addr) (h : Heap) (K : KK) : Prop :=
  J0 x0 h K
theorem e0 (K : KK) (x0 : Addr) (h : Heap) : (E Tryz.prog X T S0 body (fin Tryz.prog Tryz.f132.results.toList K) (args0 0 [(.pointer (some x0))]) h) = w x0 h K := (E0 S0 x0 h K).trans (rfl)
theorem hb : Tryz.f132.body = some body := by kernel_rfl
theorem ok : okCode T Tryz.f132.ntmps body = true := by kernel_rfl
theorem spec (x0 : Addr) (h : Heap) (K : KK) (H : w x0 h K) : CallsH Tryz.prog 132 [(.pointer (some x0))] h K :=
  calls_of_E (T := T) Xok mix Tryz.func132 hb ok rfl (by rw [e0]; exact H)
end F132
-- (*spinney/mem.Mem).Load
namespace F162
def T : Hint := ⟨[], []⟩
noncomputable def body : Code := (Tryz.f162.body).getD .skip
def J0 (x0 : Addr) (x1 : Int) (h : Heap) (K : KK) : Prop :=
  CallsH Tryz.prog 202 [(.pointer (some x0)), (.int .i64 x1)] h (fun v1 h2 => ldP (some v1) (fun p3 => bcase (!(Option.isNone p3)) (CallsH Tryz.prog 203 [(.pointer p3)] h2 (fun v4 h5 => ldI .u64 (some v4) (fun n6 => K (.int .u64 n6) h5))) (K (.int .u64 (0 : Int)) h2)))
theorem E0 (S : Stop) (x0 : Addr) (x1 : Int) (h : Heap) (K : KK) : (E Tryz.prog X T S body (fin Tryz.prog Tryz.f162.results.toList K) (args0 0 [(.pointer (some x0)), (.int .i64 x1)]) h) = J0 x0 x1 h K := by kernel_rfl
def w (x0 : Addr) (x1 : Int) (h : Heap) (K : KK) : Prop :=
  J0 x0 x1 h K
theorem e0 (K : KK) (x0 : Addr) (x1 : Int) (h : Heap) : (E Tryz.prog X T S0 body (fin Tryz.prog Tryz.f162.results.toList K) (args0 0 [(.pointer (some x0)), (.int .i64 x1)]) h) = w x0 x1 h K := (E0 S0 x0 x1 h K).trans (rfl)
theorem hb : Tryz.f162.body = some body := by kernel_rfl
theorem ok : okCode T Tryz.f162.ntmps body = true := by kernel_rfl
theorem spec (x0 : Addr) (x1 : Int) (h : Heap) (K : KK) (H : w x0 x1 h K) : CallsH Tryz.prog 162 [(.pointer (some x0)), (.int .i64 x1)] h K :=
  calls_of_E (T := T) Xok mix Tryz.func162 hb ok rfl (by rw [e0]; exact H)
end F162
-- (*spinney/mem.Mem).at
namespace F202
def T : Hint := ⟨[], []⟩
noncomputable def body : Code := (Tryz.f202.body).getD .skip
def J0 (x0 : Addr) (x1 : Int) (h : Heap) (K : KK) : Prop :=
  bcase (decide (x1 < (0 : Int))) (K (.pointer none) h) (ldS (rd h (Addr.add x0 0)) (fun _ l2 _ => bcase (decide (x1 ≥ (Nat.cast l2 : Int))) (K (.pointer none) h) (CallsH Tryz.prog 205 [(.pointer (some (Addr.add x0 1))), (.int .i64 (1 : Int))] h (fun v4 h5 => ldI .i64 (some v4) (fun _ => ldS (rd h5 (Addr.add x0 0)) (fun p7 l8 _ => ptrK p7 (fun a10 => (0 ≤ x1 ∧ x1 < (Nat.cast l8 : Int) ∧ K (.pointer (some (Addr.add a10 (Int.toNat x1 * 1)))) h5))))))))
theorem E0 (S : Stop) (x0 : Addr) (x1 : Int) (h : Heap) (K : KK) : (E Tryz.prog X T S body (fin Tryz.prog Tryz.f202.results.toList K) (args0 0 [(.pointer (some x0)), (.int .i64 x1)]) h) = J0 x0 x1 h K := by kernel_rfl
def w (x0 : Addr) (x1 : Int) (h : Heap) (K : KK) : Prop :=
  J0 x0 x1 h K
theorem e0 (K : KK) (x0 : Addr) (x1 : Int) (h : Heap) : (E Tryz.prog X T S0 body (fin Tryz.prog Tryz.f202.results.toList K) (args0 0 [(.pointer (some x0)), (.int .i64 x1)]) h) = w x0 x1 h K := (E0 S0 x0 x1 h K).trans (rfl)
theorem hb : Tryz.f202.body = some body := by kernel_rfl
theorem ok : okCode T Tryz.f202.ntmps body = true := by kernel_rfl
theorem spec (x0 : Addr) (x1 : Int) (h : Heap) (K : KK) (H : w x0 x1 h K) : CallsH Tryz.prog 202 [(.pointer (some x0)), (.int .i64 x1)] h K :=
  calls_of_E (T := T) Xok mix Tryz.func202 hb ok rfl (by rw [e0]; exact H)
end F202
-- (*sync/atomic.Uint64).Load
namespace F203
def T : Hint := ⟨[], []⟩
noncomputable def body : Code := (Tryz.f203.body).getD .skip
def J0 (x0 : Addr) (h : Heap) (K : KK) : Prop :=
  ldI .u64 (rd h (Addr.add x0 0)) (fun n3 => K (.int .u64 n3) h)
theorem E0 (S : Stop) (x0 : Addr) (h : Heap) (K : KK) : (E Tryz.prog X T S body (fin Tryz.prog Tryz.f203.results.toList K) (args0 0 [(.pointer (some x0))]) h) = J0 x0 h K := by kernel_rfl
def w (x0 : Addr) (h : Heap) (K : KK) : Prop :=
  J0 x0 h K
theorem e0 (K : KK) (x0 : Addr) (h : Heap) : (E Tryz.prog X T S0 body (fin Tryz.prog Tryz.f203.results.toList K) (args0 0 [(.pointer (some x0))]) h) = w x0 h K := (E0 S0 x0 h K).trans (rfl)
theorem hb : Tryz.f203.body = some body := by kernel_rfl
theorem ok : okCode T Tryz.f203.ntmps body = true := by kernel_rfl
theorem spec (x0 : Addr) (h : Heap) (K : KK) (H : w x0 h K) : CallsH Tryz.prog 203 [(.pointer (some x0))] h K :=
  calls_of_E (T := T) Xok mix Tryz.func203 hb ok rfl (by rw [e0]; exact H)
end F203
-- (*spinney/mem.Mem).CAS
namespace F163
def T : Hint := ⟨[], []⟩
noncomputable def body : Code := (Tryz.f163.body).getD .skip
def J0 (x0 : Addr) (x1 x2 x3 : Int) (h : Heap) (K : KK) : Prop :=
  CallsH Tryz.prog 202 [(.pointer (some x0)), (.int .i64 x1)] h (fun v1 h2 => ldP (some v1) (fun p3 => bcase (Option.isNone p3) (K (.bool false) h2) (CallsH Tryz.prog 204 [(.pointer p3), (.int .u64 x2), (.int .u64 x3)] h2 (fun v4 h5 => ldB (some v4) (fun b6 => bcase (!b6) (CallsH Tryz.prog 205 [(.pointer (some (Addr.add x0 2))), (.int .i64 (1 : Int))] h5 (fun v7 h8 => ldI .i64 (some v7) (fun _ => K (.bool b6) h8))) (K (.bool b6) h5))))))
theorem E0 (S : Stop) (x0 : Addr) (x1 x2 x3 : Int) (h : Heap) (K : KK) : (E Tryz.prog X T S body (fin Tryz.prog Tryz.f163.results.toList K) (args0 0 [(.pointer (some x0)), (.int .i64 x1), (.int .u64 x2), (.int .u64 x3)]) h) = J0 x0 x1 x2 x3 h K := by kernel_rfl
def w (x0 : Addr) (x1 x2 x3 : Int) (h : Heap) (K : KK) : Prop :=
  J0 x0 x1 x2 x3 h K
theorem e0 (K : KK) (x0 : Addr) (x1 x2 x3 : Int) (h : Heap) : (E Tryz.prog X T S0 body (fin Tryz.prog Tryz.f163.results.toList K) (args0 0 [(.pointer (some x0)), (.int .i64 x1), (.int .u64 x2), (.int .u64 x3)]) h) = w x0 x1 x2 x3 h K := (E0 S0 x0 x1 x2 x3 h K).trans (rfl)
theorem hb : Tryz.f163.body = some body := by kernel_rfl
theorem ok : okCode T Tryz.f163.ntmps body = true := by kernel_rfl
theorem spec (x0 : Addr) (x1 : Int) (x2 : Int) (x3 : Int) (h : Heap) (K : KK) (H : w x0 x1 x2 x3 h K) : CallsH Tryz.prog 163 [(.pointer (some x0)), (.int .i64 x1), (.int .u64 x2), (.int .u64 x3)] h K :=
  calls_of_E (T := T) Xok mix Tryz.func163 hb ok rfl (by rw [e0]; exact H)
end F163
-- (*sync/atomic.Int64).Add
namespace F205
def T : Hint := ⟨[], []⟩
noncomputable def body : Code := (Tryz.f205.body).getD .skip
def J0 (x0 : Addr) (x1 : Int) (h : Heap) (K : KK) : Prop :=
  ldI .i64 (rd h (Addr.add x0 0)) (fun n3 => stK h (Addr.add x0 0) (.int .i64 (IntKind.wrap .i64 (n3 + x1))) (fun h2 => K (.int .i64 (IntKind.wrap .i64 (n3 + x1))) h2))
theorem E0 (S : Stop) (x0 : Addr) (x1 : Int) (h : Heap) (K : KK) : (E Tryz.prog X T S body (fin Tryz.prog Tryz.f205.results.toList K) (args0 0 [(.pointer (some x0)), (.int .i64 x1)]) h) = J0 x0 x1 h K := by kernel_rfl
def w (x0 : Addr) (x1 : Int) (h : Heap) (K : KK) : Prop :=
  J0 x0 x1 h K
theorem e0 (K : KK) (x0 : Addr) (x1 : Int) (h : Heap) : (E Tryz.prog X T S0 body (fin Tryz.prog Tryz.f205.results.toList K) (args0 0 [(.pointer (some x0)), (.int .i64 x1)]) h) = w x0 x1 h K := (E0 S0 x0 x1 h K).trans (rfl)
theorem hb : Tryz.f205.body = some body := by kernel_rfl
theorem ok : okCode T Tryz.f205.ntmps body = true := by kernel_rfl
theorem spec (x0 : Addr) (x1 : Int) (h : Heap) (K : KK) (H : w x0 x1 h K) : CallsH Tryz.prog 205 [(.pointer (some x0)), (.int .i64 x1)] h K :=
  calls_of_E (T := T) Xok mix Tryz.func205 hb ok rfl (by rw [e0]; exact H)
end F205
-- (*sync/atomic.Uint64).CompareAndSwap
namespace F204
def T : Hint := ⟨[], []⟩
noncomputable def body : Code := (Tryz.f204.body).getD .skip
def J0 (x0 : Addr) (x1 x2 : Int) (h : Heap) (K : KK) : Prop :=
  ldI .u64 (rd h (Addr.add x0 0)) (fun n3 => bcase (n3 == x1) (stK h (Addr.add x0 0) (.int .u64 x2) (fun h2 => K (.bool true) h2)) (fz h (Addr.add x0 0) = false ∧ K (.bool false) h))
theorem E0 (S : Stop) (x0 : Addr) (x1 x2 : Int) (h : Heap) (K : KK) : (E Tryz.prog X T S body (fin Tryz.prog Tryz.f204.results.toList K) (args0 0 [(.pointer (some x0)), (.int .u64 x1), (.int .u64 x2)]) h) = J0 x0 x1 x2 h K := by kernel_rfl
def w (x0 : Addr) (x1 x2 : Int) (h : Heap) (K : KK) : Prop :=
  J0 x0 x1 x2 h K
theorem e0 (K : KK) (x0 : Addr) (x1 x2 : Int) (h : Heap) : (E Tryz.prog X T S0 body (fin Tryz.prog Tryz.f204.results.toList K) (args0 0 [(.pointer (some x0)), (.int .u64 x1), (.int .u64 x2)]) h) = w x0 x1 x2 h K := (E0 S0 x0 x1 x2 h K).trans (rfl)
theorem hb : Tryz.f204.body = some body := by kernel_rfl
theorem ok : okCode T Tryz.f204.ntmps body = true := by kernel_rfl
theorem spec (x0 : Addr) (x1 : Int) (x2 : Int) (h : Heap) (K : KK) (H : w x0 x1 x2 h K) : CallsH Tryz.prog 204 [(.pointer (some x0)), (.int .u64 x1), (.int .u64 x2)] h K :=
  calls_of_E (T := T) Xok mix Tryz.func204 hb ok rfl (by rw [e0]; exact H)
end F204
-- (*spinney/mem.Mem).Store
namespace F282
def T : Hint := ⟨[], []⟩
noncomputable def body : Code := (Tryz.f282.body).getD .skip
def J0 (x0 : Addr) (x1 x2 : Int) (h : Heap) (K : KK) : Prop :=
  CallsH Tryz.prog 202 [(.pointer (some x0)), (.int .i64 x1)] h (fun v1 h2 => ldP (some v1) (fun p3 => bcase (!(Option.isNone p3)) (CallsH Tryz.prog 304 [(.pointer p3), (.int .u64 x2)] h2 (fun v4 h5 => (v4 = (.tuple #[]) ∧ K (.tuple #[]) h5))) (K (.tuple #[]) h2)))
theorem E0 (S : Stop) (x0 : Addr) (x1 x2 : Int) (h : Heap) (K : KK) : (E Tryz.prog X T S body (fin Tryz.prog Tryz.f282.results.toList K) (args0 0 [(.pointer (some x0)), (.int .i64 x1), (.int .u64 x2)]) h) = J0 x0 x1 x2 h K := by kernel_rfl
def w (x0 : Addr) (x1 x2 : Int) (h : Heap) (K : KK) : Prop :=
  J0 x0 x1 x2 h K
theorem e0 (K : KK) (x0 : Addr) (x1 x2 : Int) (h : Heap) : (E Tryz.prog X T S0 body (fin Tryz.prog Tryz.f282.results.toList K) (args0 0 [(.pointer (some x0)), (.int .i64 x1), (.int .u64 x2)]) h) = w x0 x1 x2 h K := (E0 S0 x0 x1 x2 h K).trans (rfl)
theorem hb : Tryz.f282.body = some body := by kernel_rfl
theorem ok : okCode T Tryz.f282.ntmps body = true := by kernel_rfl
theorem spec (x0 : Addr) (x1 : Int) (x2 : Int) (h : Heap) (K : KK) (H : w x0 x1 x2 h K) : CallsH Tryz.prog 282 [(.pointer (some x0)), (.int .i64 x1), (.int .u64 x2)] h K :=
  calls_of_E (T := T) Xok mix Tryz.func282 hb ok rfl (by rw [e0]; exact H)
end F282
-- (*sync/atomic.Uint64).Store
namespace F304
def T : Hint := ⟨[], []⟩
noncomputable def body : Code := (Tryz.f304.body).getD .skip
def J0 (x0 : Addr) (x1 : Int) (h : Heap) (K : KK) : Prop :=
  stK h (Addr.add x0 0) (.int .u64 x1) (fun h2 => K (.tuple #[]) h2)
theorem E0 (S : Stop) (x0 : Addr) (x1 : Int) (h : Heap) (K : KK) : (E Tryz.prog X T S body (fin Tryz.prog Tryz.f304.results.toList K) (args0 0 [(.pointer (some x0)), (.int .u64 x1)]) h) = J0 x0 x1 h K := by kernel_rfl
def w (x0 : Addr) (x1 : Int) (h : Heap) (K : KK) : Prop :=
  J0 x0 x1 h K
theorem e0 (K : KK) (x0 : Addr) (x1 : Int) (h : Heap) : (E Tryz.prog X T S0 body (fin Tryz.prog Tryz.f304.results.toList K) (args0 0 [(.pointer (some x0)), (.int .u64 x1)]) h) = w x0 x1 h K := (E0 S0 x0 x1 h K).trans (rfl)
theorem hb : Tryz.f304.body = some body := by kernel_rfl
theorem ok : okCode T Tryz.f304.ntmps body = true := by kernel_rfl
theorem spec (x0 : Addr) (x1 : Int) (h : Heap) (K : KK) (H : w x0 x1 h K) : CallsH Tryz.prog 304 [(.pointer (some x0)), (.int .u64 x1)] h K :=
  calls_of_E (T := T) Xok mix Tryz.func304 hb ok rfl (by rw [e0]; exact H)
end F304
end Go.Proofs.YtnofenejoebkhaaGreat.Ev
/- CELLS (package mem): what each of its functions does to a row of cells, seen from the heap. Conditions: the row stands (MemIs). -/
namespace Go.Proofs.YtnofenejoebkhaaGreat.Ev
open Go
/-- block m is a Mem, its cells are block c -/
structure MemIs (h : Heap) (m c : Nat) (cs : List Int) (ops fails : Int) : Prop where
  head : At h m [.slice (some ⟨c, 0, none⟩) cs.length cs.length, .int .i64 ops, .int .i64 fails]
  body : At h c (cs.map (.int .u64))
  ne : m ≠ c
theorem MemIs.only {S : List Nat} {h h' : Heap} {m c : Nat} {cs : List Int} {ops fails : Int} (H : MemIs h m c cs ops fails) (O : Only S h h') (hm : m ∉ S) (hc : c ∉ S) : MemIs h' m c cs ops fails :=
  ⟨H.head.only O hm, H.body.only O hc, H.ne⟩
/-- one more -/
def up (n : Int) : Int := IntKind.wrap .i64 (n + 1)
theorem c40 {h : Heap} {b i : Nat} {n : Int} {K : Value → Heap → Prop} (hr : rd h ⟨b, i, none⟩ = some (.int .u64 n)) (hK : K (.int .u64 n) h) :
    CallsH Tryz.prog 203 [.pointer (some ⟨b, i, none⟩)] h K := by
  apply F203.spec
  unfold F203.w F203.J0
  rw [add_zero]
  exact ldI_of hr hK
theorem c42 {h : Heap} {b i : Nat} {c : List Value} {n d : Int} {K : Value → Heap → Prop} (H : At h b c) (hi : c[i]? = some (.int .i64 n))
    (hK : ∀ h', At h' b (c.set i (.int .i64 (IntKind.wrap .i64 (n + d)))) → Only [b] h h' → K (.int .i64 (IntKind.wrap .i64 (n + d))) h') :
    CallsH Tryz.prog 205 [.pointer (some ⟨b, i, none⟩), .int .i64 d] h K := by
  apply F205.spec
  unfold F205.w F205.J0
  rw [add_zero]
  exact ldI_of (by rw [H.rd]; exact hi) (stK_at H (List.getElem?_eq_some_iff.1 hi).1 rfl fun h' h1 h2 _ => hK h' h1 h2)
theorem c48 {h : Heap} {b i : Nat} {c : List Value} {d : Int} {K : Value → Heap → Prop} (H : At h b c) (hi : i < c.length)
    (hK : ∀ h', At h' b (c.set i (.int .u64 d)) → Only [b] h h' → K (.tuple #[]) h') :
    CallsH Tryz.prog 304 [.pointer (some ⟨b, i, none⟩), .int .u64 d] h K := by
  apply F304.spec
  unfold F304.w F304.J0
  rw [add_zero]
  exact stK_at H hi rfl fun h' h1 h2 _ => hK h' h1 h2
theorem c41 {h : Heap} {b i : Nat} {c : List Value} {n x y : Int} {K : Value → Heap → Prop} (H : At h b c) (hi : c[i]? = some (.int .u64 n))
    (hT : n = x → ∀ h', At h' b (c.set i (.int .u64 y)) → Only [b] h h' → K (.bool true) h') (hF : n ≠ x → K (.bool false) h) :
    CallsH Tryz.prog 204 [.pointer (some ⟨b, i, none⟩), .int .u64 x, .int .u64 y] h K := by
  apply F204.spec
  unfold F204.w F204.J0
  rw [add_zero]
  refine ldI_of (by rw [H.rd]; exact hi) (bcase_of (fun e => stK_at H (List.getElem?_eq_some_iff.1 hi).1 rfl fun h' h1 h2 _ => hT (by simpa using e) h' h1 h2) fun e => ⟨H.fz _ _, hF (by simpa using e)⟩)

/-- in the row: a touched cell; beside it: none -/
theorem at_in {h : Heap} {m c : Nat} {cs : List Int} {ops fails : Int} {i : Int} {K : Value → Heap → Prop} (H : MemIs h m c cs ops fails) (h0 : 0 ≤ i) (h1 : i < cs.length)
    (hK : ∀ h', MemIs h' m c cs (up ops) fails → Only [m, c] h h' → K (.pointer (some ⟨c, i.toNat, none⟩)) h') :
    CallsH Tryz.prog 202 [.pointer (some ⟨m, 0, none⟩), .int .i64 i] h K := by
  apply F202.spec
  unfold F202.w F202.J0
  rw [decide_eq_false (by omega : ¬ i < 0)]
  simp only [add_mk, H.head.rd, Nat.zero_add, List.getElem?_cons_zero, ldS_some, bcase_false]
  rw [decide_eq_false (by omega : ¬ i ≥ (Nat.cast cs.length : Int)), bcase_false]
  refine c42 (n := ops) (i := 1) H.head rfl fun h' a1 a2 => ?_
  simp only [ldI_some, List.set_cons_succ, List.set_cons_zero] at a1 ⊢
  simp only [a1.rd, List.getElem?_cons_zero, ldS_some, ptrK_some, add_mk, Nat.zero_add, Nat.mul_one]
  exact ⟨h0, h1, hK h' ⟨a1, H.body.only a2 (by simp [H.ne.symm]), H.ne⟩ (a2.mono (by simp +contextual))⟩
theorem load_in {h : Heap} {m c : Nat} {cs : List Int} {ops fails : Int} {i : Int} {K : Value → Heap → Prop} (H : MemIs h m c cs ops fails) (h0 : 0 ≤ i) (h1 : i < cs.length)
    (hK : ∀ h', MemIs h' m c cs (up ops) fails → Only [m, c] h h' → K (.int .u64 (cs.getD i.toNat 0)) h') :
    CallsH Tryz.prog 162 [.pointer (some ⟨m, 0, none⟩), .int .i64 i] h K := by
  apply F162.spec
  unfold F162.w F162.J0
  refine at_in H h0 h1 fun h' a1 a2 => ?_
  have hi : i.toNat < cs.length := by omega
  simp only [ldP_some, Option.isNone_some, Bool.not_false, bcase_true]
  refine c40 (n := cs.getD i.toNat 0) (by rw [a1.body.rd]; simp [hi]) ?_
  simp only [ldI_some]
  exact hK h' a1 a2
theorem MemIs.put {h h' : Heap} {m c : Nat} {cs : List Int} {ops fails : Int} (H : MemIs h m c cs ops fails) {i : Nat} {v : Int} (a : At h' c ((cs.map (Value.int .u64)).set i (.int .u64 v))) (O : Only [c] h h') :
    MemIs h' m c (cs.set i v) ops fails :=
  ⟨by rw [List.length_set]; exact H.head.only O (by simp [H.ne]), by rw [List.map_set]; exact a, H.ne⟩
theorem store_in {h : Heap} {m c : Nat} {cs : List Int} {ops fails : Int} {i d : Int} {K : Value → Heap → Prop} (H : MemIs h m c cs ops fails) (h0 : 0 ≤ i) (h1 : i < cs.length)
    (hK : ∀ h', MemIs h' m c (cs.set i.toNat d) (up ops) fails → Only [m, c] h h' → K (.tuple #[]) h') :
    CallsH Tryz.prog 282 [.pointer (some ⟨m, 0, none⟩), .int .i64 i, .int .u64 d] h K := by
  apply F282.spec
  unfold F282.w F282.J0
  refine at_in H h0 h1 fun h' a1 a2 => ?_
  have hi : i.toNat < cs.length := by omega
  simp only [ldP_some, Option.isNone_some, Bool.not_false, bcase_true]
  exact c48 a1.body (by simpa using hi) fun h'' b1 b2 => ⟨rfl, hK h'' (a1.put b1 b2) (a2.trans b2 (by simp))⟩
theorem cas_in {h : Heap} {m c : Nat} {cs : List Int} {ops fails : Int} {i x y : Int} {K : Value → Heap → Prop} (H : MemIs h m c cs ops fails) (h0 : 0 ≤ i) (h1 : i < cs.length)
    (hT : cs.getD i.toNat 0 = x → ∀ h', MemIs h' m c (cs.set i.toNat y) (up ops) fails → Only [m, c] h h' → K (.bool true) h')
    (hF : cs.getD i.toNat 0 ≠ x → ∀ h', MemIs h' m c cs (up ops) (up fails) → Only [m, c] h h' → K (.bool false) h') :
    CallsH Tryz.prog 163 [.pointer (some ⟨m, 0, none⟩), .int .i64 i, .int .u64 x, .int .u64 y] h K := by
  apply F163.spec
  unfold F163.w F163.J0
  refine at_in H h0 h1 fun h' a1 a2 => ?_
  have hi : i.toNat < cs.length := by omega
  simp only [ldP_some, Option.isNone_some, bcase_false]
  refine c41 (n := cs.getD i.toNat 0) a1.body (by simp [hi]) (fun e h'' b1 b2 => ?_) fun e => ?_
  · simp only [ldB_some, Bool.not_true, bcase_false]
    exact hT e h'' (a1.put b1 b2) (a2.trans b2 (by simp))
  · simp only [ldB_some, Bool.not_false, bcase_true, add_mk, Nat.zero_add]
    refine c42 (n := fails) a1.head rfl fun h'' b1 b2 => ?_
    simp only [ldI_some]
    exact hF e h'' ⟨b1, a1.body.only b2 (by simp [H.ne.symm]), H.ne⟩ (a2.trans b2 (by simp))
theorem len_spec {h : Heap} {m c : Nat} {cs : List Int} {ops fails : Int} {K : Value → Heap → Prop} (H : MemIs h m c cs ops fails) (hK : K (.int .i64 cs.length) h) :
    CallsH Tryz.prog 132 [.pointer (some ⟨m, 0, none⟩)] h K := by
  apply F132.spec
  unfold F132.w F132.J0
  rw [add_mk, H.head.rd]
  exact ldS_of rfl hK
/-- how many cells are made for a number -/
def cellsFor (n : Int) : Nat := (min (max n 0) 262144).toNat
theorem cellsFor_of {k : Nat} (h : k ≤ 262144) : cellsFor (k : Int) = k := by
  unfold cellsFor
  rw [Int.max_eq_left (by omega), Int.min_eq_left (by omega), Int.toNat_natCast]
theorem made_ints (n : Nat) : (madeCells #[.int .u64 (0 : Int)] n).toList = (List.replicate n (0 : Int)).map (Value.int .u64) := by
  rw [toList_madeCells_one]; simp
theorem new_spec {h : Heap} {n : Int} {K : Value → Heap → Prop}
    (hK : ∀ m c h', MemIs h' m c (List.replicate (cellsFor n) 0) 0 0 → Only [] h h' → h.size ≤ m → h.size ≤ c → K (.pointer (some ⟨m, 0, none⟩)) h') :
    CallsH Tryz.prog 89 [.int .i64 n] h K := by
  apply F89.spec
  unfold F89.w F89.J0
  have e : (if (262144 : Int) < (if (0 : Int) > n then (0 : Int) else n) then (262144 : Int) else (if (0 : Int) > n then (0 : Int) else n)) = (cellsFor n : Int) := by
    unfold cellsFor
    split <;> split <;> omega
  have h2 : cellsFor n ≤ 262144 := by unfold cellsFor; omega
  rw [e]
  refine ⟨by omega, by omega, by omega, by omega, ?_⟩
  refine newK_at fun h1 a1 a2 a3 => newK_at fun h2 b1 b2 b3 => ?_
  simp only [Int.toNat_natCast, Nat.mul_one] at a1 b1 ⊢
  rw [made_ints] at a1
  refine hK h1.size h.size h2 ⟨?_, a1.only b2 (by simp), by omega⟩ (a2.trans b2 (by simp)) (by omega) (by omega)
  rw [List.length_replicate]
  exact b1
end Go.Proofs.YtnofenejoebkhaaGreat.Ev
/- PRINTED BY PROGRAM: what each of these functions does, computed over heaps by the evaluator, and that its calls do so. Conditions: none. -/
namespace Go.Proofs.YtnofenejoebkhaaGreat.Ev
open Go
-- spinney/utable.New
namespace F159
def T : Hint := ⟨[], []⟩
noncomputable def body : Code := (Tryz.f159.body).getD .skip
def J0 (x0 : Addr) (x1 x2 : Int) (h : Heap) (K : KK) : Prop :=
  bcase (decide (x1 < (0 : Int))) (K (.tuple #[(.pointer none), (.int .i64 (61 : Int))]) h) (bcase (decide (x2 < (1 : Int))) (K (.tuple #[(.pointer none), (.int .i64 (61 : Int))]) h) (CallsH Tryz.prog 132 [(.pointer (some x0))] h (fun v1 h2 => ldI .i64 (some v1) (fun n3 => bcase (decide (x1 > n3)) (K (.tuple #[(.pointer none), (.int .i64 (61 : Int))]) h2) (CallsH Tryz.prog 132 [(.pointer (some x0))] h2 (fun v4 h5 => ldI .i64 (some v4) (fun n6 => bcase (decide (x2 > (IntKind.wrap .i64 (n6 - x1)))) (K (.tuple #[(.pointer none), (.int .i64 (61 : Int))]) h5) (newK h5 (.cells #[(.pointer (some x0)), (.int .i64 x1), (.int .i64 x2)] 276) (fun b7 h8 => K (.tuple #[(.pointer (some (Addr.mk b7 0 none))), (.int .i64 (0 : Int))]) h8)))))))))
theorem E0 (S : Stop) (x0 : Addr) (x1 x2 : Int) (h : Heap) (K : KK) : (E Tryz.prog X T S body (fin Tryz.prog Tryz.f159.results.toList K) (args0 0 [(.pointer (some x0)), (.int .i64 x1), (.int .i64 x2)]) h) = J0 x0 x1 x2 h K := by kernel_rfl
def w (x0 : Addr) (x1 x2 : Int) (h : Heap) (K : KK) : Prop :=
  J0 x0 x1 x2 h K
theorem e0 (K : KK) (x0 : Addr) (x1 x2 : Int) (h : Heap) : (E Tryz.prog X T S0 body (fin Tryz.prog Tryz.f159.results.toList K) (args0 0 [(.pointer (some x0)), (.int .i64 x1), (.int .i64 x2)]) h) = w x0 x1 x2 h K := (E0 S0 x0 x1 x2 h K).trans (rfl)
theorem hb : Tryz.f159.body = some body := by kernel_rfl
theorem ok : okCode T Tryz.f159.ntmps body = true := by kernel_rfl
theorem spec (x0 : Addr) (x1 : Int) (x2 : Int) (h : Heap) (K : KK) (H : w x0 x1 x2 h K) : CallsH Tryz.prog 159 [(.pointer (some x0)), (.int .i64 x1), (.int .i64 x2)] h K :=
  calls_of_E (T := T) Xok mix Tryz.func159 hb ok rfl (by rw [e0]; exact H)
end F159
-- (*spinney/utable.Table).Find
namespace F241
def T : Hint := ⟨[], [(1, [[(0, []), (1, []), (2, []), (3, []), (4, []), (5, []), (6, []), (8, []), (9, []), (10, []), (11, []), (12, []), (13, []), (7, [0, 1, 8, 9, 10, 11, 12, 13]), (14, []), (15, []), (16, [])]])]⟩
noncomputable def body : Code := (Tryz.f241.body).getD .skip
def J0 (x0 : Addr) (x1 : Int) (h : Heap) (K : KK) : Prop :=
  ldI .i64 (rd h (Addr.add x0 2)) (fun n1 => ldI .i64 (rd h (Addr.add x0 2)) (fun n2 => CallsH Tryz.prog 246 [(.int .u64 x1), (.int .i64 n1)] h (fun v3 h4 => ldI .i64 (some v3) (fun n5 => ((.pointer (some x0)) = ((.pointer (some x0)) : Value) ∧ ((.int .u64 x1) = ((.int .u64 x1) : Value) ∧ ((.pointer (some x0)) = ((.pointer (some x0)) : Value) ∧ ((.pointer (some x0)) = ((.pointer (some x0)) : Value) ∧ ((.pointer (some (Addr.add x0 2))) = ((.pointer (some (Addr.add x0 2))) : Value) ∧ ldI .i64 (rd h4 (Addr.add x0 2)) (fun n6 => ((.int .i64 n6) = ((.int .i64 n2) : Value) ∧ ((.int .u64 x1) = ((.int .u64 x1) : Value) ∧ ((.bool (x1 == (0 : Int))) = ((.bool (x1 == (0 : Int))) : Value) ∧ newK h4 (.cells #[(.pointer (some x0)), (.int .u64 x1), (.int .i64 n5), (.int .i64 n2), .nilFunc, (.bool (x1 == (0 : Int))), (.int .i64 (-1 : Int)), (.int .i64 (61 : Int)), (.bool false)] 350) (fun b7 h8 => stK h8 (Addr.add (Addr.add (Addr.mk b7 0 none) 4) 0) (.func (.func 285) #[(.pointer (some (Addr.mk b7 0 none)))] #[]) (fun h9 => K (.pointer (some (Addr.mk b7 0 none))) h9)))))))))))))))
theorem E0 (S : Stop) (x0 : Addr) (x1 : Int) (h : Heap) (K : KK) : (E Tryz.prog X T S body (fin Tryz.prog Tryz.f241.results.toList K) (args0 0 [(.pointer (some x0)), (.int .u64 x1)]) h) = J0 x0 x1 h K := by kernel_rfl
def w (x0 : Addr) (x1 : Int) (h : Heap) (K : KK) : Prop :=
  J0 x0 x1 h K
theorem e0 (K : KK) (x0 : Addr) (x1 : Int) (h : Heap) : (E Tryz.prog X T S0 body (fin Tryz.prog Tryz.f241.results.toList K) (args0 0 [(.pointer (some x0)), (.int .u64 x1)]) h) = w x0 x1 h K := (E0 S0 x0 x1 h K).trans (rfl)
theorem hb : Tryz.f241.body = some body := by kernel_rfl
theorem ok : okCode T Tryz.f241.ntmps body = true := by kernel_rfl
theorem spec (x0 : Addr) (x1 : Int) (h : Heap) (K : KK) (H : w x0 x1 h K) : CallsH Tryz.prog 241 [(.pointer (some x0)), (.int .u64 x1)] h K :=
  calls_of_E (T := T) Xok mix Tryz.func241 hb ok rfl (by rw [e0]; exact H)
end F241
-- (*spinney/utable.Finder).Step
namespace F242
def T : Hint := ⟨[(3, [0])], []⟩
noncomputable def body : Code := (Tryz.f242.body).getD .skip
noncomputable def en (S : Stop) (p : List Nat) (κ : XK) : Fr → Heap → Prop := E Tryz.prog X T S (sub body p) κ
def fn (K : KK) : XK := fin Tryz.prog Tryz.f242.results.toList K
def f3 (x0 : Addr) : Fr := [(0, (.pointer (some x0)))]
def J0 (k3 : Addr → Heap → Prop) (x0 : Addr) (h : Heap) (_K : KK) : Prop :=
  ldB (rd h (Addr.add x0 5)) (fun b1 => bcase (!b1) (ldV (rd h (Addr.add x0 4)) (fun v2 => dynK Tryz.prog X v2 [] h (fun v3 h4 => (v3 = (.tuple #[]) ∧ k3 x0 h4)))) (k3 x0 h))
theorem E0 (S : Stop) (x0 : Addr) (h : Heap) (K : KK) : (E Tryz.prog X T S body (fin Tryz.prog Tryz.f242.results.toList K) (args0 0 [(.pointer (some x0))]) h) = J0 (fun x0 h => S (en S [1, 1] (fn K)) (f3 x0) h) x0 h K := by kernel_rfl
def Jk3 (x0 : Addr) (h : Heap) (K : KK) : Prop :=
  ldB (rd h (Addr.add x0 5)) (fun b1 => K (.bool b1) h)
theorem Ek3 (S : Stop) (x0 : Addr) (h : Heap) (K : KK) : (en S [1, 1] (fn K) (f3 x0) h) = Jk3 x0 h K := by kernel_rfl
def wk3 (x0 : Addr) (h : Heap) (K : KK) : Prop :=
  Jk3 x0 h K
theorem ek3 (K : KK) (x0 : Addr) (h : Heap) : (en S0 [1, 1] (fn K) (f3 x0) h) = wk3 x0 h K := (Ek3 S0 x0 h K).trans (rfl)
def w (x0 : Addr) (h : Heap) (K : KK) : Prop :=
  J0 (fun x0 h => wk3 x0 h K) x0 h K
theorem e0 (K : KK) (x0 : Addr) (h : Heap) : (E Tryz.prog X T S0 body (fin Tryz.prog Tryz.f242.results.toList K) (args0 0 [(.pointer (some x0))]) h) = w x0 h K := (E0 S0 x0 h K).trans (cg1 (fun q0 => J0 q0 x0 h K) (by funext x0 h; exact ek3 K x0 h))
theorem hb : Tryz.f242.body = some body := by kernel_rfl
theorem ok : okCode T Tryz.f242.ntmps body = true := by kernel_rfl
theorem spec (x0 : Addr) (h : Heap) (K : KK) (H : w x0 h K) : CallsH Tryz.prog 242 [(.pointer (some x0))] h K :=
  calls_of_E (T := T) Xok mix Tryz.func242 hb ok rfl (by rw [e0]; exact H)
end F242
-- (*spinney/utable.Finder).Slot
namespace F243
def T : Hint := ⟨[], [(1, [[(0, []), (1, []), (2, []), (3, []), (4, []), (5, []), (6, []), (7, []), (8, []), (9, [])]])]⟩
noncomputable def body : Code := (Tryz.f243.body).getD .skip
def J0 (x0 : Addr) (h : Heap) (K : KK) : Prop :=
  ldI .i64 (rd h (Addr.add x0 6)) (fun n1 => ldI .i64 (rd h (Addr.add x0 7)) (fun n2 => K (.tuple #[(.int .i64 n1), (.int .i64 n2)]) h))
theorem E0 (S : Stop) (x0 : Addr) (h : Heap) (K : KK) : (E Tryz.prog X T S body (fin Tryz.prog Tryz.f243.results.toList K) (args0 0 [(.pointer (some x0))]) h) = J0 x0 h K := by kernel_rfl
def w (x0 : Addr) (h : Heap) (K : KK) : Prop :=
  J0 x0 h K
theorem e0 (K : KK) (x0 : Addr) (h : Heap) : (E Tryz.prog X T S0 body (fin Tryz.prog Tryz.f243.results.toList K) (args0 0 [(.pointer (some x0))]) h) = w x0 h K := (E0 S0 x0 h K).trans (rfl)
theorem hb : Tryz.f243.body = some body := by kernel_rfl
theorem ok : okCode T Tryz.f243.ntmps body = true := by kernel_rfl
theorem spec (x0 : Addr) (h : Heap) (K : KK) (H : w x0 h K) : CallsH Tryz.prog 243 [(.pointer (some x0))] h K :=
  calls_of_E (T := T) Xok mix Tryz.func243 hb ok rfl (by rw [e0]; exact H)
end F243
-- (*spinney/utable.Finder).Made
namespace F244
def T : Hint := ⟨[], []⟩
noncomputable def body : Code := (Tryz.f244.body).getD .skip
def J0 (x0 : Addr) (h : Heap) (K : KK) : Prop :=
  ldB (rd h (Addr.add x0 8)) (fun b1 => K (.bool b1) h)
theorem E0 (S : Stop) (x0 : Addr) (h : Heap) (K : KK) : (E Tryz.prog X T S body (fin Tryz.prog Tryz.f244.results.toList K) (args0 0 [(.pointer (some x0))]) h) = J0 x0 h K := by kernel_rfl
def w (x0 : Addr) (h : Heap) (K : KK) : Prop :=
  J0 x0 h K
theorem e0 (K : KK) (x0 : Addr) (h : Heap) : (E Tryz.prog X T S0 body (fin Tryz.prog Tryz.f244.results.toList K) (args0 0 [(.pointer (some x0))]) h) = w x0 h K := (E0 S0 x0 h K).trans (rfl)
theorem hb : Tryz.f244.body = some body := by kernel_rfl
theorem ok : okCode T Tryz.f244.ntmps body = true := by kernel_rfl
theorem spec (x0 : Addr) (h : Heap) (K : KK) (H : w x0 h K) : CallsH Tryz.prog 244 [(.pointer (some x0))] h K :=
  calls_of_E (T := T) Xok mix Tryz.func244 hb ok rfl (by rw [e0]; exact H)
end F244
-- (*spinney/utable.Table).Slots
namespace F200
def T : Hint := ⟨[], []⟩
noncomputable def body : Code := (Tryz.f200.body).getD .skip
def J0 (x0 : Addr) (h : Heap) (K : KK) : Prop :=
  ldI .i64 (rd h (Addr.add x0 2)) (fun n1 => K (.int .i64 n1) h)
theorem E0 (S : Stop) (x0 : Addr) (h : Heap) (K : KK) : (E Tryz.prog X T S body (fin Tryz.prog Tryz.f200.results.toList K) (args0 0 [(.pointer (some x0))]) h) = J0 x0 h K := by kernel_rfl
def w (x0 : Addr) (h : Heap) (K : KK) : Prop :=
  J0 x0 h K
theorem e0 (K : KK) (x0 : Addr) (h : Heap) : (E Tryz.prog X T S0 body (fin Tryz.prog Tryz.f200.results.toList K) (args0 0 [(.pointer (some x0))]) h) = w x0 h K := (E0 S0 x0 h K).trans (rfl)
theorem hb : Tryz.f200.body = some body := by kernel_rfl
theorem ok : okCode T Tryz.f200.ntmps body = true := by kernel_rfl
theorem spec (x0 : Addr) (h : Heap) (K : KK) (H : w x0 h K) : CallsH Tryz.prog 200 [(.pointer (some x0))] h K :=
  calls_of_E (T := T) Xok mix Tryz.func200 hb ok rfl (by rw [e0]; exact H)
end F200
-- (*spinney/utable.Table).At
namespace F247
def T : Hint := ⟨[], [(3, [[(0, []), (1, []), (2, []), (3, []), (4, []), (5, []), (6, []), (7, []), (8, []), (9, []), (10, []), (11, [])]])]⟩
noncomputable def body : Code := (Tryz.f247.body).getD .skip
def J0 (x0 : Addr) (x1 : Int) (h : Heap) (K : KK) : Prop :=
  bcase (decide (x1 < (0 : Int))) (K (.int .u64 (0 : Int)) h) (ldI .i64 (rd h (Addr.add x0 2)) (fun n1 => bcase (decide (x1 ≥ n1)) (K (.int .u64 (0 : Int)) h) (ldP (rd h (Addr.add x0 0)) (fun p2 => ldI .i64 (rd h (Addr.add x0 1)) (fun n3 => CallsH Tryz.prog 162 [(.pointer p2), (.int .i64 (IntKind.wrap .i64 (n3 + x1)))] h (fun v4 h5 => ldI .u64 (some v4) (fun n6 => K (.int .u64 n6) h5)))))))
theorem E0 (S : Stop) (x0 : Addr) (x1 : Int) (h : Heap) (K : KK) : (E Tryz.prog X T S body (fin Tryz.prog Tryz.f247.results.toList K) (args0 0 [(.pointer (some x0)), (.int .i64 x1)]) h) = J0 x0 x1 h K := by kernel_rfl
def w (x0 : Addr) (x1 : Int) (h : Heap) (K : KK) : Prop :=
  J0 x0 x1 h K
theorem e0 (K : KK) (x0 : Addr) (x1 : Int) (h : Heap) : (E Tryz.prog X T S0 body (fin Tryz.prog Tryz.f247.results.toList K) (args0 0 [(.pointer (some x0)), (.int .i64 x1)]) h) = w x0 x1 h K := (E0 S0 x0 x1 h K).trans (rfl)
theorem hb : Tryz.f247.body = some body := by kernel_rfl
theorem ok : okCode T Tryz.f247.ntmps body = true := by kernel_rfl
theorem spec (x0 : Addr) (x1 : Int) (h : Heap) (K : KK) (H : w x0 x1 h K) : CallsH Tryz.prog 247 [(.pointer (some x0)), (.int .i64 x1)] h K :=
  calls_of_E (T := T) Xok mix Tryz.func247 hb ok rfl (by rw [e0]; exact H)
end F247
-- (*spinney/utable.Finder).looks
namespace F285
def T : Hint := ⟨[], [(0, [[(0, []), (1, []), (2, []), (3, []), (4, []), (5, []), (6, []), (7, []), (8, []), (9, []), (10, []), (11, []), (12, []), (13, []), (14, []), (15, []), (16, []), (17, []), (18, []), (19, [])]])]⟩
noncomputable def body : Code := (Tryz.f285.body).getD .skip
def J0 (x0 : Addr) (h : Heap) (K : KK) : Prop :=
  ldP (rd h (Addr.add x0 0)) (fun p1 => ptrK p1 (fun a2 => ldP (rd h (Addr.add a2 0)) (fun p3 => ldP (rd h (Addr.add x0 0)) (fun p4 => ptrK p4 (fun a5 => ldI .i64 (rd h (Addr.add a5 1)) (fun n6 => ldI .i64 (rd h (Addr.add x0 2)) (fun n7 => CallsH Tryz.prog 162 [(.pointer p3), (.int .i64 (IntKind.wrap .i64 (n6 + n7)))] h (fun v8 h9 => ldI .u64 (some v8) (fun n10 => ldI .u64 (rd h9 (Addr.add x0 1)) (fun n11 => bcase (n10 == n11) (ldI .i64 (rd h9 (Addr.add x0 2)) (fun n12 => CallsH Tryz.prog 305 [(.pointer (some x0)), (.int .i64 n12), (.int .i64 (0 : Int))] h9 (fun v13 h14 => (v13 = (.tuple #[]) ∧ K (.tuple #[]) h14)))) (bcase (n10 == (0 : Int)) (stK h9 (Addr.add (Addr.add x0 4) 0) (.func (.func 306) #[(.pointer (some x0))] #[]) (fun h15 => K (.tuple #[]) h15)) (CallsH Tryz.prog 307 [(.pointer (some x0))] h9 (fun v16 h17 => (v16 = (.tuple #[]) ∧ K (.tuple #[]) h17))))))))))))))
theorem E0 (S : Stop) (x0 : Addr) (h : Heap) (K : KK) : (E Tryz.prog X T S body (fin Tryz.prog Tryz.f285.results.toList K) (args0 0 [(.pointer (some x0))]) h) = J0 x0 h K := by kernel_rfl
def w (x0 : Addr) (h : Heap) (K : KK) : Prop :=
  J0 x0 h K
theorem e0 (K : KK) (x0 : Addr) (h : Heap) : (E Tryz.prog X T S0 body (fin Tryz.prog Tryz.f285.results.toList K) (args0 0 [(.pointer (some x0))]) h) = w x0 h K := (E0 S0 x0 h K).trans (rfl)
theorem hb : Tryz.f285.body = some body := by kernel_rfl
theorem ok : okCode T Tryz.f285.ntmps body = true := by kernel_rfl
theorem spec (x0 : Addr) (h : Heap) (K : KK) (H : w x0 h K) : CallsH Tryz.prog 285 [(.pointer (some x0))] h K :=
  calls_of_E (T := T) Xok mix Tryz.func285 hb ok rfl (by rw [e0]; exact H)
end F285
-- (*spinney/utable.Finder).ends
namespace F305
def T : Hint := ⟨[], []⟩
noncomputable def body : Code := (Tryz.f305.body).getD .skip
def J0 (x0 : Addr) (x1 x2 : Int) (h : Heap) (K : KK) : Prop :=
  stK h (Addr.add (Addr.add x0 5) 0) (.bool true) (fun h1 => stK h1 (Addr.add (Addr.add x0 6) 0) (.int .i64 x1) (fun h2 => stK h2 (Addr.add (Addr.add x0 7) 0) (.int .i64 x2) (fun h3 => K (.tuple #[]) h3)))
theorem E0 (S : Stop) (x0 : Addr) (x1 x2 : Int) (h : Heap) (K : KK) : (E Tryz.prog X T S body (fin Tryz.prog Tryz.f305.results.toList K) (args0 0 [(.pointer (some x0)), (.int .i64 x1), (.int .i64 x2)]) h) = J0 x0 x1 x2 h K := by kernel_rfl
def w (x0 : Addr) (x1 x2 : Int) (h : Heap) (K : KK) : Prop :=
  J0 x0 x1 x2 h K
theorem e0 (K : KK) (x0 : Addr) (x1 x2 : Int) (h : Heap) : (E Tryz.prog X T S0 body (fin Tryz.prog Tryz.f305.results.toList K) (args0 0 [(.pointer (some x0)), (.int .i64 x1), (.int .i64 x2)]) h) = w x0 x1 x2 h K := (E0 S0 x0 x1 x2 h K).trans (rfl)
theorem hb : Tryz.f305.body = some body := by kernel_rfl
theorem ok : okCode T Tryz.f305.ntmps body = true := by kernel_rfl
theorem spec (x0 : Addr) (x1 : Int) (x2 : Int) (h : Heap) (K : KK) (H : w x0 x1 x2 h K) : CallsH Tryz.prog 305 [(.pointer (some x0)), (.int .i64 x1), (.int .i64 x2)] h K :=
  calls_of_E (T := T) Xok mix Tryz.func305 hb ok rfl (by rw [e0]; exact H)
end F305
-- (*spinney/utable.Finder).claims
namespace F306
def T : Hint := ⟨[], [(1, [[(0, []), (1, []), (2, []), (3, []), (4, []), (5, []), (6, []), (7, []), (8, []), (9, []), (10, []), (11, []), (12, []), (13, []), (14, []), (15, []), (16, []), (17, []), (18, []), (19, []), (20, []), (21, []), (22, []), (23, [])]])]⟩
noncomputable def body : Code := (Tryz.f306.body).getD .skip
def J0 (x0 : Addr) (h : Heap) (K : KK) : Prop :=
  stK h (Addr.add (Addr.add x0 4) 0) (.func (.func 285) #[(.pointer (some x0))] #[]) (fun h1 => ldP (rd h1 (Addr.add x0 0)) (fun p2 => ptrK p2 (fun a3 => ldP (rd h1 (Addr.add a3 0)) (fun p4 => ldP (rd h1 (Addr.add x0 0)) (fun p5 => ptrK p5 (fun a6 => ldI .i64 (rd h1 (Addr.add a6 1)) (fun n7 => ldI .i64 (rd h1 (Addr.add x0 2)) (fun n8 => ldI .u64 (rd h1 (Addr.add x0 1)) (fun n9 => CallsH Tryz.prog 163 [(.pointer p4), (.int .i64 (IntKind.wrap .i64 (n7 + n8))), (.int .u64 (0 : Int)), (.int .u64 n9)] h1 (fun v10 h11 => ldB (some v10) (fun b12 => bcase b12 (stK h11 (Addr.add (Addr.add x0 8) 0) (.bool true) (fun h13 => ldI .i64 (rd h13 (Addr.add x0 2)) (fun n14 => CallsH Tryz.prog 305 [(.pointer (some x0)), (.int .i64 n14), (.int .i64 (0 : Int))] h13 (fun v15 h16 => (v15 = (.tuple #[]) ∧ K (.tuple #[]) h16))))) (K (.tuple #[]) h11))))))))))))
theorem E0 (S : Stop) (x0 : Addr) (h : Heap) (K : KK) : (E Tryz.prog X T S body (fin Tryz.prog Tryz.f306.results.toList K) (args0 0 [(.pointer (some x0))]) h) = J0 x0 h K := by kernel_rfl
def w (x0 : Addr) (h : Heap) (K : KK) : Prop :=
  J0 x0 h K
theorem e0 (K : KK) (x0 : Addr) (h : Heap) : (E Tryz.prog X T S0 body (fin Tryz.prog Tryz.f306.results.toList K) (args0 0 [(.pointer (some x0))]) h) = w x0 h K := (E0 S0 x0 h K).trans (rfl)
theorem hb : Tryz.f306.body = some body := by kernel_rfl
theorem ok : okCode T Tryz.f306.ntmps body = true := by kernel_rfl
theorem spec (x0 : Addr) (h : Heap) (K : KK) (H : w x0 h K) : CallsH Tryz.prog 306 [(.pointer (some x0))] h K :=
  calls_of_E (T := T) Xok mix Tryz.func306 hb ok rfl (by rw [e0]; exact H)
end F306
-- (*spinney/utable.Finder).goes
namespace F307
def T : Hint := ⟨[], [(0, [[(0, []), (1, []), (2, []), (3, []), (4, []), (5, []), (6, []), (7, []), (8, []), (9, []), (10, []), (11, []), (12, []), (13, []), (14, []), (15, []), (16, [])]])]⟩
noncomputable def body : Code := (Tryz.f307.body).getD .skip
def J0 (x0 : Addr) (h : Heap) (K : KK) : Prop :=
  ldI .i64 (rd h (Addr.add x0 2)) (fun n1 => ldP (rd h (Addr.add x0 0)) (fun p2 => ptrK p2 (fun a3 => ldI .i64 (rd h (Addr.add a3 2)) (fun n4 => (n4 ≠ 0 ∧ stK h (Addr.add (Addr.add x0 2) 0) (.int .i64 (Int.tmod (IntKind.wrap .i64 (n1 + (1 : Int))) n4)) (fun h5 => ldI .i64 (rd h5 (Addr.add x0 3)) (fun n6 => stK h5 (Addr.add (Addr.add x0 3) 0) (.int .i64 (IntKind.wrap .i64 (n6 - (1 : Int)))) (fun h7 => ldI .i64 (rd h7 (Addr.add x0 3)) (fun n8 => bcase (n8 == (0 : Int)) (CallsH Tryz.prog 305 [(.pointer (some x0)), (.int .i64 (-1 : Int)), (.int .i64 (60 : Int))] h7 (fun v9 h10 => (v9 = (.tuple #[]) ∧ K (.tuple #[]) h10))) (K (.tuple #[]) h7))))))))))
theorem E0 (S : Stop) (x0 : Addr) (h : Heap) (K : KK) : (E Tryz.prog X T S body (fin Tryz.prog Tryz.f307.results.toList K) (args0 0 [(.pointer (some x0))]) h) = J0 x0 h K := by kernel_rfl
def w (x0 : Addr) (h : Heap) (K : KK) : Prop :=
  J0 x0 h K
theorem e0 (K : KK) (x0 : Addr) (h : Heap) : (E Tryz.prog X T S0 body (fin Tryz.prog Tryz.f307.results.toList K) (args0 0 [(.pointer (some x0))]) h) = w x0 h K := (E0 S0 x0 h K).trans (rfl)
theorem hb : Tryz.f307.body = some body := by kernel_rfl
theorem ok : okCode T Tryz.f307.ntmps body = true := by kernel_rfl
theorem spec (x0 : Addr) (h : Heap) (K : KK) (H : w x0 h K) : CallsH Tryz.prog 307 [(.pointer (some x0))] h K :=
  calls_of_E (T := T) Xok mix Tryz.func307 hb ok rfl (by rw [e0]; exact H)
end F307
end Go.Proofs.YtnofenejoebkhaaGreat.Ev
/- THE TABLE (package utable): what each of its functions does to a row of cells and to a finder, seen from the heap. Conditions: the table and the finder stand (TabIs, FindIs). -/
namespace Go.Proofs.YtnofenejoebkhaaGreat.Ev
open Go
def xsf (x : Int) : Int := bitsI .xor .u64 x (Int.fdiv x (2 ^ (min (Int.toNat (33 : Int)) (IntKind.bits .u64))))
def mixF (x : Int) : Int := xsf (IntKind.wrap .u64 (xsf (IntKind.wrap .u64 (xsf x * 18397679294719823053)) * 14181476777654086739))
theorem wrapu_range (x : Int) : 0 ≤ IntKind.wrap .u64 x ∧ IntKind.wrap .u64 x < 18446744073709551616 := by
  rw [wrap_u64']; omega
theorem xsf_range (x : Int) : 0 ≤ xsf x ∧ xsf x < 18446744073709551616 := wrapu_range _
theorem mix_spec {h : Heap} {x : Int} {K : Value → Heap → Prop} (hK : K (.int .u64 (mixF x)) h) : CallsH Tryz.prog 286 [.int .u64 x] h K := by
  apply F286.spec
  unfold F286.w F286.J0 F286.wk2 F286.Jk2
  refine ⟨3, ?_⟩
  unfold F286.wL2 F286.JL2
  rw [show decide ((0 : Int) < 2) = true from rfl, bcase_true]
  refine ⟨by decide, by decide, ldI_of rfl ⟨by decide, ?_⟩⟩
  unfold F286.wL2 F286.JL2
  dsimp only
  rw [show IntKind.wrap .i64 ((0 : Int) + 1) = 1 from rfl, show decide ((1 : Int) < 2) = true from rfl, bcase_true]
  refine ⟨by decide, by decide, ldI_of rfl ⟨by decide, ?_⟩⟩
  unfold F286.wL2 F286.JL2
  dsimp only
  rw [show IntKind.wrap .i64 ((1 : Int) + 1) = 2 from rfl, show decide ((2 : Int) < 2) = false from rfl, bcase_false]
  exact ⟨by decide, hK⟩
def home (key : Int) (n : Nat) : Nat := ((mixF key).tmod n).toNat
theorem home_lt (key : Int) {n : Nat} (hn : 1 ≤ n) : home key n < n := by
  unfold home
  have h0 : 0 ≤ mixF key := (xsf_range _).1
  rw [Int.tmod_eq_emod_of_nonneg h0]
  have := Int.emod_lt_of_pos (mixF key) (by omega : (0 : Int) < n)
  have := Int.emod_nonneg (mixF key) (by omega : (n : Int) ≠ 0)
  omega
theorem home_spec {h : Heap} {x : Int} {n : Nat} {K : Value → Heap → Prop} (h1 : 1 ≤ n) (h2 : n < 1000000000) (hK : K (.int .i64 (home x n : Int)) h) : CallsH Tryz.prog 246 [.int .u64 x, .int .i64 (n : Int)] h K := by
  apply F246.spec
  unfold F246.w F246.J0
  rw [decide_eq_false (by omega), bcase_false]
  refine mix_spec (ldI_of rfl ?_)
  rw [wrap_u64 (n := (n : Int)) (by omega) (by omega)]
  have h0 : 0 ≤ mixF x := (xsf_range _).1
  have e : (mixF x).tmod n = (home x n : Int) := by
    unfold home
    rw [Int.tmod_eq_emod_of_nonneg h0]
    have := Int.emod_nonneg (mixF x) (by omega : (n : Int) ≠ 0)
    omega
  have := home_lt x h1
  rw [e, wrap_i64 (by omega) (by omega)]
  exact ⟨by omega, hK⟩

/-- block t is a table over the Mem m -/
def TabIs (h : Heap) (t m base n : Nat) : Prop := At h t [.pointer (some ⟨m, 0, none⟩), .int .i64 (base : Int), .int .i64 (n : Int)]
theorem TabIs.only {S : List Nat} {h h' : Heap} {t m base n : Nat} (H : TabIs h t m base n) (O : Only S h h') (ht : t ∉ S) : TabIs h' t m base n := At.only H O ht
/-- a finder's state -/
structure Fi where
  key : Int
  pos : Nat
  left : Nat
  claims : Bool
  done : Bool
  slot : Int
  e : Int
  made : Bool
def nxt (f : Nat) : Bool → Value
  | true => .func (.func 306) #[.pointer (some ⟨f, 0, none⟩)] #[]
  | false => .func (.func 285) #[.pointer (some ⟨f, 0, none⟩)] #[]
def FindIs (h : Heap) (f t : Nat) (F : Fi) : Prop :=
  At h f [.pointer (some ⟨t, 0, none⟩), .int .u64 F.key, .int .i64 (F.pos : Int), .int .i64 (F.left : Int), nxt f F.claims, .bool F.done, .int .i64 F.slot, .int .i64 F.e, .bool F.made]
theorem FindIs.only {S : List Nat} {h h' : Heap} {f t : Nat} {F : Fi} (H : FindIs h f t F) (O : Only S h h') (ht : f ∉ S) : FindIs h' f t F := At.only H O ht

/-- one step of a finder -/
def stepF (base n : Nat) (cs : List Int) (F : Fi) : Fi × List Int :=
  if F.done then (F, cs) else
  if F.claims then
    if cs.getD (base + F.pos) 0 = 0 then ({ F with claims := false, made := true, done := true, slot := F.pos, e := 0 }, cs.set (base + F.pos) F.key)
    else ({ F with claims := false }, cs)
  else if cs.getD (base + F.pos) 0 = F.key then ({ F with done := true, slot := F.pos, e := 0 }, cs)
  else if cs.getD (base + F.pos) 0 = 0 then ({ F with claims := true }, cs)
  else if F.left = 1 then ({ F with pos := (F.pos + 1) % n, left := 0, done := true, slot := -1, e := 60 }, cs)
  else ({ F with pos := (F.pos + 1) % n, left := F.left - 1 }, cs)

theorem ends_spec {h : Heap} {f t : Nat} {F : Fi} {s e : Int} {K : Value → Heap → Prop} (H : FindIs h f t F)
    (hK : ∀ h', FindIs h' f t { F with done := true, slot := s, e := e } → Only [f] h h' → K (.tuple #[]) h') :
    CallsH Tryz.prog 305 [.pointer (some ⟨f, 0, none⟩), .int .i64 s, .int .i64 e] h K := by
  apply F305.spec
  unfold F305.w F305.J0
  simp only [add_mk, Nat.zero_add, Nat.add_zero]
  refine stK_at H (by simp) rfl fun h1 A1 O1 _ => stK_at A1 (by simp) rfl fun h2 A2 O2 _ => stK_at A2 (by simp) rfl fun h3 A3 O3 _ => ?_
  exact hK h3 A3 ((O1.trans O2 (by simp)).trans O3 (by simp))

section
variable {h : Heap} {f t m mc base n : Nat} {cs : List Int} {ops fails : Int} {F : Fi} {K : Value → Heap → Prop}
theorem goes_spec (T : TabIs h t m base n) (H : FindIs h f t F) (hn : 1 ≤ n) (hn2 : n < 1000000000) (hp : F.pos < n) (hl : 1 ≤ F.left) (hl2 : F.left < 1000000000)
    (hK : ∀ h', FindIs h' f t (if F.left = 1 then { F with pos := (F.pos + 1) % n, left := 0, done := true, slot := -1, e := 60 } else { F with pos := (F.pos + 1) % n, left := F.left - 1 }) → Only [f] h h' → K (.tuple #[]) h') :
    CallsH Tryz.prog 307 [.pointer (some ⟨f, 0, none⟩)] h K := by
  apply F307.spec
  unfold F307.w F307.J0
  simp only [add_mk, Nat.zero_add, Nat.add_zero]
  refine ldI_of (by rw [At.rd H]; rfl) (ldP_of (by rw [At.rd H]; rfl) ?_)
  simp only [ptrK_some, add_mk, Nat.zero_add]
  refine ldI_of (by rw [At.rd T]; rfl) ⟨by omega, stK_at H (by simp) rfl fun h1 A1 O1 _ => ?_⟩
  have e1 : (IntKind.wrap .i64 ((F.pos : Int) + 1)).tmod n = (((F.pos + 1) % n : Nat) : Int) := by
    rw [wrap_i64 (by omega) (by omega), Int.tmod_eq_emod_of_nonneg (by omega)]
    simp
  rw [e1] at A1
  refine ldI_of (by rw [A1.rd]; rfl) (stK_at A1 (by simp) rfl fun h2 A2 O2 _ => ?_)
  rw [wrap_i64 (by omega) (by omega)] at A2
  have A2 : FindIs h2 f t { F with pos := (F.pos + 1) % n, left := F.left - 1 } := by
    rw [show (F.left : Int) - 1 = ((F.left - 1 : Nat) : Int) by omega] at A2
    exact A2
  have O12 := O1.trans O2 (by simp)
  refine ldI_of (n := ((F.left - 1 : Nat) : Int)) (by rw [At.rd A2]; rfl) ?_
  by_cases h1 : F.left = 1
  · rw [show (((F.left - 1 : Nat) : Int) == 0) = true by simp [h1], bcase_true]
    refine ends_spec A2 fun h3 A3 O3 => ⟨rfl, hK h3 ?_ (O12.trans O3 (by simp))⟩
    rw [if_pos h1]
    simpa [h1] using A3
  · rw [show (((F.left - 1 : Nat) : Int) == 0) = false by simp; omega, bcase_false]
    refine hK h2 ?_ O12
    rw [if_neg h1]
    exact A2

theorem step_spec (T : TabIs h t m base n) (H : FindIs h f t F) (M : MemIs h m mc cs ops fails) (hn : 1 ≤ n) (hn2 : n < 1000000000) (hb : base < 1000000000) (hp : F.pos < n) (hl : F.done = false → 1 ≤ F.left) (hl2 : F.left < 1000000000)
    (hc : base + n ≤ cs.length) (d1 : f ≠ t) (d2 : f ≠ m) (d3 : f ≠ mc) (d4 : t ≠ m) (d5 : t ≠ mc)
    (hK : ∀ h' fails', FindIs h' f t (stepF base n cs F).1 → TabIs h' t m base n → MemIs h' m mc (stepF base n cs F).2 (if F.done then ops else up ops) fails' → Only [f, m, mc] h h' → K (.bool (stepF base n cs F).1.done) h') :
    CallsH Tryz.prog 242 [.pointer (some ⟨f, 0, none⟩)] h K := by
  apply F242.spec
  unfold F242.w F242.J0
  simp only [add_mk, Nat.zero_add]
  refine ldB_of (n := F.done) (by rw [At.rd H]; rfl) ?_
  have hend : ∀ h' fails', FindIs h' f t (stepF base n cs F).1 → TabIs h' t m base n → MemIs h' m mc (stepF base n cs F).2 (if F.done then ops else up ops) fails' → Only [f, m, mc] h h' → F242.wk3 ⟨f, 0, none⟩ h' K := by
    intro h' fails' a1 a2 a3 a4
    unfold F242.wk3 F242.Jk3
    simp only [add_mk, Nat.zero_add]
    exact ldB_of (by rw [At.rd a1]; rfl) (hK h' fails' a1 a2 a3 a4)
  cases hd : F.done with
  | true =>
    rw [Bool.not_true, bcase_false]
    have e : stepF base n cs F = (F, cs) := by unfold stepF; rw [if_pos hd]
    rw [e, hd] at hend
    exact hend h fails H T M (Only.refl _ _)
  | false =>
    rw [Bool.not_false, bcase_true]
    have hb2 : IntKind.wrap .i64 ((base : Int) + (F.pos : Int)) = ((base + F.pos : Nat) : Int) := by rw [wrap_i64 (by omega) (by omega)]; simp
    have hi : base + F.pos < cs.length := by omega
    have hg : cs.getD (((base + F.pos : Nat) : Int).toNat) 0 = cs.getD (base + F.pos) 0 := by rw [Int.toNat_natCast]
    rw [hd] at hend
    have hs : ∀ b ∈ [m, mc], b ∈ [f, m, mc] := by simp +contextual
    cases hcl : F.claims with
    | false =>
      refine ⟨_, by rw [At.rd H]; rfl, ?_⟩
      rw [hcl]
      refine dynK_go (by kernel_rfl) ?_
      refine F285.spec _ _ _ ?_
      unfold F285.w F285.J0
      simp only [add_mk, Nat.zero_add, Nat.add_zero]
      refine ldP_of (by rw [At.rd H]; rfl) ?_
      simp only [ptrK_some, add_mk, Nat.zero_add]
      refine ldP_of (by rw [At.rd T]; rfl) (ldP_of (by rw [At.rd H]; rfl) ?_)
      simp only [ptrK_some, add_mk, Nat.zero_add]
      refine ldI_of (by rw [At.rd T]; rfl) (ldI_of (by rw [At.rd H]; rfl) ?_)
      rw [hb2]
      refine load_in M (by omega) (by omega) fun h1 M1 O1 => ldI_of rfl ?_
      have H1 := H.only O1 (by simp [d2, d3])
      have T1 := T.only O1 (by simp [d4, d5])
      have Q1 := O1.mono (T := [f, m, mc]) fun b hb _ => hs b hb
      rw [hg]
      refine ldI_of (n := F.key) (by rw [At.rd H1]; rfl) ?_
      unfold stepF at hend
      rw [if_neg (by simp [hd]), if_neg (by simp [hcl])] at hend
      by_cases hk : cs.getD (base + F.pos) 0 = F.key
      · rw [if_pos hk] at hend
        rw [show (cs.getD (base + F.pos) 0 == F.key) = true by simpa using hk, bcase_true]
        refine ldI_of (by rw [At.rd H1]; rfl) (ends_spec H1 fun h2 H2 O2 => ⟨by trivial, by trivial, ?_⟩)
        exact hend h2 fails H2 (T1.only O2 (by simp [d1.symm])) (M1.only O2 (by simp [d2.symm]) (by simp [d3.symm])) (Q1.trans O2 (by simp))
      · rw [if_neg hk] at hend
        rw [show (cs.getD (base + F.pos) 0 == F.key) = false by simpa using hk, bcase_false]
        by_cases hz : cs.getD (base + F.pos) 0 = 0
        · rw [if_pos hz] at hend
          rw [show (cs.getD (base + F.pos) 0 == 0) = true by simpa using hz, bcase_true]
          refine stK_at H1 (by simp) rfl fun h2 A2 O2 _ => ⟨by trivial, ?_⟩
          exact hend h2 fails A2 (T1.only O2 (by simp [d1.symm])) (M1.only O2 (by simp [d2.symm]) (by simp [d3.symm])) (Q1.trans O2 (by simp))
        · rw [if_neg hz] at hend
          rw [show (cs.getD (base + F.pos) 0 == 0) = false by simpa using hz, bcase_false]
          refine goes_spec T1 H1 hn hn2 hp (hl hd) hl2 fun h2 H2 O2 => ⟨by trivial, by trivial, ?_⟩
          have T2 := T1.only O2 (by simp [d1.symm])
          have M2 := M1.only O2 (by simp [d2.symm]) (by simp [d3.symm])
          have Q2 := Q1.trans O2 (by simp)
          by_cases h1 : F.left = 1
          · rw [if_pos h1] at hend H2
            exact hend h2 fails H2 T2 M2 Q2
          · rw [if_neg h1] at hend H2
            exact hend h2 fails H2 T2 M2 Q2
    | true =>
      refine ⟨_, by rw [At.rd H]; rfl, ?_⟩
      rw [hcl]
      refine dynK_go (by kernel_rfl) ?_
      refine F306.spec _ _ _ ?_
      unfold F306.w F306.J0
      simp only [add_mk, Nat.zero_add, Nat.add_zero]
      refine stK_at H (by simp) rfl fun h1 A1 O1 _ => ?_
      have H1 : FindIs h1 f t { F with claims := false } := A1
      have T1 := T.only O1 (by simp [d1.symm])
      have M1 := M.only O1 (by simp [d2.symm]) (by simp [d3.symm])
      have Q1 := O1.mono (T := [f, m, mc]) fun b hb _ => (by simp at hb; simp [hb])
      refine ldP_of (by rw [At.rd H1]; rfl) ?_
      simp only [ptrK_some, add_mk, Nat.zero_add]
      refine ldP_of (by rw [At.rd T1]; rfl) (ldP_of (by rw [At.rd H1]; rfl) ?_)
      simp only [ptrK_some, add_mk, Nat.zero_add]
      refine ldI_of (by rw [At.rd T1]; rfl) (ldI_of (by rw [At.rd H1]; rfl) (ldI_of (n := F.key) (by rw [At.rd H1]; rfl) ?_))
      rw [hb2]
      unfold stepF at hend
      rw [if_neg (by simp [hd]), if_pos (by simp [hcl])] at hend
      refine cas_in M1 (by omega) (by omega) (fun e h2 M2 O2 => ?_) fun e h2 M2 O2 => ?_
      · rw [hg] at e
        rw [if_pos e] at hend
        rw [ldB_some, bcase_true]
        refine stK_at (H1.only O2 (by simp [d2, d3])) (by simp) rfl fun h3 A3 O3 _ => ?_
        have H3 : FindIs h3 f t { F with claims := false, made := true } := A3
        refine ldI_of (by rw [At.rd H3]; rfl) (ends_spec H3 fun h4 H4 O4 => ⟨by trivial, by trivial, ?_⟩)
        have O34 := O3.trans O4 (by simp)
        rw [Int.toNat_natCast] at M2
        exact hend h4 fails H4 ((T1.only O2 (by simp [d4, d5])).only O34 (by simp [d1.symm])) (M2.only O34 (by simp [d2.symm]) (by simp [d3.symm])) ((Q1.trans O2 fun b hb _ => hs b hb).trans O34 (by simp))
      · rw [hg] at e
        rw [if_neg e] at hend
        rw [ldB_some, bcase_false]
        exact ⟨by trivial, hend h2 (up fails) (H1.only O2 (by simp [d2, d3])) (T1.only O2 (by simp [d4, d5])) M2 (Q1.trans O2 fun b hb _ => hs b hb)⟩

/-- a finder as it begins -/
def newFi (key : Int) (n : Nat) : Fi := ⟨key, home key n, n, false, key == 0, -1, 61, false⟩
theorem find_spec {key : Int} (T : TabIs h t m base n) (hn : 1 ≤ n) (hn2 : n < 1000000000)
    (hK : ∀ f h', FindIs h' f t (newFi key n) → Only [] h h' → h.size ≤ f → K (.pointer (some ⟨f, 0, none⟩)) h') :
    CallsH Tryz.prog 241 [.pointer (some ⟨t, 0, none⟩), .int .u64 key] h K := by
  apply F241.spec
  unfold F241.w F241.J0
  simp only [add_mk, Nat.zero_add, Nat.add_zero]
  have hr : rd h ⟨t, 2, none⟩ = some (.int .i64 (n : Int)) := by rw [At.rd T]; rfl
  refine ldI_of hr (ldI_of hr (home_spec hn hn2 (ldI_of rfl ⟨trivial, trivial, trivial, trivial, trivial, ldI_of hr ⟨rfl, trivial, trivial, ?_⟩⟩)))
  refine newK_at fun h1 A1 O1 z1 => stK_at A1 (by simp) rfl fun h2 A2 O2 _ => ?_
  exact hK h.size h2 A2 (O1.trans O2 fun b hb hl => absurd (show b = h.size by simpa using hb) (by omega)) (Nat.le_refl _)
theorem made_spec (H : FindIs h f t F) (hK : K (.bool F.made) h) : CallsH Tryz.prog 244 [.pointer (some ⟨f, 0, none⟩)] h K := by
  apply F244.spec
  unfold F244.w F244.J0
  simp only [add_mk, Nat.zero_add]
  exact ldB_of (by rw [At.rd H]; rfl) hK
theorem slot_spec (H : FindIs h f t F) (hK : K (.tuple #[.int .i64 F.slot, .int .i64 F.e]) h) : CallsH Tryz.prog 243 [.pointer (some ⟨f, 0, none⟩)] h K := by
  apply F243.spec
  unfold F243.w F243.J0
  simp only [add_mk, Nat.zero_add]
  exact ldI_of (by rw [At.rd H]; rfl) (ldI_of (by rw [At.rd H]; rfl) hK)
theorem slots_spec (T : TabIs h t m base n) (hK : K (.int .i64 (n : Int)) h) : CallsH Tryz.prog 200 [.pointer (some ⟨t, 0, none⟩)] h K := by
  apply F200.spec
  unfold F200.w F200.J0
  simp only [add_mk, Nat.zero_add]
  exact ldI_of (by rw [At.rd T]; rfl) hK
theorem tabnew_spec {base n : Nat} (M : MemIs h m mc cs ops fails) (hn : 1 ≤ n) (hb : base + n ≤ cs.length) (hc : cs.length < 1000000000)
    (hK : ∀ t h', TabIs h' t m base n → Only [] h h' → h.size ≤ t → K (.tuple #[.pointer (some ⟨t, 0, none⟩), .int .i64 0]) h') :
    CallsH Tryz.prog 159 [.pointer (some ⟨m, 0, none⟩), .int .i64 (base : Int), .int .i64 (n : Int)] h K := by
  apply F159.spec
  unfold F159.w F159.J0
  rw [decide_eq_false (by omega), bcase_false, decide_eq_false (by omega), bcase_false]
  refine len_spec M (ldI_of rfl ?_)
  rw [decide_eq_false (by omega), bcase_false]
  refine len_spec M (ldI_of rfl ?_)
  rw [wrap_i64 (by omega) (by omega), decide_eq_false (by omega), bcase_false]
  exact newK_at fun h1 A1 O1 z1 => hK h.size h1 A1 O1 (Nat.le_refl _)
end
end Go.Proofs.YtnofenejoebkhaaGreat.Ev
/- THE TABLE, more: At, Len, Has, Clear. Conditions: the table stands. -/
namespace Go.Proofs.YtnofenejoebkhaaGreat.Ev
open Go
/-- a slot's cell -/
def cell (base : Nat) (cs : List Int) (i : Nat) : Int := cs.getD (base + i) 0
/-- how many slots have keys -/
def cnt (base : Nat) (cs : List Int) : Nat → Nat
  | 0 => 0
  | n + 1 => cnt base cs n + (if cell base cs n = 0 then 0 else 1)
section
variable {h : Heap} {t m mc base n : Nat} {cs : List Int} {ops fails : Int} {K : Value → Heap → Prop}
theorem at_spec (T : TabIs h t m base n) (M : MemIs h m mc cs ops fails) (hb : base < 1000000000) (hn : n < 1000000000) (hc : base + n ≤ cs.length) {i : Nat} (hi : i < n)
    (hK : ∀ h', MemIs h' m mc cs (up ops) fails → Only [m, mc] h h' → K (.int .u64 (cell base cs i)) h') :
    CallsH Tryz.prog 247 [.pointer (some ⟨t, 0, none⟩), .int .i64 (i : Int)] h K := by
  apply F247.spec
  unfold F247.w F247.J0
  simp only [add_mk, Nat.zero_add]
  rw [decide_eq_false (by omega), bcase_false]
  refine ldI_of (n := (n : Int)) (by rw [At.rd T]; rfl) ?_
  rw [decide_eq_false (by omega), bcase_false]
  refine ldP_of (by rw [At.rd T]; rfl) (ldI_of (by rw [At.rd T]; rfl) ?_)
  rw [show IntKind.wrap .i64 ((base : Int) + (i : Int)) = ((base + i : Nat) : Int) by rw [wrap_i64 (by omega) (by omega)]; simp]
  refine load_in M (by omega) (by omega) fun h1 M1 O1 => ldI_of rfl ?_
  rw [Int.toNat_natCast]
  exact hK h1 M1 O1
end
end Go.Proofs.YtnofenejoebkhaaGreat.Ev
