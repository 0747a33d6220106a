/- PART 2 OF WHAT THE LAW EngineSame STANDS ON: TX5, NodF5, BitsF5, EvJ, EvK, EvL, FunF5, FunA5, FunB5, FunC5, FunD5, MemF5, MemC5, TabF5, TabC5, TabD5, TabP5, NodA5, NodB5, EvN, NodC5, OrdF5, OrdC5. Conditions: none but those that each lemma states. -/
import Derived.Test.YtnofenejoebkhaaGreatG1
import Derived.Test.YtnofenejoebkhaaGreatProg
import Derived.Laws.OwnMore
import Derived.WalkKit
import Derived.ProofKit
import Derived.OpenShut
import Derived.Carry
import Derived.Deep.Slices
import Derived.Laws.AppendOwn
namespace Go.Proofs.YtnofenejoebkhaaGreat.Ev
open Go
section
def X : List (Nat × Ext) := [(8, .go), (18, .go), (23, .go), (24, .go), (26, .go), (27, .go), (28, .go), (29, .go), (33, .go), (34, .go), (35, .go), (36, .go), (38, .go), (39, .go), (40, .go), (42, .go), (43, .go), (45, .go), (47, .go), (48, .go), (53, .go), (54, .go), (56, .go), (58, .go), (61, .go), (67, .go), (68, .go), (70, .go), (71, .go), (72, .go), (73, .go), (74, .go), (75, .go), (76, .go), (77, .go), (78, .go), (79, .go), (80, .go), (81, .go), (82, .go), (83, .go), (86, .go), (87, .go), (88, .go), (89, .go), (90, .go), (91, .go), (92, .go), (93, .go), (94, .go), (95, .go), (99, .go), (104, .go), (108, .go), (109, .go), (110, .go), (111, .go), (114, .go), (117, .go), (118, .go), (119, .go), (120, .go), (121, .go), (122, .go), (123, .go), (124, .go), (125, .go), (126, .go), (127, .go), (128, .go), (129, .go), (130, .go), (131, .go), (132, .go), (133, .go), (134, .go), (135, .go), (136, .go), (137, .go), (138, .go), (139, .go), (140, .go), (141, .go), (142, .go), (143, .go), (145, .go), (146, .go), (159, .go), (160, .go), (161, .go), (162, .go), (163, .go), (165, .go), (166, .go), (167, .go), (168, .go), (172, .go), (177, .go), (178, .go), (179, .go), (180, .go), (181, .go), (182, .go), (186, .go), (193, .go), (194, .go), (195, .go), (197, .go), (198, .go), (199, .go), (200, .go), (201, .go), (202, .go), (203, .go), (204, .go), (205, .go), (207, .go), (208, .go), (209, .go), (210, .go), (214, .go), (220, .go), (221, .go), (223, .go), (224, .go), (225, .go), (226, .go), (227, .go), (228, .go), (229, .go), (230, .go), (239, .go), (240, .go), (241, .go), (242, .go), (243, .go), (244, .go), (245, .go), (246, .go), (247, .go), (248, .load .u64), (249, .cas .u64), (250, .add .i64), (252, .go), (269, .go), (270, .go), (273, .go), (274, .go), (275, .go), (276, .go), (282, .go), (283, .go), (284, .go), (285, .go), (286, .go), (287, .go), (300, .go), (301, .go), (302, .go), (304, .go), (305, .go), (306, .go), (307, .go), (308, .go), (333, .go), (334, .go), (335, .go), (336, .go), (337, .store), (338, .go), (353, .go), (354, .go), (355, .go), (356, .go), (368, .go)]
theorem x8 : ExtOk Tryz.prog 8 (.go) := ⟨Tryz.f8, Tryz.func8, by kernel_rfl, by kernel_rfl⟩
theorem x18 : ExtOk Tryz.prog 18 (.go) := ⟨Tryz.f18, Tryz.func18, by kernel_rfl, by kernel_rfl⟩
theorem x23 : ExtOk Tryz.prog 23 (.go) := ⟨Tryz.f23, Tryz.func23, by kernel_rfl, by kernel_rfl⟩
theorem x24 : ExtOk Tryz.prog 24 (.go) := ⟨Tryz.f24, Tryz.func24, by kernel_rfl, by kernel_rfl⟩
theorem x26 : ExtOk Tryz.prog 26 (.go) := ⟨Tryz.f26, Tryz.func26, by kernel_rfl, by kernel_rfl⟩
theorem x27 : ExtOk Tryz.prog 27 (.go) := ⟨Tryz.f27, Tryz.func27, by kernel_rfl, by kernel_rfl⟩
theorem x28 : ExtOk Tryz.prog 28 (.go) := ⟨Tryz.f28, Tryz.func28, by kernel_rfl, by kernel_rfl⟩
theorem x29 : ExtOk Tryz.prog 29 (.go) := ⟨Tryz.f29, Tryz.func29, by kernel_rfl, by kernel_rfl⟩
theorem x33 : ExtOk Tryz.prog 33 (.go) := ⟨Tryz.f33, Tryz.func33, by kernel_rfl, by kernel_rfl⟩
theorem x34 : ExtOk Tryz.prog 34 (.go) := ⟨Tryz.f34, Tryz.func34, by kernel_rfl, by kernel_rfl⟩
theorem x35 : ExtOk Tryz.prog 35 (.go) := ⟨Tryz.f35, Tryz.func35, by kernel_rfl, by kernel_rfl⟩
theorem x36 : ExtOk Tryz.prog 36 (.go) := ⟨Tryz.f36, Tryz.func36, by kernel_rfl, by kernel_rfl⟩
theorem x38 : ExtOk Tryz.prog 38 (.go) := ⟨Tryz.f38, Tryz.func38, by kernel_rfl, by kernel_rfl⟩
theorem x39 : ExtOk Tryz.prog 39 (.go) := ⟨Tryz.f39, Tryz.func39, by kernel_rfl, by kernel_rfl⟩
theorem x40 : ExtOk Tryz.prog 40 (.go) := ⟨Tryz.f40, Tryz.func40, by kernel_rfl, by kernel_rfl⟩
theorem x42 : ExtOk Tryz.prog 42 (.go) := ⟨Tryz.f42, Tryz.func42, by kernel_rfl, by kernel_rfl⟩
theorem x43 : ExtOk Tryz.prog 43 (.go) := ⟨Tryz.f43, Tryz.func43, by kernel_rfl, by kernel_rfl⟩
theorem x45 : ExtOk Tryz.prog 45 (.go) := ⟨Tryz.f45, Tryz.func45, by kernel_rfl, by kernel_rfl⟩
theorem x47 : ExtOk Tryz.prog 47 (.go) := ⟨Tryz.f47, Tryz.func47, by kernel_rfl, by kernel_rfl⟩
theorem x48 : ExtOk Tryz.prog 48 (.go) := ⟨Tryz.f48, Tryz.func48, by kernel_rfl, by kernel_rfl⟩
theorem x53 : ExtOk Tryz.prog 53 (.go) := ⟨Tryz.f53, Tryz.func53, by kernel_rfl, by kernel_rfl⟩
theorem x54 : ExtOk Tryz.prog 54 (.go) := ⟨Tryz.f54, Tryz.func54, by kernel_rfl, by kernel_rfl⟩
theorem x56 : ExtOk Tryz.prog 56 (.go) := ⟨Tryz.f56, Tryz.func56, by kernel_rfl, by kernel_rfl⟩
theorem x58 : ExtOk Tryz.prog 58 (.go) := ⟨Tryz.f58, Tryz.func58, by kernel_rfl, by kernel_rfl⟩
theorem x61 : ExtOk Tryz.prog 61 (.go) := ⟨Tryz.f61, Tryz.func61, by kernel_rfl, by kernel_rfl⟩
theorem x67 : ExtOk Tryz.prog 67 (.go) := ⟨Tryz.f67, Tryz.func67, by kernel_rfl, by kernel_rfl⟩
theorem x68 : ExtOk Tryz.prog 68 (.go) := ⟨Tryz.f68, Tryz.func68, by kernel_rfl, by kernel_rfl⟩
theorem x70 : ExtOk Tryz.prog 70 (.go) := ⟨Tryz.f70, Tryz.func70, by kernel_rfl, by kernel_rfl⟩
theorem x71 : ExtOk Tryz.prog 71 (.go) := ⟨Tryz.f71, Tryz.func71, by kernel_rfl, by kernel_rfl⟩
theorem x72 : ExtOk Tryz.prog 72 (.go) := ⟨Tryz.f72, Tryz.func72, by kernel_rfl, by kernel_rfl⟩
theorem x73 : ExtOk Tryz.prog 73 (.go) := ⟨Tryz.f73, Tryz.func73, by kernel_rfl, by kernel_rfl⟩
theorem x74 : ExtOk Tryz.prog 74 (.go) := ⟨Tryz.f74, Tryz.func74, by kernel_rfl, by kernel_rfl⟩
theorem x75 : ExtOk Tryz.prog 75 (.go) := ⟨Tryz.f75, Tryz.func75, by kernel_rfl, by kernel_rfl⟩
theorem x76 : ExtOk Tryz.prog 76 (.go) := ⟨Tryz.f76, Tryz.func76, by kernel_rfl, by kernel_rfl⟩
theorem x77 : ExtOk Tryz.prog 77 (.go) := ⟨Tryz.f77, Tryz.func77, by kernel_rfl, by kernel_rfl⟩
theorem x78 : ExtOk Tryz.prog 78 (.go) := ⟨Tryz.f78, Tryz.func78, by kernel_rfl, by kernel_rfl⟩
theorem x79 : ExtOk Tryz.prog 79 (.go) := ⟨Tryz.f79, Tryz.func79, by kernel_rfl, by kernel_rfl⟩
theorem x80 : ExtOk Tryz.prog 80 (.go) := ⟨Tryz.f80, Tryz.func80, by kernel_rfl, by kernel_rfl⟩
theorem x81 : ExtOk Tryz.prog 81 (.go) := ⟨Tryz.f81, Tryz.func81, by kernel_rfl, by kernel_rfl⟩
theorem x82 : ExtOk Tryz.prog 82 (.go) := ⟨Tryz.f82, Tryz.func82, by kernel_rfl, by kernel_rfl⟩
theorem x83 : ExtOk Tryz.prog 83 (.go) := ⟨Tryz.f83, Tryz.func83, by kernel_rfl, by kernel_rfl⟩
theorem x86 : ExtOk Tryz.prog 86 (.go) := ⟨Tryz.f86, Tryz.func86, by kernel_rfl, by kernel_rfl⟩
theorem x87 : ExtOk Tryz.prog 87 (.go) := ⟨Tryz.f87, Tryz.func87, by kernel_rfl, by kernel_rfl⟩
theorem x88 : ExtOk Tryz.prog 88 (.go) := ⟨Tryz.f88, Tryz.func88, by kernel_rfl, by kernel_rfl⟩
theorem x89 : ExtOk Tryz.prog 89 (.go) := ⟨Tryz.f89, Tryz.func89, by kernel_rfl, by kernel_rfl⟩
theorem x90 : ExtOk Tryz.prog 90 (.go) := ⟨Tryz.f90, Tryz.func90, by kernel_rfl, by kernel_rfl⟩
theorem x91 : ExtOk Tryz.prog 91 (.go) := ⟨Tryz.f91, Tryz.func91, by kernel_rfl, by kernel_rfl⟩
theorem x92 : ExtOk Tryz.prog 92 (.go) := ⟨Tryz.f92, Tryz.func92, by kernel_rfl, by kernel_rfl⟩
theorem x93 : ExtOk Tryz.prog 93 (.go) := ⟨Tryz.f93, Tryz.func93, by kernel_rfl, by kernel_rfl⟩
theorem x94 : ExtOk Tryz.prog 94 (.go) := ⟨Tryz.f94, Tryz.func94, by kernel_rfl, by kernel_rfl⟩
theorem x95 : ExtOk Tryz.prog 95 (.go) := ⟨Tryz.f95, Tryz.func95, by kernel_rfl, by kernel_rfl⟩
theorem x99 : ExtOk Tryz.prog 99 (.go) := ⟨Tryz.f99, Tryz.func99, by kernel_rfl, by kernel_rfl⟩
theorem x104 : ExtOk Tryz.prog 104 (.go) := ⟨Tryz.f104, Tryz.func104, by kernel_rfl, by kernel_rfl⟩
theorem x108 : ExtOk Tryz.prog 108 (.go) := ⟨Tryz.f108, Tryz.func108, by kernel_rfl, by kernel_rfl⟩
theorem x109 : ExtOk Tryz.prog 109 (.go) := ⟨Tryz.f109, Tryz.func109, by kernel_rfl, by kernel_rfl⟩
theorem x110 : ExtOk Tryz.prog 110 (.go) := ⟨Tryz.f110, Tryz.func110, by kernel_rfl, by kernel_rfl⟩
theorem x111 : ExtOk Tryz.prog 111 (.go) := ⟨Tryz.f111, Tryz.func111, by kernel_rfl, by kernel_rfl⟩
theorem x114 : ExtOk Tryz.prog 114 (.go) := ⟨Tryz.f114, Tryz.func114, by kernel_rfl, by kernel_rfl⟩
theorem x117 : ExtOk Tryz.prog 117 (.go) := ⟨Tryz.f117, Tryz.func117, by kernel_rfl, by kernel_rfl⟩
theorem x118 : ExtOk Tryz.prog 118 (.go) := ⟨Tryz.f118, Tryz.func118, by kernel_rfl, by kernel_rfl⟩
theorem x119 : ExtOk Tryz.prog 119 (.go) := ⟨Tryz.f119, Tryz.func119, by kernel_rfl, by kernel_rfl⟩
theorem x120 : ExtOk Tryz.prog 120 (.go) := ⟨Tryz.f120, Tryz.func120, by kernel_rfl, by kernel_rfl⟩
theorem x121 : ExtOk Tryz.prog 121 (.go) := ⟨Tryz.f121, Tryz.func121, by kernel_rfl, by kernel_rfl⟩
theorem x122 : ExtOk Tryz.prog 122 (.go) := ⟨Tryz.f122, Tryz.func122, by kernel_rfl, by kernel_rfl⟩
theorem x123 : ExtOk Tryz.prog 123 (.go) := ⟨Tryz.f123, Tryz.func123, by kernel_rfl, by kernel_rfl⟩
theorem x124 : ExtOk Tryz.prog 124 (.go) := ⟨Tryz.f124, Tryz.func124, by kernel_rfl, by kernel_rfl⟩
theorem x125 : ExtOk Tryz.prog 125 (.go) := ⟨Tryz.f125, Tryz.func125, by kernel_rfl, by kernel_rfl⟩
theorem x126 : ExtOk Tryz.prog 126 (.go) := ⟨Tryz.f126, Tryz.func126, by kernel_rfl, by kernel_rfl⟩
theorem x127 : ExtOk Tryz.prog 127 (.go) := ⟨Tryz.f127, Tryz.func127, by kernel_rfl, by kernel_rfl⟩
theorem x128 : ExtOk Tryz.prog 128 (.go) := ⟨Tryz.f128, Tryz.func128, by kernel_rfl, by kernel_rfl⟩
theorem x129 : ExtOk Tryz.prog 129 (.go) := ⟨Tryz.f129, Tryz.func129, by kernel_rfl, by kernel_rfl⟩
theorem x130 : ExtOk Tryz.prog 130 (.go) := ⟨Tryz.f130, Tryz.func130, by kernel_rfl, by kernel_rfl⟩
theorem x131 : ExtOk Tryz.prog 131 (.go) := ⟨Tryz.f131, Tryz.func131, by kernel_rfl, by kernel_rfl⟩
theorem x132 : ExtOk Tryz.prog 132 (.go) := ⟨Tryz.f132, Tryz.func132, by kernel_rfl, by kernel_rfl⟩
theorem x133 : ExtOk Tryz.prog 133 (.go) := ⟨Tryz.f133, Tryz.func133, by kernel_rfl, by kernel_rfl⟩
theorem x134 : ExtOk Tryz.prog 134 (.go) := ⟨Tryz.f134, Tryz.func134, by kernel_rfl, by kernel_rfl⟩
theorem x135 : ExtOk Tryz.prog 135 (.go) := ⟨Tryz.f135, Tryz.func135, by kernel_rfl, by kernel_rfl⟩
theorem x136 : ExtOk Tryz.prog 136 (.go) := ⟨Tryz.f136, Tryz.func136, by kernel_rfl, by kernel_rfl⟩
theorem x137 : ExtOk Tryz.prog 137 (.go) := ⟨Tryz.f137, Tryz.func137, by kernel_rfl, by kernel_rfl⟩
theorem x138 : ExtOk Tryz.prog 138 (.go) := ⟨Tryz.f138, Tryz.func138, by kernel_rfl, by kernel_rfl⟩
theorem x139 : ExtOk Tryz.prog 139 (.go) := ⟨Tryz.f139, Tryz.func139, by kernel_rfl, by kernel_rfl⟩
theorem x140 : ExtOk Tryz.prog 140 (.go) := ⟨Tryz.f140, Tryz.func140, by kernel_rfl, by kernel_rfl⟩
theorem x141 : ExtOk Tryz.prog 141 (.go) := ⟨Tryz.f141, Tryz.func141, by kernel_rfl, by kernel_rfl⟩
theorem x142 : ExtOk Tryz.prog 142 (.go) := ⟨Tryz.f142, Tryz.func142, by kernel_rfl, by kernel_rfl⟩
theorem x143 : ExtOk Tryz.prog 143 (.go) := ⟨Tryz.f143, Tryz.func143, by kernel_rfl, by kernel_rfl⟩
theorem x145 : ExtOk Tryz.prog 145 (.go) := ⟨Tryz.f145, Tryz.func145, by kernel_rfl, by kernel_rfl⟩
theorem x146 : ExtOk Tryz.prog 146 (.go) := ⟨Tryz.f146, Tryz.func146, by kernel_rfl, by kernel_rfl⟩
theorem x159 : ExtOk Tryz.prog 159 (.go) := ⟨Tryz.f159, Tryz.func159, by kernel_rfl, by kernel_rfl⟩
theorem x160 : ExtOk Tryz.prog 160 (.go) := ⟨Tryz.f160, Tryz.func160, by kernel_rfl, by kernel_rfl⟩
theorem x161 : ExtOk Tryz.prog 161 (.go) := ⟨Tryz.f161, Tryz.func161, by kernel_rfl, by kernel_rfl⟩
theorem x162 : ExtOk Tryz.prog 162 (.go) := ⟨Tryz.f162, Tryz.func162, by kernel_rfl, by kernel_rfl⟩
theorem x163 : ExtOk Tryz.prog 163 (.go) := ⟨Tryz.f163, Tryz.func163, by kernel_rfl, by kernel_rfl⟩
theorem x165 : ExtOk Tryz.prog 165 (.go) := ⟨Tryz.f165, Tryz.func165, by kernel_rfl, by kernel_rfl⟩
theorem x166 : ExtOk Tryz.prog 166 (.go) := ⟨Tryz.f166, Tryz.func166, by kernel_rfl, by kernel_rfl⟩
theorem x167 : ExtOk Tryz.prog 167 (.go) := ⟨Tryz.f167, Tryz.func167, by kernel_rfl, by kernel_rfl⟩
theorem x168 : ExtOk Tryz.prog 168 (.go) := ⟨Tryz.f168, Tryz.func168, by kernel_rfl, by kernel_rfl⟩
theorem x172 : ExtOk Tryz.prog 172 (.go) := ⟨Tryz.f172, Tryz.func172, by kernel_rfl, by kernel_rfl⟩
theorem x177 : ExtOk Tryz.prog 177 (.go) := ⟨Tryz.f177, Tryz.func177, by kernel_rfl, by kernel_rfl⟩
theorem x178 : ExtOk Tryz.prog 178 (.go) := ⟨Tryz.f178, Tryz.func178, by kernel_rfl, by kernel_rfl⟩
theorem x179 : ExtOk Tryz.prog 179 (.go) := ⟨Tryz.f179, Tryz.func179, by kernel_rfl, by kernel_rfl⟩
theorem x180 : ExtOk Tryz.prog 180 (.go) := ⟨Tryz.f180, Tryz.func180, by kernel_rfl, by kernel_rfl⟩
theorem x181 : ExtOk Tryz.prog 181 (.go) := ⟨Tryz.f181, Tryz.func181, by kernel_rfl, by kernel_rfl⟩
theorem x182 : ExtOk Tryz.prog 182 (.go) := ⟨Tryz.f182, Tryz.func182, by kernel_rfl, by kernel_rfl⟩
theorem x186 : ExtOk Tryz.prog 186 (.go) := ⟨Tryz.f186, Tryz.func186, by kernel_rfl, by kernel_rfl⟩
theorem x193 : ExtOk Tryz.prog 193 (.go) := ⟨Tryz.f193, Tryz.func193, by kernel_rfl, by kernel_rfl⟩
theorem x194 : ExtOk Tryz.prog 194 (.go) := ⟨Tryz.f194, Tryz.func194, by kernel_rfl, by kernel_rfl⟩
theorem x195 : ExtOk Tryz.prog 195 (.go) := ⟨Tryz.f195, Tryz.func195, by kernel_rfl, by kernel_rfl⟩
theorem x197 : ExtOk Tryz.prog 197 (.go) := ⟨Tryz.f197, Tryz.func197, by kernel_rfl, by kernel_rfl⟩
theorem x198 : ExtOk Tryz.prog 198 (.go) := ⟨Tryz.f198, Tryz.func198, by kernel_rfl, by kernel_rfl⟩
theorem x199 : ExtOk Tryz.prog 199 (.go) := ⟨Tryz.f199, Tryz.func199, by kernel_rfl, by kernel_rfl⟩
theorem x200 : ExtOk Tryz.prog 200 (.go) := ⟨Tryz.f200, Tryz.func200, by kernel_rfl, by kernel_rfl⟩
theorem x201 : ExtOk Tryz.prog 201 (.go) := ⟨Tryz.f201, Tryz.func201, by kernel_rfl, by kernel_rfl⟩
theorem x202 : ExtOk Tryz.prog 202 (.go) := ⟨Tryz.f202, Tryz.func202, by kernel_rfl, by kernel_rfl⟩
theorem x203 : ExtOk Tryz.prog 203 (.go) := ⟨Tryz.f203, Tryz.func203, by kernel_rfl, by kernel_rfl⟩
theorem x204 : ExtOk Tryz.prog 204 (.go) := ⟨Tryz.f204, Tryz.func204, by kernel_rfl, by kernel_rfl⟩
theorem x205 : ExtOk Tryz.prog 205 (.go) := ⟨Tryz.f205, Tryz.func205, by kernel_rfl, by kernel_rfl⟩
theorem x207 : ExtOk Tryz.prog 207 (.go) := ⟨Tryz.f207, Tryz.func207, by kernel_rfl, by kernel_rfl⟩
theorem x208 : ExtOk Tryz.prog 208 (.go) := ⟨Tryz.f208, Tryz.func208, by kernel_rfl, by kernel_rfl⟩
theorem x209 : ExtOk Tryz.prog 209 (.go) := ⟨Tryz.f209, Tryz.func209, by kernel_rfl, by kernel_rfl⟩
theorem x210 : ExtOk Tryz.prog 210 (.go) := ⟨Tryz.f210, Tryz.func210, by kernel_rfl, by kernel_rfl⟩
theorem x214 : ExtOk Tryz.prog 214 (.go) := ⟨Tryz.f214, Tryz.func214, by kernel_rfl, by kernel_rfl⟩
theorem x220 : ExtOk Tryz.prog 220 (.go) := ⟨Tryz.f220, Tryz.func220, by kernel_rfl, by kernel_rfl⟩
theorem x221 : ExtOk Tryz.prog 221 (.go) := ⟨Tryz.f221, Tryz.func221, by kernel_rfl, by kernel_rfl⟩
theorem x223 : ExtOk Tryz.prog 223 (.go) := ⟨Tryz.f223, Tryz.func223, by kernel_rfl, by kernel_rfl⟩
theorem x224 : ExtOk Tryz.prog 224 (.go) := ⟨Tryz.f224, Tryz.func224, by kernel_rfl, by kernel_rfl⟩
theorem x225 : ExtOk Tryz.prog 225 (.go) := ⟨Tryz.f225, Tryz.func225, by kernel_rfl, by kernel_rfl⟩
theorem x226 : ExtOk Tryz.prog 226 (.go) := ⟨Tryz.f226, Tryz.func226, by kernel_rfl, by kernel_rfl⟩
theorem x227 : ExtOk Tryz.prog 227 (.go) := ⟨Tryz.f227, Tryz.func227, by kernel_rfl, by kernel_rfl⟩
theorem x228 : ExtOk Tryz.prog 228 (.go) := ⟨Tryz.f228, Tryz.func228, by kernel_rfl, by kernel_rfl⟩
theorem x229 : ExtOk Tryz.prog 229 (.go) := ⟨Tryz.f229, Tryz.func229, by kernel_rfl, by kernel_rfl⟩
theorem x230 : ExtOk Tryz.prog 230 (.go) := ⟨Tryz.f230, Tryz.func230, by kernel_rfl, by kernel_rfl⟩
theorem x239 : ExtOk Tryz.prog 239 (.go) := ⟨Tryz.f239, Tryz.func239, by kernel_rfl, by kernel_rfl⟩
theorem x240 : ExtOk Tryz.prog 240 (.go) := ⟨Tryz.f240, Tryz.func240, by kernel_rfl, by kernel_rfl⟩
theorem x241 : ExtOk Tryz.prog 241 (.go) := ⟨Tryz.f241, Tryz.func241, by kernel_rfl, by kernel_rfl⟩
theorem x242 : ExtOk Tryz.prog 242 (.go) := ⟨Tryz.f242, Tryz.func242, by kernel_rfl, by kernel_rfl⟩
theorem x243 : ExtOk Tryz.prog 243 (.go) := ⟨Tryz.f243, Tryz.func243, by kernel_rfl, by kernel_rfl⟩
theorem x244 : ExtOk Tryz.prog 244 (.go) := ⟨Tryz.f244, Tryz.func244, by kernel_rfl, by kernel_rfl⟩
theorem x245 : ExtOk Tryz.prog 245 (.go) := ⟨Tryz.f245, Tryz.func245, by kernel_rfl, by kernel_rfl⟩
theorem x246 : ExtOk Tryz.prog 246 (.go) := ⟨Tryz.f246, Tryz.func246, by kernel_rfl, by kernel_rfl⟩
theorem x247 : ExtOk Tryz.prog 247 (.go) := ⟨Tryz.f247, Tryz.func247, by kernel_rfl, by kernel_rfl⟩
theorem x248 : ExtOk Tryz.prog 248 (.load .u64) := ⟨Tryz.f248, Tryz.func248, by kernel_rfl, by kernel_rfl, by kernel_rfl, by kernel_rfl⟩
theorem x249 : ExtOk Tryz.prog 249 (.cas .u64) := ⟨Tryz.f249, Tryz.func249, by kernel_rfl, by kernel_rfl, by kernel_rfl, by kernel_rfl⟩
theorem x250 : ExtOk Tryz.prog 250 (.add .i64) := ⟨Tryz.f250, Tryz.func250, by kernel_rfl, by kernel_rfl, by kernel_rfl, by kernel_rfl⟩
theorem x252 : ExtOk Tryz.prog 252 (.go) := ⟨Tryz.f252, Tryz.func252, by kernel_rfl, by kernel_rfl⟩
theorem x269 : ExtOk Tryz.prog 269 (.go) := ⟨Tryz.f269, Tryz.func269, by kernel_rfl, by kernel_rfl⟩
theorem x270 : ExtOk Tryz.prog 270 (.go) := ⟨Tryz.f270, Tryz.func270, by kernel_rfl, by kernel_rfl⟩
theorem x273 : ExtOk Tryz.prog 273 (.go) := ⟨Tryz.f273, Tryz.func273, by kernel_rfl, by kernel_rfl⟩
theorem x274 : ExtOk Tryz.prog 274 (.go) := ⟨Tryz.f274, Tryz.func274, by kernel_rfl, by kernel_rfl⟩
theorem x275 : ExtOk Tryz.prog 275 (.go) := ⟨Tryz.f275, Tryz.func275, by kernel_rfl, by kernel_rfl⟩
theorem x276 : ExtOk Tryz.prog 276 (.go) := ⟨Tryz.f276, Tryz.func276, by kernel_rfl, by kernel_rfl⟩
theorem x282 : ExtOk Tryz.prog 282 (.go) := ⟨Tryz.f282, Tryz.func282, by kernel_rfl, by kernel_rfl⟩
theorem x283 : ExtOk Tryz.prog 283 (.go) := ⟨Tryz.f283, Tryz.func283, by kernel_rfl, by kernel_rfl⟩
theorem x284 : ExtOk Tryz.prog 284 (.go) := ⟨Tryz.f284, Tryz.func284, by kernel_rfl, by kernel_rfl⟩
theorem x285 : ExtOk Tryz.prog 285 (.go) := ⟨Tryz.f285, Tryz.func285, by kernel_rfl, by kernel_rfl⟩
theorem x286 : ExtOk Tryz.prog 286 (.go) := ⟨Tryz.f286, Tryz.func286, by kernel_rfl, by kernel_rfl⟩
theorem x287 : ExtOk Tryz.prog 287 (.go) := ⟨Tryz.f287, Tryz.func287, by kernel_rfl, by kernel_rfl⟩
theorem x300 : ExtOk Tryz.prog 300 (.go) := ⟨Tryz.f300, Tryz.func300, by kernel_rfl, by kernel_rfl⟩
theorem x301 : ExtOk Tryz.prog 301 (.go) := ⟨Tryz.f301, Tryz.func301, by kernel_rfl, by kernel_rfl⟩
theorem x302 : ExtOk Tryz.prog 302 (.go) := ⟨Tryz.f302, Tryz.func302, by kernel_rfl, by kernel_rfl⟩
theorem x304 : ExtOk Tryz.prog 304 (.go) := ⟨Tryz.f304, Tryz.func304, by kernel_rfl, by kernel_rfl⟩
theorem x305 : ExtOk Tryz.prog 305 (.go) := ⟨Tryz.f305, Tryz.func305, by kernel_rfl, by kernel_rfl⟩
theorem x306 : ExtOk Tryz.prog 306 (.go) := ⟨Tryz.f306, Tryz.func306, by kernel_rfl, by kernel_rfl⟩
theorem x307 : ExtOk Tryz.prog 307 (.go) := ⟨Tryz.f307, Tryz.func307, by kernel_rfl, by kernel_rfl⟩
theorem x308 : ExtOk Tryz.prog 308 (.go) := ⟨Tryz.f308, Tryz.func308, by kernel_rfl, by kernel_rfl⟩
theorem x333 : ExtOk Tryz.prog 333 (.go) := ⟨Tryz.f333, Tryz.func333, by kernel_rfl, by kernel_rfl⟩
theorem x334 : ExtOk Tryz.prog 334 (.go) := ⟨Tryz.f334, Tryz.func334, by kernel_rfl, by kernel_rfl⟩
theorem x335 : ExtOk Tryz.prog 335 (.go) := ⟨Tryz.f335, Tryz.func335, by kernel_rfl, by kernel_rfl⟩
theorem x336 : ExtOk Tryz.prog 336 (.go) := ⟨Tryz.f336, Tryz.func336, by kernel_rfl, by kernel_rfl⟩
theorem x337 : ExtOk Tryz.prog 337 (.store) := ⟨Tryz.f337, Tryz.func337, by kernel_rfl, by kernel_rfl, by kernel_rfl, by kernel_rfl⟩
theorem x338 : ExtOk Tryz.prog 338 (.go) := ⟨Tryz.f338, Tryz.func338, by kernel_rfl, by kernel_rfl⟩
theorem x353 : ExtOk Tryz.prog 353 (.go) := ⟨Tryz.f353, Tryz.func353, by kernel_rfl, by kernel_rfl⟩
theorem x354 : ExtOk Tryz.prog 354 (.go) := ⟨Tryz.f354, Tryz.func354, by kernel_rfl, by kernel_rfl⟩
theorem x355 : ExtOk Tryz.prog 355 (.go) := ⟨Tryz.f355, Tryz.func355, by kernel_rfl, by kernel_rfl⟩
theorem x356 : ExtOk Tryz.prog 356 (.go) := ⟨Tryz.f356, Tryz.func356, by kernel_rfl, by kernel_rfl⟩
theorem x368 : ExtOk Tryz.prog 368 (.go) := ⟨Tryz.f368, Tryz.func368, by kernel_rfl, by kernel_rfl⟩
set_option maxRecDepth 100000 in
theorem Xok : XOk Tryz.prog X := xok_of_all (xok_cons x8 <| xok_cons x18 <| xok_cons x23 <| xok_cons x24 <| xok_cons x26 <| xok_cons x27 <| xok_cons x28 <| xok_cons x29 <| xok_cons x33 <| xok_cons x34 <| xok_cons x35 <| xok_cons x36 <| xok_cons x38 <| xok_cons x39 <| xok_cons x40 <| xok_cons x42 <| xok_cons x43 <| xok_cons x45 <| xok_cons x47 <| xok_cons x48 <| xok_cons x53 <| xok_cons x54 <| xok_cons x56 <| xok_cons x58 <| xok_cons x61 <| xok_cons x67 <| xok_cons x68 <| xok_cons x70 <| xok_cons x71 <| xok_cons x72 <| xok_cons x73 <| xok_cons x74 <| xok_cons x75 <| xok_cons x76 <| xok_cons x77 <| xok_cons x78 <| xok_cons x79 <| xok_cons x80 <| xok_cons x81 <| xok_cons x82 <| xok_cons x83 <| xok_cons x86 <| xok_cons x87 <| xok_cons x88 <| xok_cons x89 <| xok_cons x90 <| xok_cons x91 <| xok_cons x92 <| xok_cons x93 <| xok_cons x94 <| xok_cons x95 <| xok_cons x99 <| xok_cons x104 <| xok_cons x108 <| xok_cons x109 <| xok_cons x110 <| xok_cons x111 <| xok_cons x114 <| xok_cons x117 <| xok_cons x118 <| xok_cons x119 <| xok_cons x120 <| xok_cons x121 <| xok_cons x122 <| xok_cons x123 <| xok_cons x124 <| xok_cons x125 <| xok_cons x126 <| xok_cons x127 <| xok_cons x128 <| xok_cons x129 <| xok_cons x130 <| xok_cons x131 <| xok_cons x132 <| xok_cons x133 <| xok_cons x134 <| xok_cons x135 <| xok_cons x136 <| xok_cons x137 <| xok_cons x138 <| xok_cons x139 <| xok_cons x140 <| xok_cons x141 <| xok_cons x142 <| xok_cons x143 <| xok_cons x145 <| xok_cons x146 <| xok_cons x159 <| xok_cons x160 <| xok_cons x161 <| xok_cons x162 <| xok_cons x163 <| xok_cons x165 <| xok_cons x166 <| xok_cons x167 <| xok_cons x168 <| xok_cons x172 <| xok_cons x177 <| xok_cons x178 <| xok_cons x179 <| xok_cons x180 <| xok_cons x181 <| xok_cons x182 <| xok_cons x186 <| xok_cons x193 <| xok_cons x194 <| xok_cons x195 <| xok_cons x197 <| xok_cons x198 <| xok_cons x199 <| xok_cons x200 <| xok_cons x201 <| xok_cons x202 <| xok_cons x203 <| xok_cons x204 <| xok_cons x205 <| xok_cons x207 <| xok_cons x208 <| xok_cons x209 <| xok_cons x210 <| xok_cons x214 <| xok_cons x220 <| xok_cons x221 <| xok_cons x223 <| xok_cons x224 <| xok_cons x225 <| xok_cons x226 <| xok_cons x227 <| xok_cons x228 <| xok_cons x229 <| xok_cons x230 <| xok_cons x239 <| xok_cons x240 <| xok_cons x241 <| xok_cons x242 <| xok_cons x243 <| xok_cons x244 <| xok_cons x245 <| xok_cons x246 <| xok_cons x247 <| xok_cons x248 <| xok_cons x249 <| xok_cons x250 <| xok_cons x252 <| xok_cons x269 <| xok_cons x270 <| xok_cons x273 <| xok_cons x274 <| xok_cons x275 <| xok_cons x276 <| xok_cons x282 <| xok_cons x283 <| xok_cons x284 <| xok_cons x285 <| xok_cons x286 <| xok_cons x287 <| xok_cons x300 <| xok_cons x301 <| xok_cons x302 <| xok_cons x304 <| xok_cons x305 <| xok_cons x306 <| xok_cons x307 <| xok_cons x308 <| xok_cons x333 <| xok_cons x334 <| xok_cons x335 <| xok_cons x336 <| xok_cons x337 <| xok_cons x338 <| xok_cons x353 <| xok_cons x354 <| xok_cons x355 <| xok_cons x356 <| xok_cons x368 <| xok_nil)
abbrev Cl := CallsH Tryz.prog
theorem mix : Tryz.prog.follows .mixedOrders = true := by kernel_rfl
end
section
namespace F61
def T : Hint := ⟨[(5, [0, 1])], []⟩
noncomputable def body : Code := (Tryz.f61.body).getD .skip
noncomputable def en (S : Stop) (p : List Nat) (κ : XK) : Fr → Heap → Prop := E Tryz.prog X T S (sub body p) κ
def fn (K : KK) : XK := fin Tryz.prog Tryz.f61.results.toList K
def f5 (a b : Int) : Fr := [(0, (.int .i64 a)), (1, (.int .i64 b))]
def J0 (k5 : Int → Int → Heap → Prop) (a b : Int) (h : Heap) (K : KK) : Prop :=
  bcase (decide (a < (1 : Int))) (K (.tuple #[(.pointer none), (.int .i64 40)]) h) (bcase (decide (a > (8 : Int))) (K (.tuple #[(.pointer none), (.int .i64 40)]) h) (bcase (decide (b < (1 : Int))) (K (.tuple #[(.pointer none), (.int .i64 60)]) h) (bcase (decide (b > (32768 : Int))) (K (.tuple #[(.pointer none), (.int .i64 60)]) h) (k5 a b h))))
theorem E0 (S : Stop) (a b : Int) (h : Heap) (K : KK) : (E Tryz.prog X T S body (fin Tryz.prog Tryz.f61.results.toList K) (args0 0 [(.int .i64 a), (.int .i64 b)]) h) = J0 (fun a b h => S (en S [1, 1] (fn K)) (f5 a b) h) a b h K := by kernel_rfl
def Jk5 (a b : Int) (h : Heap) (K : KK) : Prop :=
  Cl 108 [(.int .i64 a)] h (fun v1 h2 => ldP (some v1) (fun p3 => newK h2 (.cells #[(.int .i64 b), (.pointer p3), (.slice none 0 0), (.slice none 0 0), (.pointer none), (.map none), (.pointer none), (.bool false)] 185) (fun b4 h5 => Cl 110 [(.int .i64 256)] h5 (fun v6 h7 => ldI .i64 (some v6) (fun n8 => Cl 89 [(.int .i64 n8)] h7 (fun v9 h10 => ldP (some v9) (fun p11 => Cl 109 [(.pointer p11), (.int .i64 0), (.int .i64 256)] h10 (fun v12 h13 => (∃ p14 : Option Addr, ∃ n15 : Int, v12 = (.tuple #[(.pointer p14), (.int .i64 n15)]) ∧ stK h13 (((Addr.mk b4 0 none).add 6).add 0) (.pointer p14) (fun h16 => Cl 111 [(.pointer (some (Addr.mk b4 0 none))), (.int .i64 32), (.slice none 0 0)] h16 (fun v17 h18 => (v17 = (.tuple #[]) ∧ K (.tuple #[(.pointer (some (Addr.mk b4 0 none))), (.int .i64 0)]) h18))))))))))))
theorem Ek5 (S : Stop) (a b : Int) (h : Heap) (K : KK) : (en S [1, 1] (fn K) (f5 a b) h) = Jk5 a b h K := by kernel_rfl
def wk5 (a b : Int) (h : Heap) (K : KK) : Prop :=
  Jk5 a b h K
theorem ek5 (K : KK) (a b : Int) (h : Heap) : (en S0 [1, 1] (fn K) (f5 a b) h) = wk5 a b h K := (Ek5 S0 a b h K).trans (rfl)
def w (a b : Int) (h : Heap) (K : KK) : Prop :=
  J0 (fun a b h => wk5 a b h K) a b h K
theorem e0 (K : KK) (a b : Int) (h : Heap) : (E Tryz.prog X T S0 body (fin Tryz.prog Tryz.f61.results.toList K) (args0 0 [(.int .i64 a), (.int .i64 b)]) h) = w a b h K := (E0 S0 a b h K).trans (cg1 (fun q0 => J0 q0 a b h K) (by funext a b h; exact ek5 K a b h))
theorem hb : Tryz.f61.body = some body := by kernel_rfl
theorem ok : okCode T Tryz.f61.ntmps body = true := by kernel_rfl
theorem spec (a b : Int) (h : Heap) (K : KK) (H : w a b h K) : Cl 61 [(.int .i64 a), (.int .i64 b)] h K :=
  calls_of_E (T := T) Xok mix Tryz.func61 hb ok rfl (by rw [e0]; exact H)
end F61
namespace F74
def w (b : Addr) (a : Int) (h : Heap) (K : KK) : Prop :=
  bcase (decide (a ≤ (1 : Int))) (K (.bool true) h) (Cl 117 [(.pointer (some b)), (.int .u32 a)] h (fun v1 h2 => ldP (some v1) (fun p3 => K (.bool (!(Option.isNone p3))) h2)))
theorem spec (b : Addr) (a : Int) (h : Heap) (K : KK) (H : w b a h K) : Cl 74 [(.pointer (some b)), (.int .u32 a)] h K :=
  cE Xok mix Tryz.func74 (by kernel_rfl) (by kernel_rfl) rfl (by kernel_rfl) H
end F74
namespace F117
def w (b : Addr) (a : Int) (h : Heap) (K : KK) : Prop :=
  bcase (decide (a < (2 : Int))) (K (.pointer none) h) (ldS (rd h (b.add 2)) (fun _ l2 _ => bcase (decide ((IntKind.wrap .i64 ((IntKind.wrap .i64 a) - (2 : Int))) ≥ (Nat.cast l2 : Int))) (K (.pointer none) h) (ldS (rd h (b.add 2)) (fun p4 l5 _ => ptrK p4 (fun a7 => (0 ≤ (IntKind.wrap .u32 (a - (2 : Int))) ∧ (IntKind.wrap .u32 (a - (2 : Int))) < (Nat.cast l5 : Int) ∧ ldB (rd h ((a7.add (Int.toNat (IntKind.wrap .u32 (a - (2 : Int))) * 4)).add 0)) (fun b8 => bcase (!b8) (K (.pointer none) h) (ldS (rd h (b.add 2)) (fun p9 l10 _ => ptrK p9 (fun a12 => (0 ≤ (IntKind.wrap .u32 (a - (2 : Int))) ∧ (IntKind.wrap .u32 (a - (2 : Int))) < (Nat.cast l10 : Int) ∧ K (.pointer (some (a12.add (Int.toNat (IntKind.wrap .u32 (a - (2 : Int))) * 4)))) h)))))))))))
theorem spec (b : Addr) (a : Int) (h : Heap) (K : KK) (H : w b a h K) : Cl 117 [(.pointer (some b)), (.int .u32 a)] h K :=
  cE Xok mix Tryz.func117 (by kernel_rfl) (by kernel_rfl) rfl (by kernel_rfl) H
end F117
namespace F71
def w (a : Addr) (b : Int) (h : Heap) (K : KK) : Prop :=
  bcase (decide (b ≤ (1 : Int))) (Cl 75 [(.pointer (some a))] h (fun v1 h2 => ldI .i64 (some v1) (fun n3 => K (.int .i64 n3) h2))) (Cl 117 [(.pointer (some a)), (.int .u32 b)] h (fun v4 h5 => ldP (some v4) (fun p6 => bcase (!(Option.isNone p6)) (ptrK p6 (fun a7 => ldI .i64 (rd h5 (a7.add 1)) (fun n8 => K (.int .i64 n8) h5))) (K (.int .i64 (-1)) h5))))
theorem spec (a : Addr) (b : Int) (h : Heap) (K : KK) (H : w a b h K) : Cl 71 [(.pointer (some a)), (.int .u32 b)] h K :=
  cE Xok mix Tryz.func71 (by kernel_rfl) (by kernel_rfl) rfl (by kernel_rfl) H
end F71
namespace F72
def w (b : Addr) (a : Int) (h : Heap) (K : KK) : Prop :=
  Cl 117 [(.pointer (some b)), (.int .u32 a)] h (fun v1 h2 => ldP (some v1) (fun p3 => bcase (!(Option.isNone p3)) (ptrK p3 (fun a4 => ldI .u32 (rd h2 (a4.add 2)) (fun n5 => K (.int .u32 n5) h2))) (Cl 118 [(.pointer (some b)), (.int .u32 a)] h2 (fun v6 h7 => ldI .i64 (some v6) (fun n8 => K (.int .u32 (bitsI .and .u32 a (IntKind.wrap .u32 n8))) h7)))))
theorem spec (b : Addr) (a : Int) (h : Heap) (K : KK) (H : w b a h K) : Cl 72 [(.pointer (some b)), (.int .u32 a)] h K :=
  cE Xok mix Tryz.func72 (by kernel_rfl) (by kernel_rfl) rfl (by kernel_rfl) H
end F72
namespace F73
def w (b : Addr) (a : Int) (h : Heap) (K : KK) : Prop :=
  Cl 117 [(.pointer (some b)), (.int .u32 a)] h (fun v1 h2 => ldP (some v1) (fun p3 => bcase (!(Option.isNone p3)) (ptrK p3 (fun a4 => ldI .u32 (rd h2 (a4.add 3)) (fun n5 => K (.int .u32 n5) h2))) (Cl 118 [(.pointer (some b)), (.int .u32 a)] h2 (fun v6 h7 => ldI .i64 (some v6) (fun n8 => K (.int .u32 (bitsI .and .u32 a (IntKind.wrap .u32 n8))) h7)))))
theorem spec (b : Addr) (a : Int) (h : Heap) (K : KK) (H : w b a h K) : Cl 73 [(.pointer (some b)), (.int .u32 a)] h K :=
  cE Xok mix Tryz.func73 (by kernel_rfl) (by kernel_rfl) rfl (by kernel_rfl) H
end F73
namespace F199
def T : Hint := ⟨[(3, [0, 1, 6, 14, 15])], []⟩
noncomputable def body : Code := (Tryz.f199.body).getD .skip
noncomputable def en (S : Stop) (p : List Nat) (κ : XK) : Fr → Heap → Prop := E Tryz.prog X T S (sub body p) κ
noncomputable def ln (S : Stop) (p : List Nat) (κ : XK) (n : Nat) : Fr → Heap → Prop := loopN S (E Tryz.prog X T S (sub body p)) (cutQ T (sub body p)) κ n
def fn (K : KK) : XK := fin Tryz.prog Tryz.f199.results.toList K
noncomputable def c0 (S : Stop) (K : KK) : XK := seqN S (cutQ T (sub body [1, 1, 1])) (en S [1, 1, 1] (fn K)) (fn K)
noncomputable def c1 (S : Stop) (K : KK) : XK := blockN 0 (c0 S K)
noncomputable def c2 (S : Stop) (n3 : Nat) (K : KK) : XK := backN S (cutQ T (sub body [1, 1, 0, 1, 0, 0])) (ln S [1, 1, 0, 1, 0, 0] (c1 S K) n3) (c1 S K)
def f3 (c : Addr) (d f b a : Int) : Fr := [(0, (.pointer (some c))), (1, (.int .u64 d)), (6, (.int .i64 f)), (14, (.int .i64 b)), (15, (.int .i64 a))]
def J0 (k3 : Addr → Int → Int → Int → Int → Heap → Prop) (c : Addr) (d : Int) (h : Heap) (_K : KK) : Prop :=
  ldP (rd h (c.add 4)) (fun p1 => Cl 200 [(.pointer p1)] h (fun v2 h3 => ldI .i64 (some v2) (fun n4 => k3 c d n4 n4 (0 : Int) h3)))
theorem E0 (S : Stop) (c : Addr) (d : Int) (h : Heap) (K : KK) : (E Tryz.prog X T S body (fin Tryz.prog Tryz.f199.results.toList K) (args0 0 [(.pointer (some c)), (.int .u64 d)]) h) = J0 (fun c d f b a h => S (en S [1, 1, 0, 1] (c0 S K)) (f3 c d f b a) h) c d h K := by kernel_rfl
def Jk3 (lp3 : Addr → Int → Int → Int → Int → Heap → Prop) (c : Addr) (d f b a : Int) (h : Heap) (_K : KK) : Prop :=
  lp3 c d f b a h
theorem Ek3 (S : Stop) (c : Addr) (d f b a : Int) (h : Heap) (K : KK) : (en S [1, 1, 0, 1] (c0 S K) (f3 c d f b a) h) = Jk3 (fun c d f b a h => ∃ n, S (ln S [1, 1, 0, 1, 0, 0] (c1 S K) n) (f3 c d f b a) h) c d f b a h K := by kernel_rfl
def JL3 (bk3 : Addr → Int → Int → Int → Int → Heap → Prop) (c : Addr) (d f b a : Int) (h : Heap) (K : KK) : Prop :=
  bcase (decide (a < b)) (Cl 246 [(.int .u64 d), (.int .i64 f)] h (fun v1 h2 => ldI .i64 (some v1) (fun n3 => (f ≠ 0 ∧ ldP (rd h2 (c.add 4)) (fun p4 => Cl 247 [(.pointer p4), (.int .i64 (Int.tmod (IntKind.wrap .i64 (n3 + a)) f))] h2 (fun v5 h6 => ldI .u64 (some v5) (fun n7 => bcase (n7 == d) (ldM (rd h6 (c.add 5)) (fun r8 => lookK h6 r8 .i64 .i64 (Int.tmod (IntKind.wrap .i64 (n3 + a)) f) (fun o9 => ldI .u32 (some (lkV (.int .u32 0) o9)) (fun n10 => K (.tuple #[(.int .u32 n10), (.bool true)]) h6)))) (bcase (n7 == (0 : Int)) (K (.tuple #[(.int .u32 0), (.bool false)]) h6) (bk3 c d f b (IntKind.wrap .i64 (a + (1 : Int))) h6))))))))) (K (.tuple #[(.int .u32 0), (.bool false)]) h)
theorem EL3 (S : Stop) (n3 : Nat) (c : Addr) (d f b a : Int) (h : Heap) (K : KK) : (en S [1, 1, 0, 1, 0, 0] (c2 S n3 K) (f3 c d f b a) h) = JL3 (fun c d f b a h => S (ln S [1, 1, 0, 1, 0, 0] (c1 S K) n3) (f3 c d f b a) h) c d f b a h K := by kernel_rfl
def wL3 : Nat → Addr → Int → Int → Int → Int → Heap → KK → Prop
  | 0, _, _, _, _, _, _, _ => False
  | n + 1, c, d, f, b, a, h, K => JL3 (fun c d f b a h => wL3 n c d f b a h K) c d f b a h K
theorem eL3 (K : KK) : ∀ (n : Nat) (c : Addr) (d f b a : Int) (h : Heap), (ln S0 [1, 1, 0, 1, 0, 0] (c1 S0 K) n (f3 c d f b a) h) = wL3 n c d f b a h K
  | 0, _, _, _, _, _, _ => rfl
  | n + 1, c, d, f, b, a, h => (EL3 S0 n c d f b a h K).trans (cg1 (fun q0 => JL3 q0 c d f b a h K) (by funext c d f b a h; exact (fun c d f b a h => eL3 K n c d f b a h) c d f b a h))
def wk3 (c : Addr) (d f b a : Int) (h : Heap) (K : KK) : Prop :=
  Jk3 (fun c d f b a h => ∃ m, wL3 m c d f b a h K) c d f b a h K
theorem ek3 (K : KK) (c : Addr) (d f b a : Int) (h : Heap) : (en S0 [1, 1, 0, 1] (c0 S0 K) (f3 c d f b a) h) = wk3 c d f b a h K := (Ek3 S0 c d f b a h K).trans (cg1 (fun q0 => Jk3 q0 c d f b a h K) (by funext c d f b a h; exact ex_congr fun m => eL3 K m c d f b a h))
def w (c : Addr) (d : Int) (h : Heap) (K : KK) : Prop :=
  J0 (fun c d f b a h => wk3 c d f b a h K) c d h K
theorem e0 (K : KK) (c : Addr) (d : Int) (h : Heap) : (E Tryz.prog X T S0 body (fin Tryz.prog Tryz.f199.results.toList K) (args0 0 [(.pointer (some c)), (.int .u64 d)]) h) = w c d h K := (E0 S0 c d h K).trans (cg1 (fun q0 => J0 q0 c d h K) (by funext c d f b a h; exact ek3 K c d f b a h))
theorem hb : Tryz.f199.body = some body := by kernel_rfl
theorem ok : okCode T Tryz.f199.ntmps body = true := by kernel_rfl
theorem spec (c : Addr) (d : Int) (h : Heap) (K : KK) (H : w c d h K) : Cl 199 [(.pointer (some c)), (.int .u64 d)] h K :=
  calls_of_E (T := T) Xok mix Tryz.func199 hb ok rfl (by rw [e0]; exact H)
end F199
namespace F197
def T : Hint := ⟨[(3, [6, 7]), (4, [6])], []⟩
noncomputable def body : Code := (Tryz.f197.body).getD .skip
noncomputable def en (S : Stop) (p : List Nat) (κ : XK) : Fr → Heap → Prop := E Tryz.prog X T S (sub body p) κ
noncomputable def ln (S : Stop) (p : List Nat) (κ : XK) (n : Nat) : Fr → Heap → Prop := loopN S (E Tryz.prog X T S (sub body p)) (cutQ T (sub body p)) κ n
def fn (K : KK) : XK := fin Tryz.prog Tryz.f197.results.toList K
noncomputable def c0 (S : Stop) (K : KK) : XK := seqN S (cutQ T (sub body [1, 1, 1])) (en S [1, 1, 1] (fn K)) (fn K)
noncomputable def c1 (S : Stop) (K : KK) : XK := blockN 0 (c0 S K)
noncomputable def c2 (S : Stop) (n3 : Nat) (K : KK) : XK := backN S (cutQ T (sub body [1, 1, 0, 1, 0, 0])) (ln S [1, 1, 0, 1, 0, 0] (c1 S K) n3) (c1 S K)
def f3 (a : Option Addr) (b : Value) : Fr := [(6, (.pointer a)), (7, b)]
def f4 (a : Option Addr) : Fr := [(6, (.pointer a))]
def J0 (k3 : (Option Addr) → Value → Heap → Prop) (c : Addr) (d : Int) (h : Heap) (_K : KK) : Prop :=
  ldP (rd h (c.add 4)) (fun p1 => Cl 241 [(.pointer p1), (.int .u64 d)] h (fun v2 h3 => ldP (some v2) (fun p4 => k3 p4 (.func (.func 242) #[(.pointer p4)] #[]) h3)))
theorem E0 (S : Stop) (c : Addr) (d : Int) (h : Heap) (K : KK) : (E Tryz.prog X T S body (fin Tryz.prog Tryz.f197.results.toList K) (args0 0 [(.pointer (some c)), (.int .u64 d)]) h) = J0 (fun a b h => S (en S [1, 1, 0, 1] (c0 S K)) (f3 a b) h) c d h K := by kernel_rfl
def Jk3 (lp3 : (Option Addr) → Value → Heap → Prop) (a : Option Addr) (b : Value) (h : Heap) (_K : KK) : Prop :=
  lp3 a b h
theorem Ek3 (S : Stop) (a : Option Addr) (b : Value) (h : Heap) (K : KK) : (en S [1, 1, 0, 1] (c0 S K) (f3 a b) h) = Jk3 (fun a b h => ∃ n, S (ln S [1, 1, 0, 1, 0, 0] (c1 S K) n) (f3 a b) h) a b h K := by kernel_rfl
def JL3 (bk3 : (Option Addr) → Value → Heap → Prop) (k4 : (Option Addr) → Heap → Prop) (a : Option Addr) (b : Value) (h : Heap) (_K : KK) : Prop :=
  dynK Tryz.prog X b [] h (fun v1 h2 => ldB (some v1) (fun b3 => bcase (!b3) (bk3 a b h2) (k4 a h2)))
theorem EL3 (S : Stop) (n3 : Nat) (a : Option Addr) (b : Value) (h : Heap) (K : KK) : (en S [1, 1, 0, 1, 0, 0] (c2 S n3 K) (f3 a b) h) = JL3 (fun a b h => S (ln S [1, 1, 0, 1, 0, 0] (c1 S K) n3) (f3 a b) h) (fun a h => S (en S [1, 1, 1] (fn K)) (f4 a) h) a b h K := by kernel_rfl
def Jk4 (a : Option Addr) (h : Heap) (K : KK) : Prop :=
  Cl 243 [(.pointer a)] h (fun v1 h2 => (∃ n3 : Int, ∃ n4 : Int, v1 = (.tuple #[(.int .i64 n3), (.int .i64 n4)]) ∧ Cl 244 [(.pointer a)] h2 (fun v5 h6 => ldB (some v5) (fun b7 => K (.tuple #[(.int .i64 n3), (.bool b7)]) h6))))
theorem Ek4 (S : Stop) (a : Option Addr) (h : Heap) (K : KK) : (en S [1, 1, 1] (fn K) (f4 a) h) = Jk4 a h K := by kernel_rfl
def wk4 (a : Option Addr) (h : Heap) (K : KK) : Prop :=
  Jk4 a h K
theorem ek4 (K : KK) (a : Option Addr) (h : Heap) : (en S0 [1, 1, 1] (fn K) (f4 a) h) = wk4 a h K := (Ek4 S0 a h K).trans (rfl)
def wL3 : Nat → (Option Addr) → Value → Heap → KK → Prop
  | 0, _, _, _, _ => False
  | n + 1, a, b, h, K => JL3 (fun a b h => wL3 n a b h K) (fun a h => wk4 a h K) a b h K
theorem eL3 (K : KK) : ∀ (n : Nat) (a : Option Addr) (b : Value) (h : Heap), (ln S0 [1, 1, 0, 1, 0, 0] (c1 S0 K) n (f3 a b) h) = wL3 n a b h K
  | 0, _, _, _ => rfl
  | n + 1, a, b, h => (EL3 S0 n a b h K).trans (cg2 (fun q0 q1 => JL3 q0 q1 a b h K) (by funext a b h; exact (fun a b h => eL3 K n a b h) a b h) (by funext a h; exact ek4 K a h))
def wk3 (a : Option Addr) (b : Value) (h : Heap) (K : KK) : Prop :=
  Jk3 (fun a b h => ∃ m, wL3 m a b h K) a b h K
theorem ek3 (K : KK) (a : Option Addr) (b : Value) (h : Heap) : (en S0 [1, 1, 0, 1] (c0 S0 K) (f3 a b) h) = wk3 a b h K := (Ek3 S0 a b h K).trans (cg1 (fun q0 => Jk3 q0 a b h K) (by funext a b h; exact ex_congr fun m => eL3 K m a b h))
def w (c : Addr) (d : Int) (h : Heap) (K : KK) : Prop :=
  J0 (fun a b h => wk3 a b h K) c d h K
theorem e0 (K : KK) (c : Addr) (d : Int) (h : Heap) : (E Tryz.prog X T S0 body (fin Tryz.prog Tryz.f197.results.toList K) (args0 0 [(.pointer (some c)), (.int .u64 d)]) h) = w c d h K := (E0 S0 c d h K).trans (cg1 (fun q0 => J0 q0 c d h K) (by funext a b h; exact ek3 K a b h))
theorem hb : Tryz.f197.body = some body := by kernel_rfl
theorem ok : okCode T Tryz.f197.ntmps body = true := by kernel_rfl
theorem spec (c : Addr) (d : Int) (h : Heap) (K : KK) (H : w c d h K) : Cl 197 [(.pointer (some c)), (.int .u64 d)] h K :=
  calls_of_E (T := T) Xok mix Tryz.func197 hb ok rfl (by rw [e0]; exact H)
end F197
namespace F160
def w (f : Addr) (g : Int) (a : Bool) (b c d : Int) (h : Heap) (K : KK) : Prop :=
  newK h (.cells #[(.bool a), (.int .i64 b), (.int .u32 c), (.int .u32 d)] 195) (fun b1 h2 => ldI .i64 (rd h2 ((Addr.mk b1 0 none).add 1)) (fun n3 => ldI .u32 (rd h2 ((Addr.mk b1 0 none).add 2)) (fun n4 => ldI .u32 (rd h2 ((Addr.mk b1 0 none).add 3)) (fun n5 => Cl 198 [(.int .i64 n3), (.int .u32 n4), (.int .u32 n5)] h2 (fun v6 h7 => ldI .u64 (some v6) (fun n8 => Cl 197 [(.pointer (some f)), (.int .u64 n8)] h7 (fun v9 h10 => (∃ n11 : Int, ∃ b12 : Bool, v9 = (.tuple #[(.int .i64 n11), (.bool b12)]) ∧ ldM (rd h10 (f.add 5)) (fun r13 => updK h10 r13 .i64 .i64 n11 (.int .u32 g) (fun h14 => K (.tuple #[]) h14))))))))))
theorem spec (f : Addr) (g : Int) (a : Bool) (b c d : Int) (h : Heap) (K : KK) (H : w f g a b c d h K) : Cl 160 [(.pointer (some f)), (.int .u32 g), (.agg #[(.bool a), (.int .i64 b), (.int .u32 c), (.int .u32 d)])] h K :=
  cE Xok mix Tryz.func160 (by kernel_rfl) (by kernel_rfl) rfl (by kernel_rfl) H
end F160
namespace F111
def T : Hint := ⟨[(4, [0, 6, 29, 30, 31]), (8, [0, 6]), (9, [0, 6, 42, 43, 44])], []⟩
noncomputable def body : Code := (Tryz.f111.body).getD .skip
noncomputable def en (S : Stop) (p : List Nat) (κ : XK) : Fr → Heap → Prop := E Tryz.prog X T S (sub body p) κ
noncomputable def ln (S : Stop) (p : List Nat) (κ : XK) (n : Nat) : Fr → Heap → Prop := loopN S (E Tryz.prog X T S (sub body p)) (cutQ T (sub body p)) κ n
def fn (K : KK) : XK := fin Tryz.prog Tryz.f111.results.toList K
noncomputable def c0 (S : Stop) (K : KK) : XK := seqN S (cutQ T (sub body [1, 1, 1, 1])) (en S [1, 1, 1, 1] (fn K)) (fn K)
noncomputable def c1 (S : Stop) (K : KK) : XK := blockN 0 (c0 S K)
noncomputable def c2 (S : Stop) (n4 : Nat) (K : KK) : XK := backN S (cutQ T (sub body [1, 1, 1, 0, 1, 0, 0])) (ln S [1, 1, 1, 0, 1, 0, 0] (c1 S K) n4) (c1 S K)
noncomputable def c3 (_S : Stop) (K : KK) : XK := blockN 2 (fn K)
noncomputable def c4 (S : Stop) (n9 : Nat) (K : KK) : XK := backN S (cutQ T (sub body [1, 1, 1, 1, 1, 0, 0])) (ln S [1, 1, 1, 1, 1, 0, 0] (c3 S K) n9) (c3 S K)
def f4 (i : Addr) (j : Option Nat) (f : Option Addr) (d g : Nat) (r o : Int) : Fr := [(0, (.pointer (some i))), (6, (.map j)), (29, (.slice f d g)), (30, (.int .i64 r)), (31, (.int .i64 o))]
def f8 (i : Addr) (j : Option Nat) : Fr := [(0, (.pointer (some i))), (6, (.map j))]
def f9 (i : Addr) (j : Option Nat) (b : Option Addr) (a c : Nat) (q l : Int) : Fr := [(0, (.pointer (some i))), (6, (.map j)), (42, (.slice b a c)), (43, (.int .i64 q)), (44, (.int .i64 l))]
def J0 (k4 : Addr → (Option Nat) → (Option Addr) → Nat → Nat → Int → Int → Heap → Prop) (i : Addr) (v : Int) (u : Option Addr) (s t : Nat) (h : Heap) (_K : KK) : Prop :=
  Cl 89 [(.int .i64 v)] h (fun v1 h2 => ldP (some v1) (fun p3 => Cl 159 [(.pointer p3), (.int .i64 0), (.int .i64 v)] h2 (fun v4 h5 => (∃ p6 : Option Addr, ∃ n7 : Int, v4 = (.tuple #[(.pointer p6), (.int .i64 n7)]) ∧ stK h5 ((i.add 4).add 0) (.pointer p6) (fun h8 => newK h8 (.map #[] 0) (fun b9 h10 => stK h10 ((i.add 5).add 0) (.map (some b9)) (fun h11 => newK h11 (.map #[] 0) (fun b12 h13 => k4 i (some b12) u s t (Nat.cast s : Int) (0 : Int) h13))))))))
theorem E0 (S : Stop) (i : Addr) (v : Int) (u : Option Addr) (s t : Nat) (h : Heap) (K : KK) : (E Tryz.prog X T S body (fin Tryz.prog Tryz.f111.results.toList K) (args0 0 [(.pointer (some i)), (.int .i64 v), (.slice u s t)]) h) = J0 (fun i j f d g r o h => S (en S [1, 1, 1, 0, 1] (c0 S K)) (f4 i j f d g r o) h) i v u s t h K := by kernel_rfl
def Jk4 (lp4 : Addr → (Option Nat) → (Option Addr) → Nat → Nat → Int → Int → Heap → Prop) (i : Addr) (j : Option Nat) (f : Option Addr) (d g : Nat) (r o : Int) (h : Heap) (_K : KK) : Prop :=
  lp4 i j f d g r o h
theorem Ek4 (S : Stop) (i : Addr) (j : Option Nat) (f : Option Addr) (d g : Nat) (r o : Int) (h : Heap) (K : KK) : (en S [1, 1, 1, 0, 1] (c0 S K) (f4 i j f d g r o) h) = Jk4 (fun i j f d g r o h => ∃ n, S (ln S [1, 1, 1, 0, 1, 0, 0] (c1 S K) n) (f4 i j f d g r o) h) i j f d g r o h K := by kernel_rfl
def JL4 (bk4 : Addr → (Option Nat) → (Option Addr) → Nat → Nat → Int → Int → Heap → Prop) (k8 : Addr → (Option Nat) → Heap → Prop) (i : Addr) (j : Option Nat) (f : Option Addr) (d g : Nat) (r o : Int) (h : Heap) (_K : KK) : Prop :=
  bcase (decide (o < r)) (ptrK f (fun a1 => (0 ≤ o ∧ o < (Nat.cast d : Int) ∧ ldI .u32 (rd h (a1.add (Int.toNat o * 1))) (fun n2 => updK h j .u32 .u32 n2 (.agg #[]) (fun h3 => bk4 i j f d g r (IntKind.wrap .i64 (o + (1 : Int))) h3))))) (k8 i j h)
theorem EL4 (S : Stop) (n4 : Nat) (i : Addr) (j : Option Nat) (f : Option Addr) (d g : Nat) (r o : Int) (h : Heap) (K : KK) : (en S [1, 1, 1, 0, 1, 0, 0] (c2 S n4 K) (f4 i j f d g r o) h) = JL4 (fun i j f d g r o h => S (ln S [1, 1, 1, 0, 1, 0, 0] (c1 S K) n4) (f4 i j f d g r o) h) (fun i j h => S (en S [1, 1, 1, 1] (fn K)) (f8 i j) h) i j f d g r o h K := by kernel_rfl
def Jk8 (k9 : Addr → (Option Nat) → (Option Addr) → Nat → Nat → Int → Int → Heap → Prop) (i : Addr) (j : Option Nat) (h : Heap) (_K : KK) : Prop :=
  ldS (rd h (i.add 2)) (fun p1 l2 c3 => k9 i j p1 l2 c3 (Nat.cast l2 : Int) (0 : Int) h)
theorem Ek8 (S : Stop) (i : Addr) (j : Option Nat) (h : Heap) (K : KK) : (en S [1, 1, 1, 1] (fn K) (f8 i j) h) = Jk8 (fun i j b a c q l h => S (en S [1, 1, 1, 1, 1] (fn K)) (f9 i j b a c q l) h) i j h K := by kernel_rfl
def Jk9 (lp9 : Addr → (Option Nat) → (Option Addr) → Nat → Nat → Int → Int → Heap → Prop) (i : Addr) (j : Option Nat) (b : Option Addr) (a c : Nat) (q l : Int) (h : Heap) (_K : KK) : Prop :=
  lp9 i j b a c q l h
theorem Ek9 (S : Stop) (i : Addr) (j : Option Nat) (b : Option Addr) (a c : Nat) (q l : Int) (h : Heap) (K : KK) : (en S [1, 1, 1, 1, 1] (fn K) (f9 i j b a c q l) h) = Jk9 (fun i j b a c q l h => ∃ n, S (ln S [1, 1, 1, 1, 1, 0, 0] (c3 S K) n) (f9 i j b a c q l) h) i j b a c q l h K := by kernel_rfl
def JL9 (bk9 : Addr → (Option Nat) → (Option Addr) → Nat → Nat → Int → Int → Heap → Prop) (i : Addr) (j : Option Nat) (b : Option Addr) (a c : Nat) (q l : Int) (h : Heap) (K : KK) : Prop :=
  bcase (decide (l < q)) (ptrK b (fun a1 => (0 ≤ l ∧ l < (Nat.cast a : Int) ∧ ldB (rd h ((a1.add (Int.toNat l * 4)).add 0)) (fun b2 => ldI .i64 (rd h ((a1.add (Int.toNat l * 4)).add 1)) (fun n3 => ldI .u32 (rd h ((a1.add (Int.toNat l * 4)).add 2)) (fun n4 => ldI .u32 (rd h ((a1.add (Int.toNat l * 4)).add 3)) (fun n5 => newK h (.cells #[(.bool false), (.int .i64 0), (.int .u32 0), (.int .u32 0)] 195) (fun b6 h7 => stK h7 ((Addr.mk b6 0 none).add 0) (.bool b2) (fun h8 => stK h8 ((Addr.mk b6 0 none).add 1) (.int .i64 n3) (fun h9 => stK h9 ((Addr.mk b6 0 none).add 2) (.int .u32 n4) (fun h10 => stK h10 ((Addr.mk b6 0 none).add 3) (.int .u32 n5) (fun h11 => lookK h11 j .u32 .u32 (IntKind.wrap .u32 (IntKind.wrap .i64 (l + (2 : Int)))) (fun o12 => ldV (some (lkV (.agg #[]) o12)) (fun v13 => newK h11 (.cells #[] 218) (fun b14 h15 => storeE Tryz.prog 218 (some (Addr.mk b14 0 none)) v13 h15 (fun h16 => ldB (rd h16 ((Addr.mk b6 0 none).add 0)) (fun b17 => bcase b17 (bcase (!(Option.isSome o12)) (ldB (rd h16 ((Addr.mk b6 0 none).add 0)) (fun b18 => ldI .i64 (rd h16 ((Addr.mk b6 0 none).add 1)) (fun n19 => ldI .u32 (rd h16 ((Addr.mk b6 0 none).add 2)) (fun n20 => ldI .u32 (rd h16 ((Addr.mk b6 0 none).add 3)) (fun n21 => Cl 160 [(.pointer (some i)), (.int .u32 (IntKind.wrap .u32 (IntKind.wrap .i64 (l + (2 : Int))))), (.agg #[(.bool b18), (.int .i64 n19), (.int .u32 n20), (.int .u32 n21)])] h16 (fun v22 h23 => (v22 = (.tuple #[]) ∧ bk9 i j b a c q (IntKind.wrap .i64 (l + (1 : Int))) h23))))))) (bk9 i j b a c q (IntKind.wrap .i64 (l + (1 : Int))) h16)) (bk9 i j b a c q (IntKind.wrap .i64 (l + (1 : Int))) h16)))))))))))))))))) (K (.tuple #[]) h)
theorem EL9 (S : Stop) (n9 : Nat) (i : Addr) (j : Option Nat) (b : Option Addr) (a c : Nat) (q l : Int) (h : Heap) (K : KK) : (en S [1, 1, 1, 1, 1, 0, 0] (c4 S n9 K) (f9 i j b a c q l) h) = JL9 (fun i j b a c q l h => S (ln S [1, 1, 1, 1, 1, 0, 0] (c3 S K) n9) (f9 i j b a c q l) h) i j b a c q l h K := by kernel_rfl
def wL9 : Nat → Addr → (Option Nat) → (Option Addr) → Nat → Nat → Int → Int → Heap → KK → Prop
  | 0, _, _, _, _, _, _, _, _, _ => False
  | n + 1, i, j, b, a, c, q, l, h, K => JL9 (fun i j b a c q l h => wL9 n i j b a c q l h K) i j b a c q l h K
theorem eL9 (K : KK) : ∀ (n : Nat) (i : Addr) (j : Option Nat) (b : Option Addr) (a c : Nat) (q l : Int) (h : Heap), (ln S0 [1, 1, 1, 1, 1, 0, 0] (c3 S0 K) n (f9 i j b a c q l) h) = wL9 n i j b a c q l h K
  | 0, _, _, _, _, _, _, _, _ => rfl
  | n + 1, i, j, b, a, c, q, l, h => (EL9 S0 n i j b a c q l h K).trans (cg1 (fun q0 => JL9 q0 i j b a c q l h K) (by funext i j b a c q l h; exact (fun i j b a c q l h => eL9 K n i j b a c q l h) i j b a c q l h))
def wk9 (i : Addr) (j : Option Nat) (b : Option Addr) (a c : Nat) (q l : Int) (h : Heap) (K : KK) : Prop :=
  Jk9 (fun i j b a c q l h => ∃ m, wL9 m i j b a c q l h K) i j b a c q l h K
theorem ek9 (K : KK) (i : Addr) (j : Option Nat) (b : Option Addr) (a c : Nat) (q l : Int) (h : Heap) : (en S0 [1, 1, 1, 1, 1] (fn K) (f9 i j b a c q l) h) = wk9 i j b a c q l h K := (Ek9 S0 i j b a c q l h K).trans (cg1 (fun q0 => Jk9 q0 i j b a c q l h K) (by funext i j b a c q l h; exact ex_congr fun m => eL9 K m i j b a c q l h))
def wk8 (i : Addr) (j : Option Nat) (h : Heap) (K : KK) : Prop :=
  Jk8 (fun i j b a c q l h => wk9 i j b a c q l h K) i j h K
theorem ek8 (K : KK) (i : Addr) (j : Option Nat) (h : Heap) : (en S0 [1, 1, 1, 1] (fn K) (f8 i j) h) = wk8 i j h K := (Ek8 S0 i j h K).trans (cg1 (fun q0 => Jk8 q0 i j h K) (by funext i j b a c q l h; exact ek9 K i j b a c q l h))
def wL4 : Nat → Addr → (Option Nat) → (Option Addr) → Nat → Nat → Int → Int → Heap → KK → Prop
  | 0, _, _, _, _, _, _, _, _, _ => False
  | n + 1, i, j, f, d, g, r, o, h, K => JL4 (fun i j f d g r o h => wL4 n i j f d g r o h K) (fun i j h => wk8 i j h K) i j f d g r o h K
theorem eL4 (K : KK) : ∀ (n : Nat) (i : Addr) (j : Option Nat) (f : Option Addr) (d g : Nat) (r o : Int) (h : Heap), (ln S0 [1, 1, 1, 0, 1, 0, 0] (c1 S0 K) n (f4 i j f d g r o) h) = wL4 n i j f d g r o h K
  | 0, _, _, _, _, _, _, _, _ => rfl
  | n + 1, i, j, f, d, g, r, o, h => (EL4 S0 n i j f d g r o h K).trans (cg2 (fun q0 q1 => JL4 q0 q1 i j f d g r o h K) (by funext i j f d g r o h; exact (fun i j f d g r o h => eL4 K n i j f d g r o h) i j f d g r o h) (by funext i j h; exact ek8 K i j h))
def wk4 (i : Addr) (j : Option Nat) (f : Option Addr) (d g : Nat) (r o : Int) (h : Heap) (K : KK) : Prop :=
  Jk4 (fun i j f d g r o h => ∃ m, wL4 m i j f d g r o h K) i j f d g r o h K
theorem ek4 (K : KK) (i : Addr) (j : Option Nat) (f : Option Addr) (d g : Nat) (r o : Int) (h : Heap) : (en S0 [1, 1, 1, 0, 1] (c0 S0 K) (f4 i j f d g r o) h) = wk4 i j f d g r o h K := (Ek4 S0 i j f d g r o h K).trans (cg1 (fun q0 => Jk4 q0 i j f d g r o h K) (by funext i j f d g r o h; exact ex_congr fun m => eL4 K m i j f d g r o h))
def w (i : Addr) (v : Int) (u : Option Addr) (s t : Nat) (h : Heap) (K : KK) : Prop :=
  J0 (fun i j f d g r o h => wk4 i j f d g r o h K) i v u s t h K
theorem e0 (K : KK) (i : Addr) (v : Int) (u : Option Addr) (s t : Nat) (h : Heap) : (E Tryz.prog X T S0 body (fin Tryz.prog Tryz.f111.results.toList K) (args0 0 [(.pointer (some i)), (.int .i64 v), (.slice u s t)]) h) = w i v u s t h K := (E0 S0 i v u s t h K).trans (cg1 (fun q0 => J0 q0 i v u s t h K) (by funext i j f d g r o h; exact ek4 K i j f d g r o h))
theorem hb : Tryz.f111.body = some body := by kernel_rfl
theorem ok : okCode T Tryz.f111.ntmps body = true := by kernel_rfl
theorem spec (i : Addr) (v : Int) (u : Option Addr) (s t : Nat) (h : Heap) (K : KK) (H : w i v u s t h K) : Cl 111 [(.pointer (some i)), (.int .i64 v), (.slice u s t)] h K :=
  calls_of_E (T := T) Xok mix Tryz.func111 hb ok rfl (by rw [e0]; exact H)
end F111
namespace F161
def T : Hint := ⟨[(9, [0, 1, 2, 3]), (17, [0, 1, 2, 3])], [(13, [[(0, []), (2, []), (3, []), (4, []), (5, []), (1, [2, 3, 4, 5]), (6, [])]]), (15, [[(0, []), (4, []), (5, []), (6, []), (7, []), (1, [4, 5, 6, 7]), (2, []), (3, []), (8, [2, 3]), (9, [])]])]⟩
noncomputable def body : Code := (Tryz.f161.body).getD .skip
noncomputable def en (S : Stop) (p : List Nat) (κ : XK) : Fr → Heap → Prop := E Tryz.prog X T S (sub body p) κ
def fn (K : KK) : XK := fin Tryz.prog Tryz.f161.results.toList K
def f9 (a : Addr) (b c d : Int) : Fr := [(0, (.pointer (some a))), (1, (.int .i64 b)), (2, (.int .u32 c)), (3, (.int .u32 d))]
def f17 (a : Addr) (b c d : Int) : Fr := [(0, (.pointer (some a))), (1, (.int .i64 b)), (2, (.int .u32 c)), (3, (.int .u32 d))]
def J0 (k9 : Addr → Int → Int → Int → Heap → Prop) (a : Addr) (b c d : Int) (h : Heap) (K : KK) : Prop :=
  bcase (decide (b < (0 : Int))) (K (.tuple #[(.int .u32 0), (.int .i64 40)]) h) (Cl 75 [(.pointer (some a))] h (fun v1 h2 => ldI .i64 (some v1) (fun n3 => bcase (decide (b ≥ n3)) (K (.tuple #[(.int .u32 0), (.int .i64 40)]) h2) (Cl 74 [(.pointer (some a)), (.int .u32 c)] h2 (fun v4 h5 => ldB (some v4) (fun b6 => bcase (!b6) (K (.tuple #[(.int .u32 0), (.int .i64 101)]) h5) (Cl 74 [(.pointer (some a)), (.int .u32 d)] h5 (fun v7 h8 => ldB (some v7) (fun b9 => bcase (!b9) (K (.tuple #[(.int .u32 0), (.int .i64 101)]) h8) (Cl 71 [(.pointer (some a)), (.int .u32 c)] h8 (fun v10 h11 => ldI .i64 (some v10) (fun n12 => bcase (decide (n12 ≤ b)) (K (.tuple #[(.int .u32 0), (.int .i64 100)]) h11) (Cl 71 [(.pointer (some a)), (.int .u32 d)] h11 (fun v13 h14 => ldI .i64 (some v13) (fun n15 => bcase (decide (n15 ≤ b)) (K (.tuple #[(.int .u32 0), (.int .i64 100)]) h14) (bcase (c == d) (K (.tuple #[(.int .u32 c), (.int .i64 0)]) h14) (k9 a b c d h14)))))))))))))))))
theorem E0 (S : Stop) (a : Addr) (b c d : Int) (h : Heap) (K : KK) : (E Tryz.prog X T S body (fin Tryz.prog Tryz.f161.results.toList K) (args0 0 [(.pointer (some a)), (.int .i64 b), (.int .u32 c), (.int .u32 d)]) h) = J0 (fun a b c d h => S (en S [1, 1] (fn K)) (f9 a b c d) h) a b c d h K := by kernel_rfl
def Jk9 (k17 : Addr → Int → Int → Int → Heap → Prop) (a : Addr) (b c d : Int) (h : Heap) (K : KK) : Prop :=
  Cl 198 [(.int .i64 b), (.int .u32 c), (.int .u32 d)] h (fun v1 h2 => ldI .u64 (some v1) (fun n3 => Cl 199 [(.pointer (some a)), (.int .u64 n3)] h2 (fun v4 h5 => (∃ n6 : Int, ∃ b7 : Bool, v4 = (.tuple #[(.int .u32 n6), (.bool b7)]) ∧ bcase b7 (K (.tuple #[(.int .u32 n6), (.int .i64 0)]) h5) (ldI .i64 (rd h5 (a.add 0)) (fun n8 => Cl 45 [(.pointer (some a))] h5 (fun v9 h10 => ldI .i64 (some v9) (fun n11 => ((.pointer (some a)) = ((.pointer (some a)) : Value) ∧ ((.pointer (some a)) = ((.pointer (some a)) : Value) ∧ ((.pointer (some (a.add 0))) = ((.pointer (some (a.add 0))) : Value) ∧ ldI .i64 (rd h10 (a.add 0)) (fun n12 => ((.int .i64 n12) = ((.int .i64 n8) : Value) ∧ bcase (decide (n11 ≥ n8)) (K (.tuple #[(.int .u32 0), (.int .i64 60)]) h10) (ldP (rd h10 (a.add 4)) (fun p13 => Cl 45 [(.pointer (some a))] h10 (fun v14 h15 => ldI .i64 (some v14) (fun n16 => ((.pointer (some a)) = ((.pointer (some a)) : Value) ∧ ((.pointer (some a)) = ((.pointer (some a)) : Value) ∧ ((.pointer (some (a.add 4))) = ((.pointer (some (a.add 4))) : Value) ∧ ldP (rd h15 (a.add 4)) (fun p17 => ((.pointer p17) = ((.pointer p13) : Value) ∧ Cl 200 [(.pointer p13)] h15 (fun v18 h19 => ldI .i64 (some v18) (fun n20 => ((.int .i64 (IntKind.wrap .i64 (n16 + (1 : Int)))) = ((.int .i64 (IntKind.wrap .i64 (n16 + (1 : Int)))) : Value) ∧ ((.int .i64 (IntKind.wrap .i64 ((2 : Int) * (IntKind.wrap .i64 (n16 + (1 : Int)))))) = ((.int .i64 (IntKind.wrap .i64 ((2 : Int) * (IntKind.wrap .i64 (n16 + (1 : Int)))))) : Value) ∧ bcase (decide ((IntKind.wrap .i64 ((2 : Int) * (IntKind.wrap .i64 (n16 + (1 : Int))))) > n20)) (ldP (rd h19 (a.add 4)) (fun p21 => Cl 200 [(.pointer p21)] h19 (fun v22 h23 => ldI .i64 (some v22) (fun n24 => Cl 111 [(.pointer (some a)), (.int .i64 (IntKind.wrap .i64 ((2 : Int) * n24))), (.slice none 0 0)] h23 (fun v25 h26 => (v25 = (.tuple #[]) ∧ k17 a b c d h26)))))) (k17 a b c d h19)))))))))))))))))))))))))))
theorem Ek9 (S : Stop) (a : Addr) (b c d : Int) (h : Heap) (K : KK) : (en S [1, 1] (fn K) (f9 a b c d) h) = Jk9 (fun a b c d h => S (en S [1, 1, 1, 1, 1, 1] (fn K)) (f17 a b c d) h) a b c d h K := by kernel_rfl
def Jk17 (a : Addr) (b c d : Int) (h : Heap) (K : KK) : Prop :=
  Cl 201 [(.pointer (some a))] h (fun v1 h2 => ldI .u32 (some v1) (fun n3 => ldS (rd h2 (a.add 2)) (fun p4 l5 _ => ptrK p4 (fun a7 => (0 ≤ (IntKind.wrap .u32 (n3 - (2 : Int))) ∧ (IntKind.wrap .u32 (n3 - (2 : Int))) < (Nat.cast l5 : Int) ∧ stK h2 ((a7.add (Int.toNat (IntKind.wrap .u32 (n3 - (2 : Int))) * 4)).add 0) (.bool true) (fun h8 => stK h8 ((a7.add (Int.toNat (IntKind.wrap .u32 (n3 - (2 : Int))) * 4)).add 1) (.int .i64 b) (fun h9 => stK h9 ((a7.add (Int.toNat (IntKind.wrap .u32 (n3 - (2 : Int))) * 4)).add 2) (.int .u32 c) (fun h10 => stK h10 ((a7.add (Int.toNat (IntKind.wrap .u32 (n3 - (2 : Int))) * 4)).add 3) (.int .u32 d) (fun h11 => ldS (rd h11 (a.add 2)) (fun p12 l13 _ => ptrK p12 (fun a15 => (0 ≤ (IntKind.wrap .u32 (n3 - (2 : Int))) ∧ (IntKind.wrap .u32 (n3 - (2 : Int))) < (Nat.cast l13 : Int) ∧ ldB (rd h11 ((a15.add (Int.toNat (IntKind.wrap .u32 (n3 - (2 : Int))) * 4)).add 0)) (fun b16 => ldI .i64 (rd h11 ((a15.add (Int.toNat (IntKind.wrap .u32 (n3 - (2 : Int))) * 4)).add 1)) (fun n17 => ldI .u32 (rd h11 ((a15.add (Int.toNat (IntKind.wrap .u32 (n3 - (2 : Int))) * 4)).add 2)) (fun n18 => ldI .u32 (rd h11 ((a15.add (Int.toNat (IntKind.wrap .u32 (n3 - (2 : Int))) * 4)).add 3)) (fun n19 => Cl 160 [(.pointer (some a)), (.int .u32 n3), (.agg #[(.bool b16), (.int .i64 n17), (.int .u32 n18), (.int .u32 n19)])] h11 (fun v20 h21 => (v20 = (.tuple #[]) ∧ K (.tuple #[(.int .u32 n3), (.int .i64 0)]) h21))))))))))))))))))
theorem Ek17 (S : Stop) (a : Addr) (b c d : Int) (h : Heap) (K : KK) : (en S [1, 1, 1, 1, 1, 1] (fn K) (f17 a b c d) h) = Jk17 a b c d h K := by kernel_rfl
def wk17 (a : Addr) (b c d : Int) (h : Heap) (K : KK) : Prop :=
  Jk17 a b c d h K
theorem ek17 (K : KK) (a : Addr) (b c d : Int) (h : Heap) : (en S0 [1, 1, 1, 1, 1, 1] (fn K) (f17 a b c d) h) = wk17 a b c d h K := (Ek17 S0 a b c d h K).trans (rfl)
def wk9 (a : Addr) (b c d : Int) (h : Heap) (K : KK) : Prop :=
  Jk9 (fun a b c d h => wk17 a b c d h K) a b c d h K
theorem ek9 (K : KK) (a : Addr) (b c d : Int) (h : Heap) : (en S0 [1, 1] (fn K) (f9 a b c d) h) = wk9 a b c d h K := (Ek9 S0 a b c d h K).trans (cg1 (fun q0 => Jk9 q0 a b c d h K) (by funext a b c d h; exact ek17 K a b c d h))
def w (a : Addr) (b c d : Int) (h : Heap) (K : KK) : Prop :=
  J0 (fun a b c d h => wk9 a b c d h K) a b c d h K
theorem e0 (K : KK) (a : Addr) (b c d : Int) (h : Heap) : (E Tryz.prog X T S0 body (fin Tryz.prog Tryz.f161.results.toList K) (args0 0 [(.pointer (some a)), (.int .i64 b), (.int .u32 c), (.int .u32 d)]) h) = w a b c d h K := (E0 S0 a b c d h K).trans (cg1 (fun q0 => J0 q0 a b c d h K) (by funext a b c d h; exact ek9 K a b c d h))
theorem hb : Tryz.f161.body = some body := by kernel_rfl
theorem ok : okCode T Tryz.f161.ntmps body = true := by kernel_rfl
theorem spec (a : Addr) (b c d : Int) (h : Heap) (K : KK) (H : w a b c d h K) : Cl 161 [(.pointer (some a)), (.int .i64 b), (.int .u32 c), (.int .u32 d)] h K :=
  calls_of_E (T := T) Xok mix Tryz.func161 hb ok rfl (by rw [e0]; exact H)
end F161
namespace F45
def T : Hint := ⟨[], [(1, [[(0, []), (1, []), (2, []), (3, []), (4, []), (5, []), (6, []), (7, []), (8, []), (9, []), (10, []), (11, [])]])]⟩
noncomputable def body : Code := (Tryz.f45.body).getD .skip
def J0 (a : Addr) (h : Heap) (K : KK) : Prop :=
  ldS (rd h (a.add 2)) (fun _ l2 _ => ldS (rd h (a.add 3)) (fun _ l5 _ => K (.int .i64 (IntKind.wrap .i64 ((Nat.cast l2 : Int) - (Nat.cast l5 : Int)))) h))
theorem E0 (S : Stop) (a : Addr) (h : Heap) (K : KK) : (E Tryz.prog X T S body (fin Tryz.prog Tryz.f45.results.toList K) (args0 0 [(.pointer (some a))]) h) = J0 a h K := by kernel_rfl
def w (a : Addr) (h : Heap) (K : KK) : Prop :=
  J0 a h K
theorem e0 (K : KK) (a : Addr) (h : Heap) : (E Tryz.prog X T S0 body (fin Tryz.prog Tryz.f45.results.toList K) (args0 0 [(.pointer (some a))]) h) = w a h K := (E0 S0 a h K).trans (rfl)
theorem hb : Tryz.f45.body = some body := by kernel_rfl
theorem ok : okCode T Tryz.f45.ntmps body = true := by kernel_rfl
theorem spec (a : Addr) (h : Heap) (K : KK) (H : w a h K) : Cl 45 [(.pointer (some a))] h K :=
  calls_of_E (T := T) Xok mix Tryz.func45 hb ok rfl (by rw [e0]; exact H)
end F45
namespace F201
def w (b : Addr) (h : Heap) (K : KK) : Prop :=
  ldS (rd h (b.add 3)) (fun _ l2 _ => bcase (decide ((Nat.cast l2 : Int) > (0 : Int))) (ldS (rd h (b.add 3)) (fun p4 l5 _ => ptrK p4 (fun a7 => (0 ≤ (IntKind.wrap .i64 ((Nat.cast l2 : Int) - (1 : Int))) ∧ (IntKind.wrap .i64 ((Nat.cast l2 : Int) - (1 : Int))) < (Nat.cast l5 : Int) ∧ ldI .u32 (rd h (a7.add (Int.toNat (IntKind.wrap .i64 ((Nat.cast l2 : Int) - (1 : Int))) * 1))) (fun n8 => ldS (rd h (b.add 3)) (fun p9 _ c11 => (0 ≤ (IntKind.wrap .i64 ((Nat.cast l2 : Int) - (1 : Int))) ∧ (IntKind.wrap .i64 ((Nat.cast l2 : Int) - (1 : Int))) ≤ (Nat.cast c11 : Int) ∧ stK h ((b.add 3).add 0) (.slice (if c11 = 0 then p9 else Option.map (fun a => Addr.add a (0 * 1)) p9) (Int.toNat (IntKind.wrap .i64 ((Nat.cast l2 : Int) - (1 : Int))) - 0) (c11 - 0)) (fun h12 => K (.int .u32 n8) h12)))))))) (ldS (rd h (b.add 2)) (fun p13 l14 c15 => newK h (.cells #[(.bool false), (.int .i64 0), (.int .u32 0), (.int .u32 0)] 195) (fun b16 h17 => appK h17 195 4 24 #[(.bool false), (.int .i64 0), (.int .u32 0), (.int .u32 0)] p13 l14 c15 (some (Addr.mk b16 0 none)) 1 (fun p18 l19 c20 h21 => stK h21 ((b.add 2).add 0) (.slice p18 l19 c20) (fun h22 => ldS (rd h22 (b.add 2)) (fun _ l24 _ => K (.int .u32 (IntKind.wrap .u32 (IntKind.wrap .i64 ((IntKind.wrap .i64 ((Nat.cast l24 : Int) - (1 : Int))) + (2 : Int))))) h22)))))))
theorem spec (b : Addr) (h : Heap) (K : KK) (H : w b h K) : Cl 201 [(.pointer (some b))] h K :=
  cE Xok mix Tryz.func201 (by kernel_rfl) (by kernel_rfl) rfl (by kernel_rfl) H
end F201
namespace F75
def w (a : Addr) (h : Heap) (K : KK) : Prop :=
  ldP (rd h (a.add 1)) (fun p1 => Cl 119 [(.pointer p1)] h (fun v2 h3 => ldI .i64 (some v2) (fun n4 => K (.int .i64 n4) h3)))
theorem spec (a : Addr) (h : Heap) (K : KK) (H : w a h K) : Cl 75 [(.pointer (some a))] h K :=
  cE Xok mix Tryz.func75 (by kernel_rfl) (by kernel_rfl) rfl (by kernel_rfl) H
end F75
namespace F47
def w (a : Addr) (h : Heap) (K : KK) : Prop :=
  ldP (rd h (a.add 1)) (fun p1 => Cl 104 [(.pointer p1)] h (fun v2 h3 => ldP (some v2) (fun p4 => K (.pointer p4) h3)))
theorem spec (a : Addr) (h : Heap) (K : KK) (H : w a h K) : Cl 47 [(.pointer (some a))] h K :=
  cE Xok mix Tryz.func47 (by kernel_rfl) (by kernel_rfl) rfl (by kernel_rfl) H
end F47
namespace F198
def w (a b c : Int) (h : Heap) (K : KK) : Prop :=
  Cl 245 [(.int .u8 (IntKind.wrap .u8 a)), (.int .u32 b), (.int .u32 c)] h (fun v1 h2 => ldI .u64 (some v1) (fun n3 => K (.int .u64 n3) h2))
theorem spec (a b c : Int) (h : Heap) (K : KK) (H : w a b c h K) : Cl 198 [(.int .i64 a), (.int .u32 b), (.int .u32 c)] h K :=
  cE Xok mix Tryz.func198 (by kernel_rfl) (by kernel_rfl) rfl (by kernel_rfl) H
end F198
namespace F118
def w (_x0 : Addr) (a : Int) (h : Heap) (K : KK) : Prop :=
  bcase (decide (a ≤ (1 : Int))) (K (.int .i64 1) h) (K (.int .i64 0) h)
theorem spec (b : Addr) (a : Int) (h : Heap) (K : KK) (H : w b a h K) : Cl 118 [(.pointer (some b)), (.int .u32 a)] h K :=
  cE Xok mix Tryz.func118 (by kernel_rfl) (by kernel_rfl) rfl (by kernel_rfl) H
end F118
end
section
namespace F246
def w (b a : Int) (h : Heap) (K : KK) : Prop :=
  bcase (decide (a < (1 : Int))) (K (.int .i64 0) h) (Cl 286 [(.int .u64 b)] h (fun v1 h2 => ldI .u64 (some v1) (fun n3 => ((IntKind.wrap .u64 a) ≠ 0 ∧ K (.int .i64 (IntKind.wrap .i64 (Int.tmod n3 (IntKind.wrap .u64 a)))) h2))))
theorem spec (b a : Int) (h : Heap) (K : KK) (H : w b a h K) : Cl 246 [(.int .u64 b), (.int .i64 a)] h K :=
  cE Xok mix Tryz.func246 (by kernel_rfl) (by kernel_rfl) rfl (by kernel_rfl) H
end F246
namespace F286
def T : Hint := ⟨[(2, [0, 5, 6]), (7, [0])], []⟩
noncomputable def body : Code := (Tryz.f286.body).getD .skip
noncomputable def en (S : Stop) (p : List Nat) (κ : XK) : Fr → Heap → Prop := E Tryz.prog X T S (sub body p) κ
noncomputable def ln (S : Stop) (p : List Nat) (κ : XK) (n : Nat) : Fr → Heap → Prop := loopN S (E Tryz.prog X T S (sub body p)) (cutQ T (sub body p)) κ n
def fn (K : KK) : XK := fin Tryz.prog Tryz.f286.results.toList K
noncomputable def c0 (S : Stop) (K : KK) : XK := seqN S (cutQ T (sub body [1, 1])) (en S [1, 1] (fn K)) (fn K)
noncomputable def c1 (S : Stop) (K : KK) : XK := blockN 0 (c0 S K)
noncomputable def c2 (S : Stop) (n2 : Nat) (K : KK) : XK := backN S (cutQ T (sub body [1, 0, 1, 0, 0])) (ln S [1, 0, 1, 0, 0] (c1 S K) n2) (c1 S K)
def f2 (a b : Int) : Fr := [(0, (.int .u64 a)), (5, (.agg #[(.int .u64 18397679294719823053), (.int .u64 14181476777654086739)])), (6, (.int .i64 b))]
def f7 (a : Int) : Fr := [(0, (.int .u64 a))]
def J0 (k2 : Int → Int → Heap → Prop) (a : Int) (h : Heap) (_K : KK) : Prop :=
  k2 a (0 : Int) h
theorem E0 (S : Stop) (a : Int) (h : Heap) (K : KK) : (E Tryz.prog X T S body (fin Tryz.prog Tryz.f286.results.toList K) (args0 0 [(.int .u64 a)]) h) = J0 (fun a b h => S (en S [1, 0, 1] (c0 S K)) (f2 a b) h) a h K := by kernel_rfl
def Jk2 (lp2 : Int → Int → Heap → Prop) (a b : Int) (h : Heap) (_K : KK) : Prop :=
  lp2 a b h
theorem Ek2 (S : Stop) (a b : Int) (h : Heap) (K : KK) : (en S [1, 0, 1] (c0 S K) (f2 a b) h) = Jk2 (fun a b h => ∃ n, S (ln S [1, 0, 1, 0, 0] (c1 S K) n) (f2 a b) h) a b h K := by kernel_rfl
def JL2 (bk2 : Int → Int → Heap → Prop) (k7 : Int → Heap → Prop) (a b : Int) (h : Heap) (_K : KK) : Prop :=
  bcase (decide (b < (2 : Int))) ((0 ≤ b ∧ b < (Nat.cast 2 : Int) ∧ ldI .u64 ([(.int .u64 18397679294719823053), (.int .u64 14181476777654086739)] : List Value)[Int.toNat b]? (fun n1 => (0 ≤ (33 : Int) ∧ bk2 (IntKind.wrap .u64 ((bitsI .xor .u64 a (Int.fdiv a (2 ^ (min (Int.toNat (33 : Int)) (IntKind.bits .u64))))) * n1)) (IntKind.wrap .i64 (b + (1 : Int))) h)))) (k7 a h)
theorem EL2 (S : Stop) (n2 : Nat) (a b : Int) (h : Heap) (K : KK) : (en S [1, 0, 1, 0, 0] (c2 S n2 K) (f2 a b) h) = JL2 (fun a b h => S (ln S [1, 0, 1, 0, 0] (c1 S K) n2) (f2 a b) h) (fun a h => S (en S [1, 1] (fn K)) (f7 a) h) a b h K := by kernel_rfl
def Jk7 (a : Int) (h : Heap) (K : KK) : Prop :=
  (0 ≤ (33 : Int) ∧ K (.int .u64 (bitsI .xor .u64 a (Int.fdiv a (2 ^ (min (Int.toNat (33 : Int)) (IntKind.bits .u64)))))) h)
theorem Ek7 (S : Stop) (a : Int) (h : Heap) (K : KK) : (en S [1, 1] (fn K) (f7 a) h) = Jk7 a h K := by kernel_rfl
def wk7 (a : Int) (h : Heap) (K : KK) : Prop :=
  Jk7 a h K
theorem ek7 (K : KK) (a : Int) (h : Heap) : (en S0 [1, 1] (fn K) (f7 a) h) = wk7 a h K := (Ek7 S0 a h K).trans (rfl)
def wL2 : Nat → Int → Int → Heap → KK → Prop
  | 0, _, _, _, _ => False
  | n + 1, a, b, h, K => JL2 (fun a b h => wL2 n a b h K) (fun a h => wk7 a h K) a b h K
theorem eL2 (K : KK) : ∀ (n : Nat) (a b : Int) (h : Heap), (ln S0 [1, 0, 1, 0, 0] (c1 S0 K) n (f2 a b) h) = wL2 n a b h K
  | 0, _, _, _ => rfl
  | n + 1, a, b, h => (EL2 S0 n a b h K).trans (cg2 (fun q0 q1 => JL2 q0 q1 a b h K) (by funext a b h; exact (fun a b h => eL2 K n a b h) a b h) (by funext a h; exact ek7 K a h))
def wk2 (a b : Int) (h : Heap) (K : KK) : Prop :=
  Jk2 (fun a b h => ∃ m, wL2 m a b h K) a b h K
theorem ek2 (K : KK) (a b : Int) (h : Heap) : (en S0 [1, 0, 1] (c0 S0 K) (f2 a b) h) = wk2 a b h K := (Ek2 S0 a b h K).trans (cg1 (fun q0 => Jk2 q0 a b h K) (by funext a b h; exact ex_congr fun m => eL2 K m a b h))
def w (a : Int) (h : Heap) (K : KK) : Prop :=
  J0 (fun a b h => wk2 a b h K) a h K
theorem e0 (K : KK) (a : Int) (h : Heap) : (E Tryz.prog X T S0 body (fin Tryz.prog Tryz.f286.results.toList K) (args0 0 [(.int .u64 a)]) h) = w a h K := (E0 S0 a h K).trans (cg1 (fun q0 => J0 q0 a h K) (by funext a b h; exact ek2 K a b h))
theorem hb : Tryz.f286.body = some body := by kernel_rfl
theorem ok : okCode T Tryz.f286.ntmps body = true := by kernel_rfl
theorem spec (a : Int) (h : Heap) (K : KK) (H : w a h K) : Cl 286 [(.int .u64 a)] h K :=
  calls_of_E (T := T) Xok mix Tryz.func286 hb ok rfl (by rw [e0]; exact H)
end F286
namespace F245
def w (a b c : Int) (h : Heap) (K : KK) : Prop :=
  (0 ≤ (56 : Int) ∧ (0 ≤ (28 : Int) ∧ K (.int .u64 (bitsI .or .u64 (bitsI .or .u64 (IntKind.wrap .u64 ((IntKind.wrap .u64 a) * 2 ^ (min (Int.toNat (56 : Int)) (IntKind.bits .u64)))) (IntKind.wrap .u64 ((IntKind.wrap .u64 (bitsI .and .u32 b (268435455 : Int))) * 2 ^ (min (Int.toNat (28 : Int)) (IntKind.bits .u64))))) (IntKind.wrap .u64 (bitsI .and .u32 c (268435455 : Int))))) h))
theorem spec (a b c : Int) (h : Heap) (K : KK) (H : w a b c h K) : Cl 245 [(.int .u8 a), (.int .u32 b), (.int .u32 c)] h K :=
  cE Xok mix Tryz.func245 (by kernel_rfl) (by kernel_rfl) rfl (by kernel_rfl) H
end F245
end
section
def At (h : Heap) (b : Nat) (c : List Value) : Prop := ∃ e, h[b]? = some (.cells c.toArray e)
structure Only (S : List Nat) (h h' : Heap) : Prop where
  size : h.size ≤ h'.size
  same : ∀ b, b < h.size → b ∉ S → h'[b]? = h[b]?
  fzn : ∀ a, fz h' a = fz h a

theorem At.lt {h : Heap} {b : Nat} {c : List Value} (H : At h b c) : b < h.size := by
  obtain ⟨e, H⟩ := H
  exact (Array.getElem?_eq_some_iff.1 H).1
theorem At.rd {h : Heap} {b : Nat} {c : List Value} (H : At h b c) (i : Nat) : rd h ⟨b, i, none⟩ = c[i]? := by
  obtain ⟨e, H⟩ := H
  simp [Ev.rd, H]
theorem At.fz {h : Heap} {b : Nat} {c : List Value} (H : At h b c) (i : Nat) (s : Option Nat) : fz h ⟨b, i, s⟩ = false := by
  obtain ⟨e, H⟩ := H
  simp [Ev.fz, H]
theorem At.only {S : List Nat} {h h' : Heap} {b : Nat} {c : List Value} (H : At h b c) (O : Only S h h') (hb : b ∉ S) : At h' b c := by
  obtain ⟨e, H⟩ := H
  exact ⟨e, (O.same b (Array.getElem?_eq_some_iff.1 H).1 hb).trans H⟩
theorem Only.refl (S : List Nat) (h : Heap) : Only S h h := ⟨Nat.le_refl _, fun _ _ _ => rfl, fun _ => rfl⟩
theorem Only.trans {S T : List Nat} {h h' h'' : Heap} (A : Only S h h') (B : Only T h' h'') (hT : ∀ b, b ∈ T → b < h.size → b ∈ S) : Only S h h'' :=
  ⟨Nat.le_trans A.size B.size, fun b hb hS => (B.same b (Nat.lt_of_lt_of_le hb A.size) (fun hbT => hS (hT b hbT hb))).trans (A.same b hb hS),
   fun a => (B.fzn a).trans (A.fzn a)⟩
theorem Only.mono {S T : List Nat} {h h' : Heap} (A : Only S h h') (hS : ∀ b, b ∈ S → b < h.size → b ∈ T) : Only T h h' :=
  Only.trans (Only.refl T h) A hS
theorem Only.push_cells (h : Heap) (c : Array Value) (e : TypeId) : Only [] h (h.push (.cells c e)) := by
  refine ⟨by simp, fun b hb _ => by simp [Array.getElem?_push, Nat.ne_of_lt hb], fun a => ?_⟩
  unfold fz
  rw [Array.getElem?_push]
  by_cases ha : a.block = h.size
  · rw [if_pos ha, ha]
    simp
  · rw [if_neg ha]
theorem Only.push_map (h : Heap) (es : Array MapEntry) (n : Nat) : Only [] h (h.push (.map es n)) := by
  refine ⟨by simp, fun b hb _ => by simp [Array.getElem?_push, Nat.ne_of_lt hb], fun a => ?_⟩
  unfold fz
  rw [Array.getElem?_push]
  by_cases ha : a.block = h.size
  · rw [if_pos ha, ha]
    simp
  · rw [if_neg ha]
theorem wr_other (h : Heap) (a : Addr) (v : Value) (b : Nat) (hb : b ≠ a.block) : (wr h a v)[b]? = h[b]? := by
  unfold wr
  rw [Array.getElem?_modify, if_neg (fun e => hb e.symm)]
theorem Only.wr (h : Heap) (a : Addr) (v : Value) : Only [a.block] h (wr h a v) := by
  refine ⟨by simp [Ev.wr], fun b _ hS => wr_other h a v b (by simpa using hS), fun x => ?_⟩
  unfold Ev.fz
  by_cases hx : x.block = a.block
  · unfold Ev.wr
    rw [Array.getElem?_modify, if_pos hx.symm]
    cases hh : h[x.block]? with
    | none => simp
    | some o => cases o <;> simp
  · rw [wr_other h a v x.block hx]
theorem At.wr {h : Heap} {b : Nat} {c : List Value} (H : At h b c) (i : Nat) (v : Value) : At (wr h ⟨b, i, none⟩ v) b (c.set i v) := by
  obtain ⟨e, H⟩ := H
  refine ⟨e, ?_⟩
  unfold Ev.wr
  rw [Array.getElem?_modify, if_pos rfl, H]
  simp
theorem At.push (h : Heap) (c : Array Value) (e : TypeId) : At (h.push (.cells c e)) h.size c.toList := ⟨e, by simp⟩
@[simp] theorem add_mk (b o n : Nat) : Addr.add ⟨b, o, none⟩ n = ⟨b, o + n, none⟩ := by
  unfold Addr.add
  split
  · next h => subst h; rfl
  · rfl
theorem add_zero (a : Addr) : Addr.add a 0 = a := by simp [Addr.add]

theorem ldI_of {k : IntKind} {x : Option Value} {K : Int → Prop} {n : Int} (hx : x = some (.int k n)) (hK : K n) : ldI k x K := ⟨n, hx, hK⟩
theorem ldB_of {x : Option Value} {K : Bool → Prop} {n : Bool} (hx : x = some (.bool n)) (hK : K n) : ldB x K := ⟨n, hx, hK⟩
theorem ldP_of {x : Option Value} {K : Option Addr → Prop} {n : Option Addr} (hx : x = some (.pointer n)) (hK : K n) : ldP x K := ⟨n, hx, hK⟩
theorem ldS_of {x : Option Value} {K : Option Addr → Nat → Nat → Prop} {p : Option Addr} {l c : Nat} (hx : x = some (.slice p l c)) (hK : K p l c) : ldS x K := ⟨p, l, c, hx, hK⟩
@[simp] theorem ldI_some {k : IntKind} {K : Int → Prop} {n : Int} : ldI k (some (.int k n)) K ↔ K n :=
  ⟨fun ⟨m, e, h⟩ => by injection e with e; injection e with _ e; exact e ▸ h, ldI_of rfl⟩
@[simp] theorem ldB_some {K : Bool → Prop} {n : Bool} : ldB (some (.bool n)) K ↔ K n :=
  ⟨fun ⟨m, e, h⟩ => by injection e with e; injection e with e; exact e ▸ h, ldB_of rfl⟩
@[simp] theorem ldP_some {K : Option Addr → Prop} {n : Option Addr} : ldP (some (.pointer n)) K ↔ K n :=
  ⟨fun ⟨m, e, h⟩ => by injection e with e; injection e with e; exact e ▸ h, ldP_of rfl⟩
@[simp] theorem ldS_some {K : Option Addr → Nat → Nat → Prop} {p : Option Addr} {l c : Nat} : ldS (some (.slice p l c)) K ↔ K p l c :=
  ⟨fun ⟨_, _, _, e, h⟩ => by injection e with e; injection e with e1 e2 e3; subst e1; subst e2; subst e3; exact h, ldS_of rfl⟩
@[simp] theorem ldM_some {K : Option Nat → Prop} {n : Option Nat} : ldM (some (.map n)) K ↔ K n :=
  ⟨fun ⟨m, e, h⟩ => by injection e with e; injection e with e; exact e ▸ h, fun h => ⟨n, rfl, h⟩⟩
@[simp] theorem ldV_some {K : Value → Prop} {v : Value} : ldV (some v) K ↔ K v :=
  ⟨fun ⟨m, e, h⟩ => by injection e with e; exact e ▸ h, fun h => ⟨v, rfl, h⟩⟩
@[simp] theorem ptrK_some {a : Addr} {K : Addr → Prop} : ptrK (some a) K ↔ K a := Iff.rfl
@[simp] theorem bcase_true {t f : Prop} : bcase true t f ↔ t := Iff.rfl
@[simp] theorem bcase_false {t f : Prop} : bcase false t f ↔ f := Iff.rfl
theorem bcase_of {b : Bool} {t f : Prop} (ht : b = true → t) (hf : b = false → f) : bcase b t f := by
  cases b with
  | true => exact ht rfl
  | false => exact hf rfl

theorem stK_at {h : Heap} {b i : Nat} {c : List Value} {v : Value} {K : Heap → Prop} (H : At h b c) (hi : i < c.length) (hv : v.oneCell' = true)
    (hK : ∀ h', At h' b (c.set i v) → Only [b] h h' → h'.size = h.size → K h') : stK h ⟨b, i, none⟩ v K := by
  unfold stK
  rw [hv]
  refine ⟨?_, H.fz i none, hK _ (H.wr i v) (Only.wr h ⟨b, i, none⟩ v) (by simp [Ev.wr])⟩
  rw [H.rd]
  simp [hi]
theorem newK_at {h : Heap} {c : Array Value} {e : TypeId} {K : Nat → Heap → Prop}
    (hK : ∀ h', At h' h.size c.toList → Only [] h h' → h'.size = h.size + 1 → K h.size h') : newK h (.cells c e) K :=
  hK _ (At.push h c e) (Only.push_cells h c e) (by simp)
theorem wrap_i64 {n : Int} (h0 : -9223372036854775808 ≤ n) (h1 : n < 9223372036854775808) : IntKind.wrap .i64 n = n := by
  rw [IntKind.wrap_i64]; omega
theorem wrap_u64 {n : Int} (h0 : 0 ≤ n) (h1 : n < 18446744073709551616) : IntKind.wrap .u64 n = n := by
  simp [IntKind.wrap, IntKind.bits, IntKind.signed]; omega
theorem wrap_u64' (n : Int) : IntKind.wrap .u64 n = n % 18446744073709551616 := by
  simp [IntKind.wrap, IntKind.bits, IntKind.signed]
theorem dynK_go {P : Program} {X : List (Nat × Ext)} {g : Nat} {first captured : Array Value} {args : List Value} {h : Heap} {K : Value → Heap → Prop} (hx : xget X g = some .go)
    (H : CallsH P g (first.toList ++ args ++ captured.toList) h K) : dynK P X (.func (.func g) first captured) args h K := by
  unfold dynK
  simp only [hx]
  exact H
end
section
open Go Go.ChangeShapes Go.WideShapes Go.ChangeAt Go.RowKit
def Lawful (h : Heap) (v : Value) (h' : Heap) : Prop := v = .bool true ∧ Only [] h h'

theorem frz (w : World) (a : Addr) : w.frozen? a = fz w.heap a := by
  unfold World.frozen? fz
  rfl
theorem law_calls {P : Program} {f : FuncId} {args : List Value} {W : World} (H : CallsH P f args W.heap (Lawful W.heap)) :
    Calls P f args.toArray W fun e W' => e = .returned (.bool true) ∧ Below W.heap.size W W' ∧ ∀ a, W'.frozen? a = W.frozen? a := by
  refine (H W rfl).mono fun e W' ⟨v, he, hs, hv, hO⟩ => ?_
  subst hv
  exact ⟨he, ⟨hs.1, hs.2.1, hs.2.2, hO.size, fun k hk => hO.same k hk (by simp)⟩, fun a => by rw [frz, frz]; exact hO.fzn a⟩

theorem trodAll_stays {H : Type} {enc : TypeId × Value → H} {P : Program} (hl : laidOutB P = true) {W W' : World} {sp : Nat → Bool} :
    ∀ (ts : List TypeId) (vs : List Value) (ds : List (DataW H)) (ps : List MemPlace), ts.all (fun t => P.readableRec t && decide (t < P.types.size)) = true →
      DataW.TrodAll enc P W 0 (fun _ => true) true ts vs ds ps → (∀ p ∈ ps, W.sameAt W' p) → (∀ p ∈ ps, sp p.block = true) → DataW.TrodAll enc P W' 0 sp true ts vs ds ps
  | [], [], [], _, _, h, _, _ => h
  | t :: ts, v :: vs, d :: ds, ps, hr, ⟨p, q, hd, hds, e⟩, hsame, hsp => by
    subst e
    simp only [List.all_cons, Bool.and_eq_true, decide_eq_true_eq] at hr
    exact ⟨p, q, WideElems.Trod_stays hl hr.1.1 hr.1.2 hd (fun x hx => hsame x (List.mem_append.2 (.inl hx))) (fun x hx => hsp x (List.mem_append.2 (.inl hx))),
      trodAll_stays hl ts vs ds q hr.2 hds (fun x hx => hsame x (List.mem_append.2 (.inr hx))) (fun x hx => hsp x (List.mem_append.2 (.inr hx))), rfl⟩
  | [], _ :: _, _, _, _, h, _, _ => h.elim
  | [], [], _ :: _, _, _, h, _, _ => h.elim
  | _ :: _, [], _, _, _, h, _, _ => h.elim
  | _ :: _, _ :: _, [], _, _, h, _, _ => h.elim

theorem post_law {H : Type} {enc : TypeId × Value → H} {P : Program} {f : Func} {s : ChangeSpec} {apart fresh handsOn again : Bool} {W W' : World} {args : Array Value} {ds gs : List (DataW H)} {before : List MemPlace} {tb : TypeId}
    (hl : laidOutB P = true) (hread : f.params.toList.all (fun t => P.readableRec t && decide (t < P.types.size)) = true)
    (hres : f.resultTypes = #[tb]) (hb : P.underlying tb = some .bool) (hvars : s.vars = [])
    (hW : DataW.Whole enc P f.params.toList s.vars apart W args.toList ds gs before)
    (hs : s.fn H ds = { results := [.lit (.bool true)], args := ds })
    (hB : Below W.heap.size W W') (hfz : ∀ a, W'.frozen? a = W.frozen? a) : s.post enc P f apart fresh handsOn again W args (.bool true) W' := by
  have hlt : ∀ p ∈ before, p.block < W.heap.size := fun p hp => hW.lt p hp
  obtain ⟨p, q, hA, hV, rfl, hz, hn⟩ := id hW
  rw [hvars] at hV
  obtain ⟨rfl, rfl⟩ : gs = [] ∧ q = [] := by
    cases gs with
    | nil => exact ⟨rfl, hV⟩
    | cons _ _ => exact hV.elim
  refine post_of_same (pa := p) (pv := []) hW (fun _ _ _ => ?_) (fun sp hsp => ?_) (fun sp hsp => ?_) rfl (hB.frame _) hfz ?_
  · rw [hres, List.append_nil, hs]
    exact trodAll_cons_mk (shut_bool hb _) trodAll_mk0
  · rw [List.append_nil, hs]
    exact trodAll_stays hl _ _ _ _ hread hA (fun x hx => hB.same (hlt x (List.mem_append.2 (.inl hx)))) (fun x hx => hsp x (List.mem_append.2 (.inl hx)))
  · rw [List.append_nil, hs, hvars]
    rfl
  · exact ok_one hres rfl (okWide_bool_mk hb _)

def Ints (h : Heap) (k : IntKind) (p : Option Addr) (zs : List Int) : Prop :=
  ∀ i, i < zs.length → ∃ a, p = some a ∧ rd h (a.add i) = some (.int k (zs.getD i 0))
theorem Ints.only {S : List Nat} {h h' : Heap} {k : IntKind} {p : Option Addr} {zs : List Int} (H : Ints h k p zs) (O : Only S h h') (hS : ∀ b ∈ S, h.size ≤ b) : Ints h' k p zs := by
  intro i hi
  obtain ⟨a, e, hr⟩ := H i hi
  refine ⟨a, e, ?_⟩
  rw [← hr]
  have hb : (a.add i).block < h.size := by
    apply Classical.byContradiction
    intro hn
    have : h[(a.add i).block]? = none := Array.getElem?_eq_none (by omega)
    simp [rd, this] at hr
  unfold rd
  rw [O.same _ hb fun hm => absurd (hS _ hm) (by omega)]
theorem wf_range {k : IntKind} {n : Int} (h : (Lit.int k n).wf = true) : k.min ≤ n ∧ n ≤ k.max := by
  simpa [Lit.wf] using h
theorem open_sl {H : Type} {enc : TypeId × Value → H} {P : Program} {W : World} {r : Reach} {b0 base : Nat} {sp : Nat → Bool} {held : Bool} {t e : TypeId} {k : IntKind} {v : Value} {d : DataW H} {ps : List MemPlace}
    (ht : P.underlying t = some (.slice e)) (he : P.underlying e = some (.int k)) (hc : P.cellsOf e = 1) (hval : Value.okWide P W r b0 t v)
    (hd : DataW.Trod enc P W base sp held t v d ps) (hsp : ∀ b, sp b = true) :
    ∃ (p : Option Addr) (c : Nat) (zs : List Int), v = .slice p zs.length c ∧ Ints W.heap k p zs ∧ (∀ z ∈ zs, k.min ≤ z ∧ z ≤ k.max) ∧ (zs.length : Int) ≤ maxLen := by
  obtain ⟨a, len, cap, rfl⟩ := okWide_slice ht hval
  obtain ⟨fuel, hf⟩ := hd
  rcases open_ints ht he hc hf with ⟨hcs, -⟩ | ⟨a', len', cap', zs, hcs, -, hle, hmx, hzl, -, hcell, hwf⟩
  · simp only [Value.cells, List.cons.injEq, and_true] at hcs
    injection hcs with e1 e2 e3
    subst e1 e2 e3
    exact ⟨none, 0, [], rfl, fun i hi => absurd hi (by simp), by simp, by simp [maxLen]⟩
  · simp only [Value.cells, List.cons.injEq, and_true] at hcs
    injection hcs with e1 e2 e3
    subst e1 e2 e3
    rw [if_pos (hsp _)] at hzl
    have hl : (zs.take len).length = len := by rw [List.length_take]; omega
    refine ⟨some a', cap, zs.take len, by rw [hl], fun i hi => ⟨a', rfl, ?_⟩, fun z hz => wf_range (hwf z (List.mem_of_mem_take hz)), by rw [hl]; omega⟩
    rw [hl] at hi
    have := hcell i (by omega)
    rw [show (zs.take len).getD i 0 = zs.getD i 0 by simp [List.getD, hi]]
    exact this

theorem rd_only {S : List Nat} {h h' : Heap} {a : Addr} {v : Value} (H : rd h a = some v) (O : Only S h h') (hS : ∀ b ∈ S, h.size ≤ b) : rd h' a = some v := by
  rw [← H]
  have hb : a.block < h.size := by
    apply Classical.byContradiction
    intro hn
    have : h[a.block]? = none := Array.getElem?_eq_none (by omega)
    simp [rd, this] at H
  unfold rd
  rw [O.same _ hb fun hm => absurd (hS _ hm) (by omega)]
theorem add_add (a : Addr) (m n : Nat) : (a.add m).add n = a.add (m + n) := by
  unfold Addr.add
  by_cases hm : m = 0
  · subst hm; simp
  · by_cases hn : n = 0
    · subst hn; simp
    · rw [if_neg hm, if_neg hn, if_neg (by omega)]
      simp [Nat.add_assoc]
theorem pick {α : Type} [Inhabited α] {l : Nat} {Q : Nat → α → Prop} (H : ∀ i, i < l → ∃ n, Q i n) : ∃ f : Nat → α, ∀ i, i < l → Q i (f i) :=
  ⟨fun i => if h : i < l then (H i h).choose else default, fun i hi => by simp only [dif_pos hi]; exact (H i hi).choose_spec⟩
end
section
theorem stL_own {b o : Nat} {K : Heap → Prop} : ∀ (new : List Value) (i : Nat) (c : List Value) (h : Heap), At h b c → o + i + new.length ≤ c.length → (∀ v ∈ new, v.oneCell' = true) →
    (∀ h', At h' b (c.take (o + i) ++ new ++ c.drop (o + i + new.length)) → Only [b] h h' → h'.size = h.size → K h') → stL ⟨b, o, none⟩ i new h K := by
  intro new
  induction new with
  | nil =>
    intro i c h A hi hv hK
    unfold stL
    exact hK h (by simpa using A) (Only.refl _ _) rfl
  | cons v vs ih =>
    intro i c h A hi hv hK
    simp only [List.length_cons] at hi
    unfold stL
    rw [add_mk]
    refine stK_at A (by omega) (hv v (by simp)) fun h1 A1 O1 z1 => ih (i + 1) _ h1 A1 (by simp; omega) (fun x hx => hv x (by simp [hx])) fun h2 A2 O2 z2 => hK h2 ?_ (O1.trans O2 (by simp)) (z2.trans z1)
    have e : (c.set (o + i) v).take (o + (i + 1)) = c.take (o + i) ++ [v] := by
      rw [show o + (i + 1) = (o + i) + 1 by omega, List.take_set, List.take_succ_eq_append_getElem (by omega), List.set_append_right _ _ (by simp; omega)]
      simp [List.length_take, Nat.min_eq_left (by omega : o + i ≤ c.length)]
    have e2 : (c.set (o + i) v).drop (o + (i + 1) + vs.length) = c.drop (o + i + (vs.length + 1)) := by
      rw [List.drop_set_of_lt (by omega)]
      congr 1
      omega
    rw [e, e2] at A2
    simpa using A2

def Own (h : Heap) (lo N : Nat) (p : Option Addr) (l c : Nat) (cs : List Value) : Prop :=
  cs.length = l * N ∧ ((p = none ∧ l = 0 ∧ c = 0) ∨ ∃ (b : Nat) (sp : List Value), p = some ⟨b, 0, none⟩ ∧ lo ≤ b ∧ l ≤ c ∧ sp.length = (c - l) * N ∧ At h b (cs ++ sp))
def OwnB : Option Addr → List Nat
  | some a => [a.block]
  | none => []
theorem Own.nil (h : Heap) (lo N : Nat) : Own h lo N none 0 0 [] := ⟨by simp, Or.inl ⟨rfl, rfl, rfl⟩⟩
theorem Own.only {S : List Nat} {h h' : Heap} {lo N : Nat} {p : Option Addr} {l c : Nat} {cs : List Value} (H : Own h lo N p l c cs) (O : Only S h h') (hS : ∀ b, p = some ⟨b, 0, none⟩ → b ∉ S) : Own h' lo N p l c cs := by
  obtain ⟨e, H⟩ := H
  rcases H with H | ⟨b, sp, h1, h2, h3, h4, h5⟩
  · exact ⟨e, Or.inl H⟩
  · exact ⟨e, Or.inr ⟨b, sp, h1, h2, h3, h4, h5.only O (hS b h1)⟩⟩
theorem Own.lt {h : Heap} {lo N : Nat} {p : Option Addr} {l c : Nat} {cs : List Value} (H : Own h lo N p l c cs) : ∀ b ∈ OwnB p, lo ≤ b ∧ b < h.size := by
  obtain ⟨-, H⟩ := H
  rcases H with ⟨e, -⟩ | ⟨b, sp, h1, h2, -, -, h5⟩
  · subst e; simp [OwnB]
  · subst h1
    intro x hx
    simp [OwnB] at hx
    subst hx
    exact ⟨h2, h5.lt⟩
theorem Own.rd {h : Heap} {lo N : Nat} {p : Option Addr} {l c : Nat} {cs : List Value} (H : Own h lo N p l c cs) {j : Nat} (hj : j < cs.length) : ∃ b, p = some ⟨b, 0, none⟩ ∧ rd h ⟨b, j, none⟩ = cs[j]? := by
  obtain ⟨e, H⟩ := H
  rcases H with ⟨-, h0, -⟩ | ⟨b, sp, h1, h2, -, -, h5⟩
  · subst h0
    simp at e
    simp [e] at hj
  · exact ⟨b, h1, by rw [h5.rd, List.getElem?_append_left hj]⟩
theorem isRow_at {h : Heap} {b o : Nat} {c new : List Value} (A : At h b c) (hn : ∀ j v, new[j]? = some v → c[o + j]? = some v) : isRow h ⟨b, o, none⟩ new := by
  intro j v hj
  rw [add_mk, A.rd]
  exact hn j v hj
theorem size_zeroCells (z : Array Value) (n : Nat) : (Builtin.zeroCells z n).toList.length = n * z.size := by
  simp [Builtin.zeroCells]
theorem own_app {h : Heap} {lo N by_ : Nat} {z : Array Value} {p : Option Addr} {l c bx : Nat} {cs new : List Value} {e : TypeId} {K : Option Addr → Nat → Nat → Heap → Prop}
    (H : Own h lo N p l c cs) (A : At h bx new) (hnew : new.length = N) (hz : z.size = N) (hcap : (l + 1) * by_ ≤ 140737488355328) (hv : ∀ v ∈ new, v.oneCell' = true) (hlo : lo ≤ h.size)
    (hK : ∀ p' c' h', Own h' lo N p' (l + 1) c' (cs ++ new) → Only (OwnB p) h h' → (∀ b ∈ OwnB p', b ∈ OwnB p ∨ h.size ≤ b) → K p' (l + 1) c' h') :
    appK h e N by_ z p l c (some ⟨bx, 0, none⟩) 1 K := by
  obtain ⟨hlen, H⟩ := H
  refine ⟨new, by omega, isRow_at A (by simp), fun hle => ?_, fun hlt => ⟨cs, hlen, ?_, hcap, fun cap hc => ?_⟩⟩
  · rcases H with ⟨-, h0, h1⟩ | ⟨b, sp, rfl, h2, h3, h4, h5⟩
    · omega
    · show stL ((⟨b, 0, none⟩ : Addr).add (l * N)) 0 new h _
      rw [add_mk, Nat.zero_add]
      have hsp : N ≤ sp.length := by
        rw [h4]
        have : 1 * N ≤ (c - l) * N := Nat.mul_le_mul_right _ (by omega)
        omega
      refine stL_own new 0 _ h h5 (by simp; omega) hv fun h' A' O' z' => hK _ _ h' ⟨by simp [hlen, hnew, Nat.add_mul], Or.inr ⟨b, sp.drop N, rfl, h2, hle, ?_, ?_⟩⟩ O' fun x hx => Or.inl hx
      · rw [List.length_drop, h4, show c - l = (c - (l + 1)) + 1 by omega, Nat.add_mul]
        omega
      · rw [Nat.add_zero, ← hlen, List.take_left, hnew, List.drop_append, List.drop_eq_nil_of_le (by omega : cs.length ≤ cs.length + N)] at A'
        simpa using A'
  · rcases H with ⟨e, h0, -⟩ | ⟨b, sp, rfl, -, -, -, h5⟩
    · subst e
      exact h0
    · exact isRow_at h5 fun j v hj => by
        rw [Nat.zero_add, List.getElem?_append_left (List.getElem?_eq_some_iff.1 hj).1]
        exact hj
  · refine hK _ _ _ ⟨by simp [hlen, hnew, Nat.add_mul], Or.inr ⟨h.size, (Builtin.zeroCells z (cap - (l + 1))).toList, rfl, hlo, hc, by rw [size_zeroCells, hz], ?_⟩⟩ ((Only.push_cells h _ e).mono (by simp)) fun x hx => Or.inr ?_
    · have := At.push h (cs.toArray ++ new.toArray ++ Builtin.zeroCells z (cap - (l + 1))) e
      simpa using this
    · simp [OwnB] at hx
      omega
theorem Own.set {h : Heap} {lo N : Nat} {l c b j : Nat} {cs : List Value} {v : Value} {K : Heap → Prop} (H : Own h lo N (some ⟨b, 0, none⟩) l c cs) (hj : j < cs.length) (hv : v.oneCell' = true)
    (hK : ∀ h', Own h' lo N (some ⟨b, 0, none⟩) l c (cs.set j v) → Only [b] h h' → K h') : stK h ⟨b, j, none⟩ v K := by
  obtain ⟨e, H⟩ := H
  rcases H with ⟨h1, -⟩ | ⟨b', sp, h1, h2, h3, h4, h5⟩
  · cases h1
  · injection h1 with h1
    injection h1 with h1
    subst h1
    refine stK_at h5 (by simp; omega) hv fun h' A O _ => hK h' ⟨by simp [e], Or.inr ⟨b, sp, rfl, h2, h3, h4, ?_⟩⟩ O
    rw [List.set_append_left _ _ hj] at A
    exact A
def rowV (L : Nat) (g : Nat → Value) : List Value := (List.range L).map g
theorem rowV_len (L : Nat) (g : Nat → Value) : (rowV L g).length = L := by simp [rowV]
theorem rowV_get {L k : Nat} {g : Nat → Value} (hk : k < L) : (rowV L g)[k]? = some (g k) := by simp [rowV, hk]
theorem rowV_set (L k : Nat) (g : Nat → Value) (v : Value) : (rowV L g).set k v = rowV L fun j => if j = k then v else g j := by
  apply List.ext_getElem?
  intro i
  by_cases hi : i < L
  · rw [rowV_get hi, List.getElem?_set]
    by_cases h : k = i
    · subst h
      rw [if_pos rfl, if_pos (by rw [rowV_len]; exact hi), if_pos rfl]
    · rw [if_neg h, rowV_get hi, if_neg (Ne.symm h)]
  · rw [List.getElem?_eq_none (by simp [rowV_len]; omega), List.getElem?_eq_none (by simp [rowV_len]; omega)]
theorem rowV_succ (L : Nat) (g : Nat → Value) : rowV (L + 1) g = rowV L g ++ [g L] := by simp [rowV, List.range_succ]
theorem rowV_ext {L : Nat} {g g' : Nat → Value} (h : ∀ k, k < L → g k = g' k) : rowV L g = rowV L g' := List.map_congr_left fun k hk => h k (List.mem_range.1 hk)

end
section
namespace F87
def T : Hint := ⟨[], [(1, [[(0, []), (1, []), (2, []), (3, []), (4, []), (5, []), (6, []), (7, []), (8, []), (9, []), (10, []), (11, []), (12, []), (13, []), (14, []), (15, [])]])]⟩
noncomputable def body : Code := (Tryz.f87.body).getD .skip
def J0 (b : Addr) (a : Int) (c : Bool) (h : Heap) (K : KK) : Prop :=
  bcase c (((64 : Int) ≠ 0 ∧ ((64 : Int) ≠ 0 ∧ (0 ≤ (IntKind.wrap .u8 (Int.tdiv a (64 : Int))) ∧ (IntKind.wrap .u8 (Int.tdiv a (64 : Int))) < (Nat.cast 4 : Int) ∧ ldI .u64 (rd h (b.add (Int.toNat (IntKind.wrap .u8 (Int.tdiv a (64 : Int))) * 1))) (fun n1 => ((64 : Int) ≠ 0 ∧ (0 ≤ (Int.tmod a (64 : Int)) ∧ (0 ≤ (IntKind.wrap .u8 (Int.tdiv a (64 : Int))) ∧ (IntKind.wrap .u8 (Int.tdiv a (64 : Int))) < (Nat.cast 4 : Int) ∧ stK h ((b.add (Int.toNat (IntKind.wrap .u8 (Int.tdiv a (64 : Int))) * 1)).add 0) (.int .u64 (bitsI .or .u64 n1 (IntKind.wrap .u64 ((1 : Int) * 2 ^ (min (Int.toNat (Int.tmod a (64 : Int))) (IntKind.bits .u64)))))) (fun h2 => K (.tuple #[]) h2))))))))) (K (.tuple #[]) h)
theorem E0 (S : Stop) (b : Addr) (a : Int) (c : Bool) (h : Heap) (K : KK) : (E Tryz.prog X T S body (fin Tryz.prog Tryz.f87.results.toList K) (args0 0 [(.pointer (some b)), (.int .u8 a), (.bool c)]) h) = J0 b a c h K := by kernel_rfl
def w (b : Addr) (a : Int) (c : Bool) (h : Heap) (K : KK) : Prop :=
  J0 b a c h K
theorem e0 (K : KK) (b : Addr) (a : Int) (c : Bool) (h : Heap) : (E Tryz.prog X T S0 body (fin Tryz.prog Tryz.f87.results.toList K) (args0 0 [(.pointer (some b)), (.int .u8 a), (.bool c)]) h) = w b a c h K := (E0 S0 b a c h K).trans (rfl)
theorem hb : Tryz.f87.body = some body := by kernel_rfl
theorem ok : okCode T Tryz.f87.ntmps body = true := by kernel_rfl
theorem spec (b : Addr) (a : Int) (c : Bool) (h : Heap) (K : KK) (H : w b a c h K) : Cl 87 [(.pointer (some b)), (.int .u8 a), (.bool c)] h K :=
  calls_of_E (T := T) Xok mix Tryz.func87 hb ok rfl (by rw [e0]; exact H)
end F87
namespace F33
def T : Hint := ⟨[(3, [0, 2, 3, 4])], []⟩
noncomputable def body : Code := (Tryz.f33.body).getD .skip
noncomputable def en (S : Stop) (p : List Nat) (κ : XK) : Fr → Heap → Prop := E Tryz.prog X T S (sub body p) κ
noncomputable def ln (S : Stop) (p : List Nat) (κ : XK) (n : Nat) : Fr → Heap → Prop := loopN S (E Tryz.prog X T S (sub body p)) (cutQ T (sub body p)) κ n
def fn (K : KK) : XK := fin Tryz.prog Tryz.f33.results.toList K
noncomputable def c0 (S : Stop) (K : KK) : XK := seqN S (cutQ T (sub body [1, 1, 1])) (en S [1, 1, 1] (fn K)) (fn K)
noncomputable def c1 (S : Stop) (K : KK) : XK := blockN 0 (c0 S K)
noncomputable def c2 (S : Stop) (n3 : Nat) (K : KK) : XK := backN S (cutQ T (sub body [1, 1, 0, 1, 0, 0])) (ln S [1, 1, 0, 1, 0, 0] (c1 S K) n3) (c1 S K)
def f3 (b : Int) (a c : Addr) (d : Int) : Fr := [(0, (.int .i64 b)), (2, (.pointer (some a))), (3, (.pointer (some c))), (4, (.int .i64 d))]
def J0 (k3 : Int → Addr → Addr → Int → Heap → Prop) (b : Int) (h : Heap) (_K : KK) : Prop :=
  newK h (.cells #[(.int .u64 0), (.int .u64 0), (.int .u64 0), (.int .u64 0)] 51) (fun b1 h2 => newK h2 (.cells #[(.int .u64 0), (.int .u64 0), (.int .u64 0), (.int .u64 0)] 51) (fun b3 h4 => stK h4 ((Addr.mk b3 0 none).add 0) (.int .u64 0) (fun h5 => stK h5 ((Addr.mk b3 0 none).add 1) (.int .u64 0) (fun h6 => stK h6 ((Addr.mk b3 0 none).add 2) (.int .u64 0) (fun h7 => stK h7 ((Addr.mk b3 0 none).add 3) (.int .u64 0) (fun h8 => k3 b (Addr.mk b1 0 none) (Addr.mk b3 0 none) (0 : Int) h8))))))
theorem E0 (S : Stop) (b : Int) (h : Heap) (K : KK) : (E Tryz.prog X T S body (fin Tryz.prog Tryz.f33.results.toList K) (args0 0 [(.int .i64 b)]) h) = J0 (fun b a c d h => S (en S [1, 1, 0, 1] (c0 S K)) (f3 b a c d) h) b h K := by kernel_rfl
def Jk3 (lp3 : Int → Addr → Addr → Int → Heap → Prop) (b : Int) (a c : Addr) (d : Int) (h : Heap) (_K : KK) : Prop :=
  lp3 b a c d h
theorem Ek3 (S : Stop) (b : Int) (a c : Addr) (d : Int) (h : Heap) (K : KK) : (en S [1, 1, 0, 1] (c0 S K) (f3 b a c d) h) = Jk3 (fun b a c d h => ∃ n, S (ln S [1, 1, 0, 1, 0, 0] (c1 S K) n) (f3 b a c d) h) b a c d h K := by kernel_rfl
def JL3 (bk3 : Int → Addr → Addr → Int → Heap → Prop) (b : Int) (a c : Addr) (d : Int) (h : Heap) (K : KK) : Prop :=
  bcase (decide (d < (256 : Int))) (bcase (decide (b ≥ (0 : Int))) (bcase (decide (b < (8 : Int))) ((0 ≤ (IntKind.wrap .u64 b) ∧ Cl 87 [(.pointer (some c)), (.int .u8 (IntKind.wrap .u8 d)), (.bool ((bitsI .and .i64 (Int.fdiv d (2 ^ (min (Int.toNat (IntKind.wrap .u64 b)) (IntKind.bits .i64)))) (1 : Int)) == (1 : Int)))] h (fun v1 h2 => (v1 = (.tuple #[]) ∧ bk3 b a c (IntKind.wrap .i64 (d + (1 : Int))) h2)))) (ldI .u64 (rd h (c.add 0)) (fun n3 => ldI .u64 (rd h (c.add 1)) (fun n4 => ldI .u64 (rd h (c.add 2)) (fun n5 => ldI .u64 (rd h (c.add 3)) (fun n6 => stK h (a.add 0) (.int .u64 n3) (fun h7 => stK h7 (a.add 1) (.int .u64 n4) (fun h8 => stK h8 (a.add 2) (.int .u64 n5) (fun h9 => stK h9 (a.add 3) (.int .u64 n6) (fun h10 => ldI .u64 (rd h10 (a.add 0)) (fun n11 => ldI .u64 (rd h10 (a.add 1)) (fun n12 => ldI .u64 (rd h10 (a.add 2)) (fun n13 => ldI .u64 (rd h10 (a.add 3)) (fun n14 => K (.agg #[(.int .u64 n11), (.int .u64 n12), (.int .u64 n13), (.int .u64 n14)]) h10)))))))))))))) (ldI .u64 (rd h (c.add 0)) (fun n15 => ldI .u64 (rd h (c.add 1)) (fun n16 => ldI .u64 (rd h (c.add 2)) (fun n17 => ldI .u64 (rd h (c.add 3)) (fun n18 => stK h (a.add 0) (.int .u64 n15) (fun h19 => stK h19 (a.add 1) (.int .u64 n16) (fun h20 => stK h20 (a.add 2) (.int .u64 n17) (fun h21 => stK h21 (a.add 3) (.int .u64 n18) (fun h22 => ldI .u64 (rd h22 (a.add 0)) (fun n23 => ldI .u64 (rd h22 (a.add 1)) (fun n24 => ldI .u64 (rd h22 (a.add 2)) (fun n25 => ldI .u64 (rd h22 (a.add 3)) (fun n26 => K (.agg #[(.int .u64 n23), (.int .u64 n24), (.int .u64 n25), (.int .u64 n26)]) h22)))))))))))))) (ldI .u64 (rd h (c.add 0)) (fun n27 => ldI .u64 (rd h (c.add 1)) (fun n28 => ldI .u64 (rd h (c.add 2)) (fun n29 => ldI .u64 (rd h (c.add 3)) (fun n30 => stK h (a.add 0) (.int .u64 n27) (fun h31 => stK h31 (a.add 1) (.int .u64 n28) (fun h32 => stK h32 (a.add 2) (.int .u64 n29) (fun h33 => stK h33 (a.add 3) (.int .u64 n30) (fun h34 => ldI .u64 (rd h34 (a.add 0)) (fun n35 => ldI .u64 (rd h34 (a.add 1)) (fun n36 => ldI .u64 (rd h34 (a.add 2)) (fun n37 => ldI .u64 (rd h34 (a.add 3)) (fun n38 => K (.agg #[(.int .u64 n35), (.int .u64 n36), (.int .u64 n37), (.int .u64 n38)]) h34)))))))))))))
theorem EL3 (S : Stop) (n3 : Nat) (b : Int) (a c : Addr) (d : Int) (h : Heap) (K : KK) : (en S [1, 1, 0, 1, 0, 0] (c2 S n3 K) (f3 b a c d) h) = JL3 (fun b a c d h => S (ln S [1, 1, 0, 1, 0, 0] (c1 S K) n3) (f3 b a c d) h) b a c d h K := by kernel_rfl
def wL3 : Nat → Int → Addr → Addr → Int → Heap → KK → Prop
  | 0, _, _, _, _, _, _ => False
  | n + 1, b, a, c, d, h, K => JL3 (fun b a c d h => wL3 n b a c d h K) b a c d h K
theorem eL3 (K : KK) : ∀ (n : Nat) (b : Int) (a c : Addr) (d : Int) (h : Heap), (ln S0 [1, 1, 0, 1, 0, 0] (c1 S0 K) n (f3 b a c d) h) = wL3 n b a c d h K
  | 0, _, _, _, _, _ => rfl
  | n + 1, b, a, c, d, h => (EL3 S0 n b a c d h K).trans (cg1 (fun q0 => JL3 q0 b a c d h K) (by funext b a c d h; exact (fun b a c d h => eL3 K n b a c d h) b a c d h))
def wk3 (b : Int) (a c : Addr) (d : Int) (h : Heap) (K : KK) : Prop :=
  Jk3 (fun b a c d h => ∃ m, wL3 m b a c d h K) b a c d h K
theorem ek3 (K : KK) (b : Int) (a c : Addr) (d : Int) (h : Heap) : (en S0 [1, 1, 0, 1] (c0 S0 K) (f3 b a c d) h) = wk3 b a c d h K := (Ek3 S0 b a c d h K).trans (cg1 (fun q0 => Jk3 q0 b a c d h K) (by funext b a c d h; exact ex_congr fun m => eL3 K m b a c d h))
def w (b : Int) (h : Heap) (K : KK) : Prop :=
  J0 (fun b a c d h => wk3 b a c d h K) b h K
theorem e0 (K : KK) (b : Int) (h : Heap) : (E Tryz.prog X T S0 body (fin Tryz.prog Tryz.f33.results.toList K) (args0 0 [(.int .i64 b)]) h) = w b h K := (E0 S0 b h K).trans (cg1 (fun q0 => J0 q0 b h K) (by funext b a c d h; exact ek3 K b a c d h))
theorem hb : Tryz.f33.body = some body := by kernel_rfl
theorem ok : okCode T Tryz.f33.ntmps body = true := by kernel_rfl
theorem spec (b : Int) (h : Heap) (K : KK) (H : w b h K) : Cl 33 [(.int .i64 b)] h K :=
  calls_of_E (T := T) Xok mix Tryz.func33 hb ok rfl (by rw [e0]; exact H)
end F33
namespace F146
def T : Hint := ⟨[(2, [2, 3, 4, 5])], [(4, [[(0, []), (1, []), (2, []), (3, []), (4, []), (5, []), (6, []), (7, []), (8, []), (9, [])]])]⟩
noncomputable def body : Code := (Tryz.f146.body).getD .skip
noncomputable def en (S : Stop) (p : List Nat) (κ : XK) : Fr → Heap → Prop := E Tryz.prog X T S (sub body p) κ
noncomputable def ln (S : Stop) (p : List Nat) (κ : XK) (n : Nat) : Fr → Heap → Prop := loopN S (E Tryz.prog X T S (sub body p)) (cutQ T (sub body p)) κ n
def fn (K : KK) : XK := fin Tryz.prog Tryz.f146.results.toList K
noncomputable def c0 (S : Stop) (K : KK) : XK := seqN S (cutQ T (sub body [1, 1])) (en S [1, 1] (fn K)) (fn K)
noncomputable def c1 (S : Stop) (K : KK) : XK := blockN 0 (c0 S K)
noncomputable def c2 (S : Stop) (n2 : Nat) (K : KK) : XK := backN S (cutQ T (sub body [1, 0, 1, 0, 0])) (ln S [1, 0, 1, 0, 0] (c1 S K) n2) (c1 S K)
def f2 (c d b : Addr) (a : Int) : Fr := [(2, (.pointer (some c))), (3, (.pointer (some d))), (4, (.pointer (some b))), (5, (.int .i64 a))]
def J0 (k2 : Addr → Addr → Addr → Int → Heap → Prop) (f g i j l o q r : Int) (h : Heap) (_K : KK) : Prop :=
  newK h (.cells #[(.int .u64 f), (.int .u64 g), (.int .u64 i), (.int .u64 j)] 51) (fun b1 h2 => newK h2 (.cells #[(.int .u64 l), (.int .u64 o), (.int .u64 q), (.int .u64 r)] 51) (fun b3 h4 => newK h4 (.cells #[(.int .u64 0), (.int .u64 0), (.int .u64 0), (.int .u64 0)] 51) (fun b5 h6 => k2 (Addr.mk b1 0 none) (Addr.mk b3 0 none) (Addr.mk b5 0 none) (0 : Int) h6)))
theorem E0 (S : Stop) (f g i j l o q r : Int) (h : Heap) (K : KK) : (E Tryz.prog X T S body (fin Tryz.prog Tryz.f146.results.toList K) (args0 0 [(.agg #[(.int .u64 f), (.int .u64 g), (.int .u64 i), (.int .u64 j)]), (.agg #[(.int .u64 l), (.int .u64 o), (.int .u64 q), (.int .u64 r)])]) h) = J0 (fun c d b a h => S (en S [1, 0, 1] (c0 S K)) (f2 c d b a) h) f g i j l o q r h K := by kernel_rfl
def Jk2 (lp2 : Addr → Addr → Addr → Int → Heap → Prop) (c d b : Addr) (a : Int) (h : Heap) (_K : KK) : Prop :=
  lp2 c d b a h
theorem Ek2 (S : Stop) (c d b : Addr) (a : Int) (h : Heap) (K : KK) : (en S [1, 0, 1] (c0 S K) (f2 c d b a) h) = Jk2 (fun c d b a h => ∃ n, S (ln S [1, 0, 1, 0, 0] (c1 S K) n) (f2 c d b a) h) c d b a h K := by kernel_rfl
def JL2 (bk2 : Addr → Addr → Addr → Int → Heap → Prop) (c d b : Addr) (a : Int) (h : Heap) (K : KK) : Prop :=
  bcase (decide (a < (4 : Int))) ((0 ≤ a ∧ a < (Nat.cast 4 : Int) ∧ ldI .u64 (rd h (c.add (Int.toNat a * 1))) (fun n1 => (0 ≤ a ∧ a < (Nat.cast 4 : Int) ∧ ldI .u64 (rd h (d.add (Int.toNat a * 1))) (fun n2 => (0 ≤ a ∧ a < (Nat.cast 4 : Int) ∧ stK h ((c.add (Int.toNat a * 1)).add 0) (.int .u64 (bitsI .or .u64 n1 n2)) (fun h3 => bk2 c d b (IntKind.wrap .i64 (a + (1 : Int))) h3))))))) (ldI .u64 (rd h (c.add 0)) (fun n4 => ldI .u64 (rd h (c.add 1)) (fun n5 => ldI .u64 (rd h (c.add 2)) (fun n6 => ldI .u64 (rd h (c.add 3)) (fun n7 => stK h (b.add 0) (.int .u64 n4) (fun h8 => stK h8 (b.add 1) (.int .u64 n5) (fun h9 => stK h9 (b.add 2) (.int .u64 n6) (fun h10 => stK h10 (b.add 3) (.int .u64 n7) (fun h11 => ldI .u64 (rd h11 (b.add 0)) (fun n12 => ldI .u64 (rd h11 (b.add 1)) (fun n13 => ldI .u64 (rd h11 (b.add 2)) (fun n14 => ldI .u64 (rd h11 (b.add 3)) (fun n15 => K (.agg #[(.int .u64 n12), (.int .u64 n13), (.int .u64 n14), (.int .u64 n15)]) h11)))))))))))))
theorem EL2 (S : Stop) (n2 : Nat) (c d b : Addr) (a : Int) (h : Heap) (K : KK) : (en S [1, 0, 1, 0, 0] (c2 S n2 K) (f2 c d b a) h) = JL2 (fun c d b a h => S (ln S [1, 0, 1, 0, 0] (c1 S K) n2) (f2 c d b a) h) c d b a h K := by kernel_rfl
def wL2 : Nat → Addr → Addr → Addr → Int → Heap → KK → Prop
  | 0, _, _, _, _, _, _ => False
  | n + 1, c, d, b, a, h, K => JL2 (fun c d b a h => wL2 n c d b a h K) c d b a h K
theorem eL2 (K : KK) : ∀ (n : Nat) (c d b : Addr) (a : Int) (h : Heap), (ln S0 [1, 0, 1, 0, 0] (c1 S0 K) n (f2 c d b a) h) = wL2 n c d b a h K
  | 0, _, _, _, _, _ => rfl
  | n + 1, c, d, b, a, h => (EL2 S0 n c d b a h K).trans (cg1 (fun q0 => JL2 q0 c d b a h K) (by funext c d b a h; exact (fun c d b a h => eL2 K n c d b a h) c d b a h))
def wk2 (c d b : Addr) (a : Int) (h : Heap) (K : KK) : Prop :=
  Jk2 (fun c d b a h => ∃ m, wL2 m c d b a h K) c d b a h K
theorem ek2 (K : KK) (c d b : Addr) (a : Int) (h : Heap) : (en S0 [1, 0, 1] (c0 S0 K) (f2 c d b a) h) = wk2 c d b a h K := (Ek2 S0 c d b a h K).trans (cg1 (fun q0 => Jk2 q0 c d b a h K) (by funext c d b a h; exact ex_congr fun m => eL2 K m c d b a h))
def w (f g i j l o q r : Int) (h : Heap) (K : KK) : Prop :=
  J0 (fun c d b a h => wk2 c d b a h K) f g i j l o q r h K
theorem e0 (K : KK) (f g i j l o q r : Int) (h : Heap) : (E Tryz.prog X T S0 body (fin Tryz.prog Tryz.f146.results.toList K) (args0 0 [(.agg #[(.int .u64 f), (.int .u64 g), (.int .u64 i), (.int .u64 j)]), (.agg #[(.int .u64 l), (.int .u64 o), (.int .u64 q), (.int .u64 r)])]) h) = w f g i j l o q r h K := (E0 S0 f g i j l o q r h K).trans (cg1 (fun q0 => J0 q0 f g i j l o q r h K) (by funext c d b a h; exact ek2 K c d b a h))
theorem hb : Tryz.f146.body = some body := by kernel_rfl
theorem ok : okCode T Tryz.f146.ntmps body = true := by kernel_rfl
theorem spec (f g i j l o q r : Int) (h : Heap) (K : KK) (H : w f g i j l o q r h K) : Cl 146 [(.agg #[(.int .u64 f), (.int .u64 g), (.int .u64 i), (.int .u64 j)]), (.agg #[(.int .u64 l), (.int .u64 o), (.int .u64 q), (.int .u64 r)])] h K :=
  calls_of_E (T := T) Xok mix Tryz.func146 hb ok rfl (by rw [e0]; exact H)
end F146
end
section
def U64 : Nat := 18446744073709551616
theorem U64_pow : U64 = 2 ^ 64 := by decide
theorem ofInt_nat {a : Nat} (ha : a < U64) : (BitVec.ofInt 64 (a : Int)).toNat = a := by
  unfold U64 at ha
  rw [BitVec.toNat_ofInt]
  omega
theorem wrapU {a : Nat} (ha : a < U64) : IntKind.wrap .u64 (a : Int) = a := wrap_u64 (by omega) (by unfold U64 at ha; omega)
theorem bor {a b : Nat} (ha : a < U64) (hb : b < U64) : bitsI .or .u64 (a : Int) (b : Int) = ((a ||| b : Nat) : Int) := by
  unfold bitsI
  show IntKind.wrap .u64 ((BitVec.ofInt 64 (a : Int) ||| BitVec.ofInt 64 (b : Int)).toNat : Int) = _
  rw [BitVec.toNat_or, ofInt_nat ha, ofInt_nat hb]
  exact wrapU (by rw [U64_pow] at *; exact Nat.or_lt_two_pow ha hb)
theorem band {a b : Nat} (ha : a < U64) (hb : b < U64) : bitsI .and .u64 (a : Int) (b : Int) = ((a &&& b : Nat) : Int) := by
  unfold bitsI
  show IntKind.wrap .u64 ((BitVec.ofInt 64 (a : Int) &&& BitVec.ofInt 64 (b : Int)).toNat : Int) = _
  rw [BitVec.toNat_and, ofInt_nat ha, ofInt_nat hb]
  exact wrapU (by rw [U64_pow] at *; exact Nat.and_lt_two_pow _ hb)
def fb (g : Nat → Nat) (x : Nat) : Bool := (g (x / 64)).testBit (x % 64)
def WOk (g : Nat → Nat) : Prop := ∀ i, i < 4 → g i < U64
theorem fb_ext {g g' : Nat → Nat} (hg : WOk g) (hg' : WOk g') (h : ∀ x, x < 256 → fb g x = fb g' x) : ∀ i, i < 4 → g i = g' i := fun i hi => by
  apply Nat.eq_of_testBit_eq
  intro k
  by_cases hk : k < 64
  · have := h (i * 64 + k) (by omega)
    unfold fb at this
    rwa [show (i * 64 + k) / 64 = i by omega, show (i * 64 + k) % 64 = k by omega] at this
  · have a := hg i hi
    have b := hg' i hi
    rw [U64_pow] at a b
    rw [Nat.testBit_lt_two_pow (Nat.lt_of_lt_of_le a (Nat.pow_le_pow_right (by omega) (by omega))), Nat.testBit_lt_two_pow (Nat.lt_of_lt_of_le b (Nat.pow_le_pow_right (by omega) (by omega)))]
def wrow (g : Nat → Nat) : List Value := rowV 4 fun i => .int .u64 (g i : Int)
def sbit (g : Nat → Nat) (x : Nat) (v : Bool) : Nat → Nat := fun i => if v = true ∧ i = x / 64 then g i ||| 2 ^ (x % 64) else g i
theorem pow_lt (k : Nat) (hk : k < 64) : 2 ^ k < U64 := by rw [U64_pow]; exact Nat.pow_lt_pow_right (by omega) hk
theorem sbit_ok {g : Nat → Nat} (hg : WOk g) {x : Nat} {v : Bool} : WOk (sbit g x v) := fun i hi => by
  unfold sbit
  split
  · have a := hg i hi
    have b := pow_lt (x % 64) (Nat.mod_lt _ (by omega))
    rw [U64_pow] at *
    exact Nat.or_lt_two_pow a b
  · exact hg i hi
theorem sbit_fb (g : Nat → Nat) (x : Nat) (v : Bool) (y : Nat) : fb (sbit g x v) y = (fb g y || (v && decide (y = x))) := by
  unfold fb sbit
  cases v
  · simp
  · by_cases h : y / 64 = x / 64
    · rw [if_pos ⟨rfl, h⟩, Nat.testBit_or, Nat.testBit_two_pow]
      congr 1
      by_cases e : y = x
      · subst e; simp
      · simp only [Bool.true_and, decide_eq_false e, decide_eq_false_iff_not]
        omega
    · rw [if_neg (fun hh => h hh.2)]
      have : y ≠ x := fun e => h (by rw [e])
      simp [this]
theorem tdiv64 {x : Nat} (hx : x < 256) : IntKind.wrap .u8 (Int.tdiv (x : Int) 64) = ((x / 64 : Nat) : Int) := by
  rw [Int.tdiv_eq_ediv_of_nonneg (by omega)]
  simp [IntKind.wrap, IntKind.bits, IntKind.signed]; omega
theorem tmod64 (x : Nat) : Int.tmod (x : Int) 64 = ((x % 64 : Nat) : Int) := by
  rw [Int.tmod_eq_emod_of_nonneg (by omega)]
  rfl
theorem min64 {k : Nat} (hk : k < 64) : min (Int.toNat (k : Int)) (IntKind.bits .u64) = k := by
  rw [Int.toNat_natCast]
  show min k 64 = k
  omega
theorem wr_rd {h : Heap} {b : Nat} {g : Nat → Nat} (A : At h b (wrow g)) {i : Nat} (hi : i < 4) : rd h ⟨b, i, none⟩ = some (.int .u64 (g i : Int)) := by
  rw [A.rd]
  exact rowV_get hi
theorem wr_st {h : Heap} {b : Nat} {g : Nat → Nat} (A : At h b (wrow g)) {i : Nat} (hi : i < 4) {v : Nat} {K : Heap → Prop} (hK : ∀ h', At h' b (wrow fun j => if j = i then v else g j) → Only [b] h h' → K h') : stK h ⟨b, i, none⟩ (.int .u64 (v : Int)) K :=
  stK_at A (by unfold wrow; rw [rowV_len]; exact hi) rfl fun h' A' O' _ => hK h' (by
    unfold wrow at A' ⊢
    rw [rowV_set] at A'
    have e : (rowV 4 fun j => if j = i then Value.int .u64 (v : Int) else .int .u64 (g j : Int)) = rowV 4 fun j => .int .u64 ((if j = i then v else g j : Nat) : Int) := rowV_ext fun j _ => by split <;> rfl
    rw [e] at A'
    exact A') O'
theorem set51 {h : Heap} {b x : Nat} {g : Nat → Nat} {v : Bool} {K : Value → Heap → Prop} (A : At h b (wrow g)) (hg : WOk g) (hx : x < 256) (hK : ∀ h', At h' b (wrow (sbit g x v)) → Only [b] h h' → K (.tuple #[]) h') :
    CallsH Tryz.prog 87 [.pointer (some ⟨b, 0, none⟩), .int .u8 (x : Int), .bool v] h K := by
  refine F87.spec _ _ _ h K ?_
  unfold F87.w F87.J0
  refine bcase_of (fun hv => ?_) fun hv => ?_
  · subst hv
    have q : x / 64 < 4 := by omega
    rw [tdiv64 hx, tmod64]
    refine ⟨by decide, by decide, by omega, by omega, ?_⟩
    rw [add_mk, Int.toNat_natCast, Nat.zero_add, Nat.mul_one, wr_rd A q, ldI_some, min64 (by omega)]
    refine ⟨by decide, by omega, by omega, by omega, ?_⟩
    rw [add_mk, Nat.add_zero, show (1 : Int) * 2 ^ (x % 64) = ((2 ^ (x % 64) : Nat) : Int) by simp, wrapU (pow_lt _ (by omega)), bor (hg _ q) (pow_lt _ (by omega))]
    refine wr_st A q fun h' A' O' => hK h' ?_ O'
    have e : (fun j => if j = x / 64 then g (x / 64) ||| 2 ^ (x % 64) else g j) = sbit g x true := by
      funext j
      unfold sbit
      by_cases hj : j = x / 64
      · subst hj; simp
      · rw [if_neg hj, if_neg (fun h => hj h.2)]
    rw [e] at A'
    exact A'
  · subst hv
    refine hK h ?_ (Only.refl _ _)
    have e : sbit g x false = g := by
      funext j
      unfold sbit
      rw [if_neg (fun h => by cases h.1)]
    rw [e]
    exact A
end
section
theorem wrap8 {x : Nat} (h : x < 256) : IntKind.wrap .u8 (x : Int) = x := by
  simp [IntKind.wrap, IntKind.bits, IntKind.signed]; omega
def aggW (g : Nat → Nat) : Value := .agg #[.int .u64 (g 0 : Int), .int .u64 (g 1 : Int), .int .u64 (g 2 : Int), .int .u64 (g 3 : Int)]
theorem copy4 {h : Heap} {b c : Nat} {g g0 : Nat → Nat} {K : Value → Heap → Prop} (A : At h b (wrow g)) (C : At h c (wrow g0)) (hne : b ≠ c) (hK : ∀ h', Only [c] h h' → K (aggW g) h') :
    ldI .u64 (rd h (Addr.add ⟨b, 0, none⟩ 0)) (fun n4 => ldI .u64 (rd h (Addr.add ⟨b, 0, none⟩ 1)) (fun n5 => ldI .u64 (rd h (Addr.add ⟨b, 0, none⟩ 2)) (fun n6 => ldI .u64 (rd h (Addr.add ⟨b, 0, none⟩ 3)) (fun n7 => stK h (Addr.add ⟨c, 0, none⟩ 0) (.int .u64 n4) (fun h8 => stK h8 (Addr.add ⟨c, 0, none⟩ 1) (.int .u64 n5) (fun h9 => stK h9 (Addr.add ⟨c, 0, none⟩ 2) (.int .u64 n6) (fun h10 => stK h10 (Addr.add ⟨c, 0, none⟩ 3) (.int .u64 n7) (fun h11 => ldI .u64 (rd h11 (Addr.add ⟨c, 0, none⟩ 0)) (fun n12 => ldI .u64 (rd h11 (Addr.add ⟨c, 0, none⟩ 1)) (fun n13 => ldI .u64 (rd h11 (Addr.add ⟨c, 0, none⟩ 2)) (fun n14 => ldI .u64 (rd h11 (Addr.add ⟨c, 0, none⟩ 3)) (fun n15 => K (.agg #[(.int .u64 n12), (.int .u64 n13), (.int .u64 n14), (.int .u64 n15)]) h11)))))))))))) := by
  simp only [add_mk, Nat.zero_add]
  rw [wr_rd A (by decide : 0 < 4), ldI_some, wr_rd A (by decide : 1 < 4), ldI_some, wr_rd A (by decide : 2 < 4), ldI_some, wr_rd A (by decide : 3 < 4), ldI_some]
  refine wr_st C (by decide) fun h1 C1 O1 => wr_st C1 (by decide) fun h2 C2 O2 => wr_st C2 (by decide) fun h3 C3 O3 => wr_st C3 (by decide) fun h4 C4 O4 => ?_
  rw [wr_rd C4 (by decide : 0 < 4), ldI_some, wr_rd C4 (by decide : 1 < 4), ldI_some, wr_rd C4 (by decide : 2 < 4), ldI_some, wr_rd C4 (by decide : 3 < 4), ldI_some]
  exact hK h4 (((O1.trans O2 (by simp)).trans O3 (by simp)).trans O4 (by simp))
theorem zero_fb (y : Nat) : fb (fun _ => 0) y = false := by simp [fb]
end
section
theorem or_lt {a b : Nat} (ha : a < U64) (hb : b < U64) : a ||| b < U64 := by
  rw [U64_pow] at *
  exact Nat.or_lt_two_pow ha hb
def orTo (f g : Nat → Nat) (i : Nat) : Nat → Nat := fun j => if j < i then f j ||| g j else f j
theorem orTo_ok {f g : Nat → Nat} (hf : WOk f) (hg : WOk g) (i : Nat) : WOk (orTo f g i) := fun j hj => by
  unfold orTo
  split
  · exact or_lt (hf j hj) (hg j hj)
  · exact hf j hj
theorem orTo_fb (f g : Nat → Nat) {y : Nat} (hy : y < 256) : fb (orTo f g 4) y = (fb f y || fb g y) := by
  unfold fb orTo
  rw [if_pos (by omega), Nat.testBit_or]
theorem or27 {h : Heap} {f g : Nat → Nat} {K : Value → Heap → Prop} (hf : WOk f) (hg : WOk g) (hK : ∀ h' k, WOk k → (∀ y, y < 256 → fb k y = (fb f y || fb g y)) → Only [] h h' → K (aggW k) h') : CallsH Tryz.prog 146 [aggW f, aggW g] h K := by
  refine F146.spec _ _ _ _ _ _ _ _ h K ?_
  unfold F146.w F146.J0
  refine newK_at fun h1 A1 O1 z1 => newK_at fun h2 A2 O2 z2 => newK_at fun h3 A3 O3 z3 => ?_
  replace A1 : At h1 h.size (wrow f) := A1
  replace A2 : At h2 h1.size (wrow g) := A2
  replace A3 : At h3 h2.size (wrow fun _ => 0) := A3
  have B1 := (A1.only O2 (by simp)).only O3 (by simp)
  have B2 := A2.only O3 (by simp)
  have O13 : Only [] h h3 := (O1.trans O2 (by simp)).trans O3 (by simp)
  unfold F146.wk2 F146.Jk2
  have main : ∀ (d i : Nat) (h' : Heap), i + d = 4 → At h' h.size (wrow (orTo f g i)) → At h' h1.size (wrow g) → At h' h2.size (wrow fun _ => 0) → Only [] h h' →
      F146.wL2 (d + 1) ⟨h.size, 0, none⟩ ⟨h1.size, 0, none⟩ ⟨h2.size, 0, none⟩ i h' K := by
    intro d
    induction d with
    | zero =>
      intro i h' hd A B C O
      unfold F146.wL2 F146.JL2
      rw [show decide ((i : Int) < 4) = false by simp; omega, bcase_false]
      have hi : i = 4 := by omega
      subst hi
      exact copy4 A C (by omega) fun h'' O'' => hK h'' _ (orTo_ok hf hg 4) (fun y hy => orTo_fb f g hy) (O.trans O'' (by intro b hb hlt; simp at hb; omega))
    | succ d ih =>
      intro i h' hd A B C O
      unfold F146.wL2 F146.JL2
      have hi : i < 4 := by omega
      rw [show decide ((i : Int) < 4) = true by simp; omega, bcase_true, show IntKind.wrap .i64 ((i : Int) + 1) = ((i + 1 : Nat) : Int) by rw [wrap_i64 (by omega) (by omega)]; omega]
      refine ⟨by omega, by omega, ?_⟩
      rw [add_mk, add_mk, show 0 + Int.toNat (i : Int) * 1 = i by omega, wr_rd A hi, ldI_some]
      refine ⟨by omega, by omega, ?_⟩
      rw [wr_rd B hi, ldI_some]
      refine ⟨by omega, by omega, ?_⟩
      have e0 : orTo f g i i = f i := if_neg (by omega)
      rw [add_mk, Nat.add_zero, e0, bor (hf i hi) (hg i hi)]
      refine wr_st A hi fun h'' A'' O'' => ih (i + 1) h'' (by omega) ?_ (B.only O'' (by simp; omega)) (C.only O'' (by simp; omega)) (O.trans O'' (by intro b hb hlt; simp at hb; omega))
      have e : (fun j => if j = i then f i ||| g i else orTo f g i j) = orTo f g (i + 1) := by
        funext j
        unfold orTo
        by_cases hj : j = i
        · subst hj; rw [if_pos rfl, if_pos (by omega)]
        · rw [if_neg hj]
          by_cases hl : j < i
          · rw [if_pos hl, if_pos (by omega)]
          · rw [if_neg hl, if_neg (by omega)]
      rw [e] at A''
      exact A''
  have e0 : orTo f g 0 = f := by funext j; unfold orTo; rw [if_neg (by omega)]
  exact ⟨_, main 4 0 h3 (by omega) (by rw [e0]; exact B1) B2 A3 O13⟩
end
section
def tob (y v : Nat) (b : Bool) : Nat := if y.testBit v = b then y else if b then y + 2 ^ v else y - 2 ^ v
end
section
namespace F89
def w (a : Int) (h : Heap) (K : KK) : Prop :=
  (0 ≤ (if (262144 : Int) < (if (0 : Int) > a then (0 : Int) else a) then (262144 : Int) else (if (0 : Int) > a then (0 : Int) else a)) ∧ (if (262144 : Int) < (if (0 : Int) > a then (0 : Int) else a) then (262144 : Int) else (if (0 : Int) > a then (0 : Int) else a)) ≤ (if (262144 : Int) < (if (0 : Int) > a then (0 : Int) else a) then (262144 : Int) else (if (0 : Int) > a then (0 : Int) else a)) ∧ ((Nat.cast 8 : Int) * (if (262144 : Int) < (if (0 : Int) > a then (0 : Int) else a) then (262144 : Int) else (if (0 : Int) > a then (0 : Int) else a)) ≤ 281474976710656) ∧ (if (262144 : Int) < (if (0 : Int) > a then (0 : Int) else a) then (262144 : Int) else (if (0 : Int) > a then (0 : Int) else a)) ≤ 9223372036854775807 ∧ newK h (.cells (madeCells #[(.int .u64 0)] (Int.toNat (if (262144 : Int) < (if (0 : Int) > a then (0 : Int) else a) then (262144 : Int) else (if (0 : Int) > a then (0 : Int) else a)) * 1)) 315) (fun b1 h2 => newK h2 (.cells #[(.slice (some (Addr.mk b1 0 none)) (Int.toNat (if (262144 : Int) < (if (0 : Int) > a then (0 : Int) else a) then (262144 : Int) else (if (0 : Int) > a then (0 : Int) else a))) (Int.toNat (if (262144 : Int) < (if (0 : Int) > a then (0 : Int) else a) then (262144 : Int) else (if (0 : Int) > a then (0 : Int) else a)))), (.int .i64 0), (.int .i64 0)] 224) (fun b3 h4 => K (.pointer (some (Addr.mk b3 0 none))) h4)))
theorem spec (a : Int) (h : Heap) (K : KK) (H : w a h K) : Cl 89 [(.int .i64 a)] h K :=
  cE Xok mix Tryz.func89 (by kernel_rfl) (by kernel_rfl) rfl (by kernel_rfl) H
end F89
namespace F110
def w (a : Int) (h : Heap) (K : KK) : Prop :=
  bcase (decide (a < (1 : Int))) (K (.int .i64 0) h) (K (.int .i64 (IntKind.wrap .i64 ((3 : Int) * a))) h)
theorem spec (a : Int) (h : Heap) (K : KK) (H : w a h K) : Cl 110 [(.int .i64 a)] h K :=
  cE Xok mix Tryz.func110 (by kernel_rfl) (by kernel_rfl) rfl (by kernel_rfl) H
end F110
namespace F132
def w (a : Addr) (h : Heap) (K : KK) : Prop :=
  ldS (rd h (a.add 0)) (fun _ l2 _ => K (.int .i64 (Nat.cast l2 : Int)) h)
theorem spec (a : Addr) (h : Heap) (K : KK) (H : w a h K) : Cl 132 [(.pointer (some a))] h K :=
  cE Xok mix Tryz.func132 (by kernel_rfl) (by kernel_rfl) rfl (by kernel_rfl) H
end F132
namespace F162
def w (a : Addr) (b : Int) (h : Heap) (K : KK) : Prop :=
  Cl 202 [(.pointer (some a)), (.int .i64 b)] h (fun v1 h2 => ldP (some v1) (fun p3 => bcase (!(Option.isNone p3)) (Cl 203 [(.pointer p3)] h2 (fun v4 h5 => ldI .u64 (some v4) (fun n6 => K (.int .u64 n6) h5))) (K (.int .u64 0) h2)))
theorem spec (a : Addr) (b : Int) (h : Heap) (K : KK) (H : w a b h K) : Cl 162 [(.pointer (some a)), (.int .i64 b)] h K :=
  cE Xok mix Tryz.func162 (by kernel_rfl) (by kernel_rfl) rfl (by kernel_rfl) H
end F162
namespace F202
def w (b : Addr) (a : Int) (h : Heap) (K : KK) : Prop :=
  bcase (decide (a < (0 : Int))) (K (.pointer none) h) (ldS (rd h (b.add 0)) (fun _ l2 _ => bcase (decide (a ≥ (Nat.cast l2 : Int))) (K (.pointer none) h) (Cl 205 [(.pointer (some (b.add 1))), (.int .i64 1)] h (fun v4 h5 => ldI .i64 (some v4) (fun _ => ldS (rd h5 (b.add 0)) (fun p7 l8 _ => ptrK p7 (fun a10 => (0 ≤ a ∧ a < (Nat.cast l8 : Int) ∧ K (.pointer (some (a10.add (Int.toNat a * 1)))) h5))))))))
theorem spec (b : Addr) (a : Int) (h : Heap) (K : KK) (H : w b a h K) : Cl 202 [(.pointer (some b)), (.int .i64 a)] h K :=
  cE Xok mix Tryz.func202 (by kernel_rfl) (by kernel_rfl) rfl (by kernel_rfl) H
end F202
namespace F203
def w (a : Addr) (h : Heap) (K : KK) : Prop :=
  ldI .u64 (rd h (a.add 0)) (fun n3 => K (.int .u64 n3) h)
theorem spec (a : Addr) (h : Heap) (K : KK) (H : w a h K) : Cl 203 [(.pointer (some a))] h K :=
  cE Xok mix Tryz.func203 (by kernel_rfl) (by kernel_rfl) rfl (by kernel_rfl) H
end F203
namespace F163
def w (a : Addr) (b c d : Int) (h : Heap) (K : KK) : Prop :=
  Cl 202 [(.pointer (some a)), (.int .i64 b)] h (fun v1 h2 => ldP (some v1) (fun p3 => bcase (Option.isNone p3) (K (.bool false) h2) (Cl 204 [(.pointer p3), (.int .u64 c), (.int .u64 d)] h2 (fun v4 h5 => ldB (some v4) (fun b6 => bcase (!b6) (Cl 205 [(.pointer (some (a.add 2))), (.int .i64 1)] h5 (fun v7 h8 => ldI .i64 (some v7) (fun _ => K (.bool b6) h8))) (K (.bool b6) h5))))))
theorem spec (a : Addr) (b c d : Int) (h : Heap) (K : KK) (H : w a b c d h K) : Cl 163 [(.pointer (some a)), (.int .i64 b), (.int .u64 c), (.int .u64 d)] h K :=
  cE Xok mix Tryz.func163 (by kernel_rfl) (by kernel_rfl) rfl (by kernel_rfl) H
end F163
namespace F205
def w (a : Addr) (b : Int) (h : Heap) (K : KK) : Prop :=
  ldI .i64 (rd h (a.add 0)) (fun n3 => stK h (a.add 0) (.int .i64 (IntKind.wrap .i64 (n3 + b))) (fun h2 => K (.int .i64 (IntKind.wrap .i64 (n3 + b))) h2))
theorem spec (a : Addr) (b : Int) (h : Heap) (K : KK) (H : w a b h K) : Cl 205 [(.pointer (some a)), (.int .i64 b)] h K :=
  cE Xok mix Tryz.func205 (by kernel_rfl) (by kernel_rfl) rfl (by kernel_rfl) H
end F205
namespace F204
def w (a : Addr) (b c : Int) (h : Heap) (K : KK) : Prop :=
  ldI .u64 (rd h (a.add 0)) (fun n3 => bcase (n3 == b) (stK h (a.add 0) (.int .u64 c) (fun h2 => K (.bool true) h2)) (fz h (a.add 0) = false ∧ K (.bool false) h))
theorem spec (a : Addr) (b c : Int) (h : Heap) (K : KK) (H : w a b c h K) : Cl 204 [(.pointer (some a)), (.int .u64 b), (.int .u64 c)] h K :=
  cE Xok mix Tryz.func204 (by kernel_rfl) (by kernel_rfl) rfl (by kernel_rfl) H
end F204
namespace F282
def w (a : Addr) (b c : Int) (h : Heap) (K : KK) : Prop :=
  Cl 202 [(.pointer (some a)), (.int .i64 b)] h (fun v1 h2 => ldP (some v1) (fun p3 => bcase (!(Option.isNone p3)) (Cl 304 [(.pointer p3), (.int .u64 c)] h2 (fun v4 h5 => (v4 = (.tuple #[]) ∧ K (.tuple #[]) h5))) (K (.tuple #[]) h2)))
theorem spec (a : Addr) (b c : Int) (h : Heap) (K : KK) (H : w a b c h K) : Cl 282 [(.pointer (some a)), (.int .i64 b), (.int .u64 c)] h K :=
  cE Xok mix Tryz.func282 (by kernel_rfl) (by kernel_rfl) rfl (by kernel_rfl) H
end F282
namespace F304
def w (a : Addr) (b : Int) (h : Heap) (K : KK) : Prop :=
  stK h (a.add 0) (.int .u64 b) (fun h2 => K (.tuple #[]) h2)
theorem spec (a : Addr) (b : Int) (h : Heap) (K : KK) (H : w a b h K) : Cl 304 [(.pointer (some a)), (.int .u64 b)] h K :=
  cE Xok mix Tryz.func304 (by kernel_rfl) (by kernel_rfl) rfl (by kernel_rfl) H
end F304
end
section
structure MemIs (h : Heap) (m c : Nat) (cs : List Int) (ops fails : Int) : Prop where
  head : At h m [.slice (some ⟨c, 0, none⟩) cs.length cs.length, .int .i64 ops, .int .i64 fails]
  body : At h c (cs.map (.int .u64))
  ne : m ≠ c
theorem MemIs.only {S : List Nat} {h h' : Heap} {m c : Nat} {cs : List Int} {ops fails : Int} (H : MemIs h m c cs ops fails) (O : Only S h h') (hm : m ∉ S) (hc : c ∉ S) : MemIs h' m c cs ops fails :=
  ⟨H.head.only O hm, H.body.only O hc, H.ne⟩
def up (n : Int) : Int := IntKind.wrap .i64 (n + 1)
theorem c40 {h : Heap} {b i : Nat} {n : Int} {K : Value → Heap → Prop} (hr : rd h ⟨b, i, none⟩ = some (.int .u64 n)) (hK : K (.int .u64 n) h) :
    CallsH Tryz.prog 203 [.pointer (some ⟨b, i, none⟩)] h K := by
  apply F203.spec
  unfold F203.w
  rw [add_zero]
  exact ldI_of hr hK
theorem c42 {h : Heap} {b i : Nat} {c : List Value} {n d : Int} {K : Value → Heap → Prop} (H : At h b c) (hi : c[i]? = some (.int .i64 n))
    (hK : ∀ h', At h' b (c.set i (.int .i64 (IntKind.wrap .i64 (n + d)))) → Only [b] h h' → K (.int .i64 (IntKind.wrap .i64 (n + d))) h') :
    CallsH Tryz.prog 205 [.pointer (some ⟨b, i, none⟩), .int .i64 d] h K := by
  apply F205.spec
  unfold F205.w
  rw [add_zero]
  exact ldI_of (by rw [H.rd]; exact hi) (stK_at H (List.getElem?_eq_some_iff.1 hi).1 rfl fun h' h1 h2 _ => hK h' h1 h2)
theorem c48 {h : Heap} {b i : Nat} {c : List Value} {d : Int} {K : Value → Heap → Prop} (H : At h b c) (hi : i < c.length)
    (hK : ∀ h', At h' b (c.set i (.int .u64 d)) → Only [b] h h' → K (.tuple #[]) h') :
    CallsH Tryz.prog 304 [.pointer (some ⟨b, i, none⟩), .int .u64 d] h K := by
  apply F304.spec
  unfold F304.w
  rw [add_zero]
  exact stK_at H hi rfl fun h' h1 h2 _ => hK h' h1 h2
theorem c41 {h : Heap} {b i : Nat} {c : List Value} {n x y : Int} {K : Value → Heap → Prop} (H : At h b c) (hi : c[i]? = some (.int .u64 n))
    (hT : n = x → ∀ h', At h' b (c.set i (.int .u64 y)) → Only [b] h h' → K (.bool true) h') (hF : n ≠ x → K (.bool false) h) :
    CallsH Tryz.prog 204 [.pointer (some ⟨b, i, none⟩), .int .u64 x, .int .u64 y] h K := by
  apply F204.spec
  unfold F204.w
  rw [add_zero]
  refine ldI_of (by rw [H.rd]; exact hi) (bcase_of (fun e => stK_at H (List.getElem?_eq_some_iff.1 hi).1 rfl fun h' h1 h2 _ => hT (by simpa using e) h' h1 h2) fun e => ⟨H.fz _ _, hF (by simpa using e)⟩)

theorem at_in {h : Heap} {m c : Nat} {cs : List Int} {ops fails : Int} {i : Int} {K : Value → Heap → Prop} (H : MemIs h m c cs ops fails) (h0 : 0 ≤ i) (h1 : i < cs.length)
    (hK : ∀ h', MemIs h' m c cs (up ops) fails → Only [m, c] h h' → K (.pointer (some ⟨c, i.toNat, none⟩)) h') :
    CallsH Tryz.prog 202 [.pointer (some ⟨m, 0, none⟩), .int .i64 i] h K := by
  apply F202.spec
  unfold F202.w
  rw [decide_eq_false (by omega : ¬ i < 0)]
  simp only [add_mk, H.head.rd, Nat.zero_add, List.getElem?_cons_zero, ldS_some, bcase_false]
  rw [decide_eq_false (by omega : ¬ i ≥ (Nat.cast cs.length : Int)), bcase_false]
  refine c42 (n := ops) (i := 1) H.head rfl fun h' a1 a2 => ?_
  simp only [ldI_some, List.set_cons_succ, List.set_cons_zero] at a1 ⊢
  simp only [a1.rd, List.getElem?_cons_zero, ldS_some, ptrK_some, add_mk, Nat.zero_add, Nat.mul_one]
  exact ⟨h0, h1, hK h' ⟨a1, H.body.only a2 (by simp [H.ne.symm]), H.ne⟩ (a2.mono (by simp +contextual))⟩
theorem load_in {h : Heap} {m c : Nat} {cs : List Int} {ops fails : Int} {i : Int} {K : Value → Heap → Prop} (H : MemIs h m c cs ops fails) (h0 : 0 ≤ i) (h1 : i < cs.length)
    (hK : ∀ h', MemIs h' m c cs (up ops) fails → Only [m, c] h h' → K (.int .u64 (cs.getD i.toNat 0)) h') :
    CallsH Tryz.prog 162 [.pointer (some ⟨m, 0, none⟩), .int .i64 i] h K := by
  apply F162.spec
  unfold F162.w
  refine at_in H h0 h1 fun h' a1 a2 => ?_
  have hi : i.toNat < cs.length := by omega
  simp only [ldP_some, Option.isNone_some, Bool.not_false, bcase_true]
  refine c40 (n := cs.getD i.toNat 0) (by rw [a1.body.rd]; simp [hi]) ?_
  simp only [ldI_some]
  exact hK h' a1 a2
theorem MemIs.put {h h' : Heap} {m c : Nat} {cs : List Int} {ops fails : Int} (H : MemIs h m c cs ops fails) {i : Nat} {v : Int} (a : At h' c ((cs.map (Value.int .u64)).set i (.int .u64 v))) (O : Only [c] h h') :
    MemIs h' m c (cs.set i v) ops fails :=
  ⟨by rw [List.length_set]; exact H.head.only O (by simp [H.ne]), by rw [List.map_set]; exact a, H.ne⟩
theorem store_in {h : Heap} {m c : Nat} {cs : List Int} {ops fails : Int} {i d : Int} {K : Value → Heap → Prop} (H : MemIs h m c cs ops fails) (h0 : 0 ≤ i) (h1 : i < cs.length)
    (hK : ∀ h', MemIs h' m c (cs.set i.toNat d) (up ops) fails → Only [m, c] h h' → K (.tuple #[]) h') :
    CallsH Tryz.prog 282 [.pointer (some ⟨m, 0, none⟩), .int .i64 i, .int .u64 d] h K := by
  apply F282.spec
  unfold F282.w
  refine at_in H h0 h1 fun h' a1 a2 => ?_
  have hi : i.toNat < cs.length := by omega
  simp only [ldP_some, Option.isNone_some, Bool.not_false, bcase_true]
  exact c48 a1.body (by simpa using hi) fun h'' b1 b2 => ⟨rfl, hK h'' (a1.put b1 b2) (a2.trans b2 (by simp))⟩
theorem cas_in {h : Heap} {m c : Nat} {cs : List Int} {ops fails : Int} {i x y : Int} {K : Value → Heap → Prop} (H : MemIs h m c cs ops fails) (h0 : 0 ≤ i) (h1 : i < cs.length)
    (hT : cs.getD i.toNat 0 = x → ∀ h', MemIs h' m c (cs.set i.toNat y) (up ops) fails → Only [m, c] h h' → K (.bool true) h')
    (hF : cs.getD i.toNat 0 ≠ x → ∀ h', MemIs h' m c cs (up ops) (up fails) → Only [m, c] h h' → K (.bool false) h') :
    CallsH Tryz.prog 163 [.pointer (some ⟨m, 0, none⟩), .int .i64 i, .int .u64 x, .int .u64 y] h K := by
  apply F163.spec
  unfold F163.w
  refine at_in H h0 h1 fun h' a1 a2 => ?_
  have hi : i.toNat < cs.length := by omega
  simp only [ldP_some, Option.isNone_some, bcase_false]
  refine c41 (n := cs.getD i.toNat 0) a1.body (by simp [hi]) (fun e h'' b1 b2 => ?_) fun e => ?_
  · simp only [ldB_some, Bool.not_true, bcase_false]
    exact hT e h'' (a1.put b1 b2) (a2.trans b2 (by simp))
  · simp only [ldB_some, Bool.not_false, bcase_true, add_mk, Nat.zero_add]
    refine c42 (n := fails) a1.head rfl fun h'' b1 b2 => ?_
    simp only [ldI_some]
    exact hF e h'' ⟨b1, a1.body.only b2 (by simp [H.ne.symm]), H.ne⟩ (a2.trans b2 (by simp))
theorem len_spec {h : Heap} {m c : Nat} {cs : List Int} {ops fails : Int} {K : Value → Heap → Prop} (H : MemIs h m c cs ops fails) (hK : K (.int .i64 cs.length) h) :
    CallsH Tryz.prog 132 [.pointer (some ⟨m, 0, none⟩)] h K := by
  apply F132.spec
  unfold F132.w
  rw [add_mk, H.head.rd]
  exact ldS_of rfl hK
def cellsFor (n : Int) : Nat := (min (max n 0) 262144).toNat
theorem cellsFor_of {k : Nat} (h : k ≤ 262144) : cellsFor (k : Int) = k := by
  unfold cellsFor
  rw [Int.max_eq_left (by omega), Int.min_eq_left (by omega), Int.toNat_natCast]
theorem made_ints (n : Nat) : (madeCells #[.int .u64 (0 : Int)] n).toList = (List.replicate n (0 : Int)).map (Value.int .u64) := by
  rw [toList_madeCells_one]; simp
theorem new_spec {h : Heap} {n : Int} {K : Value → Heap → Prop}
    (hK : ∀ m c h', MemIs h' m c (List.replicate (cellsFor n) 0) 0 0 → Only [] h h' → h.size ≤ m → h.size ≤ c → K (.pointer (some ⟨m, 0, none⟩)) h') :
    CallsH Tryz.prog 89 [.int .i64 n] h K := by
  apply F89.spec
  unfold F89.w
  have e : (if (262144 : Int) < (if (0 : Int) > n then (0 : Int) else n) then (262144 : Int) else (if (0 : Int) > n then (0 : Int) else n)) = (cellsFor n : Int) := by
    unfold cellsFor
    split <;> split <;> omega
  have h2 : cellsFor n ≤ 262144 := by unfold cellsFor; omega
  rw [e]
  refine ⟨by omega, by omega, by omega, by omega, ?_⟩
  refine newK_at fun h1 a1 a2 a3 => newK_at fun h2 b1 b2 b3 => ?_
  simp only [Int.toNat_natCast, Nat.mul_one] at a1 b1 ⊢
  rw [made_ints] at a1
  refine hK h1.size h.size h2 ⟨?_, a1.only b2 (by simp), by omega⟩ (a2.trans b2 (by simp)) (by omega) (by omega)
  rw [List.length_replicate]
  exact b1
end
section
namespace F159
def w (b : Addr) (a c : Int) (h : Heap) (K : KK) : Prop :=
  bcase (decide (a < (0 : Int))) (K (.tuple #[(.pointer none), (.int .i64 61)]) h) (bcase (decide (c < (1 : Int))) (K (.tuple #[(.pointer none), (.int .i64 61)]) h) (Cl 132 [(.pointer (some b))] h (fun v1 h2 => ldI .i64 (some v1) (fun n3 => bcase (decide (a > n3)) (K (.tuple #[(.pointer none), (.int .i64 61)]) h2) (Cl 132 [(.pointer (some b))] h2 (fun v4 h5 => ldI .i64 (some v4) (fun n6 => bcase (decide (c > (IntKind.wrap .i64 (n6 - a)))) (K (.tuple #[(.pointer none), (.int .i64 61)]) h5) (newK h5 (.cells #[(.pointer (some b)), (.int .i64 a), (.int .i64 c)] 276) (fun b7 h8 => K (.tuple #[(.pointer (some (Addr.mk b7 0 none))), (.int .i64 0)]) h8)))))))))
theorem spec (b : Addr) (a c : Int) (h : Heap) (K : KK) (H : w b a c h K) : Cl 159 [(.pointer (some b)), (.int .i64 a), (.int .i64 c)] h K :=
  cE Xok mix Tryz.func159 (by kernel_rfl) (by kernel_rfl) rfl (by kernel_rfl) H
end F159
namespace F241
def T : Hint := ⟨[], [(1, [[(0, []), (1, []), (2, []), (3, []), (4, []), (5, []), (6, []), (8, []), (9, []), (10, []), (11, []), (12, []), (13, []), (7, [0, 1, 8, 9, 10, 11, 12, 13]), (14, []), (15, []), (16, [])]])]⟩
noncomputable def body : Code := (Tryz.f241.body).getD .skip
def J0 (a : Addr) (b : Int) (h : Heap) (K : KK) : Prop :=
  ldI .i64 (rd h (a.add 2)) (fun n1 => ldI .i64 (rd h (a.add 2)) (fun n2 => Cl 246 [(.int .u64 b), (.int .i64 n1)] h (fun v3 h4 => ldI .i64 (some v3) (fun n5 => ((.pointer (some a)) = ((.pointer (some a)) : Value) ∧ ((.int .u64 b) = ((.int .u64 b) : Value) ∧ ((.pointer (some a)) = ((.pointer (some a)) : Value) ∧ ((.pointer (some a)) = ((.pointer (some a)) : Value) ∧ ((.pointer (some (a.add 2))) = ((.pointer (some (a.add 2))) : Value) ∧ ldI .i64 (rd h4 (a.add 2)) (fun n6 => ((.int .i64 n6) = ((.int .i64 n2) : Value) ∧ ((.int .u64 b) = ((.int .u64 b) : Value) ∧ ((.bool (b == (0 : Int))) = ((.bool (b == (0 : Int))) : Value) ∧ newK h4 (.cells #[(.pointer (some a)), (.int .u64 b), (.int .i64 n5), (.int .i64 n2), .nilFunc, (.bool (b == (0 : Int))), (.int .i64 (-1)), (.int .i64 61), (.bool false)] 350) (fun b7 h8 => stK h8 (((Addr.mk b7 0 none).add 4).add 0) (.func (.func 285) #[(.pointer (some (Addr.mk b7 0 none)))] #[]) (fun h9 => K (.pointer (some (Addr.mk b7 0 none))) h9)))))))))))))))
theorem E0 (S : Stop) (a : Addr) (b : Int) (h : Heap) (K : KK) : (E Tryz.prog X T S body (fin Tryz.prog Tryz.f241.results.toList K) (args0 0 [(.pointer (some a)), (.int .u64 b)]) h) = J0 a b h K := by kernel_rfl
def w (a : Addr) (b : Int) (h : Heap) (K : KK) : Prop :=
  J0 a b h K
theorem e0 (K : KK) (a : Addr) (b : Int) (h : Heap) : (E Tryz.prog X T S0 body (fin Tryz.prog Tryz.f241.results.toList K) (args0 0 [(.pointer (some a)), (.int .u64 b)]) h) = w a b h K := (E0 S0 a b h K).trans (rfl)
theorem hb : Tryz.f241.body = some body := by kernel_rfl
theorem ok : okCode T Tryz.f241.ntmps body = true := by kernel_rfl
theorem spec (a : Addr) (b : Int) (h : Heap) (K : KK) (H : w a b h K) : Cl 241 [(.pointer (some a)), (.int .u64 b)] h K :=
  calls_of_E (T := T) Xok mix Tryz.func241 hb ok rfl (by rw [e0]; exact H)
end F241
namespace F242
def T : Hint := ⟨[(3, [0])], []⟩
noncomputable def body : Code := (Tryz.f242.body).getD .skip
noncomputable def en (S : Stop) (p : List Nat) (κ : XK) : Fr → Heap → Prop := E Tryz.prog X T S (sub body p) κ
def fn (K : KK) : XK := fin Tryz.prog Tryz.f242.results.toList K
def f3 (a : Addr) : Fr := [(0, (.pointer (some a)))]
def J0 (k3 : Addr → Heap → Prop) (a : Addr) (h : Heap) (_K : KK) : Prop :=
  ldB (rd h (a.add 5)) (fun b1 => bcase (!b1) (ldV (rd h (a.add 4)) (fun v2 => dynK Tryz.prog X v2 [] h (fun v3 h4 => (v3 = (.tuple #[]) ∧ k3 a h4)))) (k3 a h))
theorem E0 (S : Stop) (a : Addr) (h : Heap) (K : KK) : (E Tryz.prog X T S body (fin Tryz.prog Tryz.f242.results.toList K) (args0 0 [(.pointer (some a))]) h) = J0 (fun a h => S (en S [1, 1] (fn K)) (f3 a) h) a h K := by kernel_rfl
def Jk3 (a : Addr) (h : Heap) (K : KK) : Prop :=
  ldB (rd h (a.add 5)) (fun b1 => K (.bool b1) h)
theorem Ek3 (S : Stop) (a : Addr) (h : Heap) (K : KK) : (en S [1, 1] (fn K) (f3 a) h) = Jk3 a h K := by kernel_rfl
def wk3 (a : Addr) (h : Heap) (K : KK) : Prop :=
  Jk3 a h K
theorem ek3 (K : KK) (a : Addr) (h : Heap) : (en S0 [1, 1] (fn K) (f3 a) h) = wk3 a h K := (Ek3 S0 a h K).trans (rfl)
def w (a : Addr) (h : Heap) (K : KK) : Prop :=
  J0 (fun a h => wk3 a h K) a h K
theorem e0 (K : KK) (a : Addr) (h : Heap) : (E Tryz.prog X T S0 body (fin Tryz.prog Tryz.f242.results.toList K) (args0 0 [(.pointer (some a))]) h) = w a h K := (E0 S0 a h K).trans (cg1 (fun q0 => J0 q0 a h K) (by funext a h; exact ek3 K a h))
theorem hb : Tryz.f242.body = some body := by kernel_rfl
theorem ok : okCode T Tryz.f242.ntmps body = true := by kernel_rfl
theorem spec (a : Addr) (h : Heap) (K : KK) (H : w a h K) : Cl 242 [(.pointer (some a))] h K :=
  calls_of_E (T := T) Xok mix Tryz.func242 hb ok rfl (by rw [e0]; exact H)
end F242
namespace F243
def T : Hint := ⟨[], [(1, [[(0, []), (1, []), (2, []), (3, []), (4, []), (5, []), (6, []), (7, []), (8, []), (9, [])]])]⟩
noncomputable def body : Code := (Tryz.f243.body).getD .skip
def J0 (a : Addr) (h : Heap) (K : KK) : Prop :=
  ldI .i64 (rd h (a.add 6)) (fun n1 => ldI .i64 (rd h (a.add 7)) (fun n2 => K (.tuple #[(.int .i64 n1), (.int .i64 n2)]) h))
theorem E0 (S : Stop) (a : Addr) (h : Heap) (K : KK) : (E Tryz.prog X T S body (fin Tryz.prog Tryz.f243.results.toList K) (args0 0 [(.pointer (some a))]) h) = J0 a h K := by kernel_rfl
def w (a : Addr) (h : Heap) (K : KK) : Prop :=
  J0 a h K
theorem e0 (K : KK) (a : Addr) (h : Heap) : (E Tryz.prog X T S0 body (fin Tryz.prog Tryz.f243.results.toList K) (args0 0 [(.pointer (some a))]) h) = w a h K := (E0 S0 a h K).trans (rfl)
theorem hb : Tryz.f243.body = some body := by kernel_rfl
theorem ok : okCode T Tryz.f243.ntmps body = true := by kernel_rfl
theorem spec (a : Addr) (h : Heap) (K : KK) (H : w a h K) : Cl 243 [(.pointer (some a))] h K :=
  calls_of_E (T := T) Xok mix Tryz.func243 hb ok rfl (by rw [e0]; exact H)
end F243
namespace F244
def w (a : Addr) (h : Heap) (K : KK) : Prop :=
  ldB (rd h (a.add 8)) (fun b1 => K (.bool b1) h)
theorem spec (a : Addr) (h : Heap) (K : KK) (H : w a h K) : Cl 244 [(.pointer (some a))] h K :=
  cE Xok mix Tryz.func244 (by kernel_rfl) (by kernel_rfl) rfl (by kernel_rfl) H
end F244
namespace F200
def w (a : Addr) (h : Heap) (K : KK) : Prop :=
  ldI .i64 (rd h (a.add 2)) (fun n1 => K (.int .i64 n1) h)
theorem spec (a : Addr) (h : Heap) (K : KK) (H : w a h K) : Cl 200 [(.pointer (some a))] h K :=
  cE Xok mix Tryz.func200 (by kernel_rfl) (by kernel_rfl) rfl (by kernel_rfl) H
end F200
namespace F247
def T : Hint := ⟨[], [(3, [[(0, []), (1, []), (2, []), (3, []), (4, []), (5, []), (6, []), (7, []), (8, []), (9, []), (10, []), (11, [])]])]⟩
noncomputable def body : Code := (Tryz.f247.body).getD .skip
def J0 (a : Addr) (b : Int) (h : Heap) (K : KK) : Prop :=
  bcase (decide (b < (0 : Int))) (K (.int .u64 0) h) (ldI .i64 (rd h (a.add 2)) (fun n1 => bcase (decide (b ≥ n1)) (K (.int .u64 0) h) (ldP (rd h (a.add 0)) (fun p2 => ldI .i64 (rd h (a.add 1)) (fun n3 => Cl 162 [(.pointer p2), (.int .i64 (IntKind.wrap .i64 (n3 + b)))] h (fun v4 h5 => ldI .u64 (some v4) (fun n6 => K (.int .u64 n6) h5)))))))
theorem E0 (S : Stop) (a : Addr) (b : Int) (h : Heap) (K : KK) : (E Tryz.prog X T S body (fin Tryz.prog Tryz.f247.results.toList K) (args0 0 [(.pointer (some a)), (.int .i64 b)]) h) = J0 a b h K := by kernel_rfl
def w (a : Addr) (b : Int) (h : Heap) (K : KK) : Prop :=
  J0 a b h K
theorem e0 (K : KK) (a : Addr) (b : Int) (h : Heap) : (E Tryz.prog X T S0 body (fin Tryz.prog Tryz.f247.results.toList K) (args0 0 [(.pointer (some a)), (.int .i64 b)]) h) = w a b h K := (E0 S0 a b h K).trans (rfl)
theorem hb : Tryz.f247.body = some body := by kernel_rfl
theorem ok : okCode T Tryz.f247.ntmps body = true := by kernel_rfl
theorem spec (a : Addr) (b : Int) (h : Heap) (K : KK) (H : w a b h K) : Cl 247 [(.pointer (some a)), (.int .i64 b)] h K :=
  calls_of_E (T := T) Xok mix Tryz.func247 hb ok rfl (by rw [e0]; exact H)
end F247
namespace F285
def T : Hint := ⟨[], [(0, [[(0, []), (1, []), (2, []), (3, []), (4, []), (5, []), (6, []), (7, []), (8, []), (9, []), (10, []), (11, []), (12, []), (13, []), (14, []), (15, []), (16, []), (17, []), (18, []), (19, [])]])]⟩
noncomputable def body : Code := (Tryz.f285.body).getD .skip
def J0 (a : Addr) (h : Heap) (K : KK) : Prop :=
  ldP (rd h (a.add 0)) (fun p1 => ptrK p1 (fun a2 => ldP (rd h (a2.add 0)) (fun p3 => ldP (rd h (a.add 0)) (fun p4 => ptrK p4 (fun a5 => ldI .i64 (rd h (a5.add 1)) (fun n6 => ldI .i64 (rd h (a.add 2)) (fun n7 => Cl 162 [(.pointer p3), (.int .i64 (IntKind.wrap .i64 (n6 + n7)))] h (fun v8 h9 => ldI .u64 (some v8) (fun n10 => ldI .u64 (rd h9 (a.add 1)) (fun n11 => bcase (n10 == n11) (ldI .i64 (rd h9 (a.add 2)) (fun n12 => Cl 305 [(.pointer (some a)), (.int .i64 n12), (.int .i64 0)] h9 (fun v13 h14 => (v13 = (.tuple #[]) ∧ K (.tuple #[]) h14)))) (bcase (n10 == (0 : Int)) (stK h9 ((a.add 4).add 0) (.func (.func 306) #[(.pointer (some a))] #[]) (fun h15 => K (.tuple #[]) h15)) (Cl 307 [(.pointer (some a))] h9 (fun v16 h17 => (v16 = (.tuple #[]) ∧ K (.tuple #[]) h17))))))))))))))
theorem E0 (S : Stop) (a : Addr) (h : Heap) (K : KK) : (E Tryz.prog X T S body (fin Tryz.prog Tryz.f285.results.toList K) (args0 0 [(.pointer (some a))]) h) = J0 a h K := by kernel_rfl
def w (a : Addr) (h : Heap) (K : KK) : Prop :=
  J0 a h K
theorem e0 (K : KK) (a : Addr) (h : Heap) : (E Tryz.prog X T S0 body (fin Tryz.prog Tryz.f285.results.toList K) (args0 0 [(.pointer (some a))]) h) = w a h K := (E0 S0 a h K).trans (rfl)
theorem hb : Tryz.f285.body = some body := by kernel_rfl
theorem ok : okCode T Tryz.f285.ntmps body = true := by kernel_rfl
theorem spec (a : Addr) (h : Heap) (K : KK) (H : w a h K) : Cl 285 [(.pointer (some a))] h K :=
  calls_of_E (T := T) Xok mix Tryz.func285 hb ok rfl (by rw [e0]; exact H)
end F285
namespace F305
def w (a : Addr) (b c : Int) (h : Heap) (K : KK) : Prop :=
  stK h ((a.add 5).add 0) (.bool true) (fun h1 => stK h1 ((a.add 6).add 0) (.int .i64 b) (fun h2 => stK h2 ((a.add 7).add 0) (.int .i64 c) (fun h3 => K (.tuple #[]) h3)))
theorem spec (a : Addr) (b c : Int) (h : Heap) (K : KK) (H : w a b c h K) : Cl 305 [(.pointer (some a)), (.int .i64 b), (.int .i64 c)] h K :=
  cE Xok mix Tryz.func305 (by kernel_rfl) (by kernel_rfl) rfl (by kernel_rfl) H
end F305
namespace F306
def T : Hint := ⟨[], [(1, [[(0, []), (1, []), (2, []), (3, []), (4, []), (5, []), (6, []), (7, []), (8, []), (9, []), (10, []), (11, []), (12, []), (13, []), (14, []), (15, []), (16, []), (17, []), (18, []), (19, []), (20, []), (21, []), (22, []), (23, [])]])]⟩
noncomputable def body : Code := (Tryz.f306.body).getD .skip
def J0 (a : Addr) (h : Heap) (K : KK) : Prop :=
  stK h ((a.add 4).add 0) (.func (.func 285) #[(.pointer (some a))] #[]) (fun h1 => ldP (rd h1 (a.add 0)) (fun p2 => ptrK p2 (fun a3 => ldP (rd h1 (a3.add 0)) (fun p4 => ldP (rd h1 (a.add 0)) (fun p5 => ptrK p5 (fun a6 => ldI .i64 (rd h1 (a6.add 1)) (fun n7 => ldI .i64 (rd h1 (a.add 2)) (fun n8 => ldI .u64 (rd h1 (a.add 1)) (fun n9 => Cl 163 [(.pointer p4), (.int .i64 (IntKind.wrap .i64 (n7 + n8))), (.int .u64 0), (.int .u64 n9)] h1 (fun v10 h11 => ldB (some v10) (fun b12 => bcase b12 (stK h11 ((a.add 8).add 0) (.bool true) (fun h13 => ldI .i64 (rd h13 (a.add 2)) (fun n14 => Cl 305 [(.pointer (some a)), (.int .i64 n14), (.int .i64 0)] h13 (fun v15 h16 => (v15 = (.tuple #[]) ∧ K (.tuple #[]) h16))))) (K (.tuple #[]) h11))))))))))))
theorem E0 (S : Stop) (a : Addr) (h : Heap) (K : KK) : (E Tryz.prog X T S body (fin Tryz.prog Tryz.f306.results.toList K) (args0 0 [(.pointer (some a))]) h) = J0 a h K := by kernel_rfl
def w (a : Addr) (h : Heap) (K : KK) : Prop :=
  J0 a h K
theorem e0 (K : KK) (a : Addr) (h : Heap) : (E Tryz.prog X T S0 body (fin Tryz.prog Tryz.f306.results.toList K) (args0 0 [(.pointer (some a))]) h) = w a h K := (E0 S0 a h K).trans (rfl)
theorem hb : Tryz.f306.body = some body := by kernel_rfl
theorem ok : okCode T Tryz.f306.ntmps body = true := by kernel_rfl
theorem spec (a : Addr) (h : Heap) (K : KK) (H : w a h K) : Cl 306 [(.pointer (some a))] h K :=
  calls_of_E (T := T) Xok mix Tryz.func306 hb ok rfl (by rw [e0]; exact H)
end F306
namespace F307
def T : Hint := ⟨[], [(0, [[(0, []), (1, []), (2, []), (3, []), (4, []), (5, []), (6, []), (7, []), (8, []), (9, []), (10, []), (11, []), (12, []), (13, []), (14, []), (15, []), (16, [])]])]⟩
noncomputable def body : Code := (Tryz.f307.body).getD .skip
def J0 (a : Addr) (h : Heap) (K : KK) : Prop :=
  ldI .i64 (rd h (a.add 2)) (fun n1 => ldP (rd h (a.add 0)) (fun p2 => ptrK p2 (fun a3 => ldI .i64 (rd h (a3.add 2)) (fun n4 => (n4 ≠ 0 ∧ stK h ((a.add 2).add 0) (.int .i64 (Int.tmod (IntKind.wrap .i64 (n1 + (1 : Int))) n4)) (fun h5 => ldI .i64 (rd h5 (a.add 3)) (fun n6 => stK h5 ((a.add 3).add 0) (.int .i64 (IntKind.wrap .i64 (n6 - (1 : Int)))) (fun h7 => ldI .i64 (rd h7 (a.add 3)) (fun n8 => bcase (n8 == (0 : Int)) (Cl 305 [(.pointer (some a)), (.int .i64 (-1)), (.int .i64 60)] h7 (fun v9 h10 => (v9 = (.tuple #[]) ∧ K (.tuple #[]) h10))) (K (.tuple #[]) h7))))))))))
theorem E0 (S : Stop) (a : Addr) (h : Heap) (K : KK) : (E Tryz.prog X T S body (fin Tryz.prog Tryz.f307.results.toList K) (args0 0 [(.pointer (some a))]) h) = J0 a h K := by kernel_rfl
def w (a : Addr) (h : Heap) (K : KK) : Prop :=
  J0 a h K
theorem e0 (K : KK) (a : Addr) (h : Heap) : (E Tryz.prog X T S0 body (fin Tryz.prog Tryz.f307.results.toList K) (args0 0 [(.pointer (some a))]) h) = w a h K := (E0 S0 a h K).trans (rfl)
theorem hb : Tryz.f307.body = some body := by kernel_rfl
theorem ok : okCode T Tryz.f307.ntmps body = true := by kernel_rfl
theorem spec (a : Addr) (h : Heap) (K : KK) (H : w a h K) : Cl 307 [(.pointer (some a))] h K :=
  calls_of_E (T := T) Xok mix Tryz.func307 hb ok rfl (by rw [e0]; exact H)
end F307
end
section
def xsf (x : Int) : Int := bitsI .xor .u64 x (Int.fdiv x (2 ^ (min (Int.toNat (33 : Int)) (IntKind.bits .u64))))
def mixF (x : Int) : Int := xsf (IntKind.wrap .u64 (xsf (IntKind.wrap .u64 (xsf x * 18397679294719823053)) * 14181476777654086739))
theorem wrapu_range (x : Int) : 0 ≤ IntKind.wrap .u64 x ∧ IntKind.wrap .u64 x < 18446744073709551616 := by
  rw [wrap_u64']; omega
theorem xsf_range (x : Int) : 0 ≤ xsf x ∧ xsf x < 18446744073709551616 := wrapu_range _
theorem mix_spec {h : Heap} {x : Int} {K : Value → Heap → Prop} (hK : K (.int .u64 (mixF x)) h) : CallsH Tryz.prog 286 [.int .u64 x] h K := by
  apply F286.spec
  unfold F286.w F286.J0 F286.wk2 F286.Jk2
  refine ⟨3, ?_⟩
  unfold F286.wL2 F286.JL2
  rw [show decide ((0 : Int) < 2) = true from rfl, bcase_true]
  refine ⟨by decide, by decide, ldI_of rfl ⟨by decide, ?_⟩⟩
  unfold F286.wL2 F286.JL2
  dsimp only
  rw [show IntKind.wrap .i64 ((0 : Int) + 1) = 1 from rfl, show decide ((1 : Int) < 2) = true from rfl, bcase_true]
  refine ⟨by decide, by decide, ldI_of rfl ⟨by decide, ?_⟩⟩
  unfold F286.wL2 F286.JL2
  dsimp only
  rw [show IntKind.wrap .i64 ((1 : Int) + 1) = 2 from rfl, show decide ((2 : Int) < 2) = false from rfl, bcase_false]
  exact ⟨by decide, hK⟩
def home (key : Int) (n : Nat) : Nat := ((mixF key).tmod n).toNat
theorem home_lt (key : Int) {n : Nat} (hn : 1 ≤ n) : home key n < n := by
  unfold home
  have h0 : 0 ≤ mixF key := (xsf_range _).1
  rw [Int.tmod_eq_emod_of_nonneg h0]
  have := Int.emod_lt_of_pos (mixF key) (by omega : (0 : Int) < n)
  have := Int.emod_nonneg (mixF key) (by omega : (n : Int) ≠ 0)
  omega
theorem home_spec {h : Heap} {x : Int} {n : Nat} {K : Value → Heap → Prop} (h1 : 1 ≤ n) (h2 : n < 1000000000) (hK : K (.int .i64 (home x n : Int)) h) : CallsH Tryz.prog 246 [.int .u64 x, .int .i64 (n : Int)] h K := by
  apply F246.spec
  unfold F246.w
  rw [decide_eq_false (by omega), bcase_false]
  refine mix_spec (ldI_of rfl ?_)
  rw [wrap_u64 (n := (n : Int)) (by omega) (by omega)]
  have h0 : 0 ≤ mixF x := (xsf_range _).1
  have e : (mixF x).tmod n = (home x n : Int) := by
    unfold home
    rw [Int.tmod_eq_emod_of_nonneg h0]
    have := Int.emod_nonneg (mixF x) (by omega : (n : Int) ≠ 0)
    omega
  have := home_lt x h1
  rw [e, wrap_i64 (by omega) (by omega)]
  exact ⟨by omega, hK⟩

def TabIs (h : Heap) (t m base n : Nat) : Prop := At h t [.pointer (some ⟨m, 0, none⟩), .int .i64 (base : Int), .int .i64 (n : Int)]
theorem TabIs.only {S : List Nat} {h h' : Heap} {t m base n : Nat} (H : TabIs h t m base n) (O : Only S h h') (ht : t ∉ S) : TabIs h' t m base n := At.only H O ht
structure Fi where
  key : Int
  pos : Nat
  left : Nat
  claims : Bool
  done : Bool
  slot : Int
  e : Int
  made : Bool
def nxt (f : Nat) : Bool → Value
  | true => .func (.func 306) #[.pointer (some ⟨f, 0, none⟩)] #[]
  | false => .func (.func 285) #[.pointer (some ⟨f, 0, none⟩)] #[]
def FindIs (h : Heap) (f t : Nat) (F : Fi) : Prop :=
  At h f [.pointer (some ⟨t, 0, none⟩), .int .u64 F.key, .int .i64 (F.pos : Int), .int .i64 (F.left : Int), nxt f F.claims, .bool F.done, .int .i64 F.slot, .int .i64 F.e, .bool F.made]
theorem FindIs.only {S : List Nat} {h h' : Heap} {f t : Nat} {F : Fi} (H : FindIs h f t F) (O : Only S h h') (ht : f ∉ S) : FindIs h' f t F := At.only H O ht

def stepF (base n : Nat) (cs : List Int) (F : Fi) : Fi × List Int :=
  if F.done then (F, cs) else
  if F.claims then
    if cs.getD (base + F.pos) 0 = 0 then ({ F with claims := false, made := true, done := true, slot := F.pos, e := 0 }, cs.set (base + F.pos) F.key)
    else ({ F with claims := false }, cs)
  else if cs.getD (base + F.pos) 0 = F.key then ({ F with done := true, slot := F.pos, e := 0 }, cs)
  else if cs.getD (base + F.pos) 0 = 0 then ({ F with claims := true }, cs)
  else if F.left = 1 then ({ F with pos := (F.pos + 1) % n, left := 0, done := true, slot := -1, e := 60 }, cs)
  else ({ F with pos := (F.pos + 1) % n, left := F.left - 1 }, cs)

theorem ends_spec {h : Heap} {f t : Nat} {F : Fi} {s e : Int} {K : Value → Heap → Prop} (H : FindIs h f t F)
    (hK : ∀ h', FindIs h' f t { F with done := true, slot := s, e := e } → Only [f] h h' → K (.tuple #[]) h') :
    CallsH Tryz.prog 305 [.pointer (some ⟨f, 0, none⟩), .int .i64 s, .int .i64 e] h K := by
  apply F305.spec
  unfold F305.w
  simp only [add_mk, Nat.zero_add, Nat.add_zero]
  refine stK_at H (by simp) rfl fun h1 A1 O1 _ => stK_at A1 (by simp) rfl fun h2 A2 O2 _ => stK_at A2 (by simp) rfl fun h3 A3 O3 _ => ?_
  exact hK h3 A3 ((O1.trans O2 (by simp)).trans O3 (by simp))

section
variable {h : Heap} {f t m mc base n : Nat} {cs : List Int} {ops fails : Int} {F : Fi} {K : Value → Heap → Prop}
theorem goes_spec (T : TabIs h t m base n) (H : FindIs h f t F) (hn : 1 ≤ n) (hn2 : n < 1000000000) (hp : F.pos < n) (hl : 1 ≤ F.left) (hl2 : F.left < 1000000000)
    (hK : ∀ h', FindIs h' f t (if F.left = 1 then { F with pos := (F.pos + 1) % n, left := 0, done := true, slot := -1, e := 60 } else { F with pos := (F.pos + 1) % n, left := F.left - 1 }) → Only [f] h h' → K (.tuple #[]) h') :
    CallsH Tryz.prog 307 [.pointer (some ⟨f, 0, none⟩)] h K := by
  apply F307.spec
  unfold F307.w F307.J0
  simp only [add_mk, Nat.zero_add, Nat.add_zero]
  refine ldI_of (by rw [At.rd H]; rfl) (ldP_of (by rw [At.rd H]; rfl) ?_)
  simp only [ptrK_some, add_mk, Nat.zero_add]
  refine ldI_of (by rw [At.rd T]; rfl) ⟨by omega, stK_at H (by simp) rfl fun h1 A1 O1 _ => ?_⟩
  have e1 : (IntKind.wrap .i64 ((F.pos : Int) + 1)).tmod n = (((F.pos + 1) % n : Nat) : Int) := by
    rw [wrap_i64 (by omega) (by omega), Int.tmod_eq_emod_of_nonneg (by omega)]
    simp
  rw [e1] at A1
  refine ldI_of (by rw [A1.rd]; rfl) (stK_at A1 (by simp) rfl fun h2 A2 O2 _ => ?_)
  rw [wrap_i64 (by omega) (by omega)] at A2
  have A2 : FindIs h2 f t { F with pos := (F.pos + 1) % n, left := F.left - 1 } := by
    rw [show (F.left : Int) - 1 = ((F.left - 1 : Nat) : Int) by omega] at A2
    exact A2
  have O12 := O1.trans O2 (by simp)
  refine ldI_of (n := ((F.left - 1 : Nat) : Int)) (by rw [At.rd A2]; rfl) ?_
  by_cases h1 : F.left = 1
  · rw [show (((F.left - 1 : Nat) : Int) == 0) = true by simp [h1], bcase_true]
    refine ends_spec A2 fun h3 A3 O3 => ⟨rfl, hK h3 ?_ (O12.trans O3 (by simp))⟩
    rw [if_pos h1]
    simpa [h1] using A3
  · rw [show (((F.left - 1 : Nat) : Int) == 0) = false by simp; omega, bcase_false]
    refine hK h2 ?_ O12
    rw [if_neg h1]
    exact A2

theorem step_spec (T : TabIs h t m base n) (H : FindIs h f t F) (M : MemIs h m mc cs ops fails) (hn : 1 ≤ n) (hn2 : n < 1000000000) (hb : base < 1000000000) (hp : F.pos < n) (hl : F.done = false → 1 ≤ F.left) (hl2 : F.left < 1000000000)
    (hc : base + n ≤ cs.length) (d1 : f ≠ t) (d2 : f ≠ m) (d3 : f ≠ mc) (d4 : t ≠ m) (d5 : t ≠ mc)
    (hK : ∀ h' fails', FindIs h' f t (stepF base n cs F).1 → TabIs h' t m base n → MemIs h' m mc (stepF base n cs F).2 (if F.done then ops else up ops) fails' → Only [f, m, mc] h h' → K (.bool (stepF base n cs F).1.done) h') :
    CallsH Tryz.prog 242 [.pointer (some ⟨f, 0, none⟩)] h K := by
  apply F242.spec
  unfold F242.w F242.J0
  simp only [add_mk, Nat.zero_add]
  refine ldB_of (n := F.done) (by rw [At.rd H]; rfl) ?_
  have hend : ∀ h' fails', FindIs h' f t (stepF base n cs F).1 → TabIs h' t m base n → MemIs h' m mc (stepF base n cs F).2 (if F.done then ops else up ops) fails' → Only [f, m, mc] h h' → F242.wk3 ⟨f, 0, none⟩ h' K := by
    intro h' fails' a1 a2 a3 a4
    unfold F242.wk3 F242.Jk3
    simp only [add_mk, Nat.zero_add]
    exact ldB_of (by rw [At.rd a1]; rfl) (hK h' fails' a1 a2 a3 a4)
  cases hd : F.done with
  | true =>
    rw [Bool.not_true, bcase_false]
    have e : stepF base n cs F = (F, cs) := by unfold stepF; rw [if_pos hd]
    rw [e, hd] at hend
    exact hend h fails H T M (Only.refl _ _)
  | false =>
    rw [Bool.not_false, bcase_true]
    have hb2 : IntKind.wrap .i64 ((base : Int) + (F.pos : Int)) = ((base + F.pos : Nat) : Int) := by rw [wrap_i64 (by omega) (by omega)]; simp
    have hi : base + F.pos < cs.length := by omega
    have hg : cs.getD (((base + F.pos : Nat) : Int).toNat) 0 = cs.getD (base + F.pos) 0 := by rw [Int.toNat_natCast]
    rw [hd] at hend
    have hs : ∀ b ∈ [m, mc], b ∈ [f, m, mc] := by simp +contextual
    cases hcl : F.claims with
    | false =>
      refine ⟨_, by rw [At.rd H]; rfl, ?_⟩
      rw [hcl]
      refine dynK_go (by kernel_rfl) ?_
      refine F285.spec _ _ _ ?_
      unfold F285.w F285.J0
      simp only [add_mk, Nat.zero_add, Nat.add_zero]
      refine ldP_of (by rw [At.rd H]; rfl) ?_
      simp only [ptrK_some, add_mk, Nat.zero_add]
      refine ldP_of (by rw [At.rd T]; rfl) (ldP_of (by rw [At.rd H]; rfl) ?_)
      simp only [ptrK_some, add_mk, Nat.zero_add]
      refine ldI_of (by rw [At.rd T]; rfl) (ldI_of (by rw [At.rd H]; rfl) ?_)
      rw [hb2]
      refine load_in M (by omega) (by omega) fun h1 M1 O1 => ldI_of rfl ?_
      have H1 := H.only O1 (by simp [d2, d3])
      have T1 := T.only O1 (by simp [d4, d5])
      have Q1 := O1.mono (T := [f, m, mc]) fun b hb _ => hs b hb
      rw [hg]
      refine ldI_of (n := F.key) (by rw [At.rd H1]; rfl) ?_
      unfold stepF at hend
      rw [if_neg (by simp [hd]), if_neg (by simp [hcl])] at hend
      by_cases hk : cs.getD (base + F.pos) 0 = F.key
      · rw [if_pos hk] at hend
        rw [show (cs.getD (base + F.pos) 0 == F.key) = true by simpa using hk, bcase_true]
        refine ldI_of (by rw [At.rd H1]; rfl) (ends_spec H1 fun h2 H2 O2 => ⟨by trivial, by trivial, ?_⟩)
        exact hend h2 fails H2 (T1.only O2 (by simp [d1.symm])) (M1.only O2 (by simp [d2.symm]) (by simp [d3.symm])) (Q1.trans O2 (by simp))
      · rw [if_neg hk] at hend
        rw [show (cs.getD (base + F.pos) 0 == F.key) = false by simpa using hk, bcase_false]
        by_cases hz : cs.getD (base + F.pos) 0 = 0
        · rw [if_pos hz] at hend
          rw [show (cs.getD (base + F.pos) 0 == 0) = true by simpa using hz, bcase_true]
          refine stK_at H1 (by simp) rfl fun h2 A2 O2 _ => ⟨by trivial, ?_⟩
          exact hend h2 fails A2 (T1.only O2 (by simp [d1.symm])) (M1.only O2 (by simp [d2.symm]) (by simp [d3.symm])) (Q1.trans O2 (by simp))
        · rw [if_neg hz] at hend
          rw [show (cs.getD (base + F.pos) 0 == 0) = false by simpa using hz, bcase_false]
          refine goes_spec T1 H1 hn hn2 hp (hl hd) hl2 fun h2 H2 O2 => ⟨by trivial, by trivial, ?_⟩
          have T2 := T1.only O2 (by simp [d1.symm])
          have M2 := M1.only O2 (by simp [d2.symm]) (by simp [d3.symm])
          have Q2 := Q1.trans O2 (by simp)
          by_cases h1 : F.left = 1
          · rw [if_pos h1] at hend H2
            exact hend h2 fails H2 T2 M2 Q2
          · rw [if_neg h1] at hend H2
            exact hend h2 fails H2 T2 M2 Q2
    | true =>
      refine ⟨_, by rw [At.rd H]; rfl, ?_⟩
      rw [hcl]
      refine dynK_go (by kernel_rfl) ?_
      refine F306.spec _ _ _ ?_
      unfold F306.w F306.J0
      simp only [add_mk, Nat.zero_add, Nat.add_zero]
      refine stK_at H (by simp) rfl fun h1 A1 O1 _ => ?_
      have H1 : FindIs h1 f t { F with claims := false } := A1
      have T1 := T.only O1 (by simp [d1.symm])
      have M1 := M.only O1 (by simp [d2.symm]) (by simp [d3.symm])
      have Q1 := O1.mono (T := [f, m, mc]) fun b hb _ => (by simp at hb; simp [hb])
      refine ldP_of (by rw [At.rd H1]; rfl) ?_
      simp only [ptrK_some, add_mk, Nat.zero_add]
      refine ldP_of (by rw [At.rd T1]; rfl) (ldP_of (by rw [At.rd H1]; rfl) ?_)
      simp only [ptrK_some, add_mk, Nat.zero_add]
      refine ldI_of (by rw [At.rd T1]; rfl) (ldI_of (by rw [At.rd H1]; rfl) (ldI_of (n := F.key) (by rw [At.rd H1]; rfl) ?_))
      rw [hb2]
      unfold stepF at hend
      rw [if_neg (by simp [hd]), if_pos (by simp [hcl])] at hend
      refine cas_in M1 (by omega) (by omega) (fun e h2 M2 O2 => ?_) fun e h2 M2 O2 => ?_
      · rw [hg] at e
        rw [if_pos e] at hend
        rw [ldB_some, bcase_true]
        refine stK_at (H1.only O2 (by simp [d2, d3])) (by simp) rfl fun h3 A3 O3 _ => ?_
        have H3 : FindIs h3 f t { F with claims := false, made := true } := A3
        refine ldI_of (by rw [At.rd H3]; rfl) (ends_spec H3 fun h4 H4 O4 => ⟨by trivial, by trivial, ?_⟩)
        have O34 := O3.trans O4 (by simp)
        rw [Int.toNat_natCast] at M2
        exact hend h4 fails H4 ((T1.only O2 (by simp [d4, d5])).only O34 (by simp [d1.symm])) (M2.only O34 (by simp [d2.symm]) (by simp [d3.symm])) ((Q1.trans O2 fun b hb _ => hs b hb).trans O34 (by simp))
      · rw [hg] at e
        rw [if_neg e] at hend
        rw [ldB_some, bcase_false]
        exact ⟨by trivial, hend h2 (up fails) (H1.only O2 (by simp [d2, d3])) (T1.only O2 (by simp [d4, d5])) M2 (Q1.trans O2 fun b hb _ => hs b hb)⟩

def newFi (key : Int) (n : Nat) : Fi := ⟨key, home key n, n, false, key == 0, -1, 61, false⟩
theorem find_spec {key : Int} (T : TabIs h t m base n) (hn : 1 ≤ n) (hn2 : n < 1000000000)
    (hK : ∀ f h', FindIs h' f t (newFi key n) → Only [] h h' → h.size ≤ f → K (.pointer (some ⟨f, 0, none⟩)) h') :
    CallsH Tryz.prog 241 [.pointer (some ⟨t, 0, none⟩), .int .u64 key] h K := by
  apply F241.spec
  unfold F241.w F241.J0
  simp only [add_mk, Nat.zero_add, Nat.add_zero]
  have hr : rd h ⟨t, 2, none⟩ = some (.int .i64 (n : Int)) := by rw [At.rd T]; rfl
  refine ldI_of hr (ldI_of hr (home_spec hn hn2 (ldI_of rfl ⟨trivial, trivial, trivial, trivial, trivial, ldI_of hr ⟨rfl, trivial, trivial, ?_⟩⟩)))
  refine newK_at fun h1 A1 O1 z1 => stK_at A1 (by simp) rfl fun h2 A2 O2 _ => ?_
  exact hK h.size h2 A2 (O1.trans O2 fun b hb hl => absurd (show b = h.size by simpa using hb) (by omega)) (Nat.le_refl _)
theorem made_spec (H : FindIs h f t F) (hK : K (.bool F.made) h) : CallsH Tryz.prog 244 [.pointer (some ⟨f, 0, none⟩)] h K := by
  apply F244.spec
  unfold F244.w
  simp only [add_mk, Nat.zero_add]
  exact ldB_of (by rw [At.rd H]; rfl) hK
theorem slot_spec (H : FindIs h f t F) (hK : K (.tuple #[.int .i64 F.slot, .int .i64 F.e]) h) : CallsH Tryz.prog 243 [.pointer (some ⟨f, 0, none⟩)] h K := by
  apply F243.spec
  unfold F243.w F243.J0
  simp only [add_mk, Nat.zero_add]
  exact ldI_of (by rw [At.rd H]; rfl) (ldI_of (by rw [At.rd H]; rfl) hK)
theorem slots_spec (T : TabIs h t m base n) (hK : K (.int .i64 (n : Int)) h) : CallsH Tryz.prog 200 [.pointer (some ⟨t, 0, none⟩)] h K := by
  apply F200.spec
  unfold F200.w
  simp only [add_mk, Nat.zero_add]
  exact ldI_of (by rw [At.rd T]; rfl) hK
theorem tabnew_spec {base n : Nat} (M : MemIs h m mc cs ops fails) (hn : 1 ≤ n) (hb : base + n ≤ cs.length) (hc : cs.length < 1000000000)
    (hK : ∀ t h', TabIs h' t m base n → Only [] h h' → h.size ≤ t → K (.tuple #[.pointer (some ⟨t, 0, none⟩), .int .i64 0]) h') :
    CallsH Tryz.prog 159 [.pointer (some ⟨m, 0, none⟩), .int .i64 (base : Int), .int .i64 (n : Int)] h K := by
  apply F159.spec
  unfold F159.w
  rw [decide_eq_false (by omega), bcase_false, decide_eq_false (by omega), bcase_false]
  refine len_spec M (ldI_of rfl ?_)
  rw [decide_eq_false (by omega), bcase_false]
  refine len_spec M (ldI_of rfl ?_)
  rw [wrap_i64 (by omega) (by omega), decide_eq_false (by omega), bcase_false]
  exact newK_at fun h1 A1 O1 z1 => hK h.size h1 A1 O1 (Nat.le_refl _)
end
end
section
def cell (base : Nat) (cs : List Int) (i : Nat) : Int := cs.getD (base + i) 0
def cnt (base : Nat) (cs : List Int) : Nat → Nat
  | 0 => 0
  | n + 1 => cnt base cs n + (if cell base cs n = 0 then 0 else 1)
section
variable {h : Heap} {t m mc base n : Nat} {cs : List Int} {ops fails : Int} {K : Value → Heap → Prop}
theorem at_spec (T : TabIs h t m base n) (M : MemIs h m mc cs ops fails) (hb : base < 1000000000) (hn : n < 1000000000) (hc : base + n ≤ cs.length) {i : Nat} (hi : i < n)
    (hK : ∀ h', MemIs h' m mc cs (up ops) fails → Only [m, mc] h h' → K (.int .u64 (cell base cs i)) h') :
    CallsH Tryz.prog 247 [.pointer (some ⟨t, 0, none⟩), .int .i64 (i : Int)] h K := by
  apply F247.spec
  unfold F247.w F247.J0
  simp only [add_mk, Nat.zero_add]
  rw [decide_eq_false (by omega), bcase_false]
  refine ldI_of (n := (n : Int)) (by rw [At.rd T]; rfl) ?_
  rw [decide_eq_false (by omega), bcase_false]
  refine ldP_of (by rw [At.rd T]; rfl) (ldI_of (by rw [At.rd T]; rfl) ?_)
  rw [show IntKind.wrap .i64 ((base : Int) + (i : Int)) = ((base + i : Nat) : Int) by rw [wrap_i64 (by omega) (by omega)]; simp]
  refine load_in M (by omega) (by omega) fun h1 M1 O1 => ldI_of rfl ?_
  rw [Int.toNat_natCast]
  exact hK h1 M1 O1
end
end
section
def path (n : Nat) (key : Int) (d : Nat) : Nat := (home key n + d) % n
theorem path_lt {n : Nat} {key : Int} {d : Nat} (hn : 1 ≤ n) : path n key d < n := Nat.mod_lt _ (by omega)
theorem path_surj {n : Nat} {key : Int} {i : Nat} (hi : i < n) : ∃ d, d < n ∧ path n key d = i := by
  have hh := home_lt key (show 1 ≤ n by omega)
  by_cases h : home key n ≤ i
  · exact ⟨i - home key n, by omega, by unfold path; rw [show home key n + (i - home key n) = i by omega]; exact Nat.mod_eq_of_lt hi⟩
  · exact ⟨i + n - home key n, by omega, by
      unfold path
      rw [show home key n + (i + n - home key n) = i + n by omega, Nat.add_mod_right]
      exact Nat.mod_eq_of_lt hi⟩
theorem path_succ {n : Nat} {key : Int} {d : Nat} : path n key (d + 1) = (path n key d + 1) % n := by
  unfold path
  rw [← Nat.add_assoc, Nat.mod_add_mod]
def Seen (base n : Nat) (cs : List Int) (key : Int) (d : Nat) : Prop := ∀ j, j < d → cell base cs (path n key j) ≠ 0 ∧ cell base cs (path n key j) ≠ key
def TInv (base n : Nat) (cs : List Int) : Prop :=
  ∀ i, i < n → cell base cs i ≠ 0 → ∃ d, d < n ∧ path n (cell base cs i) d = i ∧ Seen base n cs (cell base cs i) d
structure Fok (base n : Nat) (cs : List Int) (F : Fi) : Prop where
  pos : F.pos < n
  left : F.left ≤ n
  going : F.done = false → F.key ≠ 0 ∧ 1 ≤ F.left ∧ F.pos = path n F.key (n - F.left) ∧ Seen base n cs F.key (n - F.left) ∧ F.made = false ∧ F.slot = -1 ∧ F.e = 61
  ended : F.done = true → (F.key = 0 ∧ F.slot = -1 ∧ F.e = 61 ∧ F.made = false) ∨ (F.key ≠ 0 ∧ F.e = 0 ∧ ∃ i : Nat, i < n ∧ F.slot = i ∧ cell base cs i = F.key) ∨
    (F.key ≠ 0 ∧ F.e = 60 ∧ F.slot = -1 ∧ F.made = false ∧ ∀ i, i < n → cell base cs i ≠ 0 ∧ cell base cs i ≠ F.key)
def Grow (base n : Nat) (cs cs' : List Int) : Prop := cs'.length = cs.length ∧ (∀ i, i < n → cell base cs i ≠ 0 → cell base cs' i = cell base cs i) ∧ ∀ x, x < base ∨ base + n ≤ x → cs'.getD x 0 = cs.getD x 0
theorem Grow.refl (base n : Nat) (cs : List Int) : Grow base n cs cs := ⟨rfl, fun _ _ _ => rfl, fun _ _ => rfl⟩
theorem Grow.trans {base n : Nat} {a b c : List Int} (H : Grow base n a b) (G : Grow base n b c) : Grow base n a c :=
  ⟨G.1.trans H.1, fun i hi h => by rw [G.2.1 i hi (by rw [H.2.1 i hi h]; exact h), H.2.1 i hi h], fun x hx => (G.2.2 x hx).trans (H.2.2 x hx)⟩
theorem Seen.grow {base n : Nat} {cs cs' : List Int} {key : Int} {d : Nat} (hn : 1 ≤ n) (H : Seen base n cs key d) (G : Grow base n cs cs') : Seen base n cs' key d := by
  intro j hj
  obtain ⟨a, b⟩ := H j hj
  rw [G.2.1 _ (path_lt hn) a]
  exact ⟨a, b⟩
theorem newFi_ok {base n : Nat} {cs : List Int} {key : Int} (hn : 1 ≤ n) : Fok base n cs (newFi key n) := by
  refine ⟨home_lt key hn, Nat.le_refl _, fun hd => ?_, fun hd => ?_⟩
  · have hk : key ≠ 0 := by simpa [newFi] using hd
    refine ⟨hk, hn, ?_, ?_, rfl, rfl, rfl⟩
    · show home key n = path n key (n - n)
      unfold path
      rw [Nat.sub_self, Nat.add_zero, Nat.mod_eq_of_lt (home_lt key hn)]
    · intro j hj
      simp [newFi] at hj
  · have hk : key = 0 := by simpa [newFi] using hd
    exact Or.inl ⟨hk, rfl, rfl, rfl⟩

section
variable {base n : Nat} {cs : List Int} {F : Fi}
theorem cell_set {i j : Nat} {v : Int} (hi : base + i < cs.length) : cell base (cs.set (base + i) v) j = if j = i then v else cell base cs j := by
  unfold cell
  by_cases h : j = i
  · subst h
    simp [hi]
  · simp only [List.getD, List.getElem?_set, if_neg (by omega : ¬ base + i = base + j), if_neg h]
theorem TInv.absent (T : TInv base n cs) {key : Int} {d : Nat} (hd : d < n) (hk : key ≠ 0) (S : Seen base n cs key d) (hz : cell base cs (path n key d) = 0) : ∀ j, j < n → cell base cs j ≠ key := by
  intro j hj e
  obtain ⟨d', h1, h2, h3⟩ := T j hj (by rw [e]; exact hk)
  rw [e] at h2 h3
  by_cases c1 : d' < d
  · have := (S d' c1).2
    rw [h2] at this
    exact this e
  · by_cases c2 : d' = d
    · subst c2
      rw [h2, e] at hz
      exact hk hz
    · exact (h3 d (by omega)).1 hz
theorem grow_set {i : Nat} {v : Int} (hi : i < n) (hc : base + n ≤ cs.length) (hz : cell base cs i = 0) : Grow base n cs (cs.set (base + i) v) := by
  refine ⟨by simp, fun j hj hnz => ?_, fun x hx => ?_⟩
  · rw [cell_set (by omega), if_neg (fun e => hnz (by rw [e]; exact hz))]
  · simp only [List.getD, List.getElem?_set, if_neg (by omega : ¬ base + i = x)]
theorem TInv.set (hn : 1 ≤ n) (hc : base + n ≤ cs.length) (T : TInv base n cs) {key : Int} {d : Nat} (hd : d < n) (S : Seen base n cs key d) (hz : cell base cs (path n key d) = 0) :
    TInv base n (cs.set (base + path n key d) key) := by
  have hp : path n key d < n := path_lt hn
  have G := grow_set (v := key) hp hc hz
  intro i hi hnz
  rw [cell_set (by omega)] at hnz ⊢
  by_cases h : i = path n key d
  · rw [if_pos h]
    exact ⟨d, hd, h.symm, S.grow hn G⟩
  · rw [if_neg h] at hnz ⊢
    obtain ⟨d', h1, h2, h3⟩ := T i hi hnz
    exact ⟨d', h1, h2, h3.grow hn G⟩

theorem step_ok (hn : 1 ≤ n) (hc : base + n ≤ cs.length) (T : TInv base n cs) (H : Fok base n cs F) :
    TInv base n (stepF base n cs F).2 ∧ Fok base n (stepF base n cs F).2 (stepF base n cs F).1 ∧ Grow base n cs (stepF base n cs F).2 ∧ (stepF base n cs F).1.key = F.key ∧
    (((stepF base n cs F).1.made = F.made ∧ (stepF base n cs F).2 = cs) ∨
      (F.done = false ∧ F.made = false ∧ (stepF base n cs F).1.made = true ∧ (stepF base n cs F).1.done = true ∧ (stepF base n cs F).1.slot = F.pos ∧ (stepF base n cs F).1.e = 0 ∧ F.pos < n ∧ cell base cs F.pos = 0 ∧ F.key ≠ 0 ∧ (∀ j, j < n → cell base cs j ≠ F.key) ∧ (stepF base n cs F).2 = cs.set (base + F.pos) F.key)) := by
  unfold stepF
  by_cases hd : F.done = true
  · rw [if_pos hd]
    exact ⟨T, H, Grow.refl _ _ _, rfl, Or.inl ⟨rfl, rfl⟩⟩
  · rw [if_neg hd]
    have hd' : F.done = false := by simpa using hd
    obtain ⟨hk, hl, hp, S, hm, hs, he⟩ := H.going hd'
    have hdn : n - F.left < n := by omega
    by_cases hcl : F.claims = true
    · rw [if_pos hcl]
      by_cases hz : cs.getD (base + F.pos) 0 = 0
      · rw [if_pos hz]
        have hz' : cell base cs F.pos = 0 := hz
        have hz2 : cell base cs (path n F.key (n - F.left)) = 0 := by rw [← hp]; exact hz'
        refine ⟨?_, ⟨H.pos, H.left, fun h => by simp at h, fun _ => Or.inr (Or.inl ⟨hk, rfl, F.pos, H.pos, rfl, ?_⟩)⟩, grow_set H.pos hc hz', rfl,
          Or.inr ⟨hd', hm, rfl, rfl, rfl, rfl, H.pos, hz', hk, T.absent hdn hk S hz2, rfl⟩⟩
        · have := T.set hn hc hdn S hz2
          rw [← hp] at this
          exact this
        · rw [cell_set (by have := H.pos; omega), if_pos rfl]
      · rw [if_neg hz]
        exact ⟨T, ⟨H.pos, H.left, fun _ => ⟨hk, hl, hp, S, hm, hs, he⟩, fun h => absurd h hd⟩, Grow.refl _ _ _, rfl, Or.inl ⟨rfl, rfl⟩⟩
    · rw [if_neg hcl]
      by_cases hkey : cs.getD (base + F.pos) 0 = F.key
      · rw [if_pos hkey]
        exact ⟨T, ⟨H.pos, H.left, fun h => by simp at h, fun _ => Or.inr (Or.inl ⟨hk, rfl, F.pos, H.pos, rfl, hkey⟩)⟩, Grow.refl _ _ _, rfl, Or.inl ⟨rfl, rfl⟩⟩
      · rw [if_neg hkey]
        by_cases hz : cs.getD (base + F.pos) 0 = 0
        · rw [if_pos hz]
          exact ⟨T, ⟨H.pos, H.left, fun _ => ⟨hk, hl, hp, S, hm, hs, he⟩, fun h => absurd h hd⟩, Grow.refl _ _ _, rfl, Or.inl ⟨rfl, rfl⟩⟩
        · rw [if_neg hz]
          have S' : Seen base n cs F.key (n - F.left + 1) := by
            intro j hj
            by_cases h' : j < n - F.left
            · exact S j h'
            · obtain rfl : j = n - F.left := by omega
              rw [← hp]
              exact ⟨hz, hkey⟩
          have hp' : (F.pos + 1) % n < n := Nat.mod_lt _ (by omega)
          by_cases h1 : F.left = 1
          · rw [if_pos h1]
            refine ⟨T, ⟨hp', Nat.zero_le _, fun h => by simp at h, fun _ => Or.inr (Or.inr ⟨hk, rfl, rfl, hm, fun i hi => ?_⟩)⟩, Grow.refl _ _ _, rfl, Or.inl ⟨rfl, rfl⟩⟩
            obtain ⟨d, hd1, hd2⟩ := path_surj (key := F.key) hi
            rw [← hd2]
            exact S' d (by omega)
          · rw [if_neg h1]
            refine ⟨T, ⟨hp', by have := H.left; show F.left - 1 ≤ n; omega, fun _ => ⟨hk, by show 1 ≤ F.left - 1; omega, ?_, ?_, hm, hs, he⟩, fun h => absurd h hd⟩, Grow.refl _ _ _, rfl, Or.inl ⟨rfl, rfl⟩⟩
            · show (F.pos + 1) % n = path n F.key (n - (F.left - 1))
              have := H.left
              rw [show n - (F.left - 1) = (n - F.left) + 1 by omega, path_succ, ← hp]
            · show Seen base n cs F.key (n - (F.left - 1))
              have := H.left
              rw [show n - (F.left - 1) = (n - F.left) + 1 by omega]
              exact S'

def pot (base : Nat) (cs : List Int) (F : Fi) : Nat :=
  if F.done then 0 else 3 * (F.left - 1) + (if F.claims then 2 else if cell base cs F.pos = 0 then 3 else 1)
theorem pot_of_done (h : F.done = true) : pot base cs F = 0 := by unfold pot; rw [if_pos h]
theorem pot_of_claims (h : F.done = false) (hc : F.claims = true) : pot base cs F = 3 * (F.left - 1) + 2 := by unfold pot; rw [if_neg (by simp [h]), if_pos hc]
theorem pot_of_zero (h : F.done = false) (hc : F.claims = false) (hz : cell base cs F.pos = 0) : pot base cs F = 3 * (F.left - 1) + 3 := by unfold pot; rw [if_neg (by simp [h]), if_neg (by simp [hc]), if_pos hz]
theorem pot_of_full (h : F.done = false) (hc : F.claims = false) (hz : cell base cs F.pos ≠ 0) : pot base cs F = 3 * (F.left - 1) + 1 := by unfold pot; rw [if_neg (by simp [h]), if_neg (by simp [hc]), if_neg hz]
theorem pot_le (h : F.done = false) (hc : F.claims = false) : pot base cs F ≤ 3 * (F.left - 1) + 3 ∧ 3 * (F.left - 1) + 1 ≤ pot base cs F := by
  by_cases hz : cell base cs F.pos = 0
  · rw [pot_of_zero h hc hz]; omega
  · rw [pot_of_full h hc hz]; omega
theorem pot_new {key : Int} (hn : 1 ≤ n) : pot base cs (newFi key n) ≤ 3 * n := by
  by_cases h : (newFi key n).done = true
  · rw [pot_of_done h]; omega
  · have := (pot_le (base := base) (cs := cs) (F := newFi key n) (by simpa using h) rfl).1
    have e : (newFi key n).left = n := rfl
    rw [e] at this
    omega
theorem pot_step (H : Fok base n cs F) (hd : F.done = false) : pot base (stepF base n cs F).2 (stepF base n cs F).1 < pot base cs F := by
  obtain ⟨hk, hl, hp, S, hm, hs, he⟩ := H.going hd
  by_cases hcl : F.claims = true
  · rw [pot_of_claims hd hcl]
    by_cases hz : cs.getD (base + F.pos) 0 = 0
    · rw [pot_of_done (by unfold stepF; rw [if_neg (by simp [hd]), if_pos hcl, if_pos hz])]
      omega
    · have e : stepF base n cs F = ({ F with claims := false }, cs) := by unfold stepF; rw [if_neg (by simp [hd]), if_pos hcl, if_neg hz]
      rw [e, pot_of_full (F := { F with claims := false }) hd rfl hz]
      show 3 * (F.left - 1) + 1 < _
      omega
  · have hcl' : F.claims = false := by simpa using hcl
    have hle := pot_le (base := base) (cs := cs) hd hcl'
    by_cases hkey : cs.getD (base + F.pos) 0 = F.key
    · rw [pot_of_done (by unfold stepF; rw [if_neg (by simp [hd]), if_neg hcl, if_pos hkey])]
      omega
    · by_cases hz : cs.getD (base + F.pos) 0 = 0
      · have e : stepF base n cs F = ({ F with claims := true }, cs) := by unfold stepF; rw [if_neg (by simp [hd]), if_neg hcl, if_neg hkey, if_pos hz]
        rw [e, pot_of_claims (F := { F with claims := true }) hd rfl, pot_of_zero hd hcl' hz]
        show 3 * (F.left - 1) + 2 < _
        omega
      · by_cases h1 : F.left = 1
        · rw [pot_of_done (by unfold stepF; rw [if_neg (by simp [hd]), if_neg hcl, if_neg hkey, if_neg hz, if_pos h1])]
          omega
        · have e : stepF base n cs F = ({ F with pos := (F.pos + 1) % n, left := F.left - 1 }, cs) := by unfold stepF; rw [if_neg (by simp [hd]), if_neg hcl, if_neg hkey, if_neg hz, if_neg h1]
          have h2 := (pot_le (base := base) (cs := cs) (F := { F with pos := (F.pos + 1) % n, left := F.left - 1 }) hd hcl').1
          rw [e]
          refine Nat.lt_of_le_of_lt h2 ?_
          show 3 * (F.left - 1 - 1) + 3 < _
          omega
theorem pot_done (H : pot base cs F = 0) : F.done = true := by
  unfold pot at H
  by_cases h : F.done = true
  · exact h
  · rw [if_neg h] at H
    split at H
    · omega
    · split at H <;> omega

def Run (base n : Nat) (cs0 cs : List Int) (F : Fi) : Prop :=
  Fok base n cs F ∧ TInv base n cs ∧ Grow base n cs0 cs ∧ ((F.made = false ∧ cs = cs0) ∨ (F.made = true ∧ F.done = true ∧ F.e = 0 ∧ F.key ≠ 0 ∧ ∃ i : Nat, i < n ∧ F.slot = i ∧ cell base cs0 i = 0 ∧ (∀ j, j < n → cell base cs0 j ≠ F.key) ∧ cs = cs0.set (base + i) F.key))
theorem Run.new {cs0 : List Int} {key : Int} (hn : 1 ≤ n) (T : TInv base n cs0) : Run base n cs0 cs0 (newFi key n) :=
  ⟨newFi_ok hn, T, Grow.refl _ _ _, Or.inl ⟨rfl, rfl⟩⟩
theorem Run.step {cs0 : List Int} (hn : 1 ≤ n) (hc : base + n ≤ cs.length) (R : Run base n cs0 cs F) : Run base n cs0 (stepF base n cs F).2 (stepF base n cs F).1 ∧ (stepF base n cs F).1.key = F.key := by
  obtain ⟨H, T, G, D⟩ := R
  obtain ⟨s1, s2, s3, s4, s5⟩ := step_ok hn hc T H
  refine ⟨⟨s2, s1, G.trans s3, ?_⟩, s4⟩
  rcases D with ⟨d1, d2⟩ | ⟨d1, d2, d3, d4, d5⟩
  · subst d2
    rcases s5 with ⟨e1, e2⟩ | ⟨e1, e2, e3, e4, e5, e6, e7, e8, e9, e10, e11⟩
    · exact Or.inl ⟨e1.trans d1, e2⟩
    · exact Or.inr ⟨e3, e4, e6, by rw [s4]; exact e9, F.pos, e7, e5, e8, by rw [s4]; exact e10, by rw [s4]; exact e11⟩
  · have e : stepF base n cs F = (F, cs) := by unfold stepF; rw [if_pos d2]
    rw [e]
    exact Or.inr ⟨d1, d2, d3, d4, d5⟩

theorem cnt_set {i : Nat} {v : Int} (hv : v ≠ 0) (hz : cell base cs i = 0) (hi : base + i < cs.length) : ∀ m, cnt base (cs.set (base + i) v) m = cnt base cs m + (if i < m then 1 else 0) := by
  intro m
  induction m with
  | zero => rfl
  | succ m ih =>
    unfold cnt
    rw [ih, cell_set hi]
    by_cases h : m = i
    · subst h
      simp [hv, hz]
    · rw [if_neg h]
      by_cases h' : i < m
      · rw [if_pos h', if_pos (by omega : i < m + 1)]
        omega
      · rw [if_neg h', if_neg (by omega : ¬ i < m + 1)]
        omega
theorem cnt_full : ∀ m, (∀ i, i < m → cell base cs i ≠ 0) → cnt base cs m = m := by
  intro m
  induction m with
  | zero => intro _; rfl
  | succ m ih =>
    intro h
    unfold cnt
    rw [ih fun i hi => h i (by omega), if_neg (h m (by omega))]
theorem cnt_zero : ∀ m, (∀ i, i < m → cell base cs i = 0) → cnt base cs m = 0 := by
  intro m
  induction m with
  | zero => intro _; rfl
  | succ m ih =>
    intro h
    unfold cnt
    rw [ih fun i hi => h i (by omega), if_pos (h m (by omega))]
theorem TInv.empty (h : ∀ i, i < n → cell base cs i = 0) : TInv base n cs := fun i hi hnz => absurd (h i hi) hnz
end
end
section
def nkey (l a b : Nat) : Nat := l * 2 ^ 56 + (a * 2 ^ 28 + b)
theorem nkey_inj {l a b l' a' b' : Nat} (ha : a < 2 ^ 28) (hb : b < 2 ^ 28) (ha' : a' < 2 ^ 28) (hb' : b' < 2 ^ 28) (e : nkey l a b = nkey l' a' b') : l = l' ∧ a = a' ∧ b = b' := by
  unfold nkey at e
  omega
theorem ofInt32 {a : Nat} (ha : a < 2 ^ 32) : (BitVec.ofInt 32 (a : Int)).toNat = a := by
  rw [BitVec.toNat_ofInt]
  omega
theorem wrap32 {a : Nat} (ha : a < 2 ^ 32) : IntKind.wrap .u32 (a : Int) = a := by
  simp [IntKind.wrap, IntKind.bits, IntKind.signed]
  omega
theorem band32 {a b : Nat} (ha : a < 2 ^ 32) (hb : b < 2 ^ 32) : bitsI .and .u32 (a : Int) (b : Int) = ((a &&& b : Nat) : Int) := by
  unfold bitsI
  show IntKind.wrap .u32 ((BitVec.ofInt 32 (a : Int) &&& BitVec.ofInt 32 (b : Int)).toNat : Int) = _
  rw [BitVec.toNat_and, ofInt32 ha, ofInt32 hb]
  exact wrap32 (by have := @Nat.and_le_left a b; omega)
theorem low28 {a : Nat} (ha : a < 2 ^ 28) : bitsI .and .u32 (a : Int) 268435455 = (a : Int) := by
  rw [show (268435455 : Int) = ((2 ^ 28 - 1 : Nat) : Int) by rfl, band32 (by omega) (by decide), Nat.and_two_pow_sub_one_eq_mod, Nat.mod_eq_of_lt ha]
theorem key73 {h : Heap} {l a b : Nat} {K : Value → Heap → Prop} (hl : l < 256) (ha : a < 2 ^ 28) (hb : b < 2 ^ 28) (hK : K (.int .u64 ((nkey l a b : Nat) : Int)) h) :
    CallsH Tryz.prog 198 [.int .i64 (l : Int), .int .u32 (a : Int), .int .u32 (b : Int)] h K := by
  refine F198.spec _ _ _ h K ?_
  unfold F198.w
  refine F245.spec _ _ _ h _ ?_
  unfold F245.w
  have U : ∀ {x : Nat}, x < 2 ^ 64 → IntKind.wrap .u64 (x : Int) = (x : Int) := fun h => wrapU (by unfold U64; omega)
  have e1 : IntKind.wrap .u64 ((IntKind.wrap .u64 (IntKind.wrap .u8 (l : Int))) * 2 ^ (min (Int.toNat (56 : Int)) (IntKind.bits .u64))) = ((l <<< 56 : Nat) : Int) := by
    rw [show IntKind.wrap .u8 (l : Int) = (l : Int) from wrap8 hl, U (by omega), show min (Int.toNat (56 : Int)) (IntKind.bits .u64) = 56 by rfl, show (l : Int) * 2 ^ 56 = ((l * 2 ^ 56 : Nat) : Int) by omega, U (by omega), Nat.shiftLeft_eq]
  have e2 : IntKind.wrap .u64 ((IntKind.wrap .u64 (bitsI .and .u32 (a : Int) 268435455)) * 2 ^ (min (Int.toNat (28 : Int)) (IntKind.bits .u64))) = ((a <<< 28 : Nat) : Int) := by
    rw [low28 ha, U (by omega), show min (Int.toNat (28 : Int)) (IntKind.bits .u64) = 28 by rfl, show (a : Int) * 2 ^ 28 = ((a * 2 ^ 28 : Nat) : Int) by omega, U (by omega), Nat.shiftLeft_eq]
  refine ⟨by omega, by omega, ldI_of rfl ?_⟩
  rw [e1, e2, low28 hb, U (by omega)]
  have s1 : l <<< 56 < U64 := by rw [Nat.shiftLeft_eq]; unfold U64; omega
  have s2 : a <<< 28 < U64 := by rw [Nat.shiftLeft_eq]; unfold U64; omega
  have s3 : b < U64 := by unfold U64; omega
  rw [bor s1 s2, bor (or_lt s1 s2) s3, Nat.or_assoc, ← Nat.shiftLeft_add_eq_or_of_lt hb, ← Nat.shiftLeft_add_eq_or_of_lt (by rw [Nat.shiftLeft_eq]; omega), Nat.shiftLeft_eq, Nat.shiftLeft_eq]
  exact hK
end
section
set_option maxRecDepth 100000 in
theorem finds72 {h : Heap} {s t m mc T : Nat} {cs : List Int} {ops fails key : Int} {K : Value → Heap → Prop} (hp : rd h ⟨s, 4, none⟩ = some (.pointer (some ⟨t, 0, none⟩)))
    (Tb : TabIs h t m 0 T) (M : MemIs h m mc cs ops fails) (hn : 1 ≤ T) (hn2 : T < 1000000000) (hc : cs.length = T) (d4 : t ≠ m) (d5 : t ≠ mc) (bt : t < h.size) (bm : m < h.size) (bmc : mc < h.size)
    (I : TInv 0 T cs) (hk : key ≠ 0) (habs : ∀ j, j < T → cell 0 cs j ≠ key) {z : Nat} (hz : z < T) (hz0 : cell 0 cs z = 0)
    (hK : ∀ h' i ops' fails', i < T → cell 0 cs i = 0 → TabIs h' t m 0 T → MemIs h' m mc (cs.set i key) ops' fails' → TInv 0 T (cs.set i key) → Only [m, mc] h h' → K (.tuple #[.int .i64 (i : Int), .bool true]) h') :
    CallsH Tryz.prog 197 [.pointer (some ⟨s, 0, none⟩), .int .u64 key] h K := by
  refine F197.spec _ _ h K ?_
  unfold F197.w F197.J0
  simp only [add_mk, Nat.zero_add]
  refine ldP_of hp ?_
  refine find_spec Tb hn hn2 fun f h1 H1 O1 hf => ldP_of rfl ?_
  unfold F197.wk3 F197.Jk3
  have ht := Tb.only O1 (by simp)
  have hm := M.only O1 (by simp) (by simp)
  have fin : ∀ (F : Fi) (cs' : List Int) (h' : Heap) (ops' fails' : Int), F.done = true → Run 0 T cs cs' F → F.key = key → FindIs h' f t F → TabIs h' t m 0 T → MemIs h' m mc cs' ops' fails' → Only [m, mc] h h' →
      F197.wk4 (some ⟨f, 0, none⟩) h' K := by
    intro F cs' h' ops' fails' hd R ek H Tb M O
    unfold F197.wk4 F197.Jk4
    refine slot_spec H ⟨_, _, rfl, made_spec H (ldB_of rfl ?_)⟩
    obtain ⟨R1, R2, R3, R4⟩ := R
    have ze : cell 0 cs z = 0 := hz0
    rcases R4 with ⟨r1, r2⟩ | ⟨r1, r2, r3, r4, i, r5, r6, r7, r8, r9⟩
    · subst r2
      rcases R1.ended hd with ⟨e1, _⟩ | ⟨_, _, i, hi, _, e4⟩ | ⟨_, _, _, _, e5⟩
      · exact absurd (ek ▸ e1) hk
      · exact absurd (e4.trans ek) (habs i hi)
      · exact absurd ze (e5 z hz).1
    · rw [r6, r1]
      rw [Nat.zero_add, ek] at r9
      rw [r9] at M R2
      exact hK h' i _ _ r5 r7 Tb M R2 O
  have pass : ∀ (d : Nat) (F : Fi) (cs' : List Int) (h' : Heap) (ops' fails' : Int), Run 0 T cs cs' F → F.key = key → FindIs h' f t F → TabIs h' t m 0 T → MemIs h' m mc cs' ops' fails' → Only [m, mc] h h' →
      (F.done = false → ∀ h'' ops'' fails'', (stepF 0 T cs' F).1.done = false → Run 0 T cs (stepF 0 T cs' F).2 (stepF 0 T cs' F).1 → (stepF 0 T cs' F).1.key = key → FindIs h'' f t (stepF 0 T cs' F).1 → TabIs h'' t m 0 T → MemIs h'' m mc (stepF 0 T cs' F).2 ops'' fails'' → Only [m, mc] h h'' →
        F197.wL3 d (some ⟨f, 0, none⟩) (.func (.func 242) #[.pointer (some ⟨f, 0, none⟩)] #[]) h'' K) →
      F197.wL3 (d + 1) (some ⟨f, 0, none⟩) (.func (.func 242) #[.pointer (some ⟨f, 0, none⟩)] #[]) h' K := by
    intro d F cs' h' ops' fails' R ek H Tb M O nx
    have hl' : cs'.length = T := R.2.2.1.1.trans hc
    obtain ⟨R', ek'⟩ := R.step hn (by omega)
    unfold F197.wL3 F197.JL3
    refine dynK_go (by kernel_rfl) ?_
    refine step_spec Tb H M hn hn2 (by omega) R.1.pos (fun hd => (R.1.going hd).2.1) (by have := R.1.left; omega) (by omega) (by omega) (by omega) (by omega) d4 d5 fun h2 fails2 H2 T2 M2 O2 => ldB_of rfl ?_
    have O' : Only [m, mc] h h2 := O.trans O2 (by intro b hb hl; simp at hb ⊢; omega)
    refine bcase_of (fun hb => ?_) fun hb => ?_
    · have hb : (stepF 0 T cs' F).1.done = false := by simpa using hb
      refine nx ?_ h2 _ _ hb R' (ek'.trans ek) H2 T2 M2 O'
      cases hd : F.done with
      | false => rfl
      | true =>
        have e : stepF 0 T cs' F = (F, cs') := by unfold stepF; rw [if_pos hd]
        rw [e, hd] at hb
        exact absurd hb (by simp)
    · have hb : (stepF 0 T cs' F).1.done = true := by simpa using hb
      exact fin _ _ _ _ _ hb R' (ek'.trans ek) H2 T2 M2 O'
  have main : ∀ (d : Nat) (F : Fi) (cs' : List Int) (h' : Heap) (ops' fails' : Int), pot 0 cs' F ≤ d → Run 0 T cs cs' F → F.key = key → FindIs h' f t F → TabIs h' t m 0 T → MemIs h' m mc cs' ops' fails' → Only [m, mc] h h' →
      F197.wL3 (d + 1) (some ⟨f, 0, none⟩) (.func (.func 242) #[.pointer (some ⟨f, 0, none⟩)] #[]) h' K := by
    intro d
    induction d with
    | zero => 
      intro F cs' h' ops' fails' hd R ek H Tb M O
      refine pass 0 F cs' h' ops' fails' R ek H Tb M O fun hf => ?_
      rw [pot_done (base := 0) (cs := cs') (F := F) (by omega)] at hf
      exact absurd hf (by simp)
    | succ d ih =>
      intro F cs' h' ops' fails' hd R ek H Tb M O
      refine pass (d + 1) F cs' h' ops' fails' R ek H Tb M O fun hf h2 o2 f2 _ R' ek' H' T' M' O' => ?_
      exact ih _ _ _ _ _ (by have := pot_step (base := 0) (cs := cs') R.1 hf; omega) R' ek' H' T' M' O'
  exact ⟨_, main (3 * T) (newFi key T) cs h1 ops fails (pot_new hn) (Run.new hn I) rfl H1 ht hm (by have := (Only.refl [m, mc] h).trans O1 (by simp); exact this)⟩
end
section
def MapM (h : Heap) (b : Nat) (k : IntKind) (m : List (Int × Value)) : Prop :=
  ∃ es cl, mp h b = some (es, cl) ∧ es.toList.map (fun e => (e.key, e.val)) = m.map (fun p => (Value.int k p.1, p.2)) ∧ (m.map (·.1)).Nodup ∧ (es.toList.map (·.born)).Nodup ∧ ∀ e ∈ es.toList, e.born < cl
theorem MapM.lt {h : Heap} {b : Nat} {k : IntKind} {m : List (Int × Value)} (H : MapM h b k m) : b < h.size := by
  obtain ⟨es, cl, h1, -⟩ := H
  unfold mp at h1
  cases hh : h[b]? with
  | none => rw [hh] at h1; cases h1
  | some o => exact (Array.getElem?_eq_some_iff.1 hh).1
theorem MapM.only {S : List Nat} {h h' : Heap} {b : Nat} {k : IntKind} {m : List (Int × Value)} (H : MapM h b k m) (O : Only S h h') (hb : b ∉ S) : MapM h' b k m := by
  have hl := H.lt
  obtain ⟨es, cl, h1, h2⟩ := H
  refine ⟨es, cl, ?_, h2⟩
  unfold mp at h1 ⊢
  rw [O.same b hl hb]
  exact h1
theorem mp_obj {h : Heap} {b : Nat} {es : Array MapEntry} {cl : Nat} (h1 : mp h b = some (es, cl)) : h[b]? = some (.map es cl) := by
  unfold mp at h1
  cases hh : h[b]? with
  | none => rw [hh] at h1; cases h1
  | some o =>
    rw [hh] at h1
    cases o with
    | map a c => injection h1 with h1; injection h1 with e1 e2; subst e1; subst e2; rfl
    | _ => cases h1
theorem Only.map {h : Heap} {b : Nat} {es : Array MapEntry} {cl : Nat} (h1 : mp h b = some (es, cl)) (es' : Array MapEntry) (cl' : Nat) : Only [b] h (h.setIfInBounds b (.map es' cl')) := by
  have ho := mp_obj h1
  refine ⟨by simp, fun j hj hb => ?_, fun a => ?_⟩
  · rw [Array.getElem?_setIfInBounds, if_neg (fun e => hb (by simp [e]))]
  · unfold fz
    rw [Array.getElem?_setIfInBounds]
    by_cases e : b = a.block
    · subst e
      rw [if_pos rfl, if_pos (Array.getElem?_eq_some_iff.1 ho).1, ho]
    · rw [if_neg e]
theorem mp_set {h : Heap} {b : Nat} {es : Array MapEntry} {cl : Nat} (h1 : mp h b = some (es, cl)) (es' : Array MapEntry) (cl' : Nat) : mp (h.setIfInBounds b (.map es' cl')) b = some (es', cl') := by
  unfold mp
  rw [Array.getElem?_setIfInBounds, if_pos rfl, if_pos (Array.getElem?_eq_some_iff.1 (mp_obj h1)).1]
theorem findNow_int {k : IntKind} {x : Int} : ∀ (es : List MapEntry) (m : List (Int × Value)) (i : Nat), es.map (fun e => (e.key, e.val)) = m.map (fun p => (Value.int k p.1, p.2)) →
    (Instr.findNow (.int k) (.int k x) es i = some none ∧ m.lookup x = none ∧ ∀ p ∈ m, p.1 ≠ x) ∨
    ∃ j v m1 m2, Instr.findNow (.int k) (.int k x) es i = some (some (i + j, v)) ∧ m = m1 ++ (x, v) :: m2 ∧ m1.length = j ∧ m.lookup x = some v ∧ (∀ p ∈ m1, p.1 ≠ x)
  | [], [], i, _ => Or.inl ⟨rfl, rfl, by simp⟩
  | [], _ :: _, _, h => by simp at h
  | _ :: _, [], _, h => by simp at h
  | e :: es, p :: m, i, h => by
    simp only [List.map_cons, List.cons.injEq, Prod.mk.injEq] at h
    obtain ⟨⟨h1, h2⟩, h3⟩ := h
    by_cases hx : x = p.1
    · subst hx
      refine Or.inr ⟨0, p.2, [], m, ?_, rfl, rfl, ?_, by simp⟩
      · simp [Instr.findNow, Instr.sameNow, h1, h2]
      · simp [List.lookup]
    · have hs : Instr.sameNow (.int k) (.int k x) e.key = some false := by simp [Instr.sameNow, h1, hx]
      rcases findNow_int es m (i + 1) h3 with ⟨a, b, c⟩ | ⟨j, v, m1, m2, a, b, c, d, f⟩
      · refine Or.inl ⟨?_, ?_, ?_⟩
        · simp only [Instr.findNow, hs]
          exact a
        · simp only [List.lookup, show (x == p.1) = false by simp [hx]]
          exact b
        · intro q hq
          rcases List.mem_cons.1 hq with rfl | hq
          · exact fun e => hx e.symm
          · exact c q hq
      · refine Or.inr ⟨j + 1, v, p :: m1, m2, ?_, by rw [b]; rfl, by simp [c], ?_, ?_⟩
        · simp only [Instr.findNow, hs]
          rw [a]
          congr 3
          omega
        · simp only [List.lookup, show (x == p.1) = false by simp [hx]]
          exact d
        · intro q hq
          rcases List.mem_cons.1 hq with rfl | hq
          · exact fun e => hx e.symm
          · exact f q hq
theorem look_map {h : Heap} {b : Nat} {k : IntKind} {m : List (Int × Value)} {x : Int} {K : Option (Nat × Value) → Prop} (H : MapM h b k m)
    (hN : m.lookup x = none → K none) (hS : ∀ i v, m.lookup x = some v → K (some (i, v))) : lookK h (some b) k k x K := by
  obtain ⟨es, cl, h1, h2, h3, -⟩ := H
  refine ⟨es, cl, h1, ?_⟩
  rcases findNow_int (x := x) es.toList m 0 h2 with ⟨a, c, -⟩ | ⟨j, v, m1, m2, a, c, d, e, -⟩
  · exact ⟨_, a, hN c⟩
  · exact ⟨_, a, hS _ v e⟩
def mset (m : List (Int × Value)) (x : Int) (v : Value) : List (Int × Value) := if (m.lookup x).isSome then m.map (fun p => if p.1 = x then (x, v) else p) else m ++ [(x, v)]
def mdel (m : List (Int × Value)) (x : Int) : List (Int × Value) := m.filter fun p => p.1 ≠ x
theorem lookup_append {m m' : List (Int × Value)} {x : Int} : (m ++ m').lookup x = (m.lookup x).or (m'.lookup x) := by
  induction m with
  | nil => simp [List.lookup]
  | cons p m ih =>
    simp only [List.cons_append, List.lookup]
    cases x == p.1 <;> simp [ih]
theorem mset_keys {m : List (Int × Value)} {x : Int} {v : Value} : (mset m x v).map (·.1) = if (m.lookup x).isSome then m.map (·.1) else m.map (·.1) ++ [x] := by
  unfold mset
  split
  · rw [List.map_map]
    apply List.map_congr_left
    intro p _
    simp only [Function.comp]
    split
    · next e => exact e.symm
    · rfl
  · simp
theorem lookup_none {m : List (Int × Value)} {x : Int} : m.lookup x = none ↔ x ∉ m.map (·.1) := by
  induction m with
  | nil => simp [List.lookup]
  | cons p m ih =>
    simp only [List.lookup, List.map_cons, List.mem_cons, not_or]
    by_cases h : x = p.1
    · subst h; simp
    · simp only [show (x == p.1) = false by simp [h]]
      rw [ih]
      exact ⟨fun a => ⟨h, a⟩, fun a => a.2⟩
theorem lookup_mset {m : List (Int × Value)} {x y : Int} {v : Value} : (mset m x v).lookup y = if y = x then some v else m.lookup y := by
  unfold mset
  split
  · next hs =>
    induction m with
    | nil => simp [List.lookup] at hs
    | cons p m ih =>
      simp only [List.map_cons, List.lookup]
      by_cases hp : p.1 = x
      · rw [if_pos hp]
        by_cases hy : y = x
        · subst hy
          simp
        · rw [if_neg hy]
          have e1 : (y == x) = false := by simp [hy]
          have e2 : (y == p.1) = false := by simp [hp, hy]
          simp only [e1, e2]
          clear ih hs
          induction m with
          | nil => rfl
          | cons r m ih2 =>
            simp only [List.map_cons, List.lookup]
            by_cases hr : r.1 = x
            · rw [if_pos hr]
              have e3 : (y == r.1) = false := by simp [hr, hy]
              simp only [e1, e3]
              exact ih2
            · rw [if_neg hr]
              cases y == r.1
              · exact ih2
              · rfl
      · rw [if_neg hp]
        have hs' : (m.lookup x).isSome := by
          simp only [List.lookup, show (x == p.1) = false by simp [Ne.symm hp]] at hs
          exact hs
        by_cases hy : y = p.1
        · subst hy
          simp [hp]
        · have e1 : (y == p.1) = false := by simp [hy]
          simp only [e1]
          exact ih hs'
  · next hs =>
    have hn : m.lookup x = none := by
      cases hh : m.lookup x with
      | none => rfl
      | some v => rw [hh] at hs; exact absurd rfl hs
    rw [lookup_append]
    by_cases hy : y = x
    · subst hy
      rw [hn, if_pos rfl]
      simp [List.lookup]
    · rw [if_neg hy]
      simp [List.lookup, show (y == x) = false by simp [hy]]
theorem lookup_mdel {m : List (Int × Value)} {x y : Int} : (mdel m x).lookup y = if y = x then none else m.lookup y := by
  unfold mdel
  induction m with
  | nil => simp [List.lookup]
  | cons p m ih =>
    by_cases hp : p.1 = x
    · rw [List.filter_cons_of_neg (by simp [hp]), ih]
      by_cases hy : y = x
      · rw [if_pos hy, if_pos hy]
      · rw [if_neg hy, if_neg hy]
        simp [List.lookup, show (y == p.1) = false by simp [hp, hy]]
    · rw [List.filter_cons_of_pos (by simp [hp])]
      simp only [List.lookup]
      by_cases hy : y = p.1
      · subst hy
        simp [hp]
      · simp only [show (y == p.1) = false by simp [hy]]
        exact ih
theorem mid_map {m1 m2 : List (Int × Value)} {x : Int} {v v' : Value} (h1 : ∀ p ∈ m1, p.1 ≠ x) (h2 : ∀ p ∈ m2, p.1 ≠ x) : (m1 ++ (x, v) :: m2).map (fun p => if p.1 = x then (x, v') else p) = m1 ++ (x, v') :: m2 := by
  have e : ∀ l : List (Int × Value), (∀ p ∈ l, p.1 ≠ x) → l.map (fun p => if p.1 = x then (x, v') else p) = l := by
    intro l hl
    conv => rhs; rw [← List.map_id l]
    apply List.map_congr_left
    intro p hp
    rw [if_neg (hl p hp)]
    rfl
  rw [List.map_append, List.map_cons, if_pos rfl, e m1 h1, e m2 h2]
theorem nodup_mid {m1 m2 : List (Int × Value)} {x : Int} {v : Value} (h : ((m1 ++ (x, v) :: m2).map (·.1)).Nodup) : (∀ p ∈ m1, p.1 ≠ x) ∧ ∀ p ∈ m2, p.1 ≠ x := by
  rw [List.map_append, List.map_cons] at h
  obtain ⟨h1, h2, h3⟩ := List.nodup_append.1 h
  refine ⟨fun p hp e => h3 p.1 (List.mem_map.2 ⟨p, hp, rfl⟩) x (by simp) e, fun p hp e => ?_⟩
  exact (List.nodup_cons.1 h2).1 (List.mem_map.2 ⟨p, hp, e⟩)
theorem map_found {h : Heap} {b : Nat} {k : IntKind} {m : List (Int × Value)} {x : Int} (H : MapM h b k m) :
    ∃ es cl, mp h b = some (es, cl) ∧ ((Instr.findNow (.int k) (.int k x) es.toList 0 = some none ∧ m.lookup x = none ∧ MapM (h.setIfInBounds b (.map es cl)) b k (mdel m x) ∧
        (∀ v, MapM (h.setIfInBounds b (.map (es.push { key := .int k x, val := v, born := cl }) (cl + 1))) b k (mset m x v))) ∨
      ∃ j v, Instr.findNow (.int k) (.int k x) es.toList 0 = some (some (j, v)) ∧ m.lookup x = some v ∧ Instr.sameBits 10000 (((es[j]?).map (·.key)).getD (.int k x)) (.int k x) = true ∧
        MapM (h.setIfInBounds b (.map (es.eraseIdxIfInBounds j) cl)) b k (mdel m x) ∧ (∃ e, es[j]? = some e ∧ e.key = .int k x ∧ e.val = v ∧ ∀ i e', es[i]? = some e' → e'.key = .int k x → i = j) ∧
        ∀ (g : MapEntry → MapEntry) v', (∀ e, es[j]? = some e → (g e).key = .int k x ∧ (g e).val = v' ∧ (g e).born = e.born) → MapM (h.setIfInBounds b (.map (es.modify j g) cl)) b k (mset m x v')) := by
  obtain ⟨es, cl, h1, h2, h3, h4, h5⟩ := H
  refine ⟨es, cl, h1, ?_⟩
  rcases findNow_int (x := x) es.toList m 0 h2 with ⟨a, c, c'⟩ | ⟨j, v, m1, m2, a, c, d, e, e'⟩
  · refine Or.inl ⟨a, c, ⟨es, cl, mp_set h1 _ _, ?_, ?_, h4, h5⟩, fun v => ⟨_, _, mp_set h1 _ _, ?_, ?_, ?_, ?_⟩⟩
    · rw [show mdel m x = m from List.filter_eq_self.2 fun p hp => by simp [c' p hp]]
      exact h2
    · rw [show mdel m x = m from List.filter_eq_self.2 fun p hp => by simp [c' p hp]]
      exact h3
    · unfold mset
      rw [if_neg (by simp [c])]
      simp [h2]
    · rw [mset_keys, if_neg (by simp [c])]
      refine List.nodup_append.2 ⟨h3, by simp, fun y hy z hz => ?_⟩
      simp at hz
      subst hz
      intro e
      subst e
      exact lookup_none.1 c hy
    · simp only [Array.toList_push, List.map_append]
      refine List.nodup_append.2 ⟨h4, by simp, fun y hy z hz => ?_⟩
      simp at hz
      subst hz
      obtain ⟨e0, he0, rfl⟩ := List.mem_map.1 hy
      have := h5 e0 he0
      omega
    · intro e0 he0
      simp only [Array.toList_push, List.mem_append, List.mem_singleton] at he0
      rcases he0 with he0 | rfl
      · have := h5 e0 he0
        omega
      · exact Nat.lt_succ_self _
  · subst c
    obtain ⟨n1, n2⟩ := nodup_mid h3
    rw [Nat.zero_add] at a
    have hjl : j < es.size := by
      have := congrArg List.length h2
      simp at this
      omega
    have hget : es.toList.map (fun e => (e.key, e.val)) = m1.map (fun p => (Value.int k p.1, p.2)) ++ (Value.int k x, v) :: m2.map (fun p => (Value.int k p.1, p.2)) := by
      rw [h2]
      simp
    have hj5 : (es.toList.map (fun e => (e.key, e.val)))[j]? = some (Value.int k x, v) := by
      rw [hget, List.getElem?_append_right (by simp [d])]
      simp [d]
    obtain ⟨e0, he0, hk0, hv0⟩ : ∃ e0, es[j]? = some e0 ∧ e0.key = .int k x ∧ e0.val = v := by
      rw [List.getElem?_map] at hj5
      cases hh : es[j]? with
      | none => simp [hh] at hj5
      | some e0 =>
        simp [hh] at hj5
        exact ⟨e0, rfl, hj5.1, hj5.2⟩
    have huniq : ∀ i e', es[i]? = some e' → e'.key = .int k x → i = j := by
      intro i e' hi hk
      have h6 := congrArg (fun l => l[i]?) hget
      simp only [List.getElem?_map] at h6
      rw [show es.toList[i]? = some e' by rw [← hi]; simp] at h6
      by_cases hlt : i < j
      · rw [List.getElem?_append_left (by simp; omega), List.getElem?_map] at h6
        cases hm : m1[i]? with
        | none => simp [hm] at h6
        | some p =>
          simp [hm, hk] at h6
          exact absurd h6.1.symm (n1 p (List.mem_of_getElem? hm))
      · by_cases hgt : j < i
        · rw [List.getElem?_append_right (by simp; omega)] at h6
          obtain ⟨r, hr⟩ : ∃ r, i = j + 1 + r := ⟨i - j - 1, by omega⟩
          subst hr
          simp only [List.length_map, d] at h6
          rw [show j + 1 + r - j = r + 1 by omega, List.getElem?_cons_succ, List.getElem?_map] at h6
          cases hm : m2[r]? with
          | none => simp [hm] at h6
          | some p =>
            simp [hm, hk] at h6
            exact absurd h6.1.symm (n2 p (List.mem_of_getElem? hm))
        · omega
    refine Or.inr ⟨j, v, a, e, ?_, ⟨_, _, mp_set h1 _ _, ?_, ?_, ?_, ?_⟩, ⟨e0, he0, hk0, hv0, huniq⟩, fun g v' hg => ⟨_, _, mp_set h1 _ _, ?_, ?_, ?_, ?_⟩⟩
    · rw [he0]
      simp [Instr.sameBits, hk0]
    · have hd : mdel (m1 ++ (x, v) :: m2) x = m1 ++ m2 := by
        unfold mdel
        rw [List.filter_append, List.filter_cons_of_neg (by simp), List.filter_eq_self.2 (fun p hp => by simp [n1 p hp]), List.filter_eq_self.2 (fun p hp => by simp [n2 p hp])]
      rw [hd]
      simp only [Array.eraseIdxIfInBounds, hjl, dif_pos, Array.toList_eraseIdx]
      rw [List.eraseIdx_eq_take_drop_succ, List.map_append, List.map_take, List.map_drop, hget]
      have l1 : (m1.map (fun p => (Value.int k p.1, p.2))).length = j := by simp [d]
      rw [← l1, List.take_left, List.drop_append, List.drop_eq_nil_of_le (by omega)]
      simp
    · have := h3.sublist (l₁ := (mdel (m1 ++ (x, v) :: m2) x).map (·.1)) (List.Sublist.map _ List.filter_sublist)
      exact this
    · simp only [Array.eraseIdxIfInBounds, hjl, dif_pos, Array.toList_eraseIdx]
      exact h4.sublist (List.Sublist.map _ (List.eraseIdx_sublist _ _))
    · simp only [Array.eraseIdxIfInBounds, hjl, dif_pos, Array.toList_eraseIdx]
      exact fun e1 he1 => h5 e1 ((List.eraseIdx_sublist _ _).subset he1)
    · unfold mset
      rw [if_pos (by simp [e]), mid_map n1 n2]
      rw [Array.toList_modify]
      apply List.ext_getElem?
      intro i
      rw [List.getElem?_map, List.getElem?_modify]
      have h6 := congrArg (fun l => l[i]?) hget
      simp only [List.getElem?_map] at h6
      by_cases hi : j = i
      · subst hi
        simp only [if_true]
        rw [show es.toList[j]? = some e0 by rw [← he0]; simp]
        obtain ⟨g1, g2, -⟩ := hg e0 he0
        rw [List.map_append, List.map_cons, List.getElem?_append_right (by simp [d])]
        simp [d, g1, g2]
      · simp only [hi, if_false]
        rw [List.map_append, List.map_cons]
        rw [show ((fun a : MapEntry => a) <$> es.toList[i]?) = es.toList[i]? by cases es.toList[i]? <;> rfl]
        rw [h6]
        by_cases hlt : i < j
        · rw [List.getElem?_append_left (by simp; omega), List.getElem?_append_left (by simp; omega)]
        · rw [List.getElem?_append_right (by simp; omega), List.getElem?_append_right (by simp; omega)]
          obtain ⟨r, hr⟩ : ∃ r, i = j + 1 + r := ⟨i - j - 1, by omega⟩
          subst hr
          simp only [List.length_map, d]
          rw [show j + 1 + r - j = r + 1 by omega]
          rfl
    · rw [mset_keys, if_pos (by simp [e])]
      exact h3
    · rw [show (es.modify j g).toList.map (·.born) = es.toList.map (·.born) from ?_]
      · exact h4
      · rw [Array.toList_modify]
        apply List.ext_getElem?
        intro i
        rw [List.getElem?_map, List.getElem?_modify, List.getElem?_map]
        by_cases hi : j = i
        · subst hi
          rw [show es.toList[j]? = some e0 by rw [← he0]; simp]
          simp [(hg e0 he0).2.2]
        · simp only [hi, if_false]
          cases es.toList[i]? <;> rfl
    · intro e1 he1
      rw [Array.toList_modify] at he1
      obtain ⟨i, hi⟩ := List.mem_iff_getElem?.1 he1
      rw [List.getElem?_modify] at hi
      by_cases hij : j = i
      · subst hij
        rw [show es.toList[j]? = some e0 by rw [← he0]; simp] at hi
        simp at hi
        subst hi
        rw [(hg e0 he0).2.2]
        exact h5 e0 (List.mem_of_getElem? (i := j) (by rw [← he0]; simp))
      · simp only [hij, if_false] at hi
        have : es.toList[i]? = some e1 := by
          cases hh : es.toList[i]? with
          | none => rw [hh] at hi; cases hi
          | some e2 => rw [hh] at hi; exact hi
        exact h5 e1 (List.mem_of_getElem? this)

theorem upd_map {h : Heap} {b : Nat} {k : IntKind} {m : List (Int × Value)} {x : Int} {v : Value} {K : Heap → Prop} (H : MapM h b k m) (hK : ∀ h', MapM h' b k (mset m x v) → Only [b] h h' → h'.size = h.size → K h') : updK h (some b) k k x v K := by
  obtain ⟨es, cl, h1, h2⟩ := map_found (x := x) H
  refine ⟨es, cl, h1, ?_⟩
  rcases h2 with ⟨a, c, d, e⟩ | ⟨j, v0, a, c, d, e, f, g⟩
  · exact ⟨_, a, hK _ (e v) (Only.map h1 _ _) (by simp)⟩
  · exact ⟨_, a, d, hK _ (g _ v fun e _ => ⟨rfl, rfl, rfl⟩) (Only.map h1 _ _) (by simp)⟩
theorem del_map {h : Heap} {b : Nat} {k : IntKind} {m : List (Int × Value)} {x : Int} {K : Heap → Prop} (H : MapM h b k m) (hK : ∀ h', MapM h' b k (mdel m x) → Only [b] h h' → h'.size = h.size → K h') : delK h (some b) k k x K := by
  obtain ⟨es, cl, h1, h2⟩ := map_found (x := x) H
  refine ⟨es, cl, h1, ?_⟩
  rcases h2 with ⟨a, c, d, e⟩ | ⟨j, v0, a, c, d, e, f, g⟩
  · exact ⟨_, a, hK _ d (Only.map h1 _ _) (by simp)⟩
  · exact ⟨_, a, hK _ e (Only.map h1 _ _) (by simp)⟩
theorem MapM.empty {h : Heap} {b : Nat} {k : IntKind} (h1 : mp h b = some (#[], 0)) : MapM h b k [] := ⟨#[], 0, h1, rfl, by simp, by simp, by simp⟩
end
section
abbrev Nd := Nat × Nat × Nat
def kf (x : Nd) : Nat := nkey x.1 x.2.1 x.2.2
def NdOk (x : Nd) : Prop := x.1 < 256 ∧ x.2.1 < 2 ^ 28 ∧ x.2.2 < 2 ^ 28 ∧ x.2.1 ≠ x.2.2
theorem kf_ne {x : Nd} (h : NdOk x) : kf x ≠ 0 := by
  obtain ⟨a, b, c, d⟩ := h
  unfold kf nkey
  omega
theorem kf_inj {x y : Nd} (h : NdOk x) (g : NdOk y) (e : kf x = kf y) : x = y := by
  obtain ⟨a, b, c⟩ := x
  obtain ⟨a', b', c'⟩ := y
  obtain ⟨e1, e2, e3⟩ := nkey_inj h.2.1 h.2.2.1 g.2.1 g.2.2.1 e
  dsimp only at e1 e2 e3
  rw [e1, e2, e3]
def nd (N : List (Option Nd)) (i : Nat) : Option Nd := (N[i]?).join
def cntN (N : List (Option Nd)) : Nat := N.countP (·.isSome)
theorem nd_some {N : List (Option Nd)} {i : Nat} {x : Nd} : nd N i = some x ↔ N[i]? = some (some x) := by
  unfold nd
  cases h : N[i]? with
  | none => simp
  | some o => simp
theorem nd_lt {N : List (Option Nd)} {i : Nat} {x : Nd} (h : nd N i = some x) : i < N.length := (List.getElem?_eq_some_iff.1 (nd_some.1 h)).1
theorem nd_out {N : List (Option Nd)} {i : Nat} (h : N.length ≤ i) : nd N i = none := by
  unfold nd
  rw [List.getElem?_eq_none h]
  rfl
theorem nd_app {N : List (Option Nd)} {o : Option Nd} (k : Nat) : nd (N ++ [o]) k = if k = N.length then o else nd N k := by
  unfold nd
  by_cases h : k < N.length
  · rw [List.getElem?_append_left h, if_neg (by omega)]
  · by_cases e : k = N.length
    · subst e
      rw [if_pos rfl]
      simp
    · rw [if_neg e, List.getElem?_eq_none (by simp; omega), List.getElem?_eq_none (by omega)]
theorem nd_set {N : List (Option Nd)} {i : Nat} {o : Option Nd} (hi : i < N.length) (k : Nat) : nd (N.set i o) k = if k = i then o else nd N k := by
  unfold nd
  rw [List.getElem?_set]
  by_cases e : i = k
  · subst e
    rw [if_pos rfl, if_pos hi, if_pos rfl]
    rfl
  · rw [if_neg e, if_neg (Ne.symm e)]
theorem cnt_app (N : List (Option Nd)) (o : Option Nd) : cntN (N ++ [o]) = cntN N + if o.isSome then 1 else 0 := by
  unfold cntN
  rw [List.countP_append, List.countP_singleton]
theorem cntN_le : ∀ N : List (Option Nd), cntN N ≤ N.length := fun N => List.countP_le_length
theorem cntN_set {x : Nd} : ∀ {N : List (Option Nd)} {i : Nat}, N[i]? = some none → cntN (N.set i (some x)) = cntN N + 1
  | [], i, h => by simp at h
  | o :: N, 0, h => by
    simp at h
    subst h
    simp [cntN]
  | o :: N, i + 1, h => by
    have := cntN_set (x := x) (N := N) (i := i) (by simpa using h)
    unfold cntN at this ⊢
    rw [List.set_cons_succ, List.countP_cons, List.countP_cons, this]
    omega
structure Laid (T : Nat) (cs : List Int) (mm : List (Int × Value)) (N : List (Option Nd)) : Prop where
  len : cs.length = T
  inv : TInv 0 T cs
  cells : ∀ j, j < T → cell 0 cs j = 0 ∨ ∃ i x, nd N i = some x ∧ cell 0 cs j = (kf x : Int) ∧ mm.lookup (j : Int) = some (.int .u32 ((i + 2 : Nat) : Int))
  all : ∀ i x, nd N i = some x → ∃ j, j < T ∧ cell 0 cs j = (kf x : Int)
  cnt : cnt 0 cs T = cntN N
  ok : ∀ i x, nd N i = some x → NdOk x
theorem Laid.congr {T : Nat} {cs : List Int} {mm : List (Int × Value)} {N N' : List (Option Nd)} (L : Laid T cs mm N) (h : ∀ k, nd N' k = nd N k) (hc : cntN N' = cntN N) : Laid T cs mm N' :=
  ⟨L.len, L.inv, fun j hj => by
    rcases L.cells j hj with e | ⟨i, x, e1, e2⟩
    · exact .inl e
    · exact .inr ⟨i, x, by rw [h]; exact e1, e2⟩, fun i x e => L.all i x (by rw [← h]; exact e), by rw [hc]; exact L.cnt, fun i x e => L.ok i x (by rw [← h]; exact e)⟩
theorem free_slot {cs : List Int} : ∀ T, cnt 0 cs T < T → ∃ z, z < T ∧ cell 0 cs z = 0 := fun T h => by
  by_cases e : ∃ z, z < T ∧ cell 0 cs z = 0
  · exact e
  · have := cnt_full T fun i hi hz => e ⟨i, hi, hz⟩
    omega
def NoKey (N : List (Option Nd)) (k : Nat) : Prop := ∀ i x, nd N i = some x → kf x ≠ k
theorem Laid.absent {T : Nat} {cs : List Int} {mm : List (Int × Value)} {N : List (Option Nd)} (L : Laid T cs mm N) {k : Nat} (hk : k ≠ 0) (hn : NoKey N k) : ∀ j, j < T → cell 0 cs j ≠ (k : Int) := fun j hj e => by
  rcases L.cells j hj with h | ⟨i, x, h1, h2, _⟩
  · omega
  · exact hn i x h1 (by omega)
set_option maxRecDepth 100000 in
theorem Laid.put {T : Nat} {cs : List Int} {mm : List (Int × Value)} {N N' : List (Option Nd)} {q : Nat} (L : Laid T cs mm N) {x : Nd} (hx : NdOk x) {i : Nat} (hi : i < T) (hz : cell 0 cs i = 0) (I : TInv 0 T (cs.set i (kf x)))
    (hq : nd N q = none) (hN : ∀ k, nd N' k = if k = q then some x else nd N k) (hc : cntN N' = cntN N + 1) :
    Laid T (cs.set i (kf x)) (mset mm (i : Int) (.int .u32 ((q + 2 : Nat) : Int))) N' := by
  have hi' : 0 + i < cs.length := by have := L.len; omega
  have cell' : ∀ j, cell 0 (cs.set i (kf x : Int)) j = if j = i then (kf x : Int) else cell 0 cs j := fun j => by
    have := cell_set (base := 0) (cs := cs) (i := i) (j := j) (v := (kf x : Int)) hi'
    rw [Nat.zero_add] at this
    exact this
  have kx := kf_ne hx
  refine ⟨by rw [List.length_set]; exact L.len, I, fun j hj => ?_, fun k y hy => ?_, ?_, fun k y hy => ?_⟩
  · rw [cell' j, lookup_mset]
    by_cases e : j = i
    · subst e
      rw [if_pos rfl, if_pos rfl]
      exact .inr ⟨q, x, by rw [hN, if_pos rfl], rfl, rfl⟩
    · rw [if_neg e, if_neg (by omega)]
      rcases L.cells j hj with h | ⟨k, y, h1, h2, h3⟩
      · exact .inl h
      · refine .inr ⟨k, y, ?_, h2, h3⟩
        rw [hN, if_neg]
        · exact h1
        · intro e2
          subst e2
          rw [hq] at h1
          cases h1
  · rw [hN] at hy
    split at hy
    · injection hy with hy
      subst hy
      exact ⟨i, hi, by rw [cell' i, if_pos rfl]⟩
    · obtain ⟨j, h1, h2⟩ := L.all k y hy
      refine ⟨j, h1, ?_⟩
      rw [cell' j, if_neg ?_]
      · exact h2
      · intro e
        subst e
        rw [hz] at h2
        have := kf_ne (L.ok k y hy)
        omega
  · have := cnt_set (base := 0) (cs := cs) (i := i) (v := (kf x : Int)) (by omega) hz hi' T
    rw [Nat.zero_add, if_pos hi] at this
    rw [this, L.cnt, hc]
  · rw [hN] at hy
    split at hy
    · injection hy with hy
      subst hy
      exact hx
    · exact L.ok k y hy
set_option maxRecDepth 100000 in
theorem lays54 {h : Heap} {s t m mc sb T q : Nat} {S : List Value} {cs : List Int} {ops fails : Int} {mm : List (Int × Value)} {N N' : List (Option Nd)} {x : Nd} {K : Value → Heap → Prop} (A : At h s S)
    (hp4 : S[4]? = some (.pointer (some ⟨t, 0, none⟩))) (hp5 : S[5]? = some (.map (some sb))) (ds : s ∉ [m, mc, sb])
    (Tb : TabIs h t m 0 T) (M : MemIs h m mc cs ops fails) (Mp : MapM h sb .i64 mm) (hn2 : T < 1000000000) (d4 : t ∉ [m, mc, sb]) (d7 : m ≠ sb) (d8 : mc ≠ sb) (bt : t < h.size) (bm : m < h.size) (bmc : mc < h.size)
    (L : Laid T cs mm N) (hx : NdOk x) (hnew : NoKey N (kf x)) (hroom : cntN N < T) (hq : nd N q = none) (hN : ∀ k, nd N' k = if k = q then some x else nd N k) (hc : cntN N' = cntN N + 1)
    (hK : ∀ h' cs' mm' ops' fails', At h' s S → TabIs h' t m 0 T → MemIs h' m mc cs' ops' fails' → MapM h' sb .i64 mm' → Laid T cs' mm' N' → Only [m, mc, sb] h h' → K (.tuple #[]) h') :
    CallsH Tryz.prog 160 [.pointer (some ⟨s, 0, none⟩), .int .u32 ((q + 2 : Nat) : Int), .agg #[.bool true, .int .i64 (x.1 : Int), .int .u32 (x.2.1 : Int), .int .u32 (x.2.2 : Int)]] h K := by
  simp only [List.mem_cons, List.not_mem_nil, or_false, not_or] at d4 ds
  refine F160.spec _ _ _ _ _ _ h K ?_
  unfold F160.w
  simp only [add_mk, Nat.zero_add]
  refine newK_at fun h1 A1 O1 z1 => ?_
  refine ldI_of (by rw [At.rd A1]; rfl) (ldI_of (by rw [At.rd A1]; rfl) (ldI_of (by rw [At.rd A1]; rfl) ?_))
  refine key73 hx.1 hx.2.1 hx.2.2.1 (ldI_of rfl ?_)
  obtain ⟨z, hz, hz0⟩ := free_slot (cs := cs) T (by rw [L.cnt]; exact hroom)
  have As := A.only O1 (by simp)
  refine finds72 (t := t) (by rw [At.rd As]; exact hp4) (Tb.only O1 (by simp)) (M.only O1 (by simp) (by simp)) (by omega) hn2 L.len d4.1 d4.2.1 (by omega) (by omega) (by omega) L.inv (by have := kf_ne hx; unfold kf at this; omega)
    (L.absent (kf_ne hx) hnew) hz hz0 fun h2 i o2 f2 hi hi0 T2 M2 I2 O2 => ⟨_, _, rfl, ?_⟩
  have As2 := As.only O2 (by simp; omega)
  refine ⟨_, (by rw [At.rd As2]; exact hp5), ?_⟩
  refine upd_map ((Mp.only O1 (by simp)).only O2 (by simp; omega)) fun h3 M3 O3 z3 => ?_
  refine hK h3 _ _ _ _ (As2.only O3 (by simp; omega)) (T2.only O3 (by simp; omega)) (M2.only O3 (by simp; omega) (by simp; omega)) M3 (L.put hx hi hi0 I2 hq hN hc) ?_
  exact (((Only.refl [m, mc, sb] h).trans O1 (by simp)).trans O2 (by intro b hb _; simp at hb ⊢; omega)).trans O3 (by intro b hb _; simp at hb ⊢; omega)
end
section
namespace F108
def T : Hint := ⟨[(3, [3, 13, 14])], [(5, [[(0, []), (1, []), (2, []), (3, []), (4, []), (5, []), (6, []), (7, []), (8, []), (10, []), (11, []), (9, [2, 3, 5, 10, 11]), (12, []), (13, [])]])]⟩
noncomputable def body : Code := (Tryz.f108.body).getD .skip
noncomputable def en (S : Stop) (p : List Nat) (κ : XK) : Fr → Heap → Prop := E Tryz.prog X T S (sub body p) κ
noncomputable def ln (S : Stop) (p : List Nat) (κ : XK) (n : Nat) : Fr → Heap → Prop := loopN S (E Tryz.prog X T S (sub body p)) (cutQ T (sub body p)) κ n
def fn (K : KK) : XK := fin Tryz.prog Tryz.f108.results.toList K
noncomputable def c0 (S : Stop) (K : KK) : XK := seqN S (cutQ T (sub body [1, 1, 1])) (en S [1, 1, 1] (fn K)) (fn K)
noncomputable def c1 (S : Stop) (K : KK) : XK := blockN 0 (c0 S K)
noncomputable def c2 (S : Stop) (n3 : Nat) (K : KK) : XK := backN S (cutQ T (sub body [1, 1, 0, 1, 0, 0])) (ln S [1, 1, 0, 1, 0, 0] (c1 S K) n3) (c1 S K)
def f3 (c : Addr) (b a : Int) : Fr := [(3, (.pointer (some c))), (13, (.int .i64 b)), (14, (.int .i64 a))]
def J0 (k3 : Addr → Int → Int → Heap → Prop) (d : Int) (h : Heap) (_K : KK) : Prop :=
  newK h (.cells #[(.int .i64 (if (8 : Int) < (if (1 : Int) > d then (1 : Int) else d) then (8 : Int) else (if (1 : Int) > d then (1 : Int) else d))), (.int .i64 0), (.int .i64 0), (.int .i64 0), (.int .i64 0), (.int .i64 0), (.int .i64 0), (.int .i64 0), (.int .i64 0), (.int .i64 0), (.int .i64 0), (.int .i64 0), (.int .i64 0), (.int .i64 0), (.int .i64 0), (.int .i64 0), (.int .i64 0)] 189) (fun b1 h2 => ldI .i64 (rd h2 ((Addr.mk b1 0 none).add 0)) (fun n3 => k3 (Addr.mk b1 0 none) n3 (0 : Int) h2))
theorem E0 (S : Stop) (d : Int) (h : Heap) (K : KK) : (E Tryz.prog X T S body (fin Tryz.prog Tryz.f108.results.toList K) (args0 0 [(.int .i64 d)]) h) = J0 (fun c b a h => S (en S [1, 1, 0, 1] (c0 S K)) (f3 c b a) h) d h K := by kernel_rfl
def Jk3 (lp3 : Addr → Int → Int → Heap → Prop) (c : Addr) (b a : Int) (h : Heap) (_K : KK) : Prop :=
  lp3 c b a h
theorem Ek3 (S : Stop) (c : Addr) (b a : Int) (h : Heap) (K : KK) : (en S [1, 1, 0, 1] (c0 S K) (f3 c b a) h) = Jk3 (fun c b a h => ∃ n, S (ln S [1, 1, 0, 1, 0, 0] (c1 S K) n) (f3 c b a) h) c b a h K := by kernel_rfl
def JL3 (bk3 : Addr → Int → Int → Heap → Prop) (c : Addr) (b a : Int) (h : Heap) (K : KK) : Prop :=
  bcase (decide (a < b)) ((0 ≤ a ∧ a < (Nat.cast 8 : Int) ∧ stK h (((c.add 1).add (Int.toNat a * 1)).add 0) (.int .i64 a) (fun h1 => ((.pointer (some c)) = ((.pointer (some c)) : Value) ∧ ((.int .i64 a) = ((.int .i64 a) : Value) ∧ ((.int .i64 a) = ((.int .i64 a) : Value) ∧ ((.pointer (some c)) = ((.pointer (some c)) : Value) ∧ ((.pointer (some (c.add 9))) = ((.pointer (some (c.add 9))) : Value) ∧ (0 ≤ a ∧ a < (Nat.cast 8 : Int) ∧ stK h1 (((c.add 9).add (Int.toNat a * 1)).add 0) (.int .i64 a) (fun h2 => bk3 c b (IntKind.wrap .i64 (a + (1 : Int))) h2)))))))))) (K (.pointer (some c)) h)
theorem EL3 (S : Stop) (n3 : Nat) (c : Addr) (b a : Int) (h : Heap) (K : KK) : (en S [1, 1, 0, 1, 0, 0] (c2 S n3 K) (f3 c b a) h) = JL3 (fun c b a h => S (ln S [1, 1, 0, 1, 0, 0] (c1 S K) n3) (f3 c b a) h) c b a h K := by kernel_rfl
def wL3 : Nat → Addr → Int → Int → Heap → KK → Prop
  | 0, _, _, _, _, _ => False
  | n + 1, c, b, a, h, K => JL3 (fun c b a h => wL3 n c b a h K) c b a h K
theorem eL3 (K : KK) : ∀ (n : Nat) (c : Addr) (b a : Int) (h : Heap), (ln S0 [1, 1, 0, 1, 0, 0] (c1 S0 K) n (f3 c b a) h) = wL3 n c b a h K
  | 0, _, _, _, _ => rfl
  | n + 1, c, b, a, h => (EL3 S0 n c b a h K).trans (cg1 (fun q0 => JL3 q0 c b a h K) (by funext c b a h; exact (fun c b a h => eL3 K n c b a h) c b a h))
def wk3 (c : Addr) (b a : Int) (h : Heap) (K : KK) : Prop :=
  Jk3 (fun c b a h => ∃ m, wL3 m c b a h K) c b a h K
theorem ek3 (K : KK) (c : Addr) (b a : Int) (h : Heap) : (en S0 [1, 1, 0, 1] (c0 S0 K) (f3 c b a) h) = wk3 c b a h K := (Ek3 S0 c b a h K).trans (cg1 (fun q0 => Jk3 q0 c b a h K) (by funext c b a h; exact ex_congr fun m => eL3 K m c b a h))
def w (d : Int) (h : Heap) (K : KK) : Prop :=
  J0 (fun c b a h => wk3 c b a h K) d h K
theorem e0 (K : KK) (d : Int) (h : Heap) : (E Tryz.prog X T S0 body (fin Tryz.prog Tryz.f108.results.toList K) (args0 0 [(.int .i64 d)]) h) = w d h K := (E0 S0 d h K).trans (cg1 (fun q0 => J0 q0 d h K) (by funext c b a h; exact ek3 K c b a h))
theorem hb : Tryz.f108.body = some body := by kernel_rfl
theorem ok : okCode T Tryz.f108.ntmps body = true := by kernel_rfl
theorem spec (d : Int) (h : Heap) (K : KK) (H : w d h K) : Cl 108 [(.int .i64 d)] h K :=
  calls_of_E (T := T) Xok mix Tryz.func108 hb ok rfl (by rw [e0]; exact H)
end F108
namespace F48
def T : Hint := ⟨[], [(2, [[(0, []), (1, []), (2, []), (3, []), (4, []), (5, []), (6, []), (7, []), (8, []), (9, [])]])]⟩
noncomputable def body : Code := (Tryz.f48.body).getD .skip
def J0 (a : Addr) (h : Heap) (K : KK) : Prop :=
  ldI .i64 (rd h (a.add 0)) (fun n1 => (0 ≤ n1 ∧ n1 ≤ n1 ∧ ((Nat.cast 8 : Int) * n1 ≤ 281474976710656) ∧ n1 ≤ 9223372036854775807 ∧ newK h (.cells (madeCells #[(.int .i64 0)] (Int.toNat n1 * 1)) 3) (fun b2 h3 => ldI .i64 (rd h3 (a.add 0)) (fun n4 => (0 ≤ n4 ∧ n4 ≤ (Nat.cast 8 : Int) ∧ copyK h3 1 (some (Addr.mk b2 0 none)) (Int.toNat n1) (some (if 8 = 0 then (a.add 1) else Addr.add (a.add 1) (0 * 1))) (Int.toNat n4 - 0) (fun _ h6 => K (.slice (some (Addr.mk b2 0 none)) (Int.toNat n1) (Int.toNat n1)) h6))))))
theorem E0 (S : Stop) (a : Addr) (h : Heap) (K : KK) : (E Tryz.prog X T S body (fin Tryz.prog Tryz.f48.results.toList K) (args0 0 [(.pointer (some a))]) h) = J0 a h K := by kernel_rfl
def w (a : Addr) (h : Heap) (K : KK) : Prop :=
  J0 a h K
theorem e0 (K : KK) (a : Addr) (h : Heap) : (E Tryz.prog X T S0 body (fin Tryz.prog Tryz.f48.results.toList K) (args0 0 [(.pointer (some a))]) h) = w a h K := (E0 S0 a h K).trans (rfl)
theorem hb : Tryz.f48.body = some body := by kernel_rfl
theorem ok : okCode T Tryz.f48.ntmps body = true := by kernel_rfl
theorem spec (a : Addr) (h : Heap) (K : KK) (H : w a h K) : Cl 48 [(.pointer (some a))] h K :=
  calls_of_E (T := T) Xok mix Tryz.func48 hb ok rfl (by rw [e0]; exact H)
end F48
namespace F104
def w (a : Addr) (h : Heap) (K : KK) : Prop :=
  ldI .i64 (rd h (a.add 0)) (fun n1 => ldI .i64 (rd h (a.add 1)) (fun n2 => ldI .i64 (rd h (a.add 2)) (fun n3 => ldI .i64 (rd h (a.add 3)) (fun n4 => ldI .i64 (rd h (a.add 4)) (fun n5 => ldI .i64 (rd h (a.add 5)) (fun n6 => ldI .i64 (rd h (a.add 6)) (fun n7 => ldI .i64 (rd h (a.add 7)) (fun n8 => ldI .i64 (rd h (a.add 8)) (fun n9 => ldI .i64 (rd h (a.add 9)) (fun n10 => ldI .i64 (rd h (a.add 10)) (fun n11 => ldI .i64 (rd h (a.add 11)) (fun n12 => ldI .i64 (rd h (a.add 12)) (fun n13 => ldI .i64 (rd h (a.add 13)) (fun n14 => ldI .i64 (rd h (a.add 14)) (fun n15 => ldI .i64 (rd h (a.add 15)) (fun n16 => ldI .i64 (rd h (a.add 16)) (fun n17 => newK h (.cells (Array.replicate 17 ((.int .i64 0) : Value)) 189) (fun b18 h19 => stK h19 ((Addr.mk b18 0 none).add 0) (.int .i64 n1) (fun h20 => stK h20 ((Addr.mk b18 0 none).add 1) (.int .i64 n2) (fun h21 => stK h21 ((Addr.mk b18 0 none).add 2) (.int .i64 n3) (fun h22 => stK h22 ((Addr.mk b18 0 none).add 3) (.int .i64 n4) (fun h23 => stK h23 ((Addr.mk b18 0 none).add 4) (.int .i64 n5) (fun h24 => stK h24 ((Addr.mk b18 0 none).add 5) (.int .i64 n6) (fun h25 => stK h25 ((Addr.mk b18 0 none).add 6) (.int .i64 n7) (fun h26 => stK h26 ((Addr.mk b18 0 none).add 7) (.int .i64 n8) (fun h27 => stK h27 ((Addr.mk b18 0 none).add 8) (.int .i64 n9) (fun h28 => stK h28 ((Addr.mk b18 0 none).add 9) (.int .i64 n10) (fun h29 => stK h29 ((Addr.mk b18 0 none).add 10) (.int .i64 n11) (fun h30 => stK h30 ((Addr.mk b18 0 none).add 11) (.int .i64 n12) (fun h31 => stK h31 ((Addr.mk b18 0 none).add 12) (.int .i64 n13) (fun h32 => stK h32 ((Addr.mk b18 0 none).add 13) (.int .i64 n14) (fun h33 => stK h33 ((Addr.mk b18 0 none).add 14) (.int .i64 n15) (fun h34 => stK h34 ((Addr.mk b18 0 none).add 15) (.int .i64 n16) (fun h35 => stK h35 ((Addr.mk b18 0 none).add 16) (.int .i64 n17) (fun h36 => K (.pointer (some (Addr.mk b18 0 none))) h36)))))))))))))))))))))))))))))))))))
theorem spec (a : Addr) (h : Heap) (K : KK) (H : w a h K) : Cl 104 [(.pointer (some a))] h K :=
  cE Xok mix Tryz.func104 (by kernel_rfl) (by kernel_rfl) rfl (by kernel_rfl) H
end F104
namespace F119
def w (a : Addr) (h : Heap) (K : KK) : Prop :=
  ldI .i64 (rd h (a.add 0)) (fun n1 => K (.int .i64 n1) h)
theorem spec (a : Addr) (h : Heap) (K : KK) (H : w a h K) : Cl 119 [(.pointer (some a))] h K :=
  cE Xok mix Tryz.func119 (by kernel_rfl) (by kernel_rfl) rfl (by kernel_rfl) H
end F119
end
section
def L8 (f : Nat → Nat) : List Value := (List.range 8).map fun i => .int .i64 (f i : Int)
def upd (f : Nat → Nat) (k v : Nat) : Nat → Nat := fun i => if i = k then v else f i
theorem L8_len (f : Nat → Nat) : (L8 f).length = 8 := by simp [L8]
theorem L8_get {f : Nat → Nat} {i : Nat} (hi : i < 8) : (L8 f)[i]? = some (.int .i64 (f i : Int)) := by simp [L8, hi]
theorem L8_set (f : Nat → Nat) (k v : Nat) : (L8 f).set k (.int .i64 (v : Int)) = L8 (upd f k v) := by
  apply List.ext_getElem?
  intro i
  by_cases h8 : i < 8
  · rw [L8_get h8, List.getElem?_set]
    by_cases h : k = i
    · subst h
      rw [if_pos rfl, if_pos (by rw [L8_len]; exact h8)]
      simp [upd]
    · rw [if_neg h, L8_get h8]
      simp [upd, Ne.symm h]
  · rw [List.getElem?_eq_none (by simp [L8_len]; omega), List.getElem?_eq_none (by simp [L8_len]; omega)]
def OrdIs (h : Heap) (b n : Nat) (f g : Nat → Nat) : Prop := At h b (.int .i64 (n : Int) :: (L8 f ++ L8 g))
theorem OrdIs.only {S : List Nat} {h h' : Heap} {b n : Nat} {f g : Nat → Nat} (H : OrdIs h b n f g) (O : Only S h h') (hb : b ∉ S) : OrdIs h' b n f g := At.only H O hb
theorem OrdIs.rd0 {h : Heap} {b n : Nat} {f g : Nat → Nat} (H : OrdIs h b n f g) : rd h ⟨b, 0, none⟩ = some (.int .i64 n) := by rw [At.rd H]; rfl
theorem OrdIs.rdv {h : Heap} {b n : Nat} {f g : Nat → Nat} (H : OrdIs h b n f g) {i : Nat} (hi : i < 8) : rd h ⟨b, 1 + i, none⟩ = some (.int .i64 (f i : Int)) := by
  rw [At.rd H, Nat.add_comm, List.getElem?_cons_succ, List.getElem?_append_left (by rw [L8_len]; exact hi), L8_get hi]
theorem OrdIs.rdl {h : Heap} {b n : Nat} {f g : Nat → Nat} (H : OrdIs h b n f g) {i : Nat} (hi : i < 8) : rd h ⟨b, 9 + i, none⟩ = some (.int .i64 (g i : Int)) := by
  rw [At.rd H, show 9 + i = (8 + i) + 1 by omega, List.getElem?_cons_succ, List.getElem?_append_right (by rw [L8_len]; omega), L8_len, show 8 + i - 8 = i by omega, L8_get hi]
theorem OrdIs.stv {h : Heap} {b n : Nat} {f g : Nat → Nat} {i v : Nat} {K : Heap → Prop} (H : OrdIs h b n f g) (hi : i < 8)
    (hK : ∀ h', OrdIs h' b n (upd f i v) g → Only [b] h h' → K h') : stK h ⟨b, 1 + i, none⟩ (.int .i64 (v : Int)) K := by
  refine stK_at H (by simp [L8_len]; omega) rfl fun h' A O _ => hK h' ?_ O
  rw [Nat.add_comm, List.set_cons_succ, List.set_append_left _ _ (by rw [L8_len]; exact hi), L8_set] at A
  exact A
theorem OrdIs.stl {h : Heap} {b n : Nat} {f g : Nat → Nat} {i v : Nat} {K : Heap → Prop} (H : OrdIs h b n f g) (hi : i < 8)
    (hK : ∀ h', OrdIs h' b n f (upd g i v) → Only [b] h h' → K h') : stK h ⟨b, 9 + i, none⟩ (.int .i64 (v : Int)) K := by
  refine stK_at H (by simp [L8_len]; omega) rfl fun h' A O _ => hK h' ?_ O
  rw [show 9 + i = (8 + i) + 1 by omega, List.set_cons_succ, List.set_append_right _ _ (by rw [L8_len]; omega), L8_len, show 8 + i - 8 = i by omega, L8_set] at A
  exact A

theorem ord_len {h : Heap} {b n : Nat} {f g : Nat → Nat} {K : Value → Heap → Prop} (H : OrdIs h b n f g) (hK : K (.int .i64 n) h) :
    CallsH Tryz.prog 119 [.pointer (some ⟨b, 0, none⟩)] h K := by
  apply F119.spec
  unfold F119.w
  simp only [add_mk, Nat.zero_add]
  exact ldI_of H.rd0 hK
def fill (k : Nat) : Nat → Nat := fun i => if i < k then i else 0
theorem upd_fill {k : Nat} : upd (fill k) k k = fill (k + 1) := by
  funext i
  unfold upd fill
  split
  · next h => subst h; simp
  · split
    · rw [if_pos (by omega)]
    · rw [if_neg (by omega)]
theorem new_loop {h0 : Heap} {b n : Nat} (hb : h0.size ≤ b) (hn : n ≤ 8) {K : Value → Heap → Prop} (hK : ∀ h', OrdIs h' b n (fill n) (fill n) → Only [] h0 h' → K (.pointer (some ⟨b, 0, none⟩)) h') :
    ∀ (m k : Nat) (h : Heap), n - k < m → k ≤ n → OrdIs h b n (fill k) (fill k) → Only [] h0 h → F108.wL3 m ⟨b, 0, none⟩ (n : Int) (k : Int) h K := by
  intro m
  induction m with
  | zero => intro k h hm; omega
  | succ m ih =>
    intro k h hm hk H O
    unfold F108.wL3 F108.JL3
    by_cases hlt : k < n
    · rw [decide_eq_true (by omega), bcase_true]
      simp only [add_mk, Nat.zero_add, Nat.mul_one, Nat.add_zero, Int.toNat_natCast]
      refine ⟨by omega, by omega, H.stv (by omega) fun h1 A1 O1 => ⟨trivial, trivial, trivial, trivial, trivial, by omega, by omega, A1.stl (by omega) fun h2 A2 O2 => ?_⟩⟩
      rw [show IntKind.wrap .i64 ((k : Int) + 1) = ((k + 1 : Nat) : Int) by rw [wrap_i64 (by omega) (by omega)]; simp]
      rw [upd_fill] at A2
      exact ih (k + 1) h2 (by omega) (by omega) A2 (O.trans (O1.trans (T := [b]) O2 (by simp)) fun x hx hl => absurd (show x = b by simpa using hx) (by omega))
    · rw [decide_eq_false (by omega), bcase_false]
      obtain rfl : k = n := by omega
      exact hK h H O
theorem ord_new {h : Heap} {n : Nat} (h1 : 1 ≤ n) (h8 : n ≤ 8) {K : Value → Heap → Prop} (hK : ∀ b h', OrdIs h' b n (fill n) (fill n) → h.size ≤ b → Only [] h h' → K (.pointer (some ⟨b, 0, none⟩)) h') :
    CallsH Tryz.prog 108 [.int .i64 (n : Int)] h K := by
  apply F108.spec
  unfold F108.w F108.J0
  rw [if_neg (by omega : ¬ (1 : Int) > (n : Int)), if_neg (by omega : ¬ (8 : Int) < (n : Int))]
  refine newK_at fun h2 A2 O2 z2 => ?_
  have A2 : OrdIs h2 h.size n (fill 0) (fill 0) := A2
  simp only [add_mk, Nat.zero_add]
  refine ldI_of A2.rd0 ?_
  unfold F108.wk3 F108.Jk3
  exact ⟨n + 1, new_loop (Nat.le_refl _) h8 (fun h' H O => hK h.size h' H (Nat.le_refl _) O) (n + 1) 0 h2 (by omega) (by omega) A2 O2⟩
theorem stL_row {b : Nat} {K : Heap → Prop} : ∀ (new : List Value) (i : Nat) (c : List Value) (h : Heap), At h b c → i + new.length ≤ c.length → (∀ v ∈ new, v.oneCell' = true) →
    (∀ h', At h' b (c.take i ++ new ++ c.drop (i + new.length)) → Only [b] h h' → K h') → stL ⟨b, 0, none⟩ i new h K := by
  intro new
  induction new with
  | nil =>
    intro i c h A hi hv hK
    unfold stL
    exact hK h (by simpa using A) (Only.refl _ _)
  | cons v vs ih =>
    intro i c h A hi hv hK
    simp only [List.length_cons] at hi
    unfold stL
    rw [add_mk, Nat.zero_add]
    refine stK_at A (by omega) (hv v (by simp)) fun h1 A1 O1 _ => ih (i + 1) _ h1 A1 (by simp; omega) (fun x hx => hv x (by simp [hx])) fun h2 A2 O2 => hK h2 ?_ (O1.trans O2 (by simp))
    have e : (c.set i v).take (i + 1) = c.take i ++ [v] := by
      rw [List.take_set, List.take_succ_eq_append_getElem (by omega), List.set_append_right _ _ (by simp; omega)]
      simp [List.length_take, Nat.min_eq_left (by omega : i ≤ c.length)]
    have e2 : (c.set i v).drop (i + 1 + vs.length) = c.drop (i + (vs.length + 1)) := by
      rw [List.drop_set_of_lt (by omega)]
      congr 1
      omega
    rw [e, e2] at A2
    simpa using A2
theorem ord_all {h : Heap} {b n : Nat} {f g : Nat → Nat} {K : Value → Heap → Prop} (H : OrdIs h b n f g) (hn : n ≤ 8)
    (hK : ∀ x h', At h' x (((List.range n).map fun i => (f i : Int)).map (.int .i64)) → h.size ≤ x → Only [] h h' → K (.slice (some ⟨x, 0, none⟩) n n) h') :
    CallsH Tryz.prog 48 [.pointer (some ⟨b, 0, none⟩)] h K := by
  apply F48.spec
  unfold F48.w F48.J0
  simp only [add_mk, Nat.zero_add, Nat.mul_one]
  refine ldI_of H.rd0 ⟨by omega, by omega, by omega, by omega, newK_at fun h1 A1 O1 z1 => ?_⟩
  have H1 := H.only O1 (by simp)
  refine ldI_of H1.rd0 ⟨by omega, by omega, ?_⟩
  rw [if_neg (by decide : ¬ (8 = 0)), Int.toNat_natCast, Nat.sub_zero, toList_madeCells_one] at *
  unfold copyK
  rw [show Nat.min n n = n from Nat.min_self n]
  refine ⟨((List.range n).map fun i => (f i : Int)).map (.int .i64), by simp, ?_, ?_⟩
  · intro j v hj
    have hjn : j < n := by
      have := (List.getElem?_eq_some_iff.1 hj).1
      simpa using this
    rw [add_mk, H1.rdv (by omega), ← hj]
    simp [hjn]
  · refine stL_row _ 0 _ h1 A1 (by simp) (by simp [Value.oneCell']) fun h2 A2 O2 => hK h.size h2 ?_ (Nat.le_refl _) ?_
    · simpa using A2
    · exact O1.trans O2 fun x hx hl => absurd (show x = h.size by simpa using hx) (by omega)
end
end Go.Proofs.YtnofenejoebkhaaGreat.Ev
