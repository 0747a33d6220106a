/- PRINTED BY PROGRAM: the functions that calls may reach, each with a body or one of the atomic accesses. Conditions: none. -/
import Derived.Test.YtbjdjgdbkfjglaaEvI
import Derived.Test.YtbjdjgdbkfjglaaProg
namespace Go.Proofs.Ytbjdjgdbkfjglaa.Ev
open Go
def X : List (Nat × Ext) := [(2, .go), (3, .go), (4, .go), (5, .go), (6, .go), (7, .go), (8, .go), (9, .go), (10, .go), (11, .go), (12, .go), (13, .go), (14, .go), (15, .go), (16, .go), (17, .go), (18, .go), (19, .go), (20, .go), (21, .go), (22, .go), (23, .go), (24, .go), (25, .go), (26, .go), (27, .go), (28, .go), (29, .go), (30, .go), (31, .go), (32, .go), (33, .go), (34, .go), (35, .go), (36, .go), (37, .go), (38, .go), (39, .go), (40, .go), (41, .go), (42, .go), (43, .go), (44, .go), (45, .go), (46, .go), (47, .go), (48, .go), (49, .go), (50, .go), (51, .go), (52, .go), (53, .go), (54, .go), (55, .go), (56, .go), (57, .go), (58, .go), (59, .store), (60, .load .u64), (61, .load .i64), (62, .go), (63, .go), (64, .cas .u64), (65, .add .i64), (66, .go), (67, .go), (68, .go)]
theorem x2 : ExtOk Try.prog 2 (.go) := ⟨Try.f2, Try.func2, by kernel_rfl, by kernel_rfl⟩
theorem x3 : ExtOk Try.prog 3 (.go) := ⟨Try.f3, Try.func3, by kernel_rfl, by kernel_rfl⟩
theorem x4 : ExtOk Try.prog 4 (.go) := ⟨Try.f4, Try.func4, by kernel_rfl, by kernel_rfl⟩
theorem x5 : ExtOk Try.prog 5 (.go) := ⟨Try.f5, Try.func5, by kernel_rfl, by kernel_rfl⟩
theorem x6 : ExtOk Try.prog 6 (.go) := ⟨Try.f6, Try.func6, by kernel_rfl, by kernel_rfl⟩
theorem x7 : ExtOk Try.prog 7 (.go) := ⟨Try.f7, Try.func7, by kernel_rfl, by kernel_rfl⟩
theorem x8 : ExtOk Try.prog 8 (.go) := ⟨Try.f8, Try.func8, by kernel_rfl, by kernel_rfl⟩
theorem x9 : ExtOk Try.prog 9 (.go) := ⟨Try.f9, Try.func9, by kernel_rfl, by kernel_rfl⟩
theorem x10 : ExtOk Try.prog 10 (.go) := ⟨Try.f10, Try.func10, by kernel_rfl, by kernel_rfl⟩
theorem x11 : ExtOk Try.prog 11 (.go) := ⟨Try.f11, Try.func11, by kernel_rfl, by kernel_rfl⟩
theorem x12 : ExtOk Try.prog 12 (.go) := ⟨Try.f12, Try.func12, by kernel_rfl, by kernel_rfl⟩
theorem x13 : ExtOk Try.prog 13 (.go) := ⟨Try.f13, Try.func13, by kernel_rfl, by kernel_rfl⟩
theorem x14 : ExtOk Try.prog 14 (.go) := ⟨Try.f14, Try.func14, by kernel_rfl, by kernel_rfl⟩
theorem x15 : ExtOk Try.prog 15 (.go) := ⟨Try.f15, Try.func15, by kernel_rfl, by kernel_rfl⟩
theorem x16 : ExtOk Try.prog 16 (.go) := ⟨Try.f16, Try.func16, by kernel_rfl, by kernel_rfl⟩
theorem x17 : ExtOk Try.prog 17 (.go) := ⟨Try.f17, Try.func17, by kernel_rfl, by kernel_rfl⟩
theorem x18 : ExtOk Try.prog 18 (.go) := ⟨Try.f18, Try.func18, by kernel_rfl, by kernel_rfl⟩
theorem x19 : ExtOk Try.prog 19 (.go) := ⟨Try.f19, Try.func19, by kernel_rfl, by kernel_rfl⟩
theorem x20 : ExtOk Try.prog 20 (.go) := ⟨Try.f20, Try.func20, by kernel_rfl, by kernel_rfl⟩
theorem x21 : ExtOk Try.prog 21 (.go) := ⟨Try.f21, Try.func21, by kernel_rfl, by kernel_rfl⟩
theorem x22 : ExtOk Try.prog 22 (.go) := ⟨Try.f22, Try.func22, by kernel_rfl, by kernel_rfl⟩
theorem x23 : ExtOk Try.prog 23 (.go) := ⟨Try.f23, Try.func23, by kernel_rfl, by kernel_rfl⟩
theorem x24 : ExtOk Try.prog 24 (.go) := ⟨Try.f24, Try.func24, by kernel_rfl, by kernel_rfl⟩
theorem x25 : ExtOk Try.prog 25 (.go) := ⟨Try.f25, Try.func25, by kernel_rfl, by kernel_rfl⟩
theorem x26 : ExtOk Try.prog 26 (.go) := ⟨Try.f26, Try.func26, by kernel_rfl, by kernel_rfl⟩
theorem x27 : ExtOk Try.prog 27 (.go) := ⟨Try.f27, Try.func27, by kernel_rfl, by kernel_rfl⟩
theorem x28 : ExtOk Try.prog 28 (.go) := ⟨Try.f28, Try.func28, by kernel_rfl, by kernel_rfl⟩
theorem x29 : ExtOk Try.prog 29 (.go) := ⟨Try.f29, Try.func29, by kernel_rfl, by kernel_rfl⟩
theorem x30 : ExtOk Try.prog 30 (.go) := ⟨Try.f30, Try.func30, by kernel_rfl, by kernel_rfl⟩
theorem x31 : ExtOk Try.prog 31 (.go) := ⟨Try.f31, Try.func31, by kernel_rfl, by kernel_rfl⟩
theorem x32 : ExtOk Try.prog 32 (.go) := ⟨Try.f32, Try.func32, by kernel_rfl, by kernel_rfl⟩
theorem x33 : ExtOk Try.prog 33 (.go) := ⟨Try.f33, Try.func33, by kernel_rfl, by kernel_rfl⟩
theorem x34 : ExtOk Try.prog 34 (.go) := ⟨Try.f34, Try.func34, by kernel_rfl, by kernel_rfl⟩
theorem x35 : ExtOk Try.prog 35 (.go) := ⟨Try.f35, Try.func35, by kernel_rfl, by kernel_rfl⟩
theorem x36 : ExtOk Try.prog 36 (.go) := ⟨Try.f36, Try.func36, by kernel_rfl, by kernel_rfl⟩
theorem x37 : ExtOk Try.prog 37 (.go) := ⟨Try.f37, Try.func37, by kernel_rfl, by kernel_rfl⟩
theorem x38 : ExtOk Try.prog 38 (.go) := ⟨Try.f38, Try.func38, by kernel_rfl, by kernel_rfl⟩
theorem x39 : ExtOk Try.prog 39 (.go) := ⟨Try.f39, Try.func39, by kernel_rfl, by kernel_rfl⟩
theorem x40 : ExtOk Try.prog 40 (.go) := ⟨Try.f40, Try.func40, by kernel_rfl, by kernel_rfl⟩
theorem x41 : ExtOk Try.prog 41 (.go) := ⟨Try.f41, Try.func41, by kernel_rfl, by kernel_rfl⟩
theorem x42 : ExtOk Try.prog 42 (.go) := ⟨Try.f42, Try.func42, by kernel_rfl, by kernel_rfl⟩
theorem x43 : ExtOk Try.prog 43 (.go) := ⟨Try.f43, Try.func43, by kernel_rfl, by kernel_rfl⟩
theorem x44 : ExtOk Try.prog 44 (.go) := ⟨Try.f44, Try.func44, by kernel_rfl, by kernel_rfl⟩
theorem x45 : ExtOk Try.prog 45 (.go) := ⟨Try.f45, Try.func45, by kernel_rfl, by kernel_rfl⟩
theorem x46 : ExtOk Try.prog 46 (.go) := ⟨Try.f46, Try.func46, by kernel_rfl, by kernel_rfl⟩
theorem x47 : ExtOk Try.prog 47 (.go) := ⟨Try.f47, Try.func47, by kernel_rfl, by kernel_rfl⟩
theorem x48 : ExtOk Try.prog 48 (.go) := ⟨Try.f48, Try.func48, by kernel_rfl, by kernel_rfl⟩
theorem x49 : ExtOk Try.prog 49 (.go) := ⟨Try.f49, Try.func49, by kernel_rfl, by kernel_rfl⟩
theorem x50 : ExtOk Try.prog 50 (.go) := ⟨Try.f50, Try.func50, by kernel_rfl, by kernel_rfl⟩
theorem x51 : ExtOk Try.prog 51 (.go) := ⟨Try.f51, Try.func51, by kernel_rfl, by kernel_rfl⟩
theorem x52 : ExtOk Try.prog 52 (.go) := ⟨Try.f52, Try.func52, by kernel_rfl, by kernel_rfl⟩
theorem x53 : ExtOk Try.prog 53 (.go) := ⟨Try.f53, Try.func53, by kernel_rfl, by kernel_rfl⟩
theorem x54 : ExtOk Try.prog 54 (.go) := ⟨Try.f54, Try.func54, by kernel_rfl, by kernel_rfl⟩
theorem x55 : ExtOk Try.prog 55 (.go) := ⟨Try.f55, Try.func55, by kernel_rfl, by kernel_rfl⟩
theorem x56 : ExtOk Try.prog 56 (.go) := ⟨Try.f56, Try.func56, by kernel_rfl, by kernel_rfl⟩
theorem x57 : ExtOk Try.prog 57 (.go) := ⟨Try.f57, Try.func57, by kernel_rfl, by kernel_rfl⟩
theorem x58 : ExtOk Try.prog 58 (.go) := ⟨Try.f58, Try.func58, by kernel_rfl, by kernel_rfl⟩
theorem x59 : ExtOk Try.prog 59 (.store) := ⟨Try.f59, Try.func59, by kernel_rfl, by kernel_rfl, by kernel_rfl, by kernel_rfl⟩
theorem x60 : ExtOk Try.prog 60 (.load .u64) := ⟨Try.f60, Try.func60, by kernel_rfl, by kernel_rfl, by kernel_rfl, by kernel_rfl⟩
theorem x61 : ExtOk Try.prog 61 (.load .i64) := ⟨Try.f61, Try.func61, by kernel_rfl, by kernel_rfl, by kernel_rfl, by kernel_rfl⟩
theorem x62 : ExtOk Try.prog 62 (.go) := ⟨Try.f62, Try.func62, by kernel_rfl, by kernel_rfl⟩
theorem x63 : ExtOk Try.prog 63 (.go) := ⟨Try.f63, Try.func63, by kernel_rfl, by kernel_rfl⟩
theorem x64 : ExtOk Try.prog 64 (.cas .u64) := ⟨Try.f64, Try.func64, by kernel_rfl, by kernel_rfl, by kernel_rfl, by kernel_rfl⟩
theorem x65 : ExtOk Try.prog 65 (.add .i64) := ⟨Try.f65, Try.func65, by kernel_rfl, by kernel_rfl, by kernel_rfl, by kernel_rfl⟩
theorem x66 : ExtOk Try.prog 66 (.go) := ⟨Try.f66, Try.func66, by kernel_rfl, by kernel_rfl⟩
theorem x67 : ExtOk Try.prog 67 (.go) := ⟨Try.f67, Try.func67, by kernel_rfl, by kernel_rfl⟩
theorem x68 : ExtOk Try.prog 68 (.go) := ⟨Try.f68, Try.func68, by kernel_rfl, by kernel_rfl⟩
theorem Xok : XOk Try.prog X := xok_of_all ((xok_cons x2 (xok_cons x3 (xok_cons x4 (xok_cons x5 (xok_cons x6 (xok_cons x7 (xok_cons x8 (xok_cons x9 (xok_cons x10 (xok_cons x11 (xok_cons x12 (xok_cons x13 (xok_cons x14 (xok_cons x15 (xok_cons x16 (xok_cons x17 (xok_cons x18 (xok_cons x19 (xok_cons x20 (xok_cons x21 (xok_cons x22 (xok_cons x23 (xok_cons x24 (xok_cons x25 (xok_cons x26 (xok_cons x27 (xok_cons x28 (xok_cons x29 (xok_cons x30 (xok_cons x31 (xok_cons x32 (xok_cons x33 (xok_cons x34 (xok_cons x35 (xok_cons x36 (xok_cons x37 (xok_cons x38 (xok_cons x39 (xok_cons x40 (xok_cons x41 (xok_cons x42 (xok_cons x43 (xok_cons x44 (xok_cons x45 (xok_cons x46 (xok_cons x47 (xok_cons x48 (xok_cons x49 (xok_cons x50 (xok_cons x51 (xok_cons x52 (xok_cons x53 (xok_cons x54 (xok_cons x55 (xok_cons x56 (xok_cons x57 (xok_cons x58 (xok_cons x59 (xok_cons x60 (xok_cons x61 (xok_cons x62 (xok_cons x63 (xok_cons x64 (xok_cons x65 (xok_cons x66 (xok_cons x67 (xok_cons x68 xok_nil))))))))))))))))))))))))))))))))))))))))))))))))))))))))))))))))))))
theorem mix : Try.prog.follows .mixedOrders = true := by kernel_rfl
end Go.Proofs.Ytbjdjgdbkfjglaa.Ev
