import Derived.Test.YtmoldheenagboaaProg
import Derived.Test.YtmoldheenagboaaLib32
import Derived.Test.YtmoldheenagboaaImgSh
open Go Go.Ab Go.Proofs
set_option linter.unusedVariables false
set_option maxRecDepth 20000
namespace Sx
noncomputable section
abbrev yA : Ty := (.cons (.int .i64) (.cons (.int .i64) (.cons (.sl false (.int .u64)) (.sl false (.int .u64)))))
abbrev yB : Ty := (.cons (.int .i64) (.cons (.int .i64) (.cons (.sl false (.int .u64)) (.sl false (.int .u8)))))
abbrev yC : Ty := (.cons (.int .i64) (.cons (.int .u64) .bool))
def Mu : DD := []
instance gTab : b8 := ⟨fun g => bR g Mu⟩
def Ol : TI := ⟨.int .i64, 1, 8, false, some (.int .i64), false, [.int .i64 0]⟩
def Ot : TI := ⟨.int .i64, 1, 8, false, some (.int .i64), false, [.int .i64 0]⟩
def Oo : TI := ⟨.bool, 1, 1, false, some .bool, false, [.bool false]⟩
def On : TI := ⟨.int .u8, 1, 1, false, some (.int .u8), false, [.int .u8 0]⟩
def Om : TI := ⟨.int .u8, 1, 1, false, some (.int .u8), false, [.int .u8 0]⟩
def Ou : TI := ⟨.st [(0, 1, 2), (1, 1, 3), (2, 1, 4), (3, 1, 6)], 4, 24, true, some (.cons (.int .i64) (.cons (.int .i64) (.cons .bool (.int .u8)))), true, [.int .i64 0, .int .i64 0, .bool false, .int .u8 0]⟩
def Oq : TI := ⟨.st [(0, 1, 2), (1, 1, 3), (2, 1, 4), (3, 1, 6)], 4, 24, true, some (.cons (.int .i64) (.cons (.int .i64) (.cons .bool (.int .u8)))), true, [.int .i64 0, .int .i64 0, .bool false, .int .u8 0]⟩
def Ow : TI := ⟨.str, 1, 16, false, some .str, false, [.string (ByteArray.mk (List.toArray []))]⟩
def Np : TI := ⟨.str, 1, 16, false, some .str, false, [.string (ByteArray.mk (List.toArray []))]⟩
def N9 : TI := ⟨.str, 1, 16, false, some .str, false, [.string (ByteArray.mk (List.toArray []))]⟩
def NC : TI := ⟨.int .u64, 1, 8, false, some (.int .u64), false, [.int .u64 0]⟩
def Od : TI := ⟨.st [(0, 1, 9), (1, 1, 12)], 2, 24, true, some (.cons .str (.int .u64)), false, [.string (ByteArray.mk (List.toArray [])), .int .u64 0]⟩
def Nm : TI := ⟨.st [(0, 1, 9), (1, 1, 12)], 2, 24, true, some (.cons .str (.int .u64)), false, [.string (ByteArray.mk (List.toArray [])), .int .u64 0]⟩
def NU : TI := ⟨.ptr, 1, 8, false, none, false, [.pointer none]⟩
def Nt : TI := ⟨.ptr, 1, 8, false, none, false, [.pointer none]⟩
def N0 : TI := ⟨.ptr, 1, 8, false, none, false, [.pointer none]⟩
def Nz : TI := ⟨.st [(0, 1, 17)], 1, 8, true, none, false, [.pointer none]⟩
def NT : TI := ⟨.st [(0, 1, 17)], 1, 8, true, none, false, [.pointer none]⟩
def Nn : TI := ⟨.int .i32, 1, 4, false, some (.int .i32), false, [.int .i32 0]⟩
def NV : TI := ⟨.sl 50, 1, 24, false, some (.sl true (.cons (.int .i64) (.cons (.int .i64) (.cons (.sl false (.int .u64)) (.sl false (.int .u64)))))), false, [.slice none 0 0]⟩
def Nq : TI := ⟨.sl 52, 1, 24, false, some (.sl true (.cons (.int .i64) (.cons (.int .i64) (.cons (.sl false (.int .u64)) (.sl false (.int .u8)))))), false, [.slice none 0 0]⟩
def NH : TI := ⟨.sl 54, 1, 24, false, some (.sl true (.cons (.int .i64) (.cons (.int .u64) .bool))), false, [.slice none 0 0]⟩
def Nh : TI := ⟨.int .u64, 1, 8, false, some (.int .u64), false, [.int .u64 0]⟩
def Og : TI := ⟨.st [(0, 1, 22), (1, 1, 23), (2, 1, 24), (3, 1, 3), (4, 1, 3), (5, 1, 3), (6, 1, 25)], 7, 104, true, some (.cons (.sl true (.cons (.int .i64) (.cons (.int .i64) (.cons (.sl false (.int .u64)) (.sl false (.int .u64)))))) (.cons (.sl true (.cons (.int .i64) (.cons (.int .i64) (.cons (.sl false (.int .u64)) (.sl false (.int .u8)))))) (.cons (.sl true (.cons (.int .i64) (.cons (.int .u64) .bool))) (.cons (.int .i64) (.cons (.int .i64) (.cons (.int .i64) (.int .u64))))))), false, [.slice none 0 0, .slice none 0 0, .slice none 0 0, .int .i64 0, .int .i64 0, .int .i64 0, .int .u64 0]⟩
def NM : TI := ⟨.st [(0, 1, 22), (1, 1, 23), (2, 1, 24), (3, 1, 3), (4, 1, 3), (5, 1, 3), (6, 1, 25)], 7, 104, true, some (.cons (.sl true (.cons (.int .i64) (.cons (.int .i64) (.cons (.sl false (.int .u64)) (.sl false (.int .u64)))))) (.cons (.sl true (.cons (.int .i64) (.cons (.int .i64) (.cons (.sl false (.int .u64)) (.sl false (.int .u8)))))) (.cons (.sl true (.cons (.int .i64) (.cons (.int .u64) .bool))) (.cons (.int .i64) (.cons (.int .i64) (.cons (.int .i64) (.int .u64))))))), false, [.slice none 0 0, .slice none 0 0, .slice none 0 0, .int .i64 0, .int .i64 0, .int .i64 0, .int .u64 0]⟩
def NQ : TI := ⟨.int .u32, 1, 4, false, some (.int .u32), false, [.int .u32 0]⟩
def NZ : TI := ⟨.sl 5, 1, 24, false, some (.sl false (.int .u8)), false, [.slice none 0 0]⟩
def Nu : TI := ⟨.int .i64, 1, 8, false, some (.int .i64), false, [.int .i64 0]⟩
def NL : TI := ⟨.int .u64, 1, 8, false, some (.int .u64), false, [.int .u64 0]⟩
def Ob : TI := ⟨.int .u16, 1, 2, false, some (.int .u16), false, [.int .u16 0]⟩
def NO : TI := ⟨.sl 25, 1, 24, false, some (.sl false (.int .u64)), false, [.slice none 0 0]⟩
def NI : TI := ⟨.st [(0, 1, 3), (1, 1, 3), (2, 1, 48), (3, 1, 48)], 4, 64, true, some (.cons (.int .i64) (.cons (.int .i64) (.cons (.sl false (.int .u64)) (.sl false (.int .u64))))), false, [.int .i64 0, .int .i64 0, .slice none 0 0, .slice none 0 0]⟩
def Nx : TI := ⟨.st [(0, 1, 3), (1, 1, 3), (2, 1, 48), (3, 1, 48)], 4, 64, true, some (.cons (.int .i64) (.cons (.int .i64) (.cons (.sl false (.int .u64)) (.sl false (.int .u64))))), false, [.int .i64 0, .int .i64 0, .slice none 0 0, .slice none 0 0]⟩
def N7 : TI := ⟨.st [(0, 1, 3), (1, 1, 3), (2, 1, 48), (3, 1, 31)], 4, 64, true, some (.cons (.int .i64) (.cons (.int .i64) (.cons (.sl false (.int .u64)) (.sl false (.int .u8))))), false, [.int .i64 0, .int .i64 0, .slice none 0 0, .slice none 0 0]⟩
def Nv : TI := ⟨.st [(0, 1, 3), (1, 1, 3), (2, 1, 48), (3, 1, 31)], 4, 64, true, some (.cons (.int .i64) (.cons (.int .i64) (.cons (.sl false (.int .u64)) (.sl false (.int .u8))))), false, [.int .i64 0, .int .i64 0, .slice none 0 0, .slice none 0 0]⟩
def NA : TI := ⟨.st [(0, 1, 3), (1, 1, 25), (2, 1, 4)], 3, 24, true, some (.cons (.int .i64) (.cons (.int .u64) .bool)), true, [.int .i64 0, .int .u64 0, .bool false]⟩
def N2 : TI := ⟨.st [(0, 1, 3), (1, 1, 25), (2, 1, 4)], 3, 24, true, some (.cons (.int .i64) (.cons (.int .u64) .bool)), true, [.int .i64 0, .int .u64 0, .bool false]⟩
def NB : TI := ⟨.ptr, 1, 8, false, none, false, [.pointer none]⟩
def NG : TI := ⟨.st [(0, 1, 31)], 1, 24, true, some (.sl false (.int .u8)), false, [.slice none 0 0]⟩
def N5 : TI := ⟨.st [(0, 1, 31)], 1, 24, true, some (.sl false (.int .u8)), false, [.slice none 0 0]⟩
def N8 : TI := ⟨.arr 3 3, 3, 24, true, none, false, [.int .i64 0, .int .i64 0, .int .i64 0]⟩
def Oe : TI := ⟨.ptr, 1, 8, false, none, false, [.pointer none]⟩
def NR : TI := ⟨.ptr, 1, 8, false, none, false, [.pointer none]⟩
def ND : TI := ⟨.st [(0, 1, 67), (1, 1, 4)], 2, 16, true, none, false, [.pointer none, .bool false]⟩
def NW : TI := ⟨.st [(0, 1, 67), (1, 1, 4)], 2, 16, true, none, false, [.pointer none, .bool false]⟩
def NS : TI := ⟨.sl 3, 1, 24, false, some (.sl false (.int .i64)), false, [.slice none 0 0]⟩
def Nw : TI := ⟨.ptr, 1, 8, false, none, false, [.pointer none]⟩
def NE : TI := ⟨.st [(0, 1, 67), (1, 1, 4)], 2, 16, true, none, false, [.pointer none, .bool false]⟩
def N6 : TI := ⟨.st [(0, 1, 67), (1, 1, 4)], 2, 16, true, none, false, [.pointer none, .bool false]⟩
def NP : TI := ⟨.st [(0, 1, 3), (1, 1, 3)], 2, 16, true, some (.cons (.int .i64) (.int .i64)), true, [.int .i64 0, .int .i64 0]⟩
def NK : TI := ⟨.st [(0, 1, 3), (1, 1, 3)], 2, 16, true, some (.cons (.int .i64) (.int .i64)), true, [.int .i64 0, .int .i64 0]⟩
def NY : TI := ⟨.sl 91, 1, 24, false, some (.sl true (.cons (.int .i64) (.int .i64))), false, [.slice none 0 0]⟩
def Oc : TI := ⟨.st [(0, 1, 3), (1, 1, 3), (2, 1, 3)], 3, 24, true, some (.cons (.int .i64) (.cons (.int .i64) (.int .i64))), true, [.int .i64 0, .int .i64 0, .int .i64 0]⟩
def N1 : TI := ⟨.st [(0, 1, 3), (1, 1, 3), (2, 1, 3)], 3, 24, true, some (.cons (.int .i64) (.cons (.int .i64) (.int .i64))), true, [.int .i64 0, .int .i64 0, .int .i64 0]⟩
def NX : TI := ⟨.sl 94, 1, 24, false, some (.sl true (.cons (.int .i64) (.cons (.int .i64) (.int .i64)))), false, [.slice none 0 0]⟩
def Ni : TI := ⟨.st [(0, 1, 92), (1, 2, 91), (3, 1, 92), (4, 1, 95)], 5, 88, true, some (.cons (.sl true (.cons (.int .i64) (.int .i64))) (.cons (.int .i64) (.cons (.int .i64) (.cons (.sl true (.cons (.int .i64) (.int .i64))) (.sl true (.cons (.int .i64) (.cons (.int .i64) (.int .i64)))))))), false, [.slice none 0 0, .int .i64 0, .int .i64 0, .slice none 0 0, .slice none 0 0]⟩
def Ns : TI := ⟨.st [(0, 1, 92), (1, 2, 91), (3, 1, 92), (4, 1, 95)], 5, 88, true, some (.cons (.sl true (.cons (.int .i64) (.int .i64))) (.cons (.int .i64) (.cons (.int .i64) (.cons (.sl true (.cons (.int .i64) (.int .i64))) (.sl true (.cons (.int .i64) (.cons (.int .i64) (.int .i64)))))))), false, [.slice none 0 0, .int .i64 0, .int .i64 0, .slice none 0 0, .slice none 0 0]⟩
def Nj : TI := ⟨.sl 97, 1, 24, false, some (.sl true (.cons (.sl true (.cons (.int .i64) (.int .i64))) (.cons (.int .i64) (.cons (.int .i64) (.cons (.sl true (.cons (.int .i64) (.int .i64))) (.sl true (.cons (.int .i64) (.cons (.int .i64) (.int .i64))))))))), false, [.slice none 0 0]⟩
def Ny : TI := ⟨.sl 92, 1, 24, false, some (.sl false (.sl true (.cons (.int .i64) (.int .i64)))), false, [.slice none 0 0]⟩
def M6 : TI := ⟨.sl 142, 1, 24, false, some (.sl true (.cons (.sl true (.cons (.int .i64) (.int .i64))) (.cons (.int .i64) (.int .i64)))), false, [.slice none 0 0]⟩
def M1 : TI := ⟨.sl 9, 1, 24, false, some (.sl false .str), false, [.slice none 0 0]⟩
def M9 : TI := ⟨.st [(0, 1, 99), (1, 1, 98), (2, 1, 100), (3, 1, 48), (4, 1, 101)], 5, 120, true, some (.cons (.sl false (.sl true (.cons (.int .i64) (.int .i64)))) (.cons (.sl true (.cons (.sl true (.cons (.int .i64) (.int .i64))) (.cons (.int .i64) (.cons (.int .i64) (.cons (.sl true (.cons (.int .i64) (.int .i64))) (.sl true (.cons (.int .i64) (.cons (.int .i64) (.int .i64))))))))) (.cons (.sl true (.cons (.sl true (.cons (.int .i64) (.int .i64))) (.cons (.int .i64) (.int .i64)))) (.cons (.sl false (.int .u64)) (.sl false .str))))), false, [.slice none 0 0, .slice none 0 0, .slice none 0 0, .slice none 0 0, .slice none 0 0]⟩
def Mv : TI := ⟨.st [(0, 1, 99), (1, 1, 98), (2, 1, 100), (3, 1, 48), (4, 1, 101)], 5, 120, true, some (.cons (.sl false (.sl true (.cons (.int .i64) (.int .i64)))) (.cons (.sl true (.cons (.sl true (.cons (.int .i64) (.int .i64))) (.cons (.int .i64) (.cons (.int .i64) (.cons (.sl true (.cons (.int .i64) (.int .i64))) (.sl true (.cons (.int .i64) (.cons (.int .i64) (.int .i64))))))))) (.cons (.sl true (.cons (.sl true (.cons (.int .i64) (.int .i64))) (.cons (.int .i64) (.int .i64)))) (.cons (.sl false (.int .u64)) (.sl false .str))))), false, [.slice none 0 0, .slice none 0 0, .slice none 0 0, .slice none 0 0, .slice none 0 0]⟩
def MQ : TI := ⟨.st [(0, 1, 31), (1, 1, 4)], 2, 32, true, some (.cons (.sl false (.int .u8)) .bool), false, [.slice none 0 0, .bool false]⟩
def Nb : TI := ⟨.st [(0, 1, 31), (1, 1, 4)], 2, 32, true, some (.cons (.sl false (.int .u8)) .bool), false, [.slice none 0 0, .bool false]⟩
def Mw : TI := ⟨.ptr, 1, 8, false, none, false, [.pointer none]⟩
def Mt : TI := ⟨.st [(0, 1, 31)], 1, 24, true, some (.sl false (.int .u8)), false, [.slice none 0 0]⟩
def ME : TI := ⟨.st [(0, 1, 31)], 1, 24, true, some (.sl false (.int .u8)), false, [.slice none 0 0]⟩
def MH : TI := ⟨.st [(0, 1, 92), (1, 2, 91)], 3, 40, true, some (.cons (.sl true (.cons (.int .i64) (.int .i64))) (.cons (.int .i64) (.int .i64))), false, [.slice none 0 0, .int .i64 0, .int .i64 0]⟩
def MS : TI := ⟨.st [(0, 1, 92), (1, 2, 91)], 3, 40, true, some (.cons (.sl true (.cons (.int .i64) (.int .i64))) (.cons (.int .i64) (.int .i64))), false, [.slice none 0 0, .int .i64 0, .int .i64 0]⟩
def M3 : TI := ⟨.sl 31, 1, 24, false, some (.sl false (.sl false (.int .u8))), false, [.slice none 0 0]⟩
def MW : TI := ⟨.ptr, 1, 8, false, none, false, [.pointer none]⟩
def MT : TI := ⟨.st [(0, 1, 31)], 1, 24, true, some (.sl false (.int .u8)), false, [.slice none 0 0]⟩
def Mz : TI := ⟨.st [(0, 1, 31)], 1, 24, true, some (.sl false (.int .u8)), false, [.slice none 0 0]⟩
def MZ : TI := ⟨.arr 2 3, 2, 16, true, none, false, [.int .i64 0, .int .i64 0]⟩
def MM : TI := ⟨.st [(0, 1, 17), (1, 1, 17), (2, 1, 17), (3, 1, 9)], 4, 40, true, none, false, [.pointer none, .pointer none, .pointer none, .string (ByteArray.mk (List.toArray []))]⟩
def MR : TI := ⟨.st [(0, 1, 17), (1, 1, 17), (2, 1, 17), (3, 1, 9)], 4, 40, true, none, false, [.pointer none, .pointer none, .pointer none, .string (ByteArray.mk (List.toArray []))]⟩
def MX : TI := ⟨.arr 0 16, 0, 0, true, none, false, []⟩
def ML : TI := ⟨.st [(0, 0, 176)], 0, 0, true, none, false, []⟩
def MP : TI := ⟨.st [(0, 0, 176)], 0, 0, true, none, false, []⟩
def M0 : TI := ⟨.int .u8, 1, 1, false, some (.int .u8), false, [.int .u8 0]⟩
def M8 : TI := ⟨.int .u8, 1, 1, false, some (.int .u8), false, [.int .u8 0]⟩
def M4 : TI := ⟨.ptr, 1, 8, false, none, false, [.pointer none]⟩
def M2 : TI := ⟨.int .i32, 1, 4, false, some (.int .i32), false, [.int .i32 0]⟩
def MD : TI := ⟨.int .i32, 1, 4, false, some (.int .i32), false, [.int .i32 0]⟩
def MO : TI := ⟨.other, 1, 8, false, none, false, [.pointer none]⟩
def MC : List (Nat × TI) := [(2, Ol), (3, Ot), (4, Oo), (5, On), (6, Om), (7, Ou), (8, Oq), (9, Ow), (10, Np), (11, N9), (12, NC), (13, Od), (14, Nm), (15, NU), (16, Nt), (17, N0), (18, Nz), (19, NT), (21, Nn), (22, NV), (23, Nq), (24, NH), (25, Nh), (26, Og), (27, NM), (28, NQ), (31, NZ), (35, Nu), (42, NL), (44, Ob), (48, NO), (49, NI), (50, Nx), (51, N7), (52, Nv), (53, NA), (54, N2), (55, NB), (57, NG), (58, N5), (59, N8), (67, Oe), (70, NR), (71, ND), (72, NW), (81, NS), (86, Nw), (87, NE), (88, N6), (90, NP), (91, NK), (92, NY), (93, Oc), (94, N1), (95, NX), (96, Ni), (97, Ns), (98, Nj), (99, Ny), (100, M6), (101, M1), (102, M9), (103, Mv), (118, MQ), (119, Nb), (120, Mw), (121, Mt), (122, ME), (141, MH), (142, MS), (147, M3), (161, MW), (162, MT), (163, Mz), (172, MZ), (174, MM), (175, MR), (176, MX), (177, ML), (178, MP), (179, M0), (180, M8), (182, M4), (183, M2), (184, MD), (187, MO)]
def tab : TypeId → Option TI := fun t => bR t MC
theorem aY : b9 Try.prog tab := (show b9 Try.prog (fun t => bR t MC) from b9.of_list _ (by kernel_rfl))
theorem aG : n8 Try.prog = true := by kernel_rfl
theorem aF : Try.prog.follows .mixedOrders = true := by kernel_rfl
def Jn : Code := (match Try.f3.body with | some c => c | none => .skip)
def qx_an : dJ := {}
def qx_c : Code := (match Try.f11.body with | some c => c | none => .skip)
def qx_a : aI := ⟨.normal, [], .nil, .nil⟩
def qae_an : dJ := { live := [(0, [2, 5, 27, 28]), (2, [2, 5, 45, 46, 47]), (4, [2, 5, 61, 62, 63]), (6, [5, 77, 78, 79])], boxed := [(1, 0)] }
def qae_c : Code := (match Try.f12.body with | some c => c | none => .skip)
def qae_l0 : Code := (match bR 0 (aU qae_c 0) with | some c => c | none => .skip)
def qae_l2 : Code := (match bR 2 (aU qae_c 0) with | some c => c | none => .skip)
def qae_l4 : Code := (match bR 4 (aU qae_c 0) with | some c => c | none => .skip)
def qae_l6 : Code := (match bR 6 (aU qae_c 0) with | some c => c | none => .skip)
def qae_a : aI := ⟨.normal, [0, 1], (.cons (.agg (.cons (.sl true true yA) (.cons (.sl true true yB) (.cons (.sl true true yC) (.cons (.int .i64) (.cons (.int .i64) (.cons (.int .i64) (.cons (.int .u64) .nil)))))))) (.cons (.int .u32) .nil)), .nil⟩
def qas_an : dJ := { live := [(0, [0, 5, 9, 10])], boxed := [(1, 0), (5, 7)] }
def qas_c : Code := (match Try.f27.body with | some c => c | none => .skip)
def qas_l0 : Code := (match bR 0 (aU qas_c 0) with | some c => c | none => .skip)
def qas_a : aI := ⟨.normal, [0, 1], (.cons (.int .u64) (.cons (.int .i64) .nil)), .nil⟩
def qas_h0 : List aI := [⟨.normal, [0, 5, 9, 10], (.cons (.int .u64) (.cons (.msw 0 0) (.cons (.int .i64) (.cons (.int .i64) .nil)))), (.cons (.bts 0 false false false (.int .u8)) .nil)⟩]
def qas_o0 : List aI := [⟨.exit 0, [5], (.cons (.msw 0 0) .nil), (.cons (.bts 0 false false false (.int .u8)) .nil)⟩]
def qas_L0 (n : Nat) : aH := ⟨qas_h0, qas_o0, qas_W0 n⟩
def qas_res : List aI := [⟨.ret, [0], (.cons (.sl false false (.int .u8)) .nil), .nil⟩]
def qas_tbl (n : Nat) : FuncId → List aD := fun f => []
def qas_loops (n : Nat) : Nat → Option aH := fun f => bif Nat.beq f 0 then some (qas_L0 n) else none
theorem qas_r0 (n : Nat) (v_0 : Int) (t9 : Int) (t10 : Int) (m0 : DA) : bU (aL _) tab (qas_tbl n) (qas_loops n) qas_an [] qas_l0 0 [0, 5, 9, 10] qas_h0 qas_o0 ((v_0, (t9, t10)), m0) some = qas_B0 n v_0 t9 t10 m0 := by kernel_rfl
theorem qas_f0 (n : Nat) : aZ tab (qas_tbl n) (qas_loops n) qas_an [] n 0 qas_l0 (qas_L0 n) := ⟨[0, 5, 9, 10], (fun s => qas_B0 n s.1.1 s.1.2.1 s.1.2.2 s.2), by kernel_rfl, by kernel_rfl, fun s => rfl, fun s => qas_r0 n s.1.1 s.1.2.1 s.1.2.2 s.2⟩
theorem qas_run (n : Nat) (v_0 : Int) (n_1 : Int) : bM (aL _) tab (qas_tbl n) (qas_loops n) qas_an Try.f27 0 qas_a qas_res (v_0, n_1) some = qas n v_0 n_1 := by kernel_rfl
def qas_E (n : Nat) : aD := ⟨qas_a, qas_res, fun d => qas n d.1 d.2⟩
theorem qas_ok (n : Nat) : cE Try.prog 27 (qas_E n) :=
 cE.ofS aG aF aY (tbl := qas_tbl n) (loops := qas_loops n) (an := qas_an) (old := []) (n := n) (c := qas_c) (fn := Try.f27) aE.nil (by kernel_rfl) (by kernel_rfl) (by kernel_rfl) (by kernel_rfl) (fun d => by kernel_rfl) (LT.cons (by kernel_rfl) (qas_f0 n) LT.nil) (fun a => qas_run n a.1 a.2)
def ql_an : dJ := {}
def ql_c : Code := (match Try.f28.body with | some c => c | none => .skip)
def ql_a : aI := ⟨.normal, [0, 1], (.cons (.ptr 0 0 0 0) (.cons (.int .i64) .nil)), (.cons (.bcells 0 false 1 (.cons (.msw 1 0) .nil)) (.cons (.bts 0 false false false (.int .u8)) .nil))⟩
def qs_an : dJ := { boxed := [(0, 7)] }
def qs_c : Code := (match Try.f29.body with | some c => c | none => .skip)
def qs_a : aI := ⟨.normal, [0, 1], (.cons (.ptr 0 0 0 0) (.cons (.int .u64) .nil)), (.cons (.bcells 0 false 1 (.cons (.msw 1 0) .nil)) (.cons (.bts 0 false false false (.int .u8)) .nil))⟩
def qaw_an : dJ := { live := [(0, [0, 3])], boxed := [(1, 0), (4, 5)] }
def qaw_c : Code := (match Try.f68.body with | some c => c | none => .skip)
def qaw_l0 : Code := (match bR 0 (aU qaw_c 0) with | some c => c | none => .skip)
def qaw_a : aI := ⟨.normal, [0], (.cons (.int .u64) .nil), .nil⟩
def qaw_h0 : List aI := [⟨.normal, [0, 3], (.cons (.int .u64) (.cons (.msw 0 0) .nil)), (.cons (.bts 0 false false false (.int .u8)) .nil)⟩]
def qaw_o0 : List aI := [⟨.exit 0, [0, 3], (.cons (.int .u64) (.cons (.msw 0 0) .nil)), (.cons (.bts 0 false false false (.int .u8)) .nil)⟩]
def qaw_L0 (n : Nat) : aH := ⟨qaw_h0, qaw_o0, qaw_W0 n⟩
def qaw_res : List aI := [⟨.ret, [0], (.cons (.sl false false (.int .u8)) .nil), .nil⟩]
def qaw_tbl (n : Nat) : FuncId → List aD := fun f => []
def qaw_loops (n : Nat) : Nat → Option aH := fun f => bif Nat.beq f 0 then some (qaw_L0 n) else none
theorem qaw_r0 (n : Nat) (v_0 : Int) (m0 : DA) : bU (aL _) tab (qaw_tbl n) (qaw_loops n) qaw_an [] qaw_l0 0 [0, 3] qaw_h0 qaw_o0 (v_0, m0) some = qaw_B0 n v_0 m0 := by kernel_rfl
theorem qaw_f0 (n : Nat) : aZ tab (qaw_tbl n) (qaw_loops n) qaw_an [] n 0 qaw_l0 (qaw_L0 n) := ⟨[0, 3], (fun s => qaw_B0 n s.1 s.2), by kernel_rfl, by kernel_rfl, fun s => rfl, fun s => qaw_r0 n s.1 s.2⟩
theorem qaw_run (n : Nat) (v_0 : Int) : bM (aL _) tab (qaw_tbl n) (qaw_loops n) qaw_an Try.f68 0 qaw_a qaw_res v_0 some = qaw n v_0 := by kernel_rfl
def qaw_E (n : Nat) : aD := ⟨qaw_a, qaw_res, fun d => qaw n d⟩
theorem qaw_ok (n : Nat) : cE Try.prog 68 (qaw_E n) :=
 cE.ofS aG aF aY (tbl := qaw_tbl n) (loops := qaw_loops n) (an := qaw_an) (old := []) (n := n) (c := qaw_c) (fn := Try.f68) aE.nil (by kernel_rfl) (by kernel_rfl) (by kernel_rfl) (by kernel_rfl) (fun d => by kernel_rfl) (LT.cons (by kernel_rfl) (qaw_f0 n) LT.nil) (fun a => qaw_run n a)
def qs_res : List aI := [⟨.ret, [0], (.cons (.tup .nil) .nil), (.cons (.bcells 0 false 1 (.cons (.msw 1 0) .nil)) (.cons (.bts 0 false false false (.int .u8)) .nil))⟩]
def qs_tbl (n : Nat) : FuncId → List aD := fun f => bif Nat.beq f 68 then [qaw_E n] else []
def qs_loops (n : Nat) : Nat → Option aH := fun f => none
theorem qs_run (n : Nat) (v_1 : Int) (m1 : DA) : bM (aL _) tab (qs_tbl n) (qs_loops n) qs_an Try.f29 2 qs_a qs_res (v_1, m1) some = qs n v_1 m1 := by kernel_rfl
def qs_E (n : Nat) : aD := ⟨qs_a, qs_res, fun d => qs n d.1 d.2⟩
theorem qs_ok (n : Nat) : cE Try.prog 29 (qs_E n) :=
 cE.ofS aG aF aY (tbl := qs_tbl n) (loops := qs_loops n) (an := qs_an) (old := [some true, some false]) (n := n) (c := qs_c) (fn := Try.f29) (aE.cons (AllE.cons (qaw_ok n) AllE.nil) aE.nil) (by kernel_rfl) (by kernel_rfl) (by kernel_rfl) (by kernel_rfl) (fun d => by kernel_rfl) LT.nil (fun a => qs_run n a.1 a.2)
def ql_res : List aI := [⟨.ret, [0], (.cons (.tup .nil) .nil), (.cons (.bcells 0 false 1 (.cons (.msw 1 0) .nil)) (.cons (.bts 0 false false false (.int .u8)) .nil))⟩]
def ql_tbl (n : Nat) : FuncId → List aD := fun f => bif Nat.beq f 29 then [qs_E n] else []
def ql_loops (n : Nat) : Nat → Option aH := fun f => none
theorem ql_run (n : Nat) (n_1 : Int) (m1 : DA) : bM (aL _) tab (ql_tbl n) (ql_loops n) ql_an Try.f28 2 ql_a ql_res (n_1, m1) some = ql n n_1 m1 := by kernel_rfl
def ql_E (n : Nat) : aD := ⟨ql_a, ql_res, fun d => ql n d.1 d.2⟩
theorem ql_ok (n : Nat) : cE Try.prog 28 (ql_E n) :=
 cE.ofS aG aF aY (tbl := ql_tbl n) (loops := ql_loops n) (an := ql_an) (old := [some true, some false]) (n := n) (c := ql_c) (fn := Try.f28) (aE.cons (AllE.cons (qs_ok n) AllE.nil) aE.nil) (by kernel_rfl) (by kernel_rfl) (by kernel_rfl) (by kernel_rfl) (fun d => by kernel_rfl) LT.nil (fun a => ql_run n a.1 a.2)
def qae_h0 : List aI := [⟨.normal, [2, 5, 27, 28], (.cons (.ptr 0 0 0 0) (.cons (.ptr 1 0 0 0) (.cons (.agg (.cons (.int .i64) (.cons (.int .i64) (.cons (.int .i64) .nil)))) (.cons (.int .i64) .nil)))), (.cons (.bcells 0 false 1 (.cons (.sl true true yA) (.cons (.sl true true yB) (.cons (.sl true true yC) (.cons (.int .i64) (.cons (.int .i64) (.cons (.int .i64) (.cons (.int .u64) .nil)))))))) (.cons (.bcells 0 false 1 (.cons (.msw 2 0) .nil)) (.cons (.bts 0 false false false (.int .u8)) .nil)))⟩]
def qae_o0 : List aI := [⟨.exit 0, [2, 5], (.cons (.ptr 0 0 0 0) (.cons (.ptr 1 0 0 0) .nil)), (.cons (.bcells 0 false 1 (.cons (.sl true true yA) (.cons (.sl true true yB) (.cons (.sl true true yC) (.cons (.int .i64) (.cons (.int .i64) (.cons (.int .i64) (.cons (.int .u64) .nil)))))))) (.cons (.bcells 0 false 1 (.cons (.msw 2 0) .nil)) (.cons (.bts 0 false false false (.int .u8)) .nil)))⟩]
def qae_L0 (n : Nat) : aH := ⟨qae_h0, qae_o0, qae_W0 n⟩
def qd_an : dJ := {}
def qd_c : Code := (match Try.f30.body with | some c => c | none => .skip)
def qd_a : aI := ⟨.normal, [0, 1], (.cons (.ptr 0 0 0 0) (.cons (.agg (.cons (.int .i64) (.cons (.int .i64) (.cons (.sl true false (.int .u64)) (.cons (.sl true false (.int .u64)) .nil))))) .nil)), (.cons (.bcells 0 false 1 (.cons (.msw 1 0) .nil)) (.cons (.bts 0 false false false (.int .u8)) .nil))⟩
def qn_an : dJ := { live := [(0, [0, 10, 11, 12])] }
def qn_c : Code := (match Try.f69.body with | some c => c | none => .skip)
def qn_l0 : Code := (match bR 0 (aU qn_c 0) with | some c => c | none => .skip)
def qn_a : aI := ⟨.normal, [0, 1], (.cons (.ptr 0 0 0 0) (.cons (.sl true false (.int .u64)) .nil)), (.cons (.bcells 0 false 1 (.cons (.msw 1 0) .nil)) (.cons (.bts 0 false false false (.int .u8)) .nil))⟩
def qn_h0 : List aI := [⟨.normal, [0, 10, 11, 12], (.cons (.ptr 0 0 0 0) (.cons (.sl true false (.int .u64)) (.cons (.int .i64) (.cons (.int .i64) .nil)))), (.cons (.bcells 0 false 1 (.cons (.msw 1 0) .nil)) (.cons (.bts 0 false false false (.int .u8)) .nil))⟩]
def qn_o0 : List aI := [⟨.exit 0, [], .nil, (.cons (.bcells 0 false 1 (.cons (.msw 1 0) .nil)) (.cons (.bts 0 false false false (.int .u8)) .nil))⟩]
def qn_L0 (n : Nat) : aH := ⟨qn_h0, qn_o0, qn_W0 n⟩
def qn_res : List aI := [⟨.ret, [0], (.cons (.tup .nil) .nil), (.cons (.bcells 0 false 1 (.cons (.msw 1 0) .nil)) (.cons (.bts 0 false false false (.int .u8)) .nil))⟩]
def qn_tbl (n : Nat) : FuncId → List aD := fun f => bif Nat.beq f 28 then [ql_E n] else bif Nat.beq f 29 then [qs_E n] else []
def qn_loops (n : Nat) : Nat → Option aH := fun f => bif Nat.beq f 0 then some (qn_L0 n) else none
theorem qn_r0 (n : Nat) (t10 : DA) (t11 : Int) (t12 : Int) (m1 : DA) : bU (aL _) tab (qn_tbl n) (qn_loops n) qn_an [some true, some false] qn_l0 0 [0, 10, 11, 12] qn_h0 qn_o0 ((t10, (t11, t12)), m1) some = qn_B0 n t10 t11 t12 m1 := by kernel_rfl
theorem qn_f0 (n : Nat) : aZ tab (qn_tbl n) (qn_loops n) qn_an [some true, some false] n 0 qn_l0 (qn_L0 n) := ⟨[0, 10, 11, 12], (fun s => qn_B0 n s.1.1 s.1.2.1 s.1.2.2 s.2), by kernel_rfl, by kernel_rfl, fun s => rfl, fun s => qn_r0 n s.1.1 s.1.2.1 s.1.2.2 s.2⟩
theorem qn_run (n : Nat) (list_1 : DA) (m1 : DA) : bM (aL _) tab (qn_tbl n) (qn_loops n) qn_an Try.f69 2 qn_a qn_res (list_1, m1) some = qn n list_1 m1 := by kernel_rfl
def qn_E (n : Nat) : aD := ⟨qn_a, qn_res, fun d => qn n d.1 d.2⟩
theorem qn_ok (n : Nat) : cE Try.prog 69 (qn_E n) :=
 cE.ofS aG aF aY (tbl := qn_tbl n) (loops := qn_loops n) (an := qn_an) (old := [some true, some false]) (n := n) (c := qn_c) (fn := Try.f69) (aE.cons (AllE.cons (ql_ok n) AllE.nil) (aE.cons (AllE.cons (qs_ok n) AllE.nil) aE.nil)) (by kernel_rfl) (by kernel_rfl) (by kernel_rfl) (by kernel_rfl) (fun d => by kernel_rfl) (LT.cons (by kernel_rfl) (qn_f0 n) LT.nil) (fun a => qn_run n a.1 a.2)
def qd_res : List aI := [⟨.ret, [0], (.cons (.tup .nil) .nil), (.cons (.bcells 0 false 1 (.cons (.msw 1 0) .nil)) (.cons (.bts 0 false false false (.int .u8)) .nil))⟩]
def qd_tbl (n : Nat) : FuncId → List aD := fun f => bif Nat.beq f 28 then [ql_E n] else bif Nat.beq f 69 then [qn_E n] else []
def qd_loops (n : Nat) : Nat → Option aH := fun f => none
theorem qd_run (n : Nat) (f_1 : Int) (f_1_1 : Int) (f_1_2 : DA) (f_1_3 : DA) (m1 : DA) : bM (aL _) tab (qd_tbl n) (qd_loops n) qd_an Try.f30 2 qd_a qd_res ((f_1, (f_1_1, (f_1_2, f_1_3))), m1) some = qd n f_1 f_1_1 f_1_2 f_1_3 m1 := by kernel_rfl
def qd_E (n : Nat) : aD := ⟨qd_a, qd_res, fun d => qd n d.1.1 d.1.2.1 d.1.2.2.1 d.1.2.2.2 d.2⟩
theorem qd_ok (n : Nat) : cE Try.prog 30 (qd_E n) :=
 cE.ofS aG aF aY (tbl := qd_tbl n) (loops := qd_loops n) (an := qd_an) (old := [some true, some false]) (n := n) (c := qd_c) (fn := Try.f30) (aE.cons (AllE.cons (ql_ok n) AllE.nil) (aE.cons (AllE.cons (qn_ok n) AllE.nil) aE.nil)) (by kernel_rfl) (by kernel_rfl) (by kernel_rfl) (by kernel_rfl) (fun d => by kernel_rfl) LT.nil (fun a => qd_run n a.1.1 a.1.2.1 a.1.2.2.1 a.1.2.2.2 a.2)
def qae_h2 : List aI := [⟨.normal, [2, 5, 45, 46, 47], (.cons (.ptr 0 0 0 0) (.cons (.ptr 1 0 0 0) (.cons (.sl true true yA) (.cons (.int .i64) (.cons (.int .i64) .nil))))), (.cons (.bcells 0 false 1 (.cons (.sl true true yA) (.cons (.sl true true yB) (.cons (.sl true true yC) (.cons (.int .i64) (.cons (.int .i64) (.cons (.int .i64) (.cons (.int .u64) .nil)))))))) (.cons (.bcells 0 false 1 (.cons (.msw 2 0) .nil)) (.cons (.bts 0 false false false (.int .u8)) .nil)))⟩]
def qae_o2 : List aI := [⟨.exit 2, [2, 5], (.cons (.ptr 0 0 0 0) (.cons (.ptr 1 0 0 0) .nil)), (.cons (.bcells 0 false 1 (.cons (.sl true true yA) (.cons (.sl true true yB) (.cons (.sl true true yC) (.cons (.int .i64) (.cons (.int .i64) (.cons (.int .i64) (.cons (.int .u64) .nil)))))))) (.cons (.bcells 0 false 1 (.cons (.msw 2 0) .nil)) (.cons (.bts 0 false false false (.int .u8)) .nil)))⟩]
def qae_L2 (n : Nat) : aH := ⟨qae_h2, qae_o2, qae_W2 n⟩
def qr_an : dJ := { boxed := [(5, 7)] }
def qr_c : Code := (match Try.f31.body with | some c => c | none => .skip)
def qr_a : aI := ⟨.normal, [0, 1], (.cons (.ptr 0 0 0 0) (.cons (.agg (.cons (.int .i64) (.cons (.int .i64) (.cons (.sl true false (.int .u64)) (.cons (.sl true false (.int .u8)) .nil))))) .nil)), (.cons (.bcells 0 false 1 (.cons (.msw 1 0) .nil)) (.cons (.bts 0 false false false (.int .u8)) .nil))⟩
def qr_res : List aI := [⟨.ret, [0], (.cons (.tup .nil) .nil), (.cons (.bcells 0 false 1 (.cons (.msw 1 0) .nil)) (.cons (.bts 0 false false false (.int .u8)) .nil))⟩]
def qr_tbl (n : Nat) : FuncId → List aD := fun f => bif Nat.beq f 28 then [ql_E n] else bif Nat.beq f 69 then [qn_E n] else []
def qr_loops (n : Nat) : Nat → Option aH := fun f => none
theorem qr_run (n : Nat) (o_1 : Int) (o_1_1 : Int) (o_1_2 : DA) (o_1_3 : DA) (m1 : DA) : bM (aL _) tab (qr_tbl n) (qr_loops n) qr_an Try.f31 2 qr_a qr_res ((o_1, (o_1_1, (o_1_2, o_1_3))), m1) some = qr n o_1 o_1_1 o_1_2 o_1_3 m1 := by kernel_rfl
def qr_E (n : Nat) : aD := ⟨qr_a, qr_res, fun d => qr n d.1.1 d.1.2.1 d.1.2.2.1 d.1.2.2.2 d.2⟩
theorem qr_ok (n : Nat) : cE Try.prog 31 (qr_E n) :=
 cE.ofS aG aF aY (tbl := qr_tbl n) (loops := qr_loops n) (an := qr_an) (old := [some true, some false]) (n := n) (c := qr_c) (fn := Try.f31) (aE.cons (AllE.cons (ql_ok n) AllE.nil) (aE.cons (AllE.cons (qn_ok n) AllE.nil) aE.nil)) (by kernel_rfl) (by kernel_rfl) (by kernel_rfl) (by kernel_rfl) (fun d => by kernel_rfl) LT.nil (fun a => qr_run n a.1.1 a.1.2.1 a.1.2.2.1 a.1.2.2.2 a.2)
def qae_h4 : List aI := [⟨.normal, [2, 5, 61, 62, 63], (.cons (.ptr 0 0 0 0) (.cons (.ptr 1 0 0 0) (.cons (.sl true true yB) (.cons (.int .i64) (.cons (.int .i64) .nil))))), (.cons (.bcells 0 false 1 (.cons (.sl true true yA) (.cons (.sl true true yB) (.cons (.sl true true yC) (.cons (.int .i64) (.cons (.int .i64) (.cons (.int .i64) (.cons (.int .u64) .nil)))))))) (.cons (.bcells 0 false 1 (.cons (.msw 2 0) .nil)) (.cons (.bts 0 false false false (.int .u8)) .nil)))⟩]
def qae_o4 : List aI := [⟨.exit 4, [2, 5], (.cons (.ptr 0 0 0 0) (.cons (.ptr 1 0 0 0) .nil)), (.cons (.bcells 0 false 1 (.cons (.sl true true yA) (.cons (.sl true true yB) (.cons (.sl true true yC) (.cons (.int .i64) (.cons (.int .i64) (.cons (.int .i64) (.cons (.int .u64) .nil)))))))) (.cons (.bcells 0 false 1 (.cons (.msw 2 0) .nil)) (.cons (.bts 0 false false false (.int .u8)) .nil)))⟩]
def qae_L4 (n : Nat) : aH := ⟨qae_h4, qae_o4, qae_W4 n⟩
def qk_an : dJ := {}
def qk_c : Code := (match Try.f32.body with | some c => c | none => .skip)
def qk_a : aI := ⟨.normal, [0, 1], (.cons (.ptr 0 0 0 0) (.cons (.agg (.cons (.int .i64) (.cons (.int .u64) (.cons .bool .nil)))) .nil)), (.cons (.bcells 0 false 1 (.cons (.msw 1 0) .nil)) (.cons (.bts 0 false false false (.int .u8)) .nil))⟩
def qk_res : List aI := [⟨.ret, [0], (.cons (.tup .nil) .nil), (.cons (.bcells 0 false 1 (.cons (.msw 1 0) .nil)) (.cons (.bts 0 false false false (.int .u8)) .nil))⟩]
def qk_tbl (n : Nat) : FuncId → List aD := fun f => bif Nat.beq f 28 then [ql_E n] else bif Nat.beq f 29 then [qs_E n] else []
def qk_loops (n : Nat) : Nat → Option aH := fun f => none
theorem qk_run (n : Nat) (h_1 : Int) (h_1_1 : Int) (h_1_2 : Bool) (m1 : DA) : bM (aL _) tab (qk_tbl n) (qk_loops n) qk_an Try.f32 2 qk_a qk_res ((h_1, (h_1_1, h_1_2)), m1) some = qk n h_1 h_1_1 h_1_2 m1 := by kernel_rfl
def qk_E (n : Nat) : aD := ⟨qk_a, qk_res, fun d => qk n d.1.1 d.1.2.1 d.1.2.2 d.2⟩
theorem qk_ok (n : Nat) : cE Try.prog 32 (qk_E n) :=
 cE.ofS aG aF aY (tbl := qk_tbl n) (loops := qk_loops n) (an := qk_an) (old := [some true, some false]) (n := n) (c := qk_c) (fn := Try.f32) (aE.cons (AllE.cons (ql_ok n) AllE.nil) (aE.cons (AllE.cons (qs_ok n) AllE.nil) aE.nil)) (by kernel_rfl) (by kernel_rfl) (by kernel_rfl) (by kernel_rfl) (fun d => by kernel_rfl) LT.nil (fun a => qk_run n a.1.1 a.1.2.1 a.1.2.2 a.2)
def qae_h6 : List aI := [⟨.normal, [5, 77, 78, 79], (.cons (.ptr 0 0 0 0) (.cons (.sl true true yC) (.cons (.int .i64) (.cons (.int .i64) .nil)))), (.cons (.bcells 0 false 1 (.cons (.msw 1 0) .nil)) (.cons (.bts 0 false false false (.int .u8)) .nil))⟩]
def qae_o6 : List aI := [⟨.exit 6, [5], (.cons (.ptr 0 0 0 0) .nil), (.cons (.bcells 0 false 1 (.cons (.msw 1 0) .nil)) (.cons (.bts 0 false false false (.int .u8)) .nil))⟩]
def qae_L6 (n : Nat) : aH := ⟨qae_h6, qae_o6, qae_W6 n⟩
def qau_an : dJ := { boxed := [(1, 1)] }
def qau_c : Code := (match Try.f33.body with | some c => c | none => .skip)
def qau_a : aI := ⟨.normal, [0], (.cons (.sl true false (.int .u8)) .nil), .nil⟩
def qax_an : dJ := { live := [(0, [3, 7, 8, 9]), (2, [3, 7, 8, 9, 17])] }
def qax_c : Code := (match Try.f70.body with | some c => c | none => .skip)
def qax_l0 : Code := (match bR 0 (aU qax_c 0) with | some c => c | none => .skip)
def qax_l2 : Code := (match bR 2 (aU qax_c 0) with | some c => c | none => .skip)
def qax_a : aI := ⟨.normal, [0], (.cons (.sl true false (.int .u8)) .nil), .nil⟩
def qax_h2 : List aI := [⟨.normal, [3, 7, 8, 9, 17], (.cons (.int .u32) (.cons (.sl true false (.int .u8)) (.cons (.int .i64) (.cons (.int .i64) (.cons (.int .i64) .nil))))), .nil⟩]
def qax_o2 : List aI := [⟨.exit 2, [3, 7, 8, 9], (.cons (.int .u32) (.cons (.sl true false (.int .u8)) (.cons (.int .i64) (.cons (.int .i64) .nil)))), .nil⟩]
def qax_L2 (n : Nat) : aH := ⟨qax_h2, qax_o2, qax_W2 n⟩
def qax_h0 : List aI := [⟨.normal, [3, 7, 8, 9], (.cons (.int .u32) (.cons (.sl true false (.int .u8)) (.cons (.int .i64) (.cons (.int .i64) .nil)))), .nil⟩]
def qax_o0 : List aI := [⟨.exit 0, [3], (.cons (.int .u32) .nil), .nil⟩]
def qax_L0 (n : Nat) : aH := ⟨qax_h0, qax_o0, qax_W0 n⟩
def qax_res : List aI := [⟨.ret, [0], (.cons (.int .u32) .nil), .nil⟩]
def qax_tbl (n : Nat) : FuncId → List aD := fun f => []
def qax_loops (n : Nat) : Nat → Option aH := fun f => bif Nat.beq f 2 then some (qax_L2 n) else bif Nat.beq f 0 then some (qax_L0 n) else none
theorem qax_r2 (n : Nat) (n_3 : Int) (t7 : DA) (t8 : Int) (t9 : Int) (t17 : Int) : bU (aL _) tab (qax_tbl n) (qax_loops n) qax_an [] qax_l2 2 [3, 7, 8, 9, 17] qax_h2 qax_o2 (n_3, (t7, (t8, (t9, t17)))) some = qax_B2 n n_3 t7 t8 t9 t17 := by kernel_rfl
theorem qax_f2 (n : Nat) : aZ tab (qax_tbl n) (qax_loops n) qax_an [] n 2 qax_l2 (qax_L2 n) := ⟨[3, 7, 8, 9, 17], (fun s => qax_B2 n s.1 s.2.1 s.2.2.1 s.2.2.2.1 s.2.2.2.2), by kernel_rfl, by kernel_rfl, fun s => rfl, fun s => qax_r2 n s.1 s.2.1 s.2.2.1 s.2.2.2.1 s.2.2.2.2⟩
theorem qax_r0 (n : Nat) (n_3 : Int) (t7 : DA) (t8 : Int) (t9 : Int) : bU (aL _) tab (qax_tbl n) (qax_loops n) qax_an [] qax_l0 0 [3, 7, 8, 9] qax_h0 qax_o0 (n_3, (t7, (t8, t9))) some = qax_B0 n n_3 t7 t8 t9 := by kernel_rfl
theorem qax_f0 (n : Nat) : aZ tab (qax_tbl n) (qax_loops n) qax_an [] n 0 qax_l0 (qax_L0 n) := ⟨[3, 7, 8, 9], (fun s => qax_B0 n s.1 s.2.1 s.2.2.1 s.2.2.2), by kernel_rfl, by kernel_rfl, fun s => rfl, fun s => qax_r0 n s.1 s.2.1 s.2.2.1 s.2.2.2⟩
theorem qax_run (n : Nat) (b_0 : DA) : bM (aL _) tab (qax_tbl n) (qax_loops n) qax_an Try.f70 0 qax_a qax_res b_0 some = qax n b_0 := by kernel_rfl
def qax_E (n : Nat) : aD := ⟨qax_a, qax_res, fun d => qax n d⟩
theorem qax_ok (n : Nat) : cE Try.prog 70 (qax_E n) :=
 cE.ofS aG aF aY (tbl := qax_tbl n) (loops := qax_loops n) (an := qax_an) (old := []) (n := n) (c := qax_c) (fn := Try.f70) aE.nil (by kernel_rfl) (by kernel_rfl) (by kernel_rfl) (by kernel_rfl) (fun d => by kernel_rfl) (LT.cons (by kernel_rfl) (qax_f2 n) (LT.cons (by kernel_rfl) (qax_f0 n) LT.nil)) (fun a => qax_run n a)
def qau_res : List aI := [⟨.ret, [0], (.cons (.sl false false (.int .u8)) .nil), .nil⟩]
def qau_tbl (n : Nat) : FuncId → List aD := fun f => bif Nat.beq f 70 then [qax_E n] else bif Nat.beq f 27 then [qas_E n] else []
def qau_loops (n : Nat) : Nat → Option aH := fun f => none
theorem qau_run (n : Nat) (b_0 : DA) : bM (aL _) tab (qau_tbl n) (qau_loops n) qau_an Try.f33 0 qau_a qau_res b_0 some = qau n b_0 := by kernel_rfl
def qau_E (n : Nat) : aD := ⟨qau_a, qau_res, fun d => qau n d⟩
theorem qau_ok (n : Nat) : cE Try.prog 33 (qau_E n) :=
 cE.ofS aG aF aY (tbl := qau_tbl n) (loops := qau_loops n) (an := qau_an) (old := []) (n := n) (c := qau_c) (fn := Try.f33) (aE.cons (AllE.cons (qax_ok n) AllE.nil) (aE.cons (AllE.cons (qas_ok n) AllE.nil) aE.nil)) (by kernel_rfl) (by kernel_rfl) (by kernel_rfl) (by kernel_rfl) (fun d => by kernel_rfl) LT.nil (fun a => qau_run n a)
def qae_res : List aI := [⟨.ret, [0], (.cons (.sl false false (.int .u8)) .nil), .nil⟩]
def qae_tbl (n : Nat) : FuncId → List aD := fun f => bif Nat.beq f 27 then [qas_E n] else bif Nat.beq f 28 then [ql_E n] else bif Nat.beq f 29 then [qs_E n] else bif Nat.beq f 30 then [qd_E n] else bif Nat.beq f 31 then [qr_E n] else bif Nat.beq f 32 then [qk_E n] else bif Nat.beq f 33 then [qau_E n] else []
def qae_loops (n : Nat) : Nat → Option aH := fun f => bif Nat.beq f 0 then some (qae_L0 n) else bif Nat.beq f 2 then some (qae_L2 n) else bif Nat.beq f 4 then some (qae_L4 n) else bif Nat.beq f 6 then some (qae_L6 n) else none
theorem qae_r0 (n : Nat) (t27 : Int) (t27_1 : Int) (t27_2 : Int) (t28 : Int) (m0 : DE) (m0_1 : DE) (m0_2 : DB) (m0_3 : Int) (m0_4 : Int) (m0_5 : Int) (m0_6 : Int) (m2 : DA) : bU (aL _) tab (qae_tbl n) (qae_loops n) qae_an [] qae_l0 0 [2, 5, 27, 28] qae_h0 qae_o0 (((t27, (t27_1, t27_2)), t28), ((m0, (m0_1, (m0_2, (m0_3, (m0_4, (m0_5, m0_6)))))), m2)) some = qae_B0 n t27 t27_1 t27_2 t28 m0 m0_1 m0_2 m0_3 m0_4 m0_5 m0_6 m2 := by kernel_rfl
theorem qae_f0 (n : Nat) : aZ tab (qae_tbl n) (qae_loops n) qae_an [] n 0 qae_l0 (qae_L0 n) := ⟨[2, 5, 27, 28], (fun s => qae_B0 n s.1.1.1 s.1.1.2.1 s.1.1.2.2 s.1.2 s.2.1.1 s.2.1.2.1 s.2.1.2.2.1 s.2.1.2.2.2.1 s.2.1.2.2.2.2.1 s.2.1.2.2.2.2.2.1 s.2.1.2.2.2.2.2.2 s.2.2), by kernel_rfl, by kernel_rfl, fun s => rfl, fun s => qae_r0 n s.1.1.1 s.1.1.2.1 s.1.1.2.2 s.1.2 s.2.1.1 s.2.1.2.1 s.2.1.2.2.1 s.2.1.2.2.2.1 s.2.1.2.2.2.2.1 s.2.1.2.2.2.2.2.1 s.2.1.2.2.2.2.2.2 s.2.2⟩
theorem qae_r2 (n : Nat) (t45 : DE) (t46 : Int) (t47 : Int) (m0 : DE) (m0_1 : DE) (m0_2 : DB) (m0_3 : Int) (m0_4 : Int) (m0_5 : Int) (m0_6 : Int) (m2 : DA) : bU (aL _) tab (qae_tbl n) (qae_loops n) qae_an [] qae_l2 2 [2, 5, 45, 46, 47] qae_h2 qae_o2 ((t45, (t46, t47)), ((m0, (m0_1, (m0_2, (m0_3, (m0_4, (m0_5, m0_6)))))), m2)) some = qae_B2 n t45 t46 t47 m0 m0_1 m0_2 m0_3 m0_4 m0_5 m0_6 m2 := by kernel_rfl
theorem qae_f2 (n : Nat) : aZ tab (qae_tbl n) (qae_loops n) qae_an [] n 2 qae_l2 (qae_L2 n) := ⟨[2, 5, 45, 46, 47], (fun s => qae_B2 n s.1.1 s.1.2.1 s.1.2.2 s.2.1.1 s.2.1.2.1 s.2.1.2.2.1 s.2.1.2.2.2.1 s.2.1.2.2.2.2.1 s.2.1.2.2.2.2.2.1 s.2.1.2.2.2.2.2.2 s.2.2), by kernel_rfl, by kernel_rfl, fun s => rfl, fun s => qae_r2 n s.1.1 s.1.2.1 s.1.2.2 s.2.1.1 s.2.1.2.1 s.2.1.2.2.1 s.2.1.2.2.2.1 s.2.1.2.2.2.2.1 s.2.1.2.2.2.2.2.1 s.2.1.2.2.2.2.2.2 s.2.2⟩
theorem qae_r4 (n : Nat) (t61 : DE) (t62 : Int) (t63 : Int) (m0 : DE) (m0_1 : DE) (m0_2 : DB) (m0_3 : Int) (m0_4 : Int) (m0_5 : Int) (m0_6 : Int) (m2 : DA) : bU (aL _) tab (qae_tbl n) (qae_loops n) qae_an [] qae_l4 4 [2, 5, 61, 62, 63] qae_h4 qae_o4 ((t61, (t62, t63)), ((m0, (m0_1, (m0_2, (m0_3, (m0_4, (m0_5, m0_6)))))), m2)) some = qae_B4 n t61 t62 t63 m0 m0_1 m0_2 m0_3 m0_4 m0_5 m0_6 m2 := by kernel_rfl
theorem qae_f4 (n : Nat) : aZ tab (qae_tbl n) (qae_loops n) qae_an [] n 4 qae_l4 (qae_L4 n) := ⟨[2, 5, 61, 62, 63], (fun s => qae_B4 n s.1.1 s.1.2.1 s.1.2.2 s.2.1.1 s.2.1.2.1 s.2.1.2.2.1 s.2.1.2.2.2.1 s.2.1.2.2.2.2.1 s.2.1.2.2.2.2.2.1 s.2.1.2.2.2.2.2.2 s.2.2), by kernel_rfl, by kernel_rfl, fun s => rfl, fun s => qae_r4 n s.1.1 s.1.2.1 s.1.2.2 s.2.1.1 s.2.1.2.1 s.2.1.2.2.1 s.2.1.2.2.2.1 s.2.1.2.2.2.2.1 s.2.1.2.2.2.2.2.1 s.2.1.2.2.2.2.2.2 s.2.2⟩
theorem qae_r6 (n : Nat) (t77 : DB) (t78 : Int) (t79 : Int) (m1 : DA) : bU (aL _) tab (qae_tbl n) (qae_loops n) qae_an [] qae_l6 6 [5, 77, 78, 79] qae_h6 qae_o6 ((t77, (t78, t79)), m1) some = qae_B6 n t77 t78 t79 m1 := by kernel_rfl
theorem qae_f6 (n : Nat) : aZ tab (qae_tbl n) (qae_loops n) qae_an [] n 6 qae_l6 (qae_L6 n) := ⟨[5, 77, 78, 79], (fun s => qae_B6 n s.1.1 s.1.2.1 s.1.2.2 s.2), by kernel_rfl, by kernel_rfl, fun s => rfl, fun s => qae_r6 n s.1.1 s.1.2.1 s.1.2.2 s.2⟩
theorem qae_run (n : Nat) (t0 : DE) (t0_1 : DE) (t0_2 : DB) (t0_3 : Int) (t0_4 : Int) (t0_5 : Int) (t0_6 : Int) (t1 : Int) : bM (aL _) tab (qae_tbl n) (qae_loops n) qae_an Try.f12 0 qae_a qae_res ((t0, (t0_1, (t0_2, (t0_3, (t0_4, (t0_5, t0_6)))))), t1) some = qae n t0 t0_1 t0_2 t0_3 t0_4 t0_5 t0_6 t1 := by kernel_rfl
def qae_E (n : Nat) : aD := ⟨qae_a, qae_res, fun d => qae n d.1.1 d.1.2.1 d.1.2.2.1 d.1.2.2.2.1 d.1.2.2.2.2.1 d.1.2.2.2.2.2.1 d.1.2.2.2.2.2.2 d.2⟩
theorem qae_ok (n : Nat) : cE Try.prog 12 (qae_E n) :=
 cE.ofS aG aF aY (tbl := qae_tbl n) (loops := qae_loops n) (an := qae_an) (old := []) (n := n) (c := qae_c) (fn := Try.f12) (aE.cons (AllE.cons (qas_ok n) AllE.nil) (aE.cons (AllE.cons (ql_ok n) AllE.nil) (aE.cons (AllE.cons (qs_ok n) AllE.nil) (aE.cons (AllE.cons (qd_ok n) AllE.nil) (aE.cons (AllE.cons (qr_ok n) AllE.nil) (aE.cons (AllE.cons (qk_ok n) AllE.nil) (aE.cons (AllE.cons (qau_ok n) AllE.nil) aE.nil))))))) (by kernel_rfl) (by kernel_rfl) (by kernel_rfl) (by kernel_rfl) (fun d => by kernel_rfl) (LT.cons (by kernel_rfl) (qae_f0 n) (LT.cons (by kernel_rfl) (qae_f2 n) (LT.cons (by kernel_rfl) (qae_f4 n) (LT.cons (by kernel_rfl) (qae_f6 n) LT.nil)))) (fun a => qae_run n a.1.1 a.1.2.1 a.1.2.2.1 a.1.2.2.2.1 a.1.2.2.2.2.1 a.1.2.2.2.2.2.1 a.1.2.2.2.2.2.2 a.2)
def qaf_an : dJ := {}
def qaf_c : Code := (match Try.f15.body with | some c => c | none => .skip)
def qaf_a : aI := ⟨.normal, [0], (.cons (.sl true false (.int .u8)) .nil), .nil⟩
def qad_an : dJ := {}
def qad_c : Code := (match Try.f38.body with | some c => c | none => .skip)
def qad_a : aI := ⟨.normal, [0, 1], (.cons (.sl true false (.int .u8)) (.cons (.int .u8) .nil)), .nil⟩
def qav_an : dJ := {}
def qav_c : Code := (match Try.f72.body with | some c => c | none => .skip)
def qav_a : aI := ⟨.normal, [0], (.cons (.sl true false (.int .u8)) .nil), .nil⟩
def qav_res : List aI := [⟨.ret, [0], (.cons (.tup (.cons (.sl false false (.int .u8)) (.cons (.int .i64) .nil))) .nil), .nil⟩]
def qav_tbl (n : Nat) : FuncId → List aD := fun f => bif Nat.beq f 33 then [qau_E n] else []
def qav_loops (n : Nat) : Nat → Option aH := fun f => none
theorem qav_run (n : Nat) (b_0 : DA) : bM (aL _) tab (qav_tbl n) (qav_loops n) qav_an Try.f72 0 qav_a qav_res b_0 some = qav n b_0 := by kernel_rfl
def qav_E (n : Nat) : aD := ⟨qav_a, qav_res, fun d => qav n d⟩
theorem qav_ok (n : Nat) : cE Try.prog 72 (qav_E n) :=
 cE.ofS aG aF aY (tbl := qav_tbl n) (loops := qav_loops n) (an := qav_an) (old := []) (n := n) (c := qav_c) (fn := Try.f72) (aE.cons (AllE.cons (qau_ok n) AllE.nil) aE.nil) (by kernel_rfl) (by kernel_rfl) (by kernel_rfl) (by kernel_rfl) (fun d => by kernel_rfl) LT.nil (fun a => qav_run n a)
def qaa_an : dJ := {}
def qaa_c : Code := (match Try.f73.body with | some c => c | none => .skip)
def qaa_a : aI := ⟨.normal, [0], (.cons (.sl true false (.int .u8)) .nil), .nil⟩
def qaa_res : List aI := [⟨.ret, [0], (.cons (.ptr 0 0 0 0) .nil), (.cons (.bcells 0 false 1 (.cons (.sl false false (.int .u8)) (.cons .bool .nil))) .nil)⟩]
def qaa_tbl (n : Nat) : FuncId → List aD := fun f => []
def qaa_loops (n : Nat) : Nat → Option aH := fun f => none
theorem qaa_run (n : Nat) (b_0 : DA) : bM (aL _) tab (qaa_tbl n) (qaa_loops n) qaa_an Try.f73 0 qaa_a qaa_res b_0 some = qaa n b_0 := by kernel_rfl
def qaa_E (n : Nat) : aD := ⟨qaa_a, qaa_res, fun d => qaa n d⟩
theorem qaa_ok (n : Nat) : cE Try.prog 73 (qaa_E n) :=
 cE.ofS aG aF aY (tbl := qaa_tbl n) (loops := qaa_loops n) (an := qaa_an) (old := []) (n := n) (c := qaa_c) (fn := Try.f73) aE.nil (by kernel_rfl) (by kernel_rfl) (by kernel_rfl) (by kernel_rfl) (fun d => by kernel_rfl) LT.nil (fun a => qaa_run n a)
def qo_an : dJ := {}
def qo_c : Code := (match Try.f74.body with | some c => c | none => .skip)
def qo_a : aI := ⟨.normal, [0, 1], (.cons (.ptr 0 0 0 0) (.cons (.int .i64) .nil)), (.cons (.bcells 0 false 1 (.cons (.sl false false (.int .u8)) (.cons .bool .nil))) .nil)⟩
def qv_an : dJ := {}
def qv_c : Code := (match Try.f75.body with | some c => c | none => .skip)
def qv_a : aI := ⟨.normal, [0, 1], (.cons (.ptr 0 0 0 0) (.cons (.int .i64) .nil)), (.cons (.bcells 0 false 1 (.cons (.sl false false (.int .u8)) (.cons .bool .nil))) .nil)⟩
def qz_an : dJ := {}
def qz_c : Code := (match Try.f55.body with | some c => c | none => .skip)
def qz_a : aI := ⟨.normal, [0], (.cons (.ptr 0 0 0 0) .nil), (.cons (.bcells 0 false 1 (.cons (.sl false false (.int .u8)) (.cons .bool .nil))) .nil)⟩
def qz_res : List aI := [⟨.ret, [0], (.cons .bool .nil), (.cons (.bcells 0 false 1 (.cons (.sl false false (.int .u8)) (.cons .bool .nil))) .nil)⟩]
def qz_tbl (n : Nat) : FuncId → List aD := fun f => []
def qz_loops (n : Nat) : Nat → Option aH := fun f => none
theorem qz_run (n : Nat) (m0 : DA) (m0_1 : Bool) : bM (aL _) tab (qz_tbl n) (qz_loops n) qz_an Try.f55 1 qz_a qz_res (m0, m0_1) some = qz n m0 m0_1 := by kernel_rfl
def qz_E (n : Nat) : aD := ⟨qz_a, qz_res, fun d => qz n d.1 d.2⟩
theorem qz_ok (n : Nat) : cE Try.prog 55 (qz_E n) :=
 cE.ofS aG aF aY (tbl := qz_tbl n) (loops := qz_loops n) (an := qz_an) (old := [some true]) (n := n) (c := qz_c) (fn := Try.f55) aE.nil (by kernel_rfl) (by kernel_rfl) (by kernel_rfl) (by kernel_rfl) (fun d => by kernel_rfl) LT.nil (fun a => qz_run n a.1 a.2)
def qu_an : dJ := {}
def qu_c : Code := (match Try.f76.body with | some c => c | none => .skip)
def qu_a : aI := ⟨.normal, [0], (.cons (.ptr 0 0 0 0) .nil), (.cons (.bcells 0 false 1 (.cons (.sl false false (.int .u8)) (.cons .bool .nil))) .nil)⟩
def qu_res : List aI := [⟨.ret, [0], (.cons (.tup .nil) .nil), (.cons (.bcells 0 false 1 (.cons (.sl false false (.int .u8)) (.cons .bool .nil))) .nil)⟩]
def qu_tbl (n : Nat) : FuncId → List aD := fun f => []
def qu_loops (n : Nat) : Nat → Option aH := fun f => none
theorem qu_run (n : Nat) (m0 : DA) (m0_1 : Bool) : bM (aL _) tab (qu_tbl n) (qu_loops n) qu_an Try.f76 1 qu_a qu_res (m0, m0_1) some = qu n m0 m0_1 := by kernel_rfl
def qu_E (n : Nat) : aD := ⟨qu_a, qu_res, fun d => qu n d.1 d.2⟩
theorem qu_ok (n : Nat) : cE Try.prog 76 (qu_E n) :=
 cE.ofS aG aF aY (tbl := qu_tbl n) (loops := qu_loops n) (an := qu_an) (old := [some true]) (n := n) (c := qu_c) (fn := Try.f76) aE.nil (by kernel_rfl) (by kernel_rfl) (by kernel_rfl) (by kernel_rfl) (fun d => by kernel_rfl) LT.nil (fun a => qu_run n a.1 a.2)
def qv_res : List aI := [⟨.ret, [0], (.cons (.sl false false (.int .u8)) .nil), (.cons (.bcells 0 false 1 (.cons (.sl false false (.int .u8)) (.cons .bool .nil))) .nil)⟩]
def qv_tbl (n : Nat) : FuncId → List aD := fun f => bif Nat.beq f 55 then [qz_E n] else bif Nat.beq f 76 then [qu_E n] else []
def qv_loops (n : Nat) : Nat → Option aH := fun f => none
theorem qv_run (n : Nat) (n_1 : Int) (m0 : DA) (m0_1 : Bool) : bM (aL _) tab (qv_tbl n) (qv_loops n) qv_an Try.f75 1 qv_a qv_res (n_1, (m0, m0_1)) some = qv n n_1 m0 m0_1 := by kernel_rfl
def qv_E (n : Nat) : aD := ⟨qv_a, qv_res, fun d => qv n d.1 d.2.1 d.2.2⟩
theorem qv_ok (n : Nat) : cE Try.prog 75 (qv_E n) :=
 cE.ofS aG aF aY (tbl := qv_tbl n) (loops := qv_loops n) (an := qv_an) (old := [some true]) (n := n) (c := qv_c) (fn := Try.f75) (aE.cons (AllE.cons (qz_ok n) AllE.nil) (aE.cons (AllE.cons (qu_ok n) AllE.nil) aE.nil)) (by kernel_rfl) (by kernel_rfl) (by kernel_rfl) (by kernel_rfl) (fun d => by kernel_rfl) LT.nil (fun a => qv_run n a.1 a.2.1 a.2.2)
def qy_an : dJ := {}
def qy_c : Code := (match Try.f95.body with | some c => c | none => .skip)
def qy_a : aI := ⟨.normal, [0], (.cons (.sl true false (.int .u8)) .nil), .nil⟩
def qy_res : List aI := [⟨.ret, [0], (.cons (.fn 99 .nil (.cons (.ptr 0 0 0 0) .nil)) .nil), (.cons (.bcells 0 false 1 (.cons (.sl true false (.int .u8)) .nil)) .nil)⟩]
def qy_tbl (n : Nat) : FuncId → List aD := fun f => []
def qy_loops (n : Nat) : Nat → Option aH := fun f => none
theorem qy_run (n : Nat) (s_0 : DA) : bM (aL _) tab (qy_tbl n) (qy_loops n) qy_an Try.f95 0 qy_a qy_res s_0 some = qy n s_0 := by kernel_rfl
def qy_E (n : Nat) : aD := ⟨qy_a, qy_res, fun d => qy n d⟩
theorem qy_ok (n : Nat) : cE Try.prog 95 (qy_E n) :=
 cE.ofS aG aF aY (tbl := qy_tbl n) (loops := qy_loops n) (an := qy_an) (old := []) (n := n) (c := qy_c) (fn := Try.f95) aE.nil (by kernel_rfl) (by kernel_rfl) (by kernel_rfl) (by kernel_rfl) (fun d => by kernel_rfl) LT.nil (fun a => qy_run n a)
def qo_res : List aI := [⟨.ret, [0], (.cons (.int .u64) .nil), (.cons (.bcells 0 false 1 (.cons (.sl false false (.int .u8)) (.cons .bool .nil))) .nil)⟩]
def qo_tbl (n : Nat) : FuncId → List aD := fun f => bif Nat.beq f 75 then [qv_E n] else bif Nat.beq f 95 then [qy_E n] else []
def qo_E (n : Nat) : aD := ⟨qo_a, qo_res, fun d => qo n d.1 d.2.1 d.2.2⟩
end
end Sx
