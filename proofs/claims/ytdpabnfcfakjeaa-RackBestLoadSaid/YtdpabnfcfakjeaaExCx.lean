/- The tables of the executor for this seat, by program (mkcx.py). -/
import Derived.Test.YtdpabnfcfakjeaaEx22
import Derived.KernelRfl
import Derived.Test.YtdpabnfcfakjeaaProg

namespace Go.Ex
open Go Go.Proofs
namespace Try
noncomputable def x3 : TI := ⟨Go.TypeDesc.int Go.IntKind.i64, 1, 8, [.int .i64 (.lit 0)], false, none⟩
noncomputable def x4 : TI := ⟨Go.TypeDesc.bool, 1, 1, [.bool (.lit false)], false, none⟩
noncomputable def x5 : TI := ⟨Go.TypeDesc.int Go.IntKind.u8, 1, 1, [.int .u8 (.lit 0)], false, none⟩
noncomputable def x9 : TI := ⟨Go.TypeDesc.string, 1, 16, [.str []], false, none⟩
noncomputable def x22 : TI := ⟨Go.TypeDesc.slice 3, 1, 24, [.slice none 0 (.known 0)], false, none⟩
noncomputable def x25 : TI := ⟨Try.t24.desc, 2, 16, [.int .i64 (.lit 0), .int .i64 (.lit 0)], true, (some [.int, .int])⟩
noncomputable def x26 : TI := ⟨Go.TypeDesc.int Go.IntKind.i64, 1, 8, [.int .i64 (.lit 0)], false, none⟩
noncomputable def x33 : TI := ⟨Go.TypeDesc.slice 143, 1, 24, [.slice none 0 (.known 0)], false, none⟩
noncomputable def x35 : TI := ⟨Try.t34.desc, 2, 32, [.slice none 0 (.known 0), .int .i64 (.lit 0)], true, none⟩
noncomputable def x38 : TI := ⟨Try.t37.desc, 2, 48, [.slice none 0 (.known 0), .slice none 0 (.known 0)], true, none⟩
noncomputable def x47 : TI := ⟨Try.t46.desc, 4, 32, [.int .i64 (.lit 0), .int .i64 (.lit 0), .int .i64 (.lit 0), .int .i64 (.lit 0)], true, none⟩
noncomputable def x48 : TI := ⟨Go.TypeDesc.slice 22, 1, 24, [.slice none 0 (.known 0)], false, none⟩
noncomputable def x50 : TI := ⟨Try.t49.desc, 5, 56, [.int .i64 (.lit 0), .int .i64 (.lit 0), .int .i64 (.lit 0), .int .i64 (.lit 0), .slice none 0 (.known 0)], true, none⟩
noncomputable def x58 : TI := ⟨Try.t57.desc, 3, 40, [.slice none 0 (.known 0), .int .i64 (.lit 0), .int .i64 (.lit 0)], true, none⟩
noncomputable def x61 : TI := ⟨Try.t60.desc, 2, 32, [.int .i64 (.lit 0), .slice none 0 (.known 0)], true, none⟩
noncomputable def x63 : TI := ⟨Try.t62.desc, 4, 80, [.int .i64 (.lit 0), .slice none 0 (.known 0), .slice none 0 (.known 0), .slice none 0 (.known 0)], true, none⟩
noncomputable def x64 : TI := ⟨Go.TypeDesc.array 2 3, 2, 16, [.int .i64 (.lit 0), .int .i64 (.lit 0)], true, (some (List.replicate 2 .int))⟩
noncomputable def x75 : TI := ⟨Try.t74.desc, 3, 24, [.int .i64 (.lit 0), .int .i64 (.lit 0), .int .i64 (.lit 0)], true, none⟩
noncomputable def x83 : TI := ⟨Try.t82.desc, 3, 24, [.int .i64 (.lit 0), .int .i64 (.lit 0), .int .i64 (.lit 0)], true, none⟩
noncomputable def U6 : TI := ⟨Try.t113.desc, 3, 72, [.slice none 0 (.known 0), .slice none 0 (.known 0), .slice none 0 (.known 0)], true, none⟩
noncomputable def U7 : TI := ⟨Go.TypeDesc.slice 145, 1, 24, [.slice none 0 (.known 0)], false, none⟩
noncomputable def U8 : TI := ⟨Try.t123.desc, 3, 32, [.str [], .bool (.lit false), .int .i64 (.lit 0)], true, (some [.str, .bool, .int])⟩
noncomputable def U9 : TI := ⟨Go.TypeDesc.slice 9, 1, 24, [.slice none 0 (.known 0)], false, none⟩
noncomputable def VA : TI := ⟨Go.TypeDesc.func #[9] #[4] Bool.false, 1, 8, [.nilFn], false, none⟩
noncomputable def VB : TI := ⟨Try.t142.desc, 2, 40, [.str [], .slice none 0 (.known 0)], true, none⟩
noncomputable def VC : TI := ⟨Try.t144.desc, 3, 40, [.int .i64 (.lit 0), .str [], .str []], true, none⟩
noncomputable def VD : TI := ⟨Go.TypeDesc.func #[3] #[4] Bool.false, 1, 8, [.nilFn], false, none⟩
noncomputable def VE : TI := ⟨Go.TypeDesc.pointer 158, 1, 8, [.ptr none], false, none⟩
noncomputable def VF : TI := ⟨Try.t157.desc, 4, 80, [.slice none 0 (.known 0), .int .i64 (.lit 0), .slice none 0 (.known 0), .slice none 0 (.known 0)], true, none⟩
noncomputable def VG : TI := ⟨Go.TypeDesc.slice 4, 1, 24, [.slice none 0 (.known 0)], false, none⟩
noncomputable def VH : TI := ⟨Try.t164.desc, 6, 48, [.int .i64 (.lit 0), .int .i64 (.lit 0), .int .i64 (.lit 0), .int .i64 (.lit 0), .int .i64 (.lit 0), .int .i64 (.lit 0)], true, none⟩
noncomputable def VI : TI := ⟨Go.TypeDesc.slice 180, 1, 24, [.slice none 0 (.known 0)], false, none⟩
noncomputable def VJ : TI := ⟨Go.TypeDesc.array 4 3, 4, 32, [.int .i64 (.lit 0), .int .i64 (.lit 0), .int .i64 (.lit 0), .int .i64 (.lit 0)], true, none⟩
noncomputable def VK : TI := ⟨Go.TypeDesc.array 4 170, 16, 128, [.int .i64 (.lit 0), .int .i64 (.lit 0), .int .i64 (.lit 0), .int .i64 (.lit 0), .int .i64 (.lit 0), .int .i64 (.lit 0), .int .i64 (.lit 0), .int .i64 (.lit 0), .int .i64 (.lit 0), .int .i64 (.lit 0), .int .i64 (.lit 0), .int .i64 (.lit 0), .int .i64 (.lit 0), .int .i64 (.lit 0), .int .i64 (.lit 0), .int .i64 (.lit 0)], true, none⟩
noncomputable def VL : TI := ⟨Try.t172.desc, 18, 160, [.slice none 0 (.known 0), .int .i64 (.lit 0), .int .i64 (.lit 0), .int .i64 (.lit 0), .int .i64 (.lit 0), .int .i64 (.lit 0), .int .i64 (.lit 0), .int .i64 (.lit 0), .int .i64 (.lit 0), .int .i64 (.lit 0), .int .i64 (.lit 0), .int .i64 (.lit 0), .int .i64 (.lit 0), .int .i64 (.lit 0), .int .i64 (.lit 0), .int .i64 (.lit 0), .int .i64 (.lit 0), .int .i64 (.lit 0)], true, none⟩
noncomputable def VM : TI := ⟨Go.TypeDesc.func #[168] #[4] Bool.false, 1, 8, [.nilFn], false, none⟩
noncomputable def VN : TI := ⟨Try.t179.desc, 7, 56, [.int .i64 (.lit 0), .int .i64 (.lit 0), .int .i64 (.lit 0), .int .i64 (.lit 0), .int .i64 (.lit 0), .int .i64 (.lit 0), .int .i64 (.lit 0)], true, none⟩
noncomputable def VO : TI := ⟨Go.TypeDesc.map 9 4, 1, 8, [.map none], false, none⟩
noncomputable def VP : TI := ⟨Go.TypeDesc.pointer 196, 1, 8, [.ptr none], false, none⟩
noncomputable def VQ : TI := ⟨Go.TypeDesc.map 9 124, 1, 8, [.map none], false, none⟩
noncomputable def VR : TI := ⟨Try.t195.desc, 2, 32, [.map none, .slice none 0 (.known 0)], true, none⟩
noncomputable def VS : TI := ⟨Go.TypeDesc.func #[145] #[4] Bool.false, 1, 8, [.nilFn], false, none⟩
noncomputable def VT : TI := ⟨Go.TypeDesc.func #[9, 124] #[4] Bool.false, 1, 8, [.nilFn], false, none⟩
noncomputable def VU : TI := ⟨Go.TypeDesc.int Go.IntKind.u64, 1, 8, [.int .u64 (.lit 0)], false, none⟩
noncomputable def VV : TI := ⟨Go.TypeDesc.func #[180] #[4] Bool.false, 1, 8, [.nilFn], false, none⟩
noncomputable def VW : TI := ⟨Go.TypeDesc.slice 26, 1, 24, [.slice none 0 (.known 0)], false, none⟩
noncomputable def VX : TI := ⟨Go.TypeDesc.int Go.IntKind.u32, 1, 4, [.int .u32 (.lit 0)], false, none⟩
noncomputable def VY : TI := ⟨Go.TypeDesc.int Go.IntKind.u64, 1, 8, [.int .u64 (.lit 0)], false, none⟩
noncomputable def tl : List (Nat × TI) := [(3, x3), (4, x4), (5, x5), (9, x9), (22, x22), (25, x25), (26, x26), (33, x33), (35, x35), (38, x38), (47, x47), (48, x48), (50, x50), (58, x58), (61, x61), (63, x63), (64, x64), (75, x75), (83, x83), (114, U6), (120, U7), (124, U8), (127, U9), (141, VA), (143, VB), (145, VC), (150, VD), (155, VE), (158, VF), (160, VG), (165, VH), (168, VI), (170, VJ), (171, VK), (173, VL), (177, VM), (180, VN), (189, VO), (191, VP), (194, VQ), (196, VR), (198, VS), (200, VT), (203, VU), (211, VV), (212, VW), (216, VX), (219, VY)]
noncomputable def fl : List (Nat × FI) := [(4, FI.of Try.f4 true), (18, FI.of Try.f18 true), (19, FI.of Try.f19 true), (20, FI.of Try.f20 false), (22, FI.of Try.f22 true), (23, FI.of Try.f23 false), (24, FI.of Try.f24 false), (25, FI.of Try.f25 true), (26, FI.of Try.f26 true), (27, FI.of Try.f27 true), (32, FI.of Try.f32 false), (37, FI.of Try.f37 true), (38, FI.of Try.f38 true), (42, FI.of Try.f42 true), (45, FI.of Try.f45 true), (46, FI.of Try.f46 true), (47, FI.of Try.f47 true), (49, FI.of Try.f49 true), (50, FI.of Try.f50 true), (56, FI.of Try.f56 true), (60, FI.of Try.f60 true), (63, FI.of Try.f63 true), (68, FI.of Try.f68 true), (82, FI.of Try.f82 true), (83, FI.of Try.f83 true), (84, FI.of Try.f84 true), (85, FI.of Try.f85 false), (86, FI.of Try.f86 true), (87, FI.of Try.f87 true), (88, FI.of Try.f88 true), (89, FI.of Try.f89 true), (90, FI.of Try.f90 true), (91, FI.of Try.f91 true), (92, FI.of Try.f92 true), (93, FI.of Try.f93 true), (94, FI.of Try.f94 false), (95, FI.of Try.f95 false), (96, FI.of Try.f96 true), (97, FI.of Try.f97 true), (98, FI.of Try.f98 true), (99, FI.of Try.f99 false), (100, FI.of Try.f100 true), (108, FI.of Try.f108 true), (109, FI.of Try.f109 true), (110, FI.of Try.f110 true), (111, FI.of Try.f111 true), (113, FI.of Try.f113 true), (114, FI.of Try.f114 true), (115, FI.of Try.f115 true), (118, FI.of Try.f118 true), (119, FI.of Try.f119 true), (120, FI.of Try.f120 true), (121, FI.of Try.f121 true), (123, FI.of Try.f123 true), (128, FI.of Try.f128 true), (129, FI.of Try.f129 true), (130, FI.of Try.f130 true), (139, FI.of Try.f139 true), (140, FI.of Try.f140 true), (141, FI.of Try.f141 true), (142, FI.of Try.f142 true), (148, FI.of Try.f148 true), (149, FI.of Try.f149 true), (153, FI.of Try.f153 true), (154, FI.of Try.f154 true), (155, FI.of Try.f155 true)]
noncomputable def tt : T TI := (.node (.node (.node (.node (.node (.node (.node (.node .nil (some U9) .nil) (some x63) (.node .nil (some VP) .nil)) none .nil) none (.node (.node (.node .nil (some VB) .nil) none .nil) (some x47) .nil)) none .nil) (some x3) (.node (.node (.node .nil (some x35) .nil) none (.node (.node .nil (some x83) (.node .nil (some VV) .nil)) none .nil)) none (.node (.node (.node .nil (some x75) (.node .nil (some VU) .nil)) none (.node (.node .nil (some VK) .nil) none .nil)) none (.node (.node (.node .nil (some VE) .nil) none (.node .nil (some VY) .nil)) none .nil)))) none (.node (.node (.node (.node .nil (some x33) .nil) none (.node (.node (.node .nil (some VC) .nil) none .nil) none (.node (.node .nil (some VM) .nil) none .nil))) (some x9) (.node .nil (some x25) .nil)) (some x5) (.node (.node (.node .nil none (.node (.node .nil (some VH) .nil) none .nil)) none .nil) none (.node (.node (.node (.node .nil (some VA) .nil) none .nil) none (.node (.node .nil (some VL) .nil) none .nil)) none (.node .nil (some x61) (.node (.node .nil (some VO) .nil) none .nil)))))) none (.node (.node (.node (.node (.node (.node .nil (some x64) .nil) none (.node (.node .nil (some VG) .nil) none .nil)) none (.node .nil (some x48) .nil)) none (.node (.node (.node .nil none (.node .nil (some VT) .nil)) none (.node (.node .nil (some VI) .nil) none .nil)) none (.node (.node .nil none (.node .nil (some VX) .nil)) none (.node .nil (some U7) .nil)))) (some x4) (.node (.node (.node (.node .nil none (.node .nil (some VR) .nil)) none .nil) none (.node (.node .nil none (.node .nil (some VW) .nil)) none (.node (.node .nil (some VN) .nil) none .nil))) none (.node .nil none (.node .nil none (.node .nil (some U8) .nil))))) none (.node (.node (.node (.node (.node .nil none (.node .nil (some VQ) .nil)) none .nil) none (.node .nil (some x50) (.node .nil (some U6) .nil))) none (.node (.node .nil none (.node (.node .nil (some VJ) .nil) none .nil)) (some x26) (.node .nil (some x58) .nil))) none (.node (.node (.node (.node .nil none (.node .nil (some VS) .nil)) (some x38) .nil) (some x22) (.node (.node (.node .nil (some VD) .nil) none .nil) none .nil)) none (.node .nil none (.node (.node (.node .nil (some VF) .nil) none .nil) none .nil))))))
noncomputable def ft : T FI := (.node (.node (.node (.node (.node (.node (.node .nil (some (FI.of Try.f63 true)) .nil) none (.node .nil (some (FI.of Try.f95 false)) .nil)) none (.node .nil (some (FI.of Try.f47 true)) (.node .nil (some (FI.of Try.f111 true)) .nil))) none (.node .nil (some (FI.of Try.f23 false)) (.node (.node .nil (some (FI.of Try.f87 true)) .nil) none (.node .nil (some (FI.of Try.f119 true)) .nil)))) none (.node (.node (.node .nil none (.node .nil (some (FI.of Try.f99 false)) .nil)) (some (FI.of Try.f19 true)) (.node (.node .nil (some (FI.of Try.f83 true)) .nil) none (.node .nil (some (FI.of Try.f115 true)) .nil))) none (.node (.node (.node (.node .nil (some (FI.of Try.f139 true)) .nil) none .nil) none .nil) (some (FI.of Try.f27 true)) (.node (.node (.node .nil (some (FI.of Try.f155 true)) .nil) (some (FI.of Try.f91 true)) .nil) none (.node .nil (some (FI.of Try.f123 true)) .nil))))) none (.node (.node (.node (.node (.node (.node .nil (some (FI.of Try.f129 true)) .nil) none .nil) none (.node .nil (some (FI.of Try.f97 true)) .nil)) none (.node .nil (some (FI.of Try.f49 true)) (.node .nil (some (FI.of Try.f113 true)) .nil))) none (.node .nil (some (FI.of Try.f25 true)) (.node (.node (.node .nil (some (FI.of Try.f153 true)) .nil) (some (FI.of Try.f89 true)) .nil) none (.node .nil (some (FI.of Try.f121 true)) .nil)))) none (.node (.node (.node .nil (some (FI.of Try.f37 true)) .nil) none (.node (.node (.node .nil (some (FI.of Try.f149 true)) .nil) (some (FI.of Try.f85 false)) .nil) none .nil)) none (.node (.node (.node (.node .nil (some (FI.of Try.f141 true)) .nil) none .nil) (some (FI.of Try.f45 true)) (.node .nil (some (FI.of Try.f109 true)) .nil)) none (.node (.node .nil (some (FI.of Try.f93 true)) .nil) none .nil))))) none (.node (.node (.node (.node (.node (.node (.node .nil (some (FI.of Try.f128 true)) .nil) none .nil) (some (FI.of Try.f32 false)) (.node .nil (some (FI.of Try.f96 true)) .nil)) none .nil) none (.node .nil (some (FI.of Try.f24 false)) (.node (.node .nil (some (FI.of Try.f88 true)) .nil) (some (FI.of Try.f56 true)) (.node .nil (some (FI.of Try.f120 true)) .nil)))) (some (FI.of Try.f4 true)) (.node (.node (.node (.node .nil (some (FI.of Try.f68 true)) .nil) none (.node .nil (some (FI.of Try.f100 true)) .nil)) (some (FI.of Try.f20 false)) (.node (.node (.node .nil (some (FI.of Try.f148 true)) .nil) (some (FI.of Try.f84 true)) .nil) none .nil)) none (.node (.node (.node (.node .nil (some (FI.of Try.f140 true)) .nil) none .nil) none (.node .nil (some (FI.of Try.f108 true)) .nil)) none (.node (.node .nil (some (FI.of Try.f92 true)) .nil) (some (FI.of Try.f60 true)) .nil)))) none (.node (.node (.node (.node (.node (.node .nil (some (FI.of Try.f130 true)) .nil) none .nil) none (.node .nil (some (FI.of Try.f98 true)) .nil)) (some (FI.of Try.f18 true)) (.node (.node .nil (some (FI.of Try.f82 true)) .nil) (some (FI.of Try.f50 true)) (.node .nil (some (FI.of Try.f114 true)) .nil))) none (.node (.node .nil (some (FI.of Try.f42 true)) .nil) (some (FI.of Try.f26 true)) (.node (.node (.node .nil (some (FI.of Try.f154 true)) .nil) (some (FI.of Try.f90 true)) .nil) none .nil))) none (.node (.node (.node .nil (some (FI.of Try.f38 true)) .nil) (some (FI.of Try.f22 true)) (.node (.node .nil (some (FI.of Try.f86 true)) .nil) none (.node .nil (some (FI.of Try.f118 true)) .nil))) none (.node (.node (.node (.node .nil (some (FI.of Try.f142 true)) .nil) none .nil) (some (FI.of Try.f46 true)) (.node .nil (some (FI.of Try.f110 true)) .nil)) none (.node (.node .nil (some (FI.of Try.f94 false)) .nil) none .nil))))))
theorem ok3 : TI.Ok Try.prog 3 x3 := TI.ok_of Try.underlying3 rfl Try.type3 rfl rfl rfl (fun _ _ => rfl) rfl rfl (fun h => absurd h (by decide)) (fun _ => ⟨rfl, rfl⟩) (aF rfl)
theorem ok4 : TI.Ok Try.prog 4 x4 := TI.ok_of Try.underlying4 rfl Try.type4 rfl rfl rfl (fun _ _ => rfl) rfl rfl (fun h => absurd h (by decide)) (fun _ => ⟨rfl, rfl⟩) (aF rfl)
theorem ok5 : TI.Ok Try.prog 5 x5 := TI.ok_of Try.underlying5 rfl Try.type5 rfl rfl rfl (fun _ _ => rfl) rfl rfl (fun h => absurd h (by decide)) (fun _ => ⟨rfl, rfl⟩) (aF rfl)
theorem ok9 : TI.Ok Try.prog 9 x9 := TI.ok_of Try.underlying9 rfl Try.type9 rfl rfl rfl (fun _ _ => rfl) rfl rfl (fun h => absurd h (by decide)) (fun _ => ⟨rfl, rfl⟩) (aF rfl)
theorem ZB : TI.Ok Try.prog 22 x22 := TI.ok_of Try.underlying22 rfl Try.type22 rfl rfl rfl (fun _ _ => rfl) rfl rfl (fun h => absurd h (by decide)) (fun _ => ⟨rfl, rfl⟩) (aF rfl)
theorem ZC : TI.Ok Try.prog 25 x25 := TI.ok_of Try.underlying25 rfl Try.type25 rfl rfl rfl (fun _ _ => rfl) rfl rfl (fun _ => rfl) (fun h => absurd h (by decide)) (yE rfl (u7 Try.eqGuardType25 Try.underlying25 Try.stoodInHeld25 ⟨by decide, rfl, ⟨_, Try.underlying3, rfl⟩, ⟨by decide, rfl, ⟨_, Try.underlying3, rfl⟩, True.intro⟩⟩))
theorem ZD : TI.Ok Try.prog 26 x26 := TI.ok_of Try.underlying26 rfl Try.type26 rfl rfl rfl (fun _ _ => rfl) rfl rfl (fun h => absurd h (by decide)) (fun _ => ⟨rfl, rfl⟩) (aF rfl)
theorem ZE : TI.Ok Try.prog 33 x33 := TI.ok_of Try.underlying33 rfl Try.type33 rfl rfl rfl (fun _ _ => rfl) rfl rfl (fun h => absurd h (by decide)) (fun _ => ⟨rfl, rfl⟩) (aF rfl)
theorem ZF : TI.Ok Try.prog 35 x35 := TI.ok_of Try.underlying35 rfl Try.type35 rfl rfl rfl (fun _ _ => rfl) rfl rfl (fun _ => rfl) (fun h => absurd h (by decide)) (aF rfl)
theorem ZG : TI.Ok Try.prog 38 x38 := TI.ok_of Try.underlying38 rfl Try.type38 rfl rfl rfl (fun _ _ => rfl) rfl rfl (fun _ => rfl) (fun h => absurd h (by decide)) (aF rfl)
theorem ZH : TI.Ok Try.prog 47 x47 := TI.ok_of Try.underlying47 rfl Try.type47 rfl rfl rfl (fun _ _ => rfl) rfl rfl (fun _ => rfl) (fun h => absurd h (by decide)) (aF rfl)
theorem ZI : TI.Ok Try.prog 48 x48 := TI.ok_of Try.underlying48 rfl Try.type48 rfl rfl rfl (fun _ _ => rfl) rfl rfl (fun h => absurd h (by decide)) (fun _ => ⟨rfl, rfl⟩) (aF rfl)
theorem ZJ : TI.Ok Try.prog 50 x50 := TI.ok_of Try.underlying50 rfl Try.type50 rfl rfl rfl (fun _ _ => rfl) rfl rfl (fun _ => rfl) (fun h => absurd h (by decide)) (aF rfl)
theorem ZK : TI.Ok Try.prog 58 x58 := TI.ok_of Try.underlying58 rfl Try.type58 rfl rfl rfl (fun _ _ => rfl) rfl rfl (fun _ => rfl) (fun h => absurd h (by decide)) (aF rfl)
theorem ZL : TI.Ok Try.prog 61 x61 := TI.ok_of Try.underlying61 rfl Try.type61 rfl rfl rfl (fun _ _ => rfl) rfl rfl (fun _ => rfl) (fun h => absurd h (by decide)) (aF rfl)
theorem ZM : TI.Ok Try.prog 63 x63 := TI.ok_of Try.underlying63 rfl Try.type63 rfl rfl rfl (fun _ _ => rfl) rfl rfl (fun _ => rfl) (fun h => absurd h (by decide)) (aF rfl)
theorem ZN : TI.Ok Try.prog 64 x64 := TI.ok_of Try.underlying64 rfl Try.type64 rfl rfl rfl (fun _ _ => rfl) rfl rfl (fun _ => rfl) (fun h => absurd h (by decide)) (yE rfl (PZ Try.eqGuardType64 Try.underlying64 Try.type3 rfl Try.underlying3 rfl))
theorem ZO : TI.Ok Try.prog 75 x75 := TI.ok_of Try.underlying75 rfl Try.type75 rfl rfl rfl (fun _ _ => rfl) rfl rfl (fun _ => rfl) (fun h => absurd h (by decide)) (aF rfl)
theorem ZP : TI.Ok Try.prog 83 x83 := TI.ok_of Try.underlying83 rfl Try.type83 rfl rfl rfl (fun _ _ => rfl) rfl rfl (fun _ => rfl) (fun h => absurd h (by decide)) (aF rfl)
theorem XG : TI.Ok Try.prog 114 U6 := TI.ok_of Try.underlying114 rfl Try.type114 rfl rfl rfl (fun _ _ => rfl) rfl rfl (fun _ => rfl) (fun h => absurd h (by decide)) (aF rfl)
theorem XH : TI.Ok Try.prog 120 U7 := TI.ok_of Try.underlying120 rfl Try.type120 rfl rfl rfl (fun _ _ => rfl) rfl rfl (fun h => absurd h (by decide)) (fun _ => ⟨rfl, rfl⟩) (aF rfl)
theorem XI : TI.Ok Try.prog 124 U8 := TI.ok_of Try.underlying124 rfl Try.type124 rfl rfl rfl (fun _ _ => rfl) rfl rfl (fun _ => rfl) (fun h => absurd h (by decide)) (yE rfl (u7 Try.eqGuardType124 Try.underlying124 Try.stoodInHeld124 ⟨by decide, rfl, ⟨_, Try.underlying9, rfl⟩, ⟨by decide, rfl, ⟨_, Try.underlying4, rfl⟩, ⟨by decide, rfl, ⟨_, Try.underlying3, rfl⟩, True.intro⟩⟩⟩))
theorem XJ : TI.Ok Try.prog 127 U9 := TI.ok_of Try.underlying127 rfl Try.type127 rfl rfl rfl (fun _ _ => rfl) rfl rfl (fun h => absurd h (by decide)) (fun _ => ⟨rfl, rfl⟩) (aF rfl)
theorem XK : TI.Ok Try.prog 141 VA := TI.ok_of Try.underlying141 rfl Try.type141 rfl rfl rfl (fun _ _ => rfl) rfl rfl (fun h => absurd h (by decide)) (fun _ => ⟨rfl, rfl⟩) (aF rfl)
theorem XL : TI.Ok Try.prog 143 VB := TI.ok_of Try.underlying143 rfl Try.type143 rfl rfl rfl (fun _ _ => rfl) rfl rfl (fun _ => rfl) (fun h => absurd h (by decide)) (aF rfl)
theorem XM : TI.Ok Try.prog 145 VC := TI.ok_of Try.underlying145 rfl Try.type145 rfl rfl rfl (fun _ _ => rfl) rfl rfl (fun _ => rfl) (fun h => absurd h (by decide)) (aF rfl)
theorem XN : TI.Ok Try.prog 150 VD := TI.ok_of Try.underlying150 rfl Try.type150 rfl rfl rfl (fun _ _ => rfl) rfl rfl (fun h => absurd h (by decide)) (fun _ => ⟨rfl, rfl⟩) (aF rfl)
theorem XO : TI.Ok Try.prog 155 VE := TI.ok_of Try.underlying155 rfl Try.type155 rfl rfl rfl (fun _ _ => rfl) rfl rfl (fun h => absurd h (by decide)) (fun _ => ⟨rfl, rfl⟩) (aF rfl)
theorem XP : TI.Ok Try.prog 158 VF := TI.ok_of Try.underlying158 rfl Try.type158 rfl rfl rfl (fun _ _ => rfl) rfl rfl (fun _ => rfl) (fun h => absurd h (by decide)) (aF rfl)
theorem XQ : TI.Ok Try.prog 160 VG := TI.ok_of Try.underlying160 rfl Try.type160 rfl rfl rfl (fun _ _ => rfl) rfl rfl (fun h => absurd h (by decide)) (fun _ => ⟨rfl, rfl⟩) (aF rfl)
theorem XR : TI.Ok Try.prog 165 VH := TI.ok_of Try.underlying165 rfl Try.type165 rfl rfl rfl (fun _ _ => rfl) rfl rfl (fun _ => rfl) (fun h => absurd h (by decide)) (aF rfl)
theorem XS : TI.Ok Try.prog 168 VI := TI.ok_of Try.underlying168 rfl Try.type168 rfl rfl rfl (fun _ _ => rfl) rfl rfl (fun h => absurd h (by decide)) (fun _ => ⟨rfl, rfl⟩) (aF rfl)
theorem XT : TI.Ok Try.prog 170 VJ := TI.ok_of Try.underlying170 rfl Try.type170 rfl rfl rfl (fun _ _ => rfl) rfl rfl (fun _ => rfl) (fun h => absurd h (by decide)) (aF rfl)
theorem XU : TI.Ok Try.prog 171 VK := TI.ok_of Try.underlying171 rfl Try.type171 rfl rfl rfl (fun _ _ => rfl) rfl rfl (fun _ => rfl) (fun h => absurd h (by decide)) (aF rfl)
theorem XV : TI.Ok Try.prog 173 VL := TI.ok_of Try.underlying173 rfl Try.type173 rfl rfl rfl (fun _ _ => rfl) rfl rfl (fun _ => rfl) (fun h => absurd h (by decide)) (aF rfl)
theorem XW : TI.Ok Try.prog 177 VM := TI.ok_of Try.underlying177 rfl Try.type177 rfl rfl rfl (fun _ _ => rfl) rfl rfl (fun h => absurd h (by decide)) (fun _ => ⟨rfl, rfl⟩) (aF rfl)
theorem XX : TI.Ok Try.prog 180 VN := TI.ok_of Try.underlying180 rfl Try.type180 rfl rfl rfl (fun _ _ => rfl) rfl rfl (fun _ => rfl) (fun h => absurd h (by decide)) (aF rfl)
theorem XY : TI.Ok Try.prog 189 VO := TI.ok_of Try.underlying189 rfl Try.type189 rfl rfl rfl (fun _ _ => rfl) rfl rfl (fun h => absurd h (by decide)) (fun _ => ⟨rfl, rfl⟩) (aF rfl)
theorem XZ : TI.Ok Try.prog 191 VP := TI.ok_of Try.underlying191 rfl Try.type191 rfl rfl rfl (fun _ _ => rfl) rfl rfl (fun h => absurd h (by decide)) (fun _ => ⟨rfl, rfl⟩) (aF rfl)
theorem X0 : TI.Ok Try.prog 194 VQ := TI.ok_of Try.underlying194 rfl Try.type194 rfl rfl rfl (fun _ _ => rfl) rfl rfl (fun h => absurd h (by decide)) (fun _ => ⟨rfl, rfl⟩) (aF rfl)
theorem X1 : TI.Ok Try.prog 196 VR := TI.ok_of Try.underlying196 rfl Try.type196 rfl rfl rfl (fun _ _ => rfl) rfl rfl (fun _ => rfl) (fun h => absurd h (by decide)) (aF rfl)
theorem X2 : TI.Ok Try.prog 198 VS := TI.ok_of Try.underlying198 rfl Try.type198 rfl rfl rfl (fun _ _ => rfl) rfl rfl (fun h => absurd h (by decide)) (fun _ => ⟨rfl, rfl⟩) (aF rfl)
theorem X3 : TI.Ok Try.prog 200 VT := TI.ok_of Try.underlying200 rfl Try.type200 rfl rfl rfl (fun _ _ => rfl) rfl rfl (fun h => absurd h (by decide)) (fun _ => ⟨rfl, rfl⟩) (aF rfl)
theorem X4 : TI.Ok Try.prog 203 VU := TI.ok_of Try.underlying203 rfl Try.type203 rfl rfl rfl (fun _ _ => rfl) rfl rfl (fun h => absurd h (by decide)) (fun _ => ⟨rfl, rfl⟩) (aF rfl)
theorem X5 : TI.Ok Try.prog 211 VV := TI.ok_of Try.underlying211 rfl Try.type211 rfl rfl rfl (fun _ _ => rfl) rfl rfl (fun h => absurd h (by decide)) (fun _ => ⟨rfl, rfl⟩) (aF rfl)
theorem X6 : TI.Ok Try.prog 212 VW := TI.ok_of Try.underlying212 rfl Try.type212 rfl rfl rfl (fun _ _ => rfl) rfl rfl (fun h => absurd h (by decide)) (fun _ => ⟨rfl, rfl⟩) (aF rfl)
theorem X7 : TI.Ok Try.prog 216 VX := TI.ok_of Try.underlying216 rfl Try.type216 rfl rfl rfl (fun _ _ => rfl) rfl rfl (fun h => absurd h (by decide)) (fun _ => ⟨rfl, rfl⟩) (aF rfl)
theorem X8 : TI.Ok Try.prog 219 VY := TI.ok_of Try.underlying219 rfl Try.type219 rfl rfl rfl (fun _ _ => rfl) rfl rfl (fun h => absurd h (by decide)) (fun _ => ⟨rfl, rfl⟩) (aF rfl)
theorem tt_ok : ∀ t x, tt.get t = some x → TI.Ok Try.prog t x := GX (Q := fun t x => TI.Ok Try.prog t x) (l := tl) (by kernel_rfl) (by kernel_rfl) (List.forall_mem_cons.2 ⟨ok3, (List.forall_mem_cons.2 ⟨ok4, (List.forall_mem_cons.2 ⟨ok5, (List.forall_mem_cons.2 ⟨ok9, (List.forall_mem_cons.2 ⟨ZB, (List.forall_mem_cons.2 ⟨ZC, (List.forall_mem_cons.2 ⟨ZD, (List.forall_mem_cons.2 ⟨ZE, (List.forall_mem_cons.2 ⟨ZF, (List.forall_mem_cons.2 ⟨ZG, (List.forall_mem_cons.2 ⟨ZH, (List.forall_mem_cons.2 ⟨ZI, (List.forall_mem_cons.2 ⟨ZJ, (List.forall_mem_cons.2 ⟨ZK, (List.forall_mem_cons.2 ⟨ZL, (List.forall_mem_cons.2 ⟨ZM, (List.forall_mem_cons.2 ⟨ZN, (List.forall_mem_cons.2 ⟨ZO, (List.forall_mem_cons.2 ⟨ZP, (List.forall_mem_cons.2 ⟨XG, (List.forall_mem_cons.2 ⟨XH, (List.forall_mem_cons.2 ⟨XI, (List.forall_mem_cons.2 ⟨XJ, (List.forall_mem_cons.2 ⟨XK, (List.forall_mem_cons.2 ⟨XL, (List.forall_mem_cons.2 ⟨XM, (List.forall_mem_cons.2 ⟨XN, (List.forall_mem_cons.2 ⟨XO, (List.forall_mem_cons.2 ⟨XP, (List.forall_mem_cons.2 ⟨XQ, (List.forall_mem_cons.2 ⟨XR, (List.forall_mem_cons.2 ⟨XS, (List.forall_mem_cons.2 ⟨XT, (List.forall_mem_cons.2 ⟨XU, (List.forall_mem_cons.2 ⟨XV, (List.forall_mem_cons.2 ⟨XW, (List.forall_mem_cons.2 ⟨XX, (List.forall_mem_cons.2 ⟨XY, (List.forall_mem_cons.2 ⟨XZ, (List.forall_mem_cons.2 ⟨X0, (List.forall_mem_cons.2 ⟨X1, (List.forall_mem_cons.2 ⟨X2, (List.forall_mem_cons.2 ⟨X3, (List.forall_mem_cons.2 ⟨X4, (List.forall_mem_cons.2 ⟨X5, (List.forall_mem_cons.2 ⟨X6, (List.forall_mem_cons.2 ⟨X7, (List.forall_mem_cons.2 ⟨X8, (fun _ h => nomatch h)⟩)⟩)⟩)⟩)⟩)⟩)⟩)⟩)⟩)⟩)⟩)⟩)⟩)⟩)⟩)⟩)⟩)⟩)⟩)⟩)⟩)⟩)⟩)⟩)⟩)⟩)⟩)⟩)⟩)⟩)⟩)⟩)⟩)⟩)⟩)⟩)⟩)⟩)⟩)⟩)⟩)⟩)⟩)⟩)⟩)⟩)⟩)⟩)
theorem fok4 : FI.Ok Try.prog 4 (FI.of Try.f4 true) := FI.ok_of Try.func4 rfl (by kernel_rfl)
theorem fok18 : FI.Ok Try.prog 18 (FI.of Try.f18 true) := FI.ok_of Try.func18 rfl (by kernel_rfl)
theorem fok19 : FI.Ok Try.prog 19 (FI.of Try.f19 true) := FI.ok_of Try.func19 rfl (by kernel_rfl)
theorem fok20 : FI.Ok Try.prog 20 (FI.of Try.f20 false) := FI.ok_of Try.func20 rfl (by kernel_rfl)
theorem fok22 : FI.Ok Try.prog 22 (FI.of Try.f22 true) := FI.ok_of Try.func22 rfl (by kernel_rfl)
theorem fok23 : FI.Ok Try.prog 23 (FI.of Try.f23 false) := FI.ok_of Try.func23 rfl (by kernel_rfl)
theorem fok24 : FI.Ok Try.prog 24 (FI.of Try.f24 false) := FI.ok_of Try.func24 rfl (by kernel_rfl)
theorem fok25 : FI.Ok Try.prog 25 (FI.of Try.f25 true) := FI.ok_of Try.func25 rfl (by kernel_rfl)
theorem fok26 : FI.Ok Try.prog 26 (FI.of Try.f26 true) := FI.ok_of Try.func26 rfl (by kernel_rfl)
theorem fok27 : FI.Ok Try.prog 27 (FI.of Try.f27 true) := FI.ok_of Try.func27 rfl (by kernel_rfl)
theorem fok32 : FI.Ok Try.prog 32 (FI.of Try.f32 false) := FI.ok_of Try.func32 rfl (by kernel_rfl)
theorem fok37 : FI.Ok Try.prog 37 (FI.of Try.f37 true) := FI.ok_of Try.func37 rfl (by kernel_rfl)
theorem fok38 : FI.Ok Try.prog 38 (FI.of Try.f38 true) := FI.ok_of Try.func38 rfl (by kernel_rfl)
theorem fok42 : FI.Ok Try.prog 42 (FI.of Try.f42 true) := FI.ok_of Try.func42 rfl (by kernel_rfl)
theorem fok45 : FI.Ok Try.prog 45 (FI.of Try.f45 true) := FI.ok_of Try.func45 rfl (by kernel_rfl)
theorem fok46 : FI.Ok Try.prog 46 (FI.of Try.f46 true) := FI.ok_of Try.func46 rfl (by kernel_rfl)
theorem fok47 : FI.Ok Try.prog 47 (FI.of Try.f47 true) := FI.ok_of Try.func47 rfl (by kernel_rfl)
theorem fok49 : FI.Ok Try.prog 49 (FI.of Try.f49 true) := FI.ok_of Try.func49 rfl (by kernel_rfl)
theorem X9 : FI.Ok Try.prog 50 (FI.of Try.f50 true) := FI.ok_of Try.func50 rfl (by kernel_rfl)
theorem YA : FI.Ok Try.prog 56 (FI.of Try.f56 true) := FI.ok_of Try.func56 rfl (by kernel_rfl)
theorem YB : FI.Ok Try.prog 60 (FI.of Try.f60 true) := FI.ok_of Try.func60 rfl (by kernel_rfl)
theorem YC : FI.Ok Try.prog 63 (FI.of Try.f63 true) := FI.ok_of Try.func63 rfl (by kernel_rfl)
theorem fok68 : FI.Ok Try.prog 68 (FI.of Try.f68 true) := FI.ok_of Try.func68 rfl (by kernel_rfl)
theorem YD : FI.Ok Try.prog 82 (FI.of Try.f82 true) := FI.ok_of Try.func82 rfl (by kernel_rfl)
theorem fok83 : FI.Ok Try.prog 83 (FI.of Try.f83 true) := FI.ok_of Try.func83 rfl (by kernel_rfl)
theorem YE : FI.Ok Try.prog 84 (FI.of Try.f84 true) := FI.ok_of Try.func84 rfl (by kernel_rfl)
theorem YF : FI.Ok Try.prog 85 (FI.of Try.f85 false) := FI.ok_of Try.func85 rfl (by kernel_rfl)
theorem fok86 : FI.Ok Try.prog 86 (FI.of Try.f86 true) := FI.ok_of Try.func86 rfl (by kernel_rfl)
theorem YG : FI.Ok Try.prog 87 (FI.of Try.f87 true) := FI.ok_of Try.func87 rfl (by kernel_rfl)
theorem fok88 : FI.Ok Try.prog 88 (FI.of Try.f88 true) := FI.ok_of Try.func88 rfl (by kernel_rfl)
theorem fok89 : FI.Ok Try.prog 89 (FI.of Try.f89 true) := FI.ok_of Try.func89 rfl (by kernel_rfl)
theorem fok90 : FI.Ok Try.prog 90 (FI.of Try.f90 true) := FI.ok_of Try.func90 rfl (by kernel_rfl)
theorem fok91 : FI.Ok Try.prog 91 (FI.of Try.f91 true) := FI.ok_of Try.func91 rfl (by kernel_rfl)
theorem fok92 : FI.Ok Try.prog 92 (FI.of Try.f92 true) := FI.ok_of Try.func92 rfl (by kernel_rfl)
theorem fok93 : FI.Ok Try.prog 93 (FI.of Try.f93 true) := FI.ok_of Try.func93 rfl (by kernel_rfl)
theorem fok94 : FI.Ok Try.prog 94 (FI.of Try.f94 false) := FI.ok_of Try.func94 rfl (by kernel_rfl)
theorem fok95 : FI.Ok Try.prog 95 (FI.of Try.f95 false) := FI.ok_of Try.func95 rfl (by kernel_rfl)
theorem fok96 : FI.Ok Try.prog 96 (FI.of Try.f96 true) := FI.ok_of Try.func96 rfl (by kernel_rfl)
theorem fok97 : FI.Ok Try.prog 97 (FI.of Try.f97 true) := FI.ok_of Try.func97 rfl (by kernel_rfl)
theorem YH : FI.Ok Try.prog 98 (FI.of Try.f98 true) := FI.ok_of Try.func98 rfl (by kernel_rfl)
theorem YI : FI.Ok Try.prog 99 (FI.of Try.f99 false) := FI.ok_of Try.func99 rfl (by kernel_rfl)
theorem fok100 : FI.Ok Try.prog 100 (FI.of Try.f100 true) := FI.ok_of Try.func100 rfl (by kernel_rfl)
theorem VZ : FI.Ok Try.prog 108 (FI.of Try.f108 true) := FI.ok_of Try.func108 rfl (by kernel_rfl)
theorem V0 : FI.Ok Try.prog 109 (FI.of Try.f109 true) := FI.ok_of Try.func109 rfl (by kernel_rfl)
theorem fok110 : FI.Ok Try.prog 110 (FI.of Try.f110 true) := FI.ok_of Try.func110 rfl (by kernel_rfl)
theorem fok111 : FI.Ok Try.prog 111 (FI.of Try.f111 true) := FI.ok_of Try.func111 rfl (by kernel_rfl)
theorem fok113 : FI.Ok Try.prog 113 (FI.of Try.f113 true) := FI.ok_of Try.func113 rfl (by kernel_rfl)
theorem V1 : FI.Ok Try.prog 114 (FI.of Try.f114 true) := FI.ok_of Try.func114 rfl (by kernel_rfl)
theorem fok115 : FI.Ok Try.prog 115 (FI.of Try.f115 true) := FI.ok_of Try.func115 rfl (by kernel_rfl)
theorem V2 : FI.Ok Try.prog 118 (FI.of Try.f118 true) := FI.ok_of Try.func118 rfl (by kernel_rfl)
theorem V3 : FI.Ok Try.prog 119 (FI.of Try.f119 true) := FI.ok_of Try.func119 rfl (by kernel_rfl)
theorem fok120 : FI.Ok Try.prog 120 (FI.of Try.f120 true) := FI.ok_of Try.func120 rfl (by kernel_rfl)
theorem fok121 : FI.Ok Try.prog 121 (FI.of Try.f121 true) := FI.ok_of Try.func121 rfl (by kernel_rfl)
theorem V4 : FI.Ok Try.prog 123 (FI.of Try.f123 true) := FI.ok_of Try.func123 rfl (by kernel_rfl)
theorem fok128 : FI.Ok Try.prog 128 (FI.of Try.f128 true) := FI.ok_of Try.func128 rfl (by kernel_rfl)
theorem fok129 : FI.Ok Try.prog 129 (FI.of Try.f129 true) := FI.ok_of Try.func129 rfl (by kernel_rfl)
theorem fok130 : FI.Ok Try.prog 130 (FI.of Try.f130 true) := FI.ok_of Try.func130 rfl (by kernel_rfl)
theorem fok139 : FI.Ok Try.prog 139 (FI.of Try.f139 true) := FI.ok_of Try.func139 rfl (by kernel_rfl)
theorem fok140 : FI.Ok Try.prog 140 (FI.of Try.f140 true) := FI.ok_of Try.func140 rfl (by kernel_rfl)
theorem V5 : FI.Ok Try.prog 141 (FI.of Try.f141 true) := FI.ok_of Try.func141 rfl (by kernel_rfl)
theorem fok142 : FI.Ok Try.prog 142 (FI.of Try.f142 true) := FI.ok_of Try.func142 rfl (by kernel_rfl)
theorem V6 : FI.Ok Try.prog 148 (FI.of Try.f148 true) := FI.ok_of Try.func148 rfl (by kernel_rfl)
theorem fok149 : FI.Ok Try.prog 149 (FI.of Try.f149 true) := FI.ok_of Try.func149 rfl (by kernel_rfl)
theorem fok153 : FI.Ok Try.prog 153 (FI.of Try.f153 true) := FI.ok_of Try.func153 rfl (by kernel_rfl)
theorem V7 : FI.Ok Try.prog 154 (FI.of Try.f154 true) := FI.ok_of Try.func154 rfl (by kernel_rfl)
theorem V8 : FI.Ok Try.prog 155 (FI.of Try.f155 true) := FI.ok_of Try.func155 rfl (by kernel_rfl)
set_option maxRecDepth 100000 in
theorem ft_ok : ∀ f x, ft.get f = some x → FI.Ok Try.prog f x := GX (Q := fun f x => FI.Ok Try.prog f x) (l := fl) (by kernel_rfl) (by kernel_rfl) (List.forall_mem_cons.2 ⟨fok4, (List.forall_mem_cons.2 ⟨fok18, (List.forall_mem_cons.2 ⟨fok19, (List.forall_mem_cons.2 ⟨fok20, (List.forall_mem_cons.2 ⟨fok22, (List.forall_mem_cons.2 ⟨fok23, (List.forall_mem_cons.2 ⟨fok24, (List.forall_mem_cons.2 ⟨fok25, (List.forall_mem_cons.2 ⟨fok26, (List.forall_mem_cons.2 ⟨fok27, (List.forall_mem_cons.2 ⟨fok32, (List.forall_mem_cons.2 ⟨fok37, (List.forall_mem_cons.2 ⟨fok38, (List.forall_mem_cons.2 ⟨fok42, (List.forall_mem_cons.2 ⟨fok45, (List.forall_mem_cons.2 ⟨fok46, (List.forall_mem_cons.2 ⟨fok47, (List.forall_mem_cons.2 ⟨fok49, (List.forall_mem_cons.2 ⟨X9, (List.forall_mem_cons.2 ⟨YA, (List.forall_mem_cons.2 ⟨YB, (List.forall_mem_cons.2 ⟨YC, (List.forall_mem_cons.2 ⟨fok68, (List.forall_mem_cons.2 ⟨YD, (List.forall_mem_cons.2 ⟨fok83, (List.forall_mem_cons.2 ⟨YE, (List.forall_mem_cons.2 ⟨YF, (List.forall_mem_cons.2 ⟨fok86, (List.forall_mem_cons.2 ⟨YG, (List.forall_mem_cons.2 ⟨fok88, (List.forall_mem_cons.2 ⟨fok89, (List.forall_mem_cons.2 ⟨fok90, (List.forall_mem_cons.2 ⟨fok91, (List.forall_mem_cons.2 ⟨fok92, (List.forall_mem_cons.2 ⟨fok93, (List.forall_mem_cons.2 ⟨fok94, (List.forall_mem_cons.2 ⟨fok95, (List.forall_mem_cons.2 ⟨fok96, (List.forall_mem_cons.2 ⟨fok97, (List.forall_mem_cons.2 ⟨YH, (List.forall_mem_cons.2 ⟨YI, (List.forall_mem_cons.2 ⟨fok100, (List.forall_mem_cons.2 ⟨VZ, (List.forall_mem_cons.2 ⟨V0, (List.forall_mem_cons.2 ⟨fok110, (List.forall_mem_cons.2 ⟨fok111, (List.forall_mem_cons.2 ⟨fok113, (List.forall_mem_cons.2 ⟨V1, (List.forall_mem_cons.2 ⟨fok115, (List.forall_mem_cons.2 ⟨V2, (List.forall_mem_cons.2 ⟨V3, (List.forall_mem_cons.2 ⟨fok120, (List.forall_mem_cons.2 ⟨fok121, (List.forall_mem_cons.2 ⟨V4, (List.forall_mem_cons.2 ⟨fok128, (List.forall_mem_cons.2 ⟨fok129, (List.forall_mem_cons.2 ⟨fok130, (List.forall_mem_cons.2 ⟨fok139, (List.forall_mem_cons.2 ⟨fok140, (List.forall_mem_cons.2 ⟨V5, (List.forall_mem_cons.2 ⟨fok142, (List.forall_mem_cons.2 ⟨V6, (List.forall_mem_cons.2 ⟨fok149, (List.forall_mem_cons.2 ⟨fok153, (List.forall_mem_cons.2 ⟨V7, (List.forall_mem_cons.2 ⟨V8, (fun _ h => nomatch h)⟩)⟩)⟩)⟩)⟩)⟩)⟩)⟩)⟩)⟩)⟩)⟩)⟩)⟩)⟩)⟩)⟩)⟩)⟩)⟩)⟩)⟩)⟩)⟩)⟩)⟩)⟩)⟩)⟩)⟩)⟩)⟩)⟩)⟩)⟩)⟩)⟩)⟩)⟩)⟩)⟩)⟩)⟩)⟩)⟩)⟩)⟩)⟩)⟩)⟩)⟩)⟩)⟩)⟩)⟩)⟩)⟩)⟩)⟩)⟩)⟩)⟩)⟩)⟩)⟩)⟩)
theorem mixed : Try.prog.follows .mixedOrders = true := by kernel_rfl
end Try
end Go.Ex

