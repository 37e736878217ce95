/- The tables of the executor for this seat, by program (mkcx.py). -/
import Derived.Test.YtoheddhbcpjmkaaEx22
import Derived.KernelRfl
import Derived.Test.YtoheddhbcpjmkaaProg

namespace Go.Ex
open Go Go.Proofs
namespace Try
noncomputable def x3 : TI := ⟨Go.TypeDesc.int Go.IntKind.i64, 1, 8, [.int .i64 (.lit 0)], false, none⟩
noncomputable def x4 : TI := ⟨Go.TypeDesc.bool, 1, 1, [.bool (.lit false)], false, none⟩
noncomputable def x5 : TI := ⟨Go.TypeDesc.int Go.IntKind.u8, 1, 1, [.int .u8 (.lit 0)], false, none⟩
noncomputable def x9 : TI := ⟨Go.TypeDesc.string, 1, 16, [.str []], false, none⟩
noncomputable def x22 : TI := ⟨Go.TypeDesc.array 3 3, 3, 24, [.int .i64 (.lit 0), .int .i64 (.lit 0), .int .i64 (.lit 0)], true, none⟩
noncomputable def x24 : TI := ⟨Go.TypeDesc.array 3 22, 9, 72, [.int .i64 (.lit 0), .int .i64 (.lit 0), .int .i64 (.lit 0), .int .i64 (.lit 0), .int .i64 (.lit 0), .int .i64 (.lit 0), .int .i64 (.lit 0), .int .i64 (.lit 0), .int .i64 (.lit 0)], true, none⟩
noncomputable def x26 : TI := ⟨Go.TypeDesc.complex Go.FloatKind.f64, 1, 16, [.cpx .f64 (.lit 0) (.lit 0)], false, none⟩
noncomputable def x28 : TI := ⟨Try.t27.desc, 2, 24, [.cpx .f64 (.lit 0) (.lit 0), .int .i64 (.lit 0)], true, none⟩
noncomputable def x29 : TI := ⟨Go.TypeDesc.array 3 28, 6, 72, [.cpx .f64 (.lit 0) (.lit 0), .int .i64 (.lit 0), .cpx .f64 (.lit 0) (.lit 0), .int .i64 (.lit 0), .cpx .f64 (.lit 0) (.lit 0), .int .i64 (.lit 0)], true, none⟩
noncomputable def x32 : TI := ⟨Go.TypeDesc.int Go.IntKind.i64, 1, 8, [.int .i64 (.lit 0)], false, none⟩
noncomputable def x49 : TI := ⟨Try.t48.desc, 2, 16, [.int .i64 (.lit 0), .int .i64 (.lit 0)], true, none⟩
noncomputable def x53 : TI := ⟨Try.t52.desc, 2, 16, [.int .i64 (.lit 0), .int .i64 (.lit 0)], true, none⟩
noncomputable def x55 : TI := ⟨Try.t54.desc, 3, 24, [.int .i64 (.lit 0), .int .i64 (.lit 0), .int .i64 (.lit 0)], true, none⟩
noncomputable def x57 : TI := ⟨Go.TypeDesc.func #[55, 55] #[55, 32] Bool.false, 1, 8, [.nilFn], false, none⟩
noncomputable def x67 : TI := ⟨Go.TypeDesc.func #[55] #[55, 32] Bool.false, 1, 8, [.nilFn], false, none⟩
noncomputable def x72 : TI := ⟨Go.TypeDesc.float Go.FloatKind.f64, 1, 8, [.flt .f64 (.lit 0)], false, none⟩
noncomputable def x77 : TI := ⟨Go.TypeDesc.func #[55, 55] #[4] Bool.false, 1, 8, [.nilFn], false, none⟩
noncomputable def x80 : TI := ⟨Go.TypeDesc.int Go.IntKind.u64, 1, 8, [.int .u64 (.lit 0)], false, none⟩
noncomputable def x86 : TI := ⟨Go.TypeDesc.array 2 72, 2, 16, [.flt .f64 (.lit 0), .flt .f64 (.lit 0)], true, none⟩
noncomputable def x90 : TI := ⟨Go.TypeDesc.int Go.IntKind.u64, 1, 8, [.int .u64 (.lit 0)], false, none⟩
noncomputable def x92 : TI := ⟨Go.TypeDesc.interface #[("Error", 100)], 1, 16, [.nilIface], false, none⟩
noncomputable def tl : List (Nat × TI) := [(3, x3), (4, x4), (5, x5), (9, x9), (22, x22), (24, x24), (26, x26), (28, x28), (29, x29), (32, x32), (49, x49), (53, x53), (55, x55), (57, x57), (67, x67), (72, x72), (77, x77), (80, x80), (86, x86), (90, x90), (92, x92)]
noncomputable def fl : List (Nat × FI) := [(3, FI.of Try.f3 true), (4, FI.of Try.f4 true), (5, FI.of Try.f5 true), (6, FI.of Try.f6 true), (7, FI.of Try.f7 true), (8, FI.of Try.f8 true), (9, FI.of Try.f9 true), (10, FI.of Try.f10 true), (11, FI.of Try.f11 true), (12, FI.of Try.f12 true), (13, FI.of Try.f13 true), (14, FI.of Try.f14 true), (15, FI.of Try.f15 true), (16, FI.of Try.f16 true), (17, FI.of Try.f17 true), (18, FI.of Try.f18 true), (19, FI.of Try.f19 true), (20, FI.of Try.f20 true), (21, FI.of Try.f21 true), (22, FI.of Try.f22 true), (23, FI.of Try.f23 true), (24, FI.of Try.f24 true), (25, FI.of Try.f25 true), (26, FI.of Try.f26 true), (27, FI.of Try.f27 true), (28, FI.of Try.f28 true), (29, FI.of Try.f29 true), (30, FI.of Try.f30 true), (31, FI.of Try.f31 true), (32, FI.of Try.f32 true), (33, FI.of Try.f33 true), (34, FI.of Try.f34 true), (35, FI.of Try.f35 true), (36, FI.of Try.f36 true), (37, FI.of Try.f37 true), (38, FI.of Try.f38 true), (39, FI.of Try.f39 true), (40, FI.of Try.f40 true), (41, FI.of Try.f41 true), (42, FI.of Try.f42 true), (43, FI.of Try.f43 true), (44, FI.of Try.f44 true), (45, FI.of Try.f45 true), (46, FI.of Try.f46 true), (47, FI.of Try.f47 true), (48, FI.of Try.f48 true), (49, FI.of Try.f49 true), (50, FI.of Try.f50 true), (51, FI.of Try.f51 true), (52, FI.of Try.f52 true), (53, FI.of Try.f53 true), (54, FI.of Try.f54 true), (55, FI.of Try.f55 true), (56, FI.of Try.f56 true), (57, FI.of Try.f57 true), (58, FI.of Try.f58 true), (59, FI.of Try.f59 true), (60, FI.of Try.f60 true), (61, FI.of Try.f61 true), (62, FI.of Try.f62 true), (63, FI.of Try.f63 true), (64, FI.of Try.f64 true), (65, FI.of Try.f65 true), (66, FI.of Try.f66 true), (68, FI.of Try.f68 true), (69, FI.of Try.f69 true), (70, FI.of Try.f70 true), (71, FI.of Try.f71 true), (72, FI.of Try.f72 true), (73, FI.of Try.f73 true), (76, FI.of Try.f76 true), (77, FI.of Try.f77 true), (79, FI.of Try.f79 true), (80, FI.of Try.f80 true)]
noncomputable def tt : T TI := (.node (.node (.node (.node .nil none (.node .nil none (.node .nil (some x55) .nil))) (some x3) (.node (.node (.node (.node .nil (some x67) .nil) none .nil) none .nil) none .nil)) none (.node (.node (.node .nil none (.node .nil (some x49) .nil)) (some x9) (.node .nil none (.node .nil (some x57) .nil))) (some x5) (.node (.node .nil none (.node .nil (some x53) .nil)) none (.node (.node (.node .nil (some x77) .nil) none .nil) (some x29) .nil)))) none (.node (.node (.node (.node (.node .nil (some x32) .nil) none (.node (.node .nil (some x80) .nil) none .nil)) none (.node (.node (.node .nil (some x72) .nil) none .nil) (some x24) .nil)) (some x4) (.node .nil none (.node .nil (some x28) (.node (.node .nil (some x92) .nil) none .nil)))) none (.node (.node .nil none (.node .nil (some x26) (.node (.node .nil (some x90) .nil) none .nil))) none (.node (.node .nil (some x22) (.node (.node .nil (some x86) .nil) none .nil)) none .nil))))
noncomputable def ft : T FI := (.node (.node (.node (.node (.node (.node (.node .nil (some (FI.of Try.f63 true)) .nil) (some (FI.of Try.f31 true)) .nil) (some (FI.of Try.f15 true)) (.node (.node .nil (some (FI.of Try.f79 true)) .nil) (some (FI.of Try.f47 true)) .nil)) (some (FI.of Try.f7 true)) (.node (.node (.node .nil (some (FI.of Try.f71 true)) .nil) (some (FI.of Try.f39 true)) .nil) (some (FI.of Try.f23 true)) (.node .nil (some (FI.of Try.f55 true)) .nil))) (some (FI.of Try.f3 true)) (.node (.node (.node .nil (some (FI.of Try.f35 true)) .nil) (some (FI.of Try.f19 true)) (.node .nil (some (FI.of Try.f51 true)) .nil)) (some (FI.of Try.f11 true)) (.node (.node .nil (some (FI.of Try.f43 true)) .nil) (some (FI.of Try.f27 true)) (.node .nil (some (FI.of Try.f59 true)) .nil)))) none (.node (.node (.node (.node (.node .nil (some (FI.of Try.f65 true)) .nil) (some (FI.of Try.f33 true)) .nil) (some (FI.of Try.f17 true)) (.node .nil (some (FI.of Try.f49 true)) .nil)) (some (FI.of Try.f9 true)) (.node (.node (.node .nil (some (FI.of Try.f73 true)) .nil) (some (FI.of Try.f41 true)) .nil) (some (FI.of Try.f25 true)) (.node .nil (some (FI.of Try.f57 true)) .nil))) (some (FI.of Try.f5 true)) (.node (.node (.node (.node .nil (some (FI.of Try.f69 true)) .nil) (some (FI.of Try.f37 true)) .nil) (some (FI.of Try.f21 true)) (.node .nil (some (FI.of Try.f53 true)) .nil)) (some (FI.of Try.f13 true)) (.node (.node (.node .nil (some (FI.of Try.f77 true)) .nil) (some (FI.of Try.f45 true)) .nil) (some (FI.of Try.f29 true)) (.node .nil (some (FI.of Try.f61 true)) .nil))))) none (.node (.node (.node (.node (.node (.node .nil (some (FI.of Try.f64 true)) .nil) (some (FI.of Try.f32 true)) .nil) (some (FI.of Try.f16 true)) (.node (.node .nil (some (FI.of Try.f80 true)) .nil) (some (FI.of Try.f48 true)) .nil)) (some (FI.of Try.f8 true)) (.node (.node (.node .nil (some (FI.of Try.f72 true)) .nil) (some (FI.of Try.f40 true)) .nil) (some (FI.of Try.f24 true)) (.node .nil (some (FI.of Try.f56 true)) .nil))) (some (FI.of Try.f4 true)) (.node (.node (.node (.node .nil (some (FI.of Try.f68 true)) .nil) (some (FI.of Try.f36 true)) .nil) (some (FI.of Try.f20 true)) (.node .nil (some (FI.of Try.f52 true)) .nil)) (some (FI.of Try.f12 true)) (.node (.node (.node .nil (some (FI.of Try.f76 true)) .nil) (some (FI.of Try.f44 true)) .nil) (some (FI.of Try.f28 true)) (.node .nil (some (FI.of Try.f60 true)) .nil)))) none (.node (.node (.node (.node (.node .nil (some (FI.of Try.f66 true)) .nil) (some (FI.of Try.f34 true)) .nil) (some (FI.of Try.f18 true)) (.node .nil (some (FI.of Try.f50 true)) .nil)) (some (FI.of Try.f10 true)) (.node (.node .nil (some (FI.of Try.f42 true)) .nil) (some (FI.of Try.f26 true)) (.node .nil (some (FI.of Try.f58 true)) .nil))) (some (FI.of Try.f6 true)) (.node (.node (.node (.node .nil (some (FI.of Try.f70 true)) .nil) (some (FI.of Try.f38 true)) .nil) (some (FI.of Try.f22 true)) (.node .nil (some (FI.of Try.f54 true)) .nil)) (some (FI.of Try.f14 true)) (.node (.node .nil (some (FI.of Try.f46 true)) .nil) (some (FI.of Try.f30 true)) (.node .nil (some (FI.of Try.f62 true)) .nil))))))
theorem ok3 : TI.Ok Try.prog 3 x3 := TI.ok_of Try.underlying3 rfl Try.type3 rfl rfl rfl (fun _ _ => rfl) rfl rfl (fun h => absurd h (by decide)) (fun _ => ⟨rfl, rfl⟩) (eqs_none rfl)
theorem ok4 : TI.Ok Try.prog 4 x4 := TI.ok_of Try.underlying4 rfl Try.type4 rfl rfl rfl (fun _ _ => rfl) rfl rfl (fun h => absurd h (by decide)) (fun _ => ⟨rfl, rfl⟩) (eqs_none rfl)
theorem ok5 : TI.Ok Try.prog 5 x5 := TI.ok_of Try.underlying5 rfl Try.type5 rfl rfl rfl (fun _ _ => rfl) rfl rfl (fun h => absurd h (by decide)) (fun _ => ⟨rfl, rfl⟩) (eqs_none rfl)
theorem ok9 : TI.Ok Try.prog 9 x9 := TI.ok_of Try.underlying9 rfl Try.type9 rfl rfl rfl (fun _ _ => rfl) rfl rfl (fun h => absurd h (by decide)) (fun _ => ⟨rfl, rfl⟩) (eqs_none rfl)
theorem ok22 : TI.Ok Try.prog 22 x22 := TI.ok_of Try.underlying22 rfl Try.type22 rfl rfl rfl (fun _ _ => rfl) rfl rfl (fun _ => rfl) (fun h => absurd h (by decide)) (eqs_none rfl)
theorem ok24 : TI.Ok Try.prog 24 x24 := TI.ok_of Try.underlying24 rfl Try.type24 rfl rfl rfl (fun _ _ => rfl) rfl rfl (fun _ => rfl) (fun h => absurd h (by decide)) (eqs_none rfl)
theorem ok26 : TI.Ok Try.prog 26 x26 := TI.ok_of Try.underlying26 rfl Try.type26 rfl rfl rfl (fun _ _ => rfl) rfl rfl (fun h => absurd h (by decide)) (fun _ => ⟨rfl, rfl⟩) (eqs_none rfl)
theorem ok28 : TI.Ok Try.prog 28 x28 := TI.ok_of Try.underlying28 rfl Try.type28 rfl rfl rfl (fun _ _ => rfl) rfl rfl (fun _ => rfl) (fun h => absurd h (by decide)) (eqs_none rfl)
theorem ok29 : TI.Ok Try.prog 29 x29 := TI.ok_of Try.underlying29 rfl Try.type29 rfl rfl rfl (fun _ _ => rfl) rfl rfl (fun _ => rfl) (fun h => absurd h (by decide)) (eqs_none rfl)
theorem ok32 : TI.Ok Try.prog 32 x32 := TI.ok_of Try.underlying32 rfl Try.type32 rfl rfl rfl (fun _ _ => rfl) rfl rfl (fun h => absurd h (by decide)) (fun _ => ⟨rfl, rfl⟩) (eqs_none rfl)
theorem ok49 : TI.Ok Try.prog 49 x49 := TI.ok_of Try.underlying49 rfl Try.type49 rfl rfl rfl (fun _ _ => rfl) rfl rfl (fun _ => rfl) (fun h => absurd h (by decide)) (eqs_none rfl)
theorem ok53 : TI.Ok Try.prog 53 x53 := TI.ok_of Try.underlying53 rfl Try.type53 rfl rfl rfl (fun _ _ => rfl) rfl rfl (fun _ => rfl) (fun h => absurd h (by decide)) (eqs_none rfl)
theorem ok55 : TI.Ok Try.prog 55 x55 := TI.ok_of Try.underlying55 rfl Try.type55 rfl rfl rfl (fun _ _ => rfl) rfl rfl (fun _ => rfl) (fun h => absurd h (by decide)) (eqs_none rfl)
theorem ok57 : TI.Ok Try.prog 57 x57 := TI.ok_of Try.underlying57 rfl Try.type57 rfl rfl rfl (fun _ _ => rfl) rfl rfl (fun h => absurd h (by decide)) (fun _ => ⟨rfl, rfl⟩) (eqs_none rfl)
theorem ok67 : TI.Ok Try.prog 67 x67 := TI.ok_of Try.underlying67 rfl Try.type67 rfl rfl rfl (fun _ _ => rfl) rfl rfl (fun h => absurd h (by decide)) (fun _ => ⟨rfl, rfl⟩) (eqs_none rfl)
theorem ok72 : TI.Ok Try.prog 72 x72 := TI.ok_of Try.underlying72 rfl Try.type72 rfl rfl rfl (fun _ _ => rfl) rfl rfl (fun h => absurd h (by decide)) (fun _ => ⟨rfl, rfl⟩) (eqs_none rfl)
theorem ok77 : TI.Ok Try.prog 77 x77 := TI.ok_of Try.underlying77 rfl Try.type77 rfl rfl rfl (fun _ _ => rfl) rfl rfl (fun h => absurd h (by decide)) (fun _ => ⟨rfl, rfl⟩) (eqs_none rfl)
theorem ok80 : TI.Ok Try.prog 80 x80 := TI.ok_of Try.underlying80 rfl Try.type80 rfl rfl rfl (fun _ _ => rfl) rfl rfl (fun h => absurd h (by decide)) (fun _ => ⟨rfl, rfl⟩) (eqs_none rfl)
theorem ok86 : TI.Ok Try.prog 86 x86 := TI.ok_of Try.underlying86 rfl Try.type86 rfl rfl rfl (fun _ _ => rfl) rfl rfl (fun _ => rfl) (fun h => absurd h (by decide)) (eqs_none rfl)
theorem ok90 : TI.Ok Try.prog 90 x90 := TI.ok_of Try.underlying90 rfl Try.type90 rfl rfl rfl (fun _ _ => rfl) rfl rfl (fun h => absurd h (by decide)) (fun _ => ⟨rfl, rfl⟩) (eqs_none rfl)
theorem ok92 : TI.Ok Try.prog 92 x92 := TI.ok_of Try.underlying92 rfl Try.type92 rfl rfl rfl (fun _ _ => rfl) rfl rfl (fun h => absurd h (by decide)) (fun _ => ⟨rfl, rfl⟩) (eqs_none rfl)
theorem tt_ok : ∀ t x, tt.get t = some x → TI.Ok Try.prog t x := table_ok (Q := fun t x => TI.Ok Try.prog t x) (l := tl) (by kernel_rfl) (by kernel_rfl) (List.forall_mem_cons.2 ⟨ok3, (List.forall_mem_cons.2 ⟨ok4, (List.forall_mem_cons.2 ⟨ok5, (List.forall_mem_cons.2 ⟨ok9, (List.forall_mem_cons.2 ⟨ok22, (List.forall_mem_cons.2 ⟨ok24, (List.forall_mem_cons.2 ⟨ok26, (List.forall_mem_cons.2 ⟨ok28, (List.forall_mem_cons.2 ⟨ok29, (List.forall_mem_cons.2 ⟨ok32, (List.forall_mem_cons.2 ⟨ok49, (List.forall_mem_cons.2 ⟨ok53, (List.forall_mem_cons.2 ⟨ok55, (List.forall_mem_cons.2 ⟨ok57, (List.forall_mem_cons.2 ⟨ok67, (List.forall_mem_cons.2 ⟨ok72, (List.forall_mem_cons.2 ⟨ok77, (List.forall_mem_cons.2 ⟨ok80, (List.forall_mem_cons.2 ⟨ok86, (List.forall_mem_cons.2 ⟨ok90, (List.forall_mem_cons.2 ⟨ok92, (fun _ h => nomatch h)⟩)⟩)⟩)⟩)⟩)⟩)⟩)⟩)⟩)⟩)⟩)⟩)⟩)⟩)⟩)⟩)⟩)⟩)⟩)⟩)⟩)
theorem fok3 : FI.Ok Try.prog 3 (FI.of Try.f3 true) := FI.ok_of Try.func3 rfl (by kernel_rfl)
theorem fok4 : FI.Ok Try.prog 4 (FI.of Try.f4 true) := FI.ok_of Try.func4 rfl (by kernel_rfl)
theorem fok5 : FI.Ok Try.prog 5 (FI.of Try.f5 true) := FI.ok_of Try.func5 rfl (by kernel_rfl)
theorem fok6 : FI.Ok Try.prog 6 (FI.of Try.f6 true) := FI.ok_of Try.func6 rfl (by kernel_rfl)
theorem fok7 : FI.Ok Try.prog 7 (FI.of Try.f7 true) := FI.ok_of Try.func7 rfl (by kernel_rfl)
theorem fok8 : FI.Ok Try.prog 8 (FI.of Try.f8 true) := FI.ok_of Try.func8 rfl (by kernel_rfl)
theorem fok9 : FI.Ok Try.prog 9 (FI.of Try.f9 true) := FI.ok_of Try.func9 rfl (by kernel_rfl)
theorem fok10 : FI.Ok Try.prog 10 (FI.of Try.f10 true) := FI.ok_of Try.func10 rfl (by kernel_rfl)
theorem fok11 : FI.Ok Try.prog 11 (FI.of Try.f11 true) := FI.ok_of Try.func11 rfl (by kernel_rfl)
theorem fok12 : FI.Ok Try.prog 12 (FI.of Try.f12 true) := FI.ok_of Try.func12 rfl (by kernel_rfl)
theorem fok13 : FI.Ok Try.prog 13 (FI.of Try.f13 true) := FI.ok_of Try.func13 rfl (by kernel_rfl)
theorem fok14 : FI.Ok Try.prog 14 (FI.of Try.f14 true) := FI.ok_of Try.func14 rfl (by kernel_rfl)
theorem fok15 : FI.Ok Try.prog 15 (FI.of Try.f15 true) := FI.ok_of Try.func15 rfl (by kernel_rfl)
theorem fok16 : FI.Ok Try.prog 16 (FI.of Try.f16 true) := FI.ok_of Try.func16 rfl (by kernel_rfl)
theorem fok17 : FI.Ok Try.prog 17 (FI.of Try.f17 true) := FI.ok_of Try.func17 rfl (by kernel_rfl)
theorem fok18 : FI.Ok Try.prog 18 (FI.of Try.f18 true) := FI.ok_of Try.func18 rfl (by kernel_rfl)
theorem fok19 : FI.Ok Try.prog 19 (FI.of Try.f19 true) := FI.ok_of Try.func19 rfl (by kernel_rfl)
theorem fok20 : FI.Ok Try.prog 20 (FI.of Try.f20 true) := FI.ok_of Try.func20 rfl (by kernel_rfl)
theorem fok21 : FI.Ok Try.prog 21 (FI.of Try.f21 true) := FI.ok_of Try.func21 rfl (by kernel_rfl)
theorem fok22 : FI.Ok Try.prog 22 (FI.of Try.f22 true) := FI.ok_of Try.func22 rfl (by kernel_rfl)
theorem fok23 : FI.Ok Try.prog 23 (FI.of Try.f23 true) := FI.ok_of Try.func23 rfl (by kernel_rfl)
theorem fok24 : FI.Ok Try.prog 24 (FI.of Try.f24 true) := FI.ok_of Try.func24 rfl (by kernel_rfl)
theorem fok25 : FI.Ok Try.prog 25 (FI.of Try.f25 true) := FI.ok_of Try.func25 rfl (by kernel_rfl)
theorem fok26 : FI.Ok Try.prog 26 (FI.of Try.f26 true) := FI.ok_of Try.func26 rfl (by kernel_rfl)
theorem fok27 : FI.Ok Try.prog 27 (FI.of Try.f27 true) := FI.ok_of Try.func27 rfl (by kernel_rfl)
theorem fok28 : FI.Ok Try.prog 28 (FI.of Try.f28 true) := FI.ok_of Try.func28 rfl (by kernel_rfl)
theorem fok29 : FI.Ok Try.prog 29 (FI.of Try.f29 true) := FI.ok_of Try.func29 rfl (by kernel_rfl)
theorem fok30 : FI.Ok Try.prog 30 (FI.of Try.f30 true) := FI.ok_of Try.func30 rfl (by kernel_rfl)
theorem fok31 : FI.Ok Try.prog 31 (FI.of Try.f31 true) := FI.ok_of Try.func31 rfl (by kernel_rfl)
theorem fok32 : FI.Ok Try.prog 32 (FI.of Try.f32 true) := FI.ok_of Try.func32 rfl (by kernel_rfl)
theorem fok33 : FI.Ok Try.prog 33 (FI.of Try.f33 true) := FI.ok_of Try.func33 rfl (by kernel_rfl)
theorem fok34 : FI.Ok Try.prog 34 (FI.of Try.f34 true) := FI.ok_of Try.func34 rfl (by kernel_rfl)
theorem fok35 : FI.Ok Try.prog 35 (FI.of Try.f35 true) := FI.ok_of Try.func35 rfl (by kernel_rfl)
theorem fok36 : FI.Ok Try.prog 36 (FI.of Try.f36 true) := FI.ok_of Try.func36 rfl (by kernel_rfl)
theorem fok37 : FI.Ok Try.prog 37 (FI.of Try.f37 true) := FI.ok_of Try.func37 rfl (by kernel_rfl)
theorem fok38 : FI.Ok Try.prog 38 (FI.of Try.f38 true) := FI.ok_of Try.func38 rfl (by kernel_rfl)
theorem fok39 : FI.Ok Try.prog 39 (FI.of Try.f39 true) := FI.ok_of Try.func39 rfl (by kernel_rfl)
theorem fok40 : FI.Ok Try.prog 40 (FI.of Try.f40 true) := FI.ok_of Try.func40 rfl (by kernel_rfl)
theorem fok41 : FI.Ok Try.prog 41 (FI.of Try.f41 true) := FI.ok_of Try.func41 rfl (by kernel_rfl)
theorem fok42 : FI.Ok Try.prog 42 (FI.of Try.f42 true) := FI.ok_of Try.func42 rfl (by kernel_rfl)
theorem fok43 : FI.Ok Try.prog 43 (FI.of Try.f43 true) := FI.ok_of Try.func43 rfl (by kernel_rfl)
theorem fok44 : FI.Ok Try.prog 44 (FI.of Try.f44 true) := FI.ok_of Try.func44 rfl (by kernel_rfl)
theorem fok45 : FI.Ok Try.prog 45 (FI.of Try.f45 true) := FI.ok_of Try.func45 rfl (by kernel_rfl)
theorem fok46 : FI.Ok Try.prog 46 (FI.of Try.f46 true) := FI.ok_of Try.func46 rfl (by kernel_rfl)
theorem fok47 : FI.Ok Try.prog 47 (FI.of Try.f47 true) := FI.ok_of Try.func47 rfl (by kernel_rfl)
theorem fok48 : FI.Ok Try.prog 48 (FI.of Try.f48 true) := FI.ok_of Try.func48 rfl (by kernel_rfl)
theorem fok49 : FI.Ok Try.prog 49 (FI.of Try.f49 true) := FI.ok_of Try.func49 rfl (by kernel_rfl)
theorem fok50 : FI.Ok Try.prog 50 (FI.of Try.f50 true) := FI.ok_of Try.func50 rfl (by kernel_rfl)
theorem fok51 : FI.Ok Try.prog 51 (FI.of Try.f51 true) := FI.ok_of Try.func51 rfl (by kernel_rfl)
theorem fok52 : FI.Ok Try.prog 52 (FI.of Try.f52 true) := FI.ok_of Try.func52 rfl (by kernel_rfl)
theorem fok53 : FI.Ok Try.prog 53 (FI.of Try.f53 true) := FI.ok_of Try.func53 rfl (by kernel_rfl)
theorem fok54 : FI.Ok Try.prog 54 (FI.of Try.f54 true) := FI.ok_of Try.func54 rfl (by kernel_rfl)
theorem fok55 : FI.Ok Try.prog 55 (FI.of Try.f55 true) := FI.ok_of Try.func55 rfl (by kernel_rfl)
theorem fok56 : FI.Ok Try.prog 56 (FI.of Try.f56 true) := FI.ok_of Try.func56 rfl (by kernel_rfl)
theorem fok57 : FI.Ok Try.prog 57 (FI.of Try.f57 true) := FI.ok_of Try.func57 rfl (by kernel_rfl)
theorem fok58 : FI.Ok Try.prog 58 (FI.of Try.f58 true) := FI.ok_of Try.func58 rfl (by kernel_rfl)
theorem fok59 : FI.Ok Try.prog 59 (FI.of Try.f59 true) := FI.ok_of Try.func59 rfl (by kernel_rfl)
theorem fok60 : FI.Ok Try.prog 60 (FI.of Try.f60 true) := FI.ok_of Try.func60 rfl (by kernel_rfl)
theorem fok61 : FI.Ok Try.prog 61 (FI.of Try.f61 true) := FI.ok_of Try.func61 rfl (by kernel_rfl)
theorem fok62 : FI.Ok Try.prog 62 (FI.of Try.f62 true) := FI.ok_of Try.func62 rfl (by kernel_rfl)
theorem fok63 : FI.Ok Try.prog 63 (FI.of Try.f63 true) := FI.ok_of Try.func63 rfl (by kernel_rfl)
theorem fok64 : FI.Ok Try.prog 64 (FI.of Try.f64 true) := FI.ok_of Try.func64 rfl (by kernel_rfl)
theorem fok65 : FI.Ok Try.prog 65 (FI.of Try.f65 true) := FI.ok_of Try.func65 rfl (by kernel_rfl)
theorem fok66 : FI.Ok Try.prog 66 (FI.of Try.f66 true) := FI.ok_of Try.func66 rfl (by kernel_rfl)
theorem fok68 : FI.Ok Try.prog 68 (FI.of Try.f68 true) := FI.ok_of Try.func68 rfl (by kernel_rfl)
theorem fok69 : FI.Ok Try.prog 69 (FI.of Try.f69 true) := FI.ok_of Try.func69 rfl (by kernel_rfl)
theorem fok70 : FI.Ok Try.prog 70 (FI.of Try.f70 true) := FI.ok_of Try.func70 rfl (by kernel_rfl)
theorem fok71 : FI.Ok Try.prog 71 (FI.of Try.f71 true) := FI.ok_of Try.func71 rfl (by kernel_rfl)
theorem fok72 : FI.Ok Try.prog 72 (FI.of Try.f72 true) := FI.ok_of Try.func72 rfl (by kernel_rfl)
theorem fok73 : FI.Ok Try.prog 73 (FI.of Try.f73 true) := FI.ok_of Try.func73 rfl (by kernel_rfl)
theorem fok76 : FI.Ok Try.prog 76 (FI.of Try.f76 true) := FI.ok_of Try.func76 rfl (by kernel_rfl)
theorem fok77 : FI.Ok Try.prog 77 (FI.of Try.f77 true) := FI.ok_of Try.func77 rfl (by kernel_rfl)
theorem fok79 : FI.Ok Try.prog 79 (FI.of Try.f79 true) := FI.ok_of Try.func79 rfl (by kernel_rfl)
theorem fok80 : FI.Ok Try.prog 80 (FI.of Try.f80 true) := FI.ok_of Try.func80 rfl (by kernel_rfl)
set_option maxRecDepth 100000 in
theorem ft_ok : ∀ f x, ft.get f = some x → FI.Ok Try.prog f x := table_ok (Q := fun f x => FI.Ok Try.prog f x) (l := fl) (by kernel_rfl) (by kernel_rfl) (List.forall_mem_cons.2 ⟨fok3, (List.forall_mem_cons.2 ⟨fok4, (List.forall_mem_cons.2 ⟨fok5, (List.forall_mem_cons.2 ⟨fok6, (List.forall_mem_cons.2 ⟨fok7, (List.forall_mem_cons.2 ⟨fok8, (List.forall_mem_cons.2 ⟨fok9, (List.forall_mem_cons.2 ⟨fok10, (List.forall_mem_cons.2 ⟨fok11, (List.forall_mem_cons.2 ⟨fok12, (List.forall_mem_cons.2 ⟨fok13, (List.forall_mem_cons.2 ⟨fok14, (List.forall_mem_cons.2 ⟨fok15, (List.forall_mem_cons.2 ⟨fok16, (List.forall_mem_cons.2 ⟨fok17, (List.forall_mem_cons.2 ⟨fok18, (List.forall_mem_cons.2 ⟨fok19, (List.forall_mem_cons.2 ⟨fok20, (List.forall_mem_cons.2 ⟨fok21, (List.forall_mem_cons.2 ⟨fok22, (List.forall_mem_cons.2 ⟨fok23, (List.forall_mem_cons.2 ⟨fok24, (List.forall_mem_cons.2 ⟨fok25, (List.forall_mem_cons.2 ⟨fok26, (List.forall_mem_cons.2 ⟨fok27, (List.forall_mem_cons.2 ⟨fok28, (List.forall_mem_cons.2 ⟨fok29, (List.forall_mem_cons.2 ⟨fok30, (List.forall_mem_cons.2 ⟨fok31, (List.forall_mem_cons.2 ⟨fok32, (List.forall_mem_cons.2 ⟨fok33, (List.forall_mem_cons.2 ⟨fok34, (List.forall_mem_cons.2 ⟨fok35, (List.forall_mem_cons.2 ⟨fok36, (List.forall_mem_cons.2 ⟨fok37, (List.forall_mem_cons.2 ⟨fok38, (List.forall_mem_cons.2 ⟨fok39, (List.forall_mem_cons.2 ⟨fok40, (List.forall_mem_cons.2 ⟨fok41, (List.forall_mem_cons.2 ⟨fok42, (List.forall_mem_cons.2 ⟨fok43, (List.forall_mem_cons.2 ⟨fok44, (List.forall_mem_cons.2 ⟨fok45, (List.forall_mem_cons.2 ⟨fok46, (List.forall_mem_cons.2 ⟨fok47, (List.forall_mem_cons.2 ⟨fok48, (List.forall_mem_cons.2 ⟨fok49, (List.forall_mem_cons.2 ⟨fok50, (List.forall_mem_cons.2 ⟨fok51, (List.forall_mem_cons.2 ⟨fok52, (List.forall_mem_cons.2 ⟨fok53, (List.forall_mem_cons.2 ⟨fok54, (List.forall_mem_cons.2 ⟨fok55, (List.forall_mem_cons.2 ⟨fok56, (List.forall_mem_cons.2 ⟨fok57, (List.forall_mem_cons.2 ⟨fok58, (List.forall_mem_cons.2 ⟨fok59, (List.forall_mem_cons.2 ⟨fok60, (List.forall_mem_cons.2 ⟨fok61, (List.forall_mem_cons.2 ⟨fok62, (List.forall_mem_cons.2 ⟨fok63, (List.forall_mem_cons.2 ⟨fok64, (List.forall_mem_cons.2 ⟨fok65, (List.forall_mem_cons.2 ⟨fok66, (List.forall_mem_cons.2 ⟨fok68, (List.forall_mem_cons.2 ⟨fok69, (List.forall_mem_cons.2 ⟨fok70, (List.forall_mem_cons.2 ⟨fok71, (List.forall_mem_cons.2 ⟨fok72, (List.forall_mem_cons.2 ⟨fok73, (List.forall_mem_cons.2 ⟨fok76, (List.forall_mem_cons.2 ⟨fok77, (List.forall_mem_cons.2 ⟨fok79, (List.forall_mem_cons.2 ⟨fok80, (fun _ h => nomatch h)⟩)⟩)⟩)⟩)⟩)⟩)⟩)⟩)⟩)⟩)⟩)⟩)⟩)⟩)⟩)⟩)⟩)⟩)⟩)⟩)⟩)⟩)⟩)⟩)⟩)⟩)⟩)⟩)⟩)⟩)⟩)⟩)⟩)⟩)⟩)⟩)⟩)⟩)⟩)⟩)⟩)⟩)⟩)⟩)⟩)⟩)⟩)⟩)⟩)⟩)⟩)⟩)⟩)⟩)⟩)⟩)⟩)⟩)⟩)⟩)⟩)⟩)⟩)⟩)⟩)⟩)⟩)⟩)⟩)⟩)⟩)⟩)⟩)⟩)
theorem mixed : Try.prog.follows .mixedOrders = true := by kernel_rfl
end Try
end Go.Ex

