/- Written by a program of this session (envtext.py): the tables of types and functions. -/
import Derived.Test.YtbaggedkejiakaaProg
import Derived.Test.YtbaggedkejiakaaChecked
import Derived.Test.YtbaggedkejiakaaAbsCore20
import Derived.Laws.Externs
namespace Go.Proofs.YtbaggedkejiakaaAbs
open Go Go.Proofs
noncomputable def tab : List (TypeId × TI) := [
  (2, ⟨1, 8, [.int .i64 0], .int .i64, some (.one (.int .i64)), false⟩),
  (3, ⟨1, 8, [.int .i64 0], .int .i64, some (.one (.int .i64)), false⟩),
  (4, ⟨1, 1, [.bool false], .bool, some (.one .bool), false⟩),
  (5, ⟨1, 1, [.int .u8 0], .int .u8, some (.one (.int .u8)), false⟩),
  (6, ⟨1, 1, [.int .u8 0], .int .u8, some (.one (.int .u8)), false⟩),
  (7, ⟨4, 24, [.int .i64 0, .int .i64 0, .bool false, .int .u8 0], .struct [(0, 2), (1, 3), (2, 4), (3, 6)], some (.cons (.int .i64) (.cons (.int .i64) (.cons .bool (.one (.int .u8))))), true⟩),
  (8, ⟨4, 24, [.int .i64 0, .int .i64 0, .bool false, .int .u8 0], .struct [(0, 2), (1, 3), (2, 4), (3, 6)], some (.cons (.int .i64) (.cons (.int .i64) (.cons .bool (.one (.int .u8))))), true⟩),
  (9, ⟨1, 16, [.str []], .str, some (.one .str), false⟩),
  (10, ⟨1, 16, [.str []], .str, some (.one .str), false⟩),
  (11, ⟨1, 16, [.str []], .str, some (.one .str), false⟩),
  (12, ⟨1, 8, [.int .u64 0], .int .u64, some (.one (.int .u64)), false⟩),
  (13, ⟨2, 24, [.str [], .int .u64 0], .struct [(0, 9), (1, 12)], some (.cons .str (.one (.int .u64))), false⟩),
  (14, ⟨2, 24, [.str [], .int .u64 0], .struct [(0, 9), (1, 12)], some (.cons .str (.one (.int .u64))), false⟩),
  (15, ⟨1, 8, [.nilptr], .ptr 99, none, false⟩),
  (16, ⟨1, 8, [.nilptr], .ptr 102, none, false⟩),
  (17, ⟨1, 8, [.nilptr], .ptr 110, none, false⟩),
  (18, ⟨1, 8, [.nilptr], .struct [(0, 17)], none, false⟩),
  (19, ⟨1, 8, [.nilptr], .struct [(0, 17)], none, false⟩),
  (20, ⟨1, 16, [.any], .iface, none, false⟩),
  (21, ⟨1, 4, [.int .i32 0], .int .i32, some (.one (.int .i32)), false⟩),
  (22, ⟨3, 24, [.int .i64 0, .int .i64 0, .int .i64 0], .struct [(0, 3), (1, 3), (2, 3)], some (.cons (.int .i64) (.cons (.int .i64) (.one (.int .i64)))), true⟩),
  (23, ⟨3, 24, [.int .i64 0, .int .i64 0, .int .i64 0], .struct [(0, 3), (1, 3), (2, 3)], some (.cons (.int .i64) (.cons (.int .i64) (.one (.int .i64)))), true⟩),
  (24, ⟨1, 24, [.nils], .slice 32, some (.one (.slice (.cons (.int .i32) (.cons (.int .i64) (.cons (.int .i64) (.cons (.int .i64) (.one (.int .i64)))))))), false⟩),
  (25, ⟨3, 40, [.int .i64 0, .int .i64 0, .nils], .struct [(0, 3), (1, 3), (2, 24)], some (.cons (.int .i64) (.cons (.int .i64) (.one (.slice (.cons (.int .i32) (.cons (.int .i64) (.cons (.int .i64) (.cons (.int .i64) (.one (.int .i64)))))))))), false⟩),
  (26, ⟨3, 40, [.int .i64 0, .int .i64 0, .nils], .struct [(0, 3), (1, 3), (2, 24)], some (.cons (.int .i64) (.cons (.int .i64) (.one (.slice (.cons (.int .i32) (.cons (.int .i64) (.cons (.int .i64) (.cons (.int .i64) (.one (.int .i64)))))))))), false⟩),
  (31, ⟨5, 40, [.int .i32 0, .int .i64 0, .int .i64 0, .int .i64 0, .int .i64 0], .struct [(0, 21), (1, 3), (2, 23)], some (.cons (.int .i32) (.cons (.int .i64) (.cons (.int .i64) (.cons (.int .i64) (.one (.int .i64)))))), true⟩),
  (32, ⟨5, 40, [.int .i32 0, .int .i64 0, .int .i64 0, .int .i64 0, .int .i64 0], .struct [(0, 21), (1, 3), (2, 23)], some (.cons (.int .i32) (.cons (.int .i64) (.cons (.int .i64) (.cons (.int .i64) (.one (.int .i64)))))), true⟩),
  (34, ⟨1, 24, [.nils], .slice 3, some (.one (.slice (.one (.int .i64)))), false⟩),
  (35, ⟨4, 64, [.int .i64 0, .int .i64 0, .nils, .nils], .struct [(0, 3), (1, 3), (2, 34), (3, 34)], some (.cons (.int .i64) (.cons (.int .i64) (.cons (.slice (.one (.int .i64))) (.one (.slice (.one (.int .i64))))))), false⟩),
  (36, ⟨4, 64, [.int .i64 0, .int .i64 0, .nils, .nils], .struct [(0, 3), (1, 3), (2, 34), (3, 34)], some (.cons (.int .i64) (.cons (.int .i64) (.cons (.slice (.one (.int .i64))) (.one (.slice (.one (.int .i64))))))), false⟩),
  (46, ⟨3, 24, [.int .i64 0, .int .i64 0, .int .i64 0], .struct [(0, 3), (1, 3), (2, 3)], some (.cons (.int .i64) (.cons (.int .i64) (.one (.int .i64)))), true⟩),
  (47, ⟨1, 24, [.nils], .slice 49, some (.one (.slice (.cons (.int .i64) (.cons (.int .i64) (.cons (.int .i64) (.cons (.int .i64) (.cons (.int .i32) (.cons (.int .i64) (.cons (.int .i64) (.one (.int .i64))))))))))), false⟩),
  (48, ⟨8, 64, [.int .i64 0, .int .i64 0, .int .i64 0, .int .i64 0, .int .i32 0, .int .i64 0, .int .i64 0, .int .i64 0], .struct [(0, 3), (1, 3), (2, 3), (3, 3), (4, 21), (5, 46)], some (.cons (.int .i64) (.cons (.int .i64) (.cons (.int .i64) (.cons (.int .i64) (.cons (.int .i32) (.cons (.int .i64) (.cons (.int .i64) (.one (.int .i64))))))))), true⟩),
  (49, ⟨8, 64, [.int .i64 0, .int .i64 0, .int .i64 0, .int .i64 0, .int .i32 0, .int .i64 0, .int .i64 0, .int .i64 0], .struct [(0, 3), (1, 3), (2, 3), (3, 3), (4, 21), (5, 46)], some (.cons (.int .i64) (.cons (.int .i64) (.cons (.int .i64) (.cons (.int .i64) (.cons (.int .i32) (.cons (.int .i64) (.cons (.int .i64) (.one (.int .i64))))))))), true⟩),
  (53, ⟨1, 24, [.nils], .slice 21, some (.one (.slice (.one (.int .i32)))), false⟩),
  (62, ⟨1, 8, [.nilptr], .ptr 65, none, false⟩),
  (63, ⟨1, 24, [.nils], .slice 5, some (.one (.slice (.one (.int .u8)))), false⟩),
  (64, ⟨2, 32, [.nilptr, .nils], .struct [(0, 62), (1, 63)], none, false⟩),
  (65, ⟨2, 32, [.nilptr, .nils], .struct [(0, 62), (1, 63)], none, false⟩),
  (66, ⟨1, 16, [.any], .iface, none, false⟩),
  (67, ⟨1, 16, [.any], .iface, none, false⟩),
  (73, ⟨1, 24, [.nils], .slice 75, some (.one (.slice (.cons (.int .i64) (.one (.int .i64))))), false⟩),
  (75, ⟨2, 16, [.int .i64 0, .int .i64 0], .arr 2 3, some (.cons (.int .i64) (.one (.int .i64))), true⟩),
  (80, ⟨1, 8, [.int .u64 0], .int .u64, some (.one (.int .u64)), false⟩),
  (84, ⟨1, 8, [.nilptr], .ptr 5, none, false⟩),
  (87, ⟨2, 8, [.int .i32 0, .int .i32 0], .arr 2 21, some (.cons (.int .i32) (.one (.int .i32))), true⟩),
  (88, ⟨1, 24, [.nils], .slice 87, some (.one (.slice (.cons (.int .i32) (.one (.int .i32))))), false⟩),
  (89, ⟨1, 4, [.int .u32 0], .int .u32, some (.one (.int .u32)), false⟩),
  (92, ⟨1, 8, [.int .u64 0], .int .u64, some (.one (.int .u64)), false⟩),
  (95, ⟨1, 8, [.nilptr], .uptr, none, false⟩),
  (98, ⟨4, 40, [.nilptr, .nilptr, .nilptr, .str []], .struct [(0, 17), (1, 17), (2, 17), (3, 9)], none, false⟩),
  (99, ⟨4, 40, [.nilptr, .nilptr, .nilptr, .str []], .struct [(0, 17), (1, 17), (2, 17), (3, 9)], none, false⟩),
  (100, ⟨0, 0, [], .arr 0 16, none, false⟩),
  (101, ⟨0, 0, [], .struct [(0, 100)], none, false⟩),
  (102, ⟨0, 0, [], .struct [(0, 100)], none, false⟩),
  (104, ⟨1, 1, [.int .u8 0], .int .u8, some (.one (.int .u8)), false⟩),
  (105, ⟨1, 1, [.int .u8 0], .int .u8, some (.one (.int .u8)), false⟩),
  (107, ⟨1, 4, [.int .i32 0], .int .i32, some (.one (.int .i32)), false⟩),
  (108, ⟨1, 4, [.int .i32 0], .int .i32, some (.one (.int .i32)), false⟩),
  (109, ⟨11, 48, [.int .u64 0, .int .u64 0, .int .u32 0, .int .u8 0, .int .u8 0, .int .u8 0, .int .u8 0, .any, .nilptr, .int .i32 0, .int .i32 0], .struct [(0, 12), (1, 12), (2, 89), (3, 104), (4, 5), (5, 5), (6, 105), (7, 106), (8, 84), (9, 107), (10, 108)], none, false⟩),
  (110, ⟨11, 48, [.int .u64 0, .int .u64 0, .int .u32 0, .int .u8 0, .int .u8 0, .int .u8 0, .int .u8 0, .any, .nilptr, .int .i32 0, .int .i32 0], .struct [(0, 12), (1, 12), (2, 89), (3, 104), (4, 5), (5, 5), (6, 105), (7, 106), (8, 84), (9, 107), (10, 108)], none, false⟩)]
noncomputable def fnTab : List (FuncId × Func) := [(0, Try.f0), (1, Try.f1), (2, Try.f2), (3, Try.f3), (4, Try.f4), (5, Try.f5), (6, Try.f6), (7, Try.f7), (8, Try.f8), (9, Try.f9), (10, Try.f10), (11, Try.f11), (12, Try.f12), (13, Try.f13), (14, Try.f14), (15, Try.f15), (16, Try.f16), (17, Try.f17), (18, Try.f18), (19, Try.f19), (20, Try.f20), (21, Try.f21), (22, Try.f22), (23, Try.f23), (24, Try.f24), (25, Try.f25), (26, Try.f26), (27, Try.f27), (28, Try.f28), (29, Try.f29), (30, Try.f30), (31, Try.f31), (32, Try.f32), (33, Try.f33), (34, Try.f34), (35, Try.f35), (36, Try.f36), (37, Try.f37), (38, Try.f38), (39, Try.f39), (40, Try.f40), (41, Try.f41), (42, Try.f42), (43, Try.f43), (44, Try.f44), (45, Try.f45), (46, Try.f46), (47, Try.f47), (48, Try.f48), (49, Try.f49), (50, Try.f50), (51, Try.f51), (52, Try.f52), (53, Try.f53), (54, Try.f54), (55, Try.f55), (56, Try.f56), (57, Try.f57), (58, Try.f58), (59, Try.f59), (60, Try.f60), (61, Try.f61), (62, Try.f62), (63, Try.f63), (64, Try.f64), (65, Try.f65), (66, Try.f66), (67, Try.f67), (68, Try.f68), (69, Try.f69), (70, Try.f70), (71, Try.f71), (72, Try.f72), (73, Try.f73), (74, Try.f74), (75, Try.f75), (76, Try.f76), (77, Try.f77), (78, Try.f78)]
theorem tab_is : TabOk Try.prog tab := tabOk_of (by kernel_rfl) (by kernel_rfl)
theorem fnTab_is : AllFn Try.prog fnTab := ⟨⟨Try.func0, by kernel_rfl⟩, ⟨⟨Try.func1, by kernel_rfl⟩, ⟨⟨Try.func2, by kernel_rfl⟩, ⟨⟨Try.func3, by kernel_rfl⟩, ⟨⟨Try.func4, by kernel_rfl⟩, ⟨⟨Try.func5, by kernel_rfl⟩, ⟨⟨Try.func6, by kernel_rfl⟩, ⟨⟨Try.func7, by kernel_rfl⟩, ⟨⟨Try.func8, by kernel_rfl⟩, ⟨⟨Try.func9, by kernel_rfl⟩, ⟨⟨Try.func10, by kernel_rfl⟩, ⟨⟨Try.func11, by kernel_rfl⟩, ⟨⟨Try.func12, by kernel_rfl⟩, ⟨⟨Try.func13, by kernel_rfl⟩, ⟨⟨Try.func14, by kernel_rfl⟩, ⟨⟨Try.func15, by kernel_rfl⟩, ⟨⟨Try.func16, by kernel_rfl⟩, ⟨⟨Try.func17, by kernel_rfl⟩, ⟨⟨Try.func18, by kernel_rfl⟩, ⟨⟨Try.func19, by kernel_rfl⟩, ⟨⟨Try.func20, by kernel_rfl⟩, ⟨⟨Try.func21, by kernel_rfl⟩, ⟨⟨Try.func22, by kernel_rfl⟩, ⟨⟨Try.func23, by kernel_rfl⟩, ⟨⟨Try.func24, by kernel_rfl⟩, ⟨⟨Try.func25, by kernel_rfl⟩, ⟨⟨Try.func26, by kernel_rfl⟩, ⟨⟨Try.func27, by kernel_rfl⟩, ⟨⟨Try.func28, by kernel_rfl⟩, ⟨⟨Try.func29, by kernel_rfl⟩, ⟨⟨Try.func30, by kernel_rfl⟩, ⟨⟨Try.func31, by kernel_rfl⟩, ⟨⟨Try.func32, by kernel_rfl⟩, ⟨⟨Try.func33, by kernel_rfl⟩, ⟨⟨Try.func34, by kernel_rfl⟩, ⟨⟨Try.func35, by kernel_rfl⟩, ⟨⟨Try.func36, by kernel_rfl⟩, ⟨⟨Try.func37, by kernel_rfl⟩, ⟨⟨Try.func38, by kernel_rfl⟩, ⟨⟨Try.func39, by kernel_rfl⟩, ⟨⟨Try.func40, by kernel_rfl⟩, ⟨⟨Try.func41, by kernel_rfl⟩, ⟨⟨Try.func42, by kernel_rfl⟩, ⟨⟨Try.func43, by kernel_rfl⟩, ⟨⟨Try.func44, by kernel_rfl⟩, ⟨⟨Try.func45, by kernel_rfl⟩, ⟨⟨Try.func46, by kernel_rfl⟩, ⟨⟨Try.func47, by kernel_rfl⟩, ⟨⟨Try.func48, by kernel_rfl⟩, ⟨⟨Try.func49, by kernel_rfl⟩, ⟨⟨Try.func50, by kernel_rfl⟩, ⟨⟨Try.func51, by kernel_rfl⟩, ⟨⟨Try.func52, by kernel_rfl⟩, ⟨⟨Try.func53, by kernel_rfl⟩, ⟨⟨Try.func54, by kernel_rfl⟩, ⟨⟨Try.func55, by kernel_rfl⟩, ⟨⟨Try.func56, by kernel_rfl⟩, ⟨⟨Try.func57, by kernel_rfl⟩, ⟨⟨Try.func58, by kernel_rfl⟩, ⟨⟨Try.func59, by kernel_rfl⟩, ⟨⟨Try.func60, by kernel_rfl⟩, ⟨⟨Try.func61, by kernel_rfl⟩, ⟨⟨Try.func62, by kernel_rfl⟩, ⟨⟨Try.func63, by kernel_rfl⟩, ⟨⟨Try.func64, by kernel_rfl⟩, ⟨⟨Try.func65, by kernel_rfl⟩, ⟨⟨Try.func66, by kernel_rfl⟩, ⟨⟨Try.func67, by kernel_rfl⟩, ⟨⟨Try.func68, by kernel_rfl⟩, ⟨⟨Try.func69, by kernel_rfl⟩, ⟨⟨Try.func70, by kernel_rfl⟩, ⟨⟨Try.func71, by kernel_rfl⟩, ⟨⟨Try.func72, by kernel_rfl⟩, ⟨⟨Try.func73, by kernel_rfl⟩, ⟨⟨Try.func74, by kernel_rfl⟩, ⟨⟨Try.func75, by kernel_rfl⟩, ⟨⟨Try.func76, by kernel_rfl⟩, ⟨⟨Try.func77, by kernel_rfl⟩, ⟨⟨Try.func78, by kernel_rfl⟩, trivial⟩⟩⟩⟩⟩⟩⟩⟩⟩⟩⟩⟩⟩⟩⟩⟩⟩⟩⟩⟩⟩⟩⟩⟩⟩⟩⟩⟩⟩⟩⟩⟩⟩⟩⟩⟩⟩⟩⟩⟩⟩⟩⟩⟩⟩⟩⟩⟩⟩⟩⟩⟩⟩⟩⟩⟩⟩⟩⟩⟩⟩⟩⟩⟩⟩⟩⟩⟩⟩⟩⟩⟩⟩⟩⟩⟩⟩⟩⟩
theorem ext_is : ∀ f, (fun f => Nat.beq f 59) f = true → ∀ (x : Value) (w : World), (callFunc f #[x]).run Try.prog w = .ok (.value x) w := fun f hf x w => by
  have hf : f = 59 := Nat.eq_of_beq_eq_true hf
  subst hf
  rw [run_callFunc_extern Try.func59 (by kernel_rfl) (by kernel_rfl) (by kernel_rfl) (e := Extern.AbiNoEscape.same) (by kernel_rfl)]
  rw [Lib.run_noEscape]
  rfl
noncomputable def env0 : Env := { tab := tab, fn := fnFind fnTab, call := fun _ _ => none, loop := fun _ _ _ => none, own := fun _ _ => false, fuel := 10000, ext := fun f => Nat.beq f 59 }
theorem pure_is : PureOk Try.prog env0 := ⟨ext_is, fun f H args h v nb e => by cases e⟩
theorem env0_ok : EnvOk Try.prog env0 where
  tab := tab_is
  fn := fun f fn e => fnFind_ok fnTab_is e
  call := fun R f H e => by cases e
  loop := fun R f fn c a _ _ _ n H s K res _ e => by cases e
  draw := fun R f call hc => drawn_ok tab_is pure_is (Checked.mixed Try.checked) hc
  pure := pure_is
end Go.Proofs.YtbaggedkejiakaaAbs
