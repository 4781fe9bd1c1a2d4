/- Written by a program of this session (envtext.py): the tables of types and functions. -/
import Derived.Test.YtmgchpgpgjolfaaProg
import Derived.Test.YtmgchpgpgjolfaaChecked
import Derived.Test.YtmgchpgpgjolfaaAbsCore20
import Derived.Laws.Externs
namespace Go.Proofs.YtmgchpgpgjolfaaAbs
open Go Go.Proofs
noncomputable def tab : List (TypeId × TI) := [
  (2, ⟨1, 8, [.int .i64 0], .int .i64, some (.one (.int .i64)), false⟩),
  (3, ⟨1, 8, [.int .i64 0], .int .i64, some (.one (.int .i64)), false⟩),
  (4, ⟨1, 1, [.bool false], .bool, some (.one .bool), false⟩),
  (5, ⟨1, 1, [.int .u8 0], .int .u8, some (.one (.int .u8)), false⟩),
  (6, ⟨1, 1, [.int .u8 0], .int .u8, some (.one (.int .u8)), false⟩),
  (7, ⟨4, 24, [.int .i64 0, .int .i64 0, .bool false, .int .u8 0], .struct [(0, 2), (1, 3), (2, 4), (3, 6)], some (.cons (.int .i64) (.cons (.int .i64) (.cons .bool (.one (.int .u8))))), true⟩),
  (8, ⟨4, 24, [.int .i64 0, .int .i64 0, .bool false, .int .u8 0], .struct [(0, 2), (1, 3), (2, 4), (3, 6)], some (.cons (.int .i64) (.cons (.int .i64) (.cons .bool (.one (.int .u8))))), true⟩),
  (9, ⟨1, 16, [.str []], .str, some (.one .str), false⟩),
  (10, ⟨1, 16, [.str []], .str, some (.one .str), false⟩),
  (11, ⟨1, 16, [.str []], .str, some (.one .str), false⟩),
  (12, ⟨1, 8, [.int .u64 0], .int .u64, some (.one (.int .u64)), false⟩),
  (13, ⟨2, 24, [.str [], .int .u64 0], .struct [(0, 9), (1, 12)], some (.cons .str (.one (.int .u64))), false⟩),
  (14, ⟨2, 24, [.str [], .int .u64 0], .struct [(0, 9), (1, 12)], some (.cons .str (.one (.int .u64))), false⟩),
  (15, ⟨1, 8, [.nilptr], .ptr 59, none, false⟩),
  (16, ⟨1, 8, [.nilptr], .ptr 62, none, false⟩),
  (17, ⟨1, 8, [.nilptr], .ptr 72, none, false⟩),
  (18, ⟨1, 8, [.nilptr], .struct [(0, 17)], none, false⟩),
  (19, ⟨1, 8, [.nilptr], .struct [(0, 17)], none, false⟩),
  (20, ⟨1, 16, [.any], .iface, none, false⟩),
  (21, ⟨1, 4, [.int .i32 0], .int .i32, some (.one (.int .i32)), false⟩),
  (22, ⟨1, 8, [.nilptr], .ptr 42, none, false⟩),
  (24, ⟨1, 24, [.nils], .slice 30, some (.one (.slice (.cons (.int .i64) (.cons (.int .i32) (.cons (.int .u8) (.cons (.int .u8) (.cons (.int .u8) (.cons (.slice (.one (.int .i64))) (.one .str))))))))), false⟩),
  (26, ⟨1, 24, [.nils], .slice 5, some (.one (.slice (.one (.int .u8)))), false⟩),
  (28, ⟨1, 24, [.nils], .slice 3, some (.one (.slice (.one (.int .i64)))), false⟩),
  (29, ⟨7, 56, [.int .i64 0, .int .i32 0, .int .u8 0, .int .u8 0, .int .u8 0, .nils, .str []], .struct [(0, 3), (1, 21), (2, 5), (3, 5), (4, 5), (5, 28), (6, 9)], some (.cons (.int .i64) (.cons (.int .i32) (.cons (.int .u8) (.cons (.int .u8) (.cons (.int .u8) (.cons (.slice (.one (.int .i64))) (.one .str))))))), false⟩),
  (30, ⟨7, 56, [.int .i64 0, .int .i32 0, .int .u8 0, .int .u8 0, .int .u8 0, .nils, .str []], .struct [(0, 3), (1, 21), (2, 5), (3, 5), (4, 5), (5, 28), (6, 9)], some (.cons (.int .i64) (.cons (.int .i32) (.cons (.int .u8) (.cons (.int .u8) (.cons (.int .u8) (.cons (.slice (.one (.int .i64))) (.one .str))))))), false⟩),
  (39, ⟨3, 24, [.int .i64 0, .int .i64 0, .int .i64 0], .struct [(0, 3), (1, 3), (2, 3)], some (.cons (.int .i64) (.cons (.int .i64) (.one (.int .i64)))), true⟩),
  (40, ⟨3, 24, [.int .i64 0, .int .i64 0, .int .i64 0], .struct [(0, 3), (1, 3), (2, 3)], some (.cons (.int .i64) (.cons (.int .i64) (.one (.int .i64)))), true⟩),
  (41, ⟨12, 128, [.int .i64 0, .int .i64 0, .int .i64 0, .int .i64 0, .nils, .bool false, .int .u8 0, .nils, .bool false, .bool false, .nils, .bool false], .struct [(0, 3), (1, 40), (4, 26), (5, 4), (6, 5), (7, 28), (8, 4), (9, 4), (10, 26), (11, 4)], some (.cons (.int .i64) (.cons (.int .i64) (.cons (.int .i64) (.cons (.int .i64) (.cons (.slice (.one (.int .u8))) (.cons .bool (.cons (.int .u8) (.cons (.slice (.one (.int .i64))) (.cons .bool (.cons .bool (.cons (.slice (.one (.int .u8))) (.one .bool)))))))))))), false⟩),
  (42, ⟨12, 128, [.int .i64 0, .int .i64 0, .int .i64 0, .int .i64 0, .nils, .bool false, .int .u8 0, .nils, .bool false, .bool false, .nils, .bool false], .struct [(0, 3), (1, 40), (4, 26), (5, 4), (6, 5), (7, 28), (8, 4), (9, 4), (10, 26), (11, 4)], some (.cons (.int .i64) (.cons (.int .i64) (.cons (.int .i64) (.cons (.int .i64) (.cons (.slice (.one (.int .u8))) (.cons .bool (.cons (.int .u8) (.cons (.slice (.one (.int .i64))) (.cons .bool (.cons .bool (.cons (.slice (.one (.int .u8))) (.one .bool)))))))))))), false⟩),
  (49, ⟨1, 24, [.nils], .slice 21, some (.one (.slice (.one (.int .i32)))), false⟩),
  (55, ⟨1, 8, [.int .u64 0], .int .u64, some (.one (.int .u64)), false⟩),
  (58, ⟨4, 40, [.nilptr, .nilptr, .nilptr, .str []], .struct [(0, 17), (1, 17), (2, 17), (3, 9)], none, false⟩),
  (59, ⟨4, 40, [.nilptr, .nilptr, .nilptr, .str []], .struct [(0, 17), (1, 17), (2, 17), (3, 9)], none, false⟩),
  (60, ⟨0, 0, [], .arr 0 16, none, false⟩),
  (61, ⟨0, 0, [], .struct [(0, 60)], none, false⟩),
  (62, ⟨0, 0, [], .struct [(0, 60)], none, false⟩),
  (64, ⟨1, 4, [.int .u32 0], .int .u32, some (.one (.int .u32)), false⟩),
  (65, ⟨1, 1, [.int .u8 0], .int .u8, some (.one (.int .u8)), false⟩),
  (66, ⟨1, 1, [.int .u8 0], .int .u8, some (.one (.int .u8)), false⟩),
  (68, ⟨1, 8, [.nilptr], .ptr 5, none, false⟩),
  (69, ⟨1, 4, [.int .i32 0], .int .i32, some (.one (.int .i32)), false⟩),
  (70, ⟨1, 4, [.int .i32 0], .int .i32, some (.one (.int .i32)), false⟩),
  (71, ⟨11, 48, [.int .u64 0, .int .u64 0, .int .u32 0, .int .u8 0, .int .u8 0, .int .u8 0, .int .u8 0, .any, .nilptr, .int .i32 0, .int .i32 0], .struct [(0, 12), (1, 12), (2, 64), (3, 65), (4, 5), (5, 5), (6, 66), (7, 67), (8, 68), (9, 69), (10, 70)], none, false⟩),
  (72, ⟨11, 48, [.int .u64 0, .int .u64 0, .int .u32 0, .int .u8 0, .int .u8 0, .int .u8 0, .int .u8 0, .any, .nilptr, .int .i32 0, .int .i32 0], .struct [(0, 12), (1, 12), (2, 64), (3, 65), (4, 5), (5, 5), (6, 66), (7, 67), (8, 68), (9, 69), (10, 70)], none, false⟩),
  (73, ⟨1, 8, [.nilptr], .uptr, none, false⟩)]
noncomputable def fnTab : List (FuncId × Func) := [(0, Try.f0), (1, Try.f1), (2, Try.f2), (3, Try.f3), (4, Try.f4), (5, Try.f5), (6, Try.f6), (7, Try.f7), (8, Try.f8), (9, Try.f9), (10, Try.f10), (11, Try.f11), (12, Try.f12), (13, Try.f13), (14, Try.f14), (15, Try.f15), (16, Try.f16), (17, Try.f17), (18, Try.f18), (19, Try.f19), (20, Try.f20), (21, Try.f21), (22, Try.f22), (23, Try.f23), (24, Try.f24), (25, Try.f25), (26, Try.f26), (27, Try.f27), (28, Try.f28), (29, Try.f29), (30, Try.f30), (31, Try.f31), (32, Try.f32), (33, Try.f33), (34, Try.f34), (35, Try.f35), (36, Try.f36), (37, Try.f37), (38, Try.f38), (39, Try.f39), (40, Try.f40), (41, Try.f41), (42, Try.f42), (43, Try.f43), (44, Try.f44), (45, Try.f45), (46, Try.f46), (47, Try.f47), (48, Try.f48), (49, Try.f49)]
theorem tab_is : TabOk Try.prog tab := tabOk_of (by kernel_rfl) (by kernel_rfl)
theorem fnTab_is : AllFn Try.prog fnTab := ⟨⟨Try.func0, by kernel_rfl⟩, ⟨⟨Try.func1, by kernel_rfl⟩, ⟨⟨Try.func2, by kernel_rfl⟩, ⟨⟨Try.func3, by kernel_rfl⟩, ⟨⟨Try.func4, by kernel_rfl⟩, ⟨⟨Try.func5, by kernel_rfl⟩, ⟨⟨Try.func6, by kernel_rfl⟩, ⟨⟨Try.func7, by kernel_rfl⟩, ⟨⟨Try.func8, by kernel_rfl⟩, ⟨⟨Try.func9, by kernel_rfl⟩, ⟨⟨Try.func10, by kernel_rfl⟩, ⟨⟨Try.func11, by kernel_rfl⟩, ⟨⟨Try.func12, by kernel_rfl⟩, ⟨⟨Try.func13, by kernel_rfl⟩, ⟨⟨Try.func14, by kernel_rfl⟩, ⟨⟨Try.func15, by kernel_rfl⟩, ⟨⟨Try.func16, by kernel_rfl⟩, ⟨⟨Try.func17, by kernel_rfl⟩, ⟨⟨Try.func18, by kernel_rfl⟩, ⟨⟨Try.func19, by kernel_rfl⟩, ⟨⟨Try.func20, by kernel_rfl⟩, ⟨⟨Try.func21, by kernel_rfl⟩, ⟨⟨Try.func22, by kernel_rfl⟩, ⟨⟨Try.func23, by kernel_rfl⟩, ⟨⟨Try.func24, by kernel_rfl⟩, ⟨⟨Try.func25, by kernel_rfl⟩, ⟨⟨Try.func26, by kernel_rfl⟩, ⟨⟨Try.func27, by kernel_rfl⟩, ⟨⟨Try.func28, by kernel_rfl⟩, ⟨⟨Try.func29, by kernel_rfl⟩, ⟨⟨Try.func30, by kernel_rfl⟩, ⟨⟨Try.func31, by kernel_rfl⟩, ⟨⟨Try.func32, by kernel_rfl⟩, ⟨⟨Try.func33, by kernel_rfl⟩, ⟨⟨Try.func34, by kernel_rfl⟩, ⟨⟨Try.func35, by kernel_rfl⟩, ⟨⟨Try.func36, by kernel_rfl⟩, ⟨⟨Try.func37, by kernel_rfl⟩, ⟨⟨Try.func38, by kernel_rfl⟩, ⟨⟨Try.func39, by kernel_rfl⟩, ⟨⟨Try.func40, by kernel_rfl⟩, ⟨⟨Try.func41, by kernel_rfl⟩, ⟨⟨Try.func42, by kernel_rfl⟩, ⟨⟨Try.func43, by kernel_rfl⟩, ⟨⟨Try.func44, by kernel_rfl⟩, ⟨⟨Try.func45, by kernel_rfl⟩, ⟨⟨Try.func46, by kernel_rfl⟩, ⟨⟨Try.func47, by kernel_rfl⟩, ⟨⟨Try.func48, by kernel_rfl⟩, ⟨⟨Try.func49, by kernel_rfl⟩, trivial⟩⟩⟩⟩⟩⟩⟩⟩⟩⟩⟩⟩⟩⟩⟩⟩⟩⟩⟩⟩⟩⟩⟩⟩⟩⟩⟩⟩⟩⟩⟩⟩⟩⟩⟩⟩⟩⟩⟩⟩⟩⟩⟩⟩⟩⟩⟩⟩⟩⟩
theorem ext_is : ∀ f, (fun _ => false : FuncId → Bool) f = true → ∀ (x : Value) (w : World), (callFunc f #[x]).run Try.prog w = .ok (.value x) w := fun f hf => by cases hf
noncomputable def env0 : Env := { tab := tab, fn := fnFind fnTab, call := fun _ _ => none, loop := fun _ _ _ => none, own := fun f d => (Nat.beq f 3 && Nat.beq d 7) || (Nat.beq f 5 && Nat.beq d 39) || (Nat.beq f 7 && Nat.beq d 46) || (Nat.beq f 30 && Nat.beq d 13), fuel := 10000, ext := fun _ => false }
theorem pure_is : PureOk Try.prog env0 := ⟨ext_is, fun f H args h v nb e => by cases e⟩
theorem env0_ok : EnvOk Try.prog env0 where
  tab := tab_is
  fn := fun f fn e => fnFind_ok fnTab_is e
  call := fun R f H e => by cases e
  loop := fun R f fn c a _ _ _ n H s K res _ e => by cases e
  draw := fun R f call hc => drawn_ok tab_is pure_is (Checked.mixed Try.checked) hc
  pure := pure_is
end Go.Proofs.YtmgchpgpgjolfaaAbs
