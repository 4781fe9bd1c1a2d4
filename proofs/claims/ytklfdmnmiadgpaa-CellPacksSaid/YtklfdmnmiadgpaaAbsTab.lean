/- Written by a program of this session (envtext.py): the tables of types and functions. -/
import Derived.Test.YtklfdmnmiadgpaaProg
import Derived.Test.YtklfdmnmiadgpaaChecked
import Derived.Test.YtklfdmnmiadgpaaAbsCore27
import Derived.Laws.Externs
namespace Go.Proofs.YtklfdmnmiadgpaaAbs
open Go Go.Proofs
noncomputable def tab : List (TypeId × TI) := [
  (2, ⟨1, 8, [.int .i64 0], .int .i64, some (.one (.int .i64)), false⟩),
  (3, ⟨1, 8, [.int .i64 0], .int .i64, some (.one (.int .i64)), false⟩),
  (4, ⟨1, 1, [.bool false], .bool, some (.one .bool), false⟩),
  (5, ⟨1, 1, [.int .u8 0], .int .u8, some (.one (.int .u8)), false⟩),
  (6, ⟨1, 1, [.int .u8 0], .int .u8, some (.one (.int .u8)), false⟩),
  (7, ⟨4, 24, [.int .i64 0, .int .i64 0, .bool false, .int .u8 0], .struct [(0, 2), (1, 3), (2, 4), (3, 6)], some (.cons (.int .i64) (.cons (.int .i64) (.cons .bool (.one (.int .u8))))), true⟩),
  (8, ⟨4, 24, [.int .i64 0, .int .i64 0, .bool false, .int .u8 0], .struct [(0, 2), (1, 3), (2, 4), (3, 6)], some (.cons (.int .i64) (.cons (.int .i64) (.cons .bool (.one (.int .u8))))), true⟩),
  (9, ⟨1, 16, [.str []], .str, some (.one .str), false⟩),
  (10, ⟨1, 16, [.str []], .str, some (.one .str), false⟩),
  (11, ⟨1, 16, [.str []], .str, some (.one .str), false⟩),
  (12, ⟨1, 8, [.int .u64 0], .int .u64, some (.one (.int .u64)), false⟩),
  (13, ⟨2, 24, [.str [], .int .u64 0], .struct [(0, 9), (1, 12)], some (.cons .str (.one (.int .u64))), false⟩),
  (14, ⟨2, 24, [.str [], .int .u64 0], .struct [(0, 9), (1, 12)], some (.cons .str (.one (.int .u64))), false⟩),
  (15, ⟨1, 8, [.nilptr], .ptr 54, none, false⟩),
  (16, ⟨1, 8, [.nilptr], .ptr 57, none, false⟩),
  (17, ⟨1, 8, [.nilptr], .ptr 67, none, false⟩),
  (18, ⟨1, 8, [.nilptr], .struct [(0, 17)], none, false⟩),
  (19, ⟨1, 8, [.nilptr], .struct [(0, 17)], none, false⟩),
  (20, ⟨1, 16, [.any], .iface, none, false⟩),
  (21, ⟨1, 4, [.int .i32 0], .int .i32, some (.one (.int .i32)), false⟩),
  (23, ⟨1, 8, [.int .u64 0], .int .u64, some (.one (.int .u64)), false⟩),
  (25, ⟨3, 24, [.int .i64 0, .int .i64 0, .int .i64 0], .struct [(0, 3), (1, 3), (2, 3)], some (.cons (.int .i64) (.cons (.int .i64) (.one (.int .i64)))), true⟩),
  (26, ⟨3, 24, [.int .i64 0, .int .i64 0, .int .i64 0], .struct [(0, 3), (1, 3), (2, 3)], some (.cons (.int .i64) (.cons (.int .i64) (.one (.int .i64)))), true⟩),
  (29, ⟨5, 40, [.int .i32 0, .int .i64 0, .int .i64 0, .int .i64 0, .int .i64 0], .struct [(0, 21), (1, 3), (2, 26)], some (.cons (.int .i32) (.cons (.int .i64) (.cons (.int .i64) (.cons (.int .i64) (.one (.int .i64)))))), true⟩),
  (30, ⟨5, 40, [.int .i32 0, .int .i64 0, .int .i64 0, .int .i64 0, .int .i64 0], .struct [(0, 21), (1, 3), (2, 26)], some (.cons (.int .i32) (.cons (.int .i64) (.cons (.int .i64) (.cons (.int .i64) (.one (.int .i64)))))), true⟩),
  (34, ⟨2, 8, [.int .i32 0, .int .i32 0], .arr 2 21, some (.cons (.int .i32) (.one (.int .i32))), true⟩),
  (35, ⟨1, 24, [.nils], .slice 34, some (.one (.slice (.cons (.int .i32) (.one (.int .i32))))), false⟩),
  (37, ⟨1, 24, [.nils], .slice 3, some (.one (.slice (.one (.int .i64)))), false⟩),
  (40, ⟨3, 24, [.int .i64 0, .int .i64 0, .int .i64 0], .struct [(0, 3), (1, 3), (2, 3)], some (.cons (.int .i64) (.cons (.int .i64) (.one (.int .i64)))), true⟩),
  (41, ⟨1, 8, [.int .u64 0], .int .u64, some (.one (.int .u64)), false⟩),
  (47, ⟨1, 24, [.nils], .slice 49, some (.one (.slice (.cons (.int .i64) (.one (.int .i64))))), false⟩),
  (49, ⟨2, 16, [.int .i64 0, .int .i64 0], .arr 2 3, some (.cons (.int .i64) (.one (.int .i64))), true⟩),
  (53, ⟨4, 40, [.nilptr, .nilptr, .nilptr, .str []], .struct [(0, 17), (1, 17), (2, 17), (3, 9)], none, false⟩),
  (54, ⟨4, 40, [.nilptr, .nilptr, .nilptr, .str []], .struct [(0, 17), (1, 17), (2, 17), (3, 9)], none, false⟩),
  (55, ⟨0, 0, [], .arr 0 16, none, false⟩),
  (56, ⟨0, 0, [], .struct [(0, 55)], none, false⟩),
  (57, ⟨0, 0, [], .struct [(0, 55)], none, false⟩),
  (59, ⟨1, 4, [.int .u32 0], .int .u32, some (.one (.int .u32)), false⟩),
  (60, ⟨1, 1, [.int .u8 0], .int .u8, some (.one (.int .u8)), false⟩),
  (61, ⟨1, 1, [.int .u8 0], .int .u8, some (.one (.int .u8)), false⟩),
  (63, ⟨1, 8, [.nilptr], .ptr 5, none, false⟩),
  (64, ⟨1, 4, [.int .i32 0], .int .i32, some (.one (.int .i32)), false⟩),
  (65, ⟨1, 4, [.int .i32 0], .int .i32, some (.one (.int .i32)), false⟩),
  (66, ⟨11, 48, [.int .u64 0, .int .u64 0, .int .u32 0, .int .u8 0, .int .u8 0, .int .u8 0, .int .u8 0, .any, .nilptr, .int .i32 0, .int .i32 0], .struct [(0, 12), (1, 12), (2, 59), (3, 60), (4, 5), (5, 5), (6, 61), (7, 62), (8, 63), (9, 64), (10, 65)], none, false⟩),
  (67, ⟨11, 48, [.int .u64 0, .int .u64 0, .int .u32 0, .int .u8 0, .int .u8 0, .int .u8 0, .int .u8 0, .any, .nilptr, .int .i32 0, .int .i32 0], .struct [(0, 12), (1, 12), (2, 59), (3, 60), (4, 5), (5, 5), (6, 61), (7, 62), (8, 63), (9, 64), (10, 65)], none, false⟩),
  (68, ⟨1, 8, [.nilptr], .uptr, none, false⟩)]
noncomputable def fnTab : List (FuncId × Func) := [(0, Try.f0), (1, Try.f1), (2, Try.f2), (3, Try.f3), (4, Try.f4), (5, Try.f5), (6, Try.f6), (7, Try.f7), (8, Try.f8), (9, Try.f9), (10, Try.f10), (11, Try.f11), (12, Try.f12), (13, Try.f13), (14, Try.f14), (15, Try.f15), (16, Try.f16), (17, Try.f17), (18, Try.f18), (19, Try.f19), (20, Try.f20), (21, Try.f21), (22, Try.f22), (23, Try.f23), (24, Try.f24), (25, Try.f25), (26, Try.f26), (27, Try.f27), (28, Try.f28), (29, Try.f29), (30, Try.f30), (31, Try.f31), (32, Try.f32), (33, Try.f33), (34, Try.f34), (35, Try.f35), (36, Try.f36), (37, Try.f37), (38, Try.f38), (39, Try.f39), (40, Try.f40), (41, Try.f41)]
theorem tab_is : TabOk Try.prog tab := tabOk_of (by kernel_rfl) (by kernel_rfl)
theorem fnTab_is : AllFn Try.prog fnTab := ⟨⟨Try.func0, by kernel_rfl⟩, ⟨⟨Try.func1, by kernel_rfl⟩, ⟨⟨Try.func2, by kernel_rfl⟩, ⟨⟨Try.func3, by kernel_rfl⟩, ⟨⟨Try.func4, by kernel_rfl⟩, ⟨⟨Try.func5, by kernel_rfl⟩, ⟨⟨Try.func6, by kernel_rfl⟩, ⟨⟨Try.func7, by kernel_rfl⟩, ⟨⟨Try.func8, by kernel_rfl⟩, ⟨⟨Try.func9, by kernel_rfl⟩, ⟨⟨Try.func10, by kernel_rfl⟩, ⟨⟨Try.func11, by kernel_rfl⟩, ⟨⟨Try.func12, by kernel_rfl⟩, ⟨⟨Try.func13, by kernel_rfl⟩, ⟨⟨Try.func14, by kernel_rfl⟩, ⟨⟨Try.func15, by kernel_rfl⟩, ⟨⟨Try.func16, by kernel_rfl⟩, ⟨⟨Try.func17, by kernel_rfl⟩, ⟨⟨Try.func18, by kernel_rfl⟩, ⟨⟨Try.func19, by kernel_rfl⟩, ⟨⟨Try.func20, by kernel_rfl⟩, ⟨⟨Try.func21, by kernel_rfl⟩, ⟨⟨Try.func22, by kernel_rfl⟩, ⟨⟨Try.func23, by kernel_rfl⟩, ⟨⟨Try.func24, by kernel_rfl⟩, ⟨⟨Try.func25, by kernel_rfl⟩, ⟨⟨Try.func26, by kernel_rfl⟩, ⟨⟨Try.func27, by kernel_rfl⟩, ⟨⟨Try.func28, by kernel_rfl⟩, ⟨⟨Try.func29, by kernel_rfl⟩, ⟨⟨Try.func30, by kernel_rfl⟩, ⟨⟨Try.func31, by kernel_rfl⟩, ⟨⟨Try.func32, by kernel_rfl⟩, ⟨⟨Try.func33, by kernel_rfl⟩, ⟨⟨Try.func34, by kernel_rfl⟩, ⟨⟨Try.func35, by kernel_rfl⟩, ⟨⟨Try.func36, by kernel_rfl⟩, ⟨⟨Try.func37, by kernel_rfl⟩, ⟨⟨Try.func38, by kernel_rfl⟩, ⟨⟨Try.func39, by kernel_rfl⟩, ⟨⟨Try.func40, by kernel_rfl⟩, ⟨⟨Try.func41, by kernel_rfl⟩, trivial⟩⟩⟩⟩⟩⟩⟩⟩⟩⟩⟩⟩⟩⟩⟩⟩⟩⟩⟩⟩⟩⟩⟩⟩⟩⟩⟩⟩⟩⟩⟩⟩⟩⟩⟩⟩⟩⟩⟩⟩⟩⟩
theorem ext_is : ∀ f, (fun _ => false : FuncId → Bool) f = true → ∀ (x : Value) (w : World), (callFunc f #[x]).run Try.prog w = .ok (.value x) w := fun f hf => by cases hf
noncomputable def env0 : Env := { tab := tab, fn := fnFind fnTab, call := fun _ _ => none, loop := fun _ _ _ => none, own := fun _ _ => false, fuel := 10000, ext := fun _ => false }
theorem pure_is : PureOk Try.prog env0 := ⟨ext_is, fun f H args h v nb e => by cases e⟩
theorem env0_ok : EnvOk Try.prog env0 where
  tab := tab_is
  fn := fun f fn e => fnFind_ok fnTab_is e
  call := fun R f H e => by cases e
  loop := fun R f fn c a _ _ _ n H s K res _ e => by cases e
  draw := fun R f call hc => drawn_ok tab_is pure_is (Checked.mixed Try.checked) hc
  pure := pure_is
theorem env_of {E : Env} (ht : E.tab = tab) (hf : E.fn = fnFind fnTab) (hc : ∀ R f, E.call R f = none) (hl : ∀ R f n, E.loop R f n = none) (hp : PureOk Try.prog E) : EnvOk Try.prog E where
  tab := by rw [ht]; exact tab_is
  fn := fun f fn e => fnFind_ok fnTab_is (by rw [hf] at e; exact e)
  call := fun R f H e => by rw [hc] at e; cases e
  loop := fun R f fn c a _ _ _ n H s K res _ e => by rw [hl] at e; cases e
  draw := fun R f call hcc => drawn_ok (by rw [ht]; exact tab_is) hp (Checked.mixed Try.checked) hcc
  pure := hp
/-- Runs over letters: values aren't forced; some functions are taken by what is known of them. -/
noncomputable def envS (l : List (FuncId × (List AV → Option AV))) : Env := { env0 with frc := false, cmp := false, pure := pureFind l }
theorem envS_ok {l : List (FuncId × (List AV → Option AV))} (h : AllSum Try.prog l) : EnvOk Try.prog (envS l) :=
  env_of rfl rfl (fun _ _ => rfl) (fun _ _ _ => rfl) (pureFind_ok h ext_is rfl)
end Go.Proofs.YtklfdmnmiadgpaaAbs
