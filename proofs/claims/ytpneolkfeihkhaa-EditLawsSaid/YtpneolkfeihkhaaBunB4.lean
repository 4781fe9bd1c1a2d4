/- Texts of this session, joined (bundle2.py): D6, D7, GM1, GM2, GM3, GM4, GM5, GM6, GM7, GM8, GM9, GM10, GM11, GN1, GN2, GN3, GN4, GN5, GC, GE1, GE2, GE3, GE4, GE5. -/
import Derived.Test.YtpneolkfeihkhaaBunB3
-- Written by a program of this session (dec.py); Lean checks it.
namespace Go.Proofs.YtpneolkfeihkhaaAbs
open Go Go.Proofs
set_option linter.unusedVariables false
set_option maxHeartbeats 2000000
set_option maxRecDepth 100000
noncomputable def edit_shift_su : SumT := (57, sumW slices_Clone_api_Cell_A slices_Clone_api_Cell_B slices_Clone_api_Cell_G) :: (44, sumH edit_blanks_A edit_blanks_B true edit_blanks_G) :: sums0
theorem edit_shift_su_ok : AllSum Try.prog edit_shift_su := ⟨sumW_ok rfl rfl rfl slices_Clone_api_Cell_known, ⟨sumH_ok rfl rfl edit_blanks_known, sums0_ok⟩⟩
noncomputable def edit_shift_b11 : Code := ((Try.f36.body.map fun b => tailsAt b 11).getD []).headD .skip
theorem edit_shift_b11_is : (Try.f36.body.map fun b => tailsAt b 11) = some [edit_shift_b11] := by kernel_rfl
noncomputable def edit_shift_t11 : SkSt := ⟨(.gap 1 (.cons (.int .i64) (.cons (.int .i64) (.cons (.int .i64) (.gap 1 (.cst (.ptr 0 0) (.gap 3 (.cst (.ptr 1 0) (.cst (.ptr 2 0) (.cst (.ptr 3 0) (.cons (.int .i64) (.cons (.list (.cons (.int .i32) (.cons (.int .i64) (.cons (.int .i64) (.cons (.int .i64) (.one (.int .i64))))))) (.gap 60 .nil))))))))))))), (.var 27 (.cons (.int .i64) (.cons (.int .i64) (.cons (.list (.cons (.int .i32) (.cons (.int .i64) (.cons (.int .i64) (.cons (.int .i64) (.one (.int .i64))))))) .nil))) (.var 23 (.cons (.int .i64) (.cons (.int .i64) (.cons (.int .i64) .nil))) (.var 27 (.cons (.int .i64) (.cons (.int .i64) (.cst (.own 4 40 (.cons (.int .i32) (.cons (.int .i64) (.cons (.int .i64) (.cons (.int .i64) (.one (.int .i64))))))) .nil))) (.var 27 (.cons (.int .i64) (.cons (.int .i64) (.cst (.own 5 40 (.cons (.int .i32) (.cons (.int .i64) (.cons (.int .i64) (.cons (.int .i64) (.one (.int .i64))))))) .nil))) (.arr 40 (.cons (.int .i32) (.cons (.int .i64) (.cons (.int .i64) (.cons (.int .i64) (.one (.int .i64)))))) (.arr 40 (.cons (.int .i32) (.cons (.int .i64) (.cons (.int .i64) (.cons (.int .i64) (.one (.int .i64)))))) .nil))))))⟩
noncomputable def edit_shift_y11_0 : SkSt := ⟨(.gap 1 (.cons (.int .i64) (.cons (.int .i64) (.cons (.int .i64) (.gap 1 (.cst (.ptr 0 0) (.gap 3 (.cst (.ptr 1 0) (.cst (.ptr 2 0) (.cst (.ptr 3 0) (.cons (.int .i64) (.gap 61 .nil)))))))))))), (.var 27 (.cons (.int .i64) (.cons (.int .i64) (.cons (.list (.cons (.int .i32) (.cons (.int .i64) (.cons (.int .i64) (.cons (.int .i64) (.one (.int .i64))))))) .nil))) (.var 23 (.cons (.int .i64) (.cons (.int .i64) (.cons (.int .i64) .nil))) (.var 27 (.cons (.int .i64) (.cons (.int .i64) (.cst (.own 4 40 (.cons (.int .i32) (.cons (.int .i64) (.cons (.int .i64) (.cons (.int .i64) (.one (.int .i64))))))) .nil))) (.var 27 (.cons (.int .i64) (.cons (.int .i64) (.cst (.own 5 40 (.cons (.int .i32) (.cons (.int .i64) (.cons (.int .i64) (.cons (.int .i64) (.one (.int .i64))))))) .nil))) (.arr 40 (.cons (.int .i32) (.cons (.int .i64) (.cons (.int .i64) (.cons (.int .i64) (.one (.int .i64)))))) (.arr 40 (.cons (.int .i32) (.cons (.int .i64) (.cons (.int .i64) (.cons (.int .i64) (.one (.int .i64)))))) .nil))))))⟩
noncomputable def edit_shift_ys11 : List (Ex × SkSt) := [(.normal, edit_shift_y11_0)]
noncomputable def edit_shift_J11 (a0 : Int) (a1 : Int) (a2 : Int) (a3 : Int) (a4 : List (Int × Int × Int × Int × Int)) (a5 : Int) (a6 : Int) (a7 : List (Int × Int × Int × Int × Int)) (a8 : Int) (a9 : Int) (a10 : Int) (a11 : Int) (a12 : Int) (a13 : Int) (a14 : Int) (a15 : List (Int × Int × Int × Int × Int)) (a16 : List (Int × Int × Int × Int × Int)) : Option (Int × Int × Int × Int × Int × Int × (List (Int × Int × Int × Int × Int)) × Int × Int × Int × Int × Int × Int × Int × (List (Int × Int × Int × Int × Int)) × (List (Int × Int × Int × Int × Int))) := (bif (bnds (some (IntKind.i64.wrap (a3 * a6))) none a16.length) then (some (a0, a1, a2, a3, a5, a6, a7, a8, a9, a10, a11, a12, a13, a14, a15, (splice a16 ((some (IntKind.i64.wrap (a3 * a6))).getD (0 : Int)).toNat (List.take ((none.getD (Int.ofNat a16.length)).toNat - ((some (IntKind.i64.wrap (a3 * a6))).getD (0 : Int)).toNat) a4)))) else none)
noncomputable def edit_shift_k11 {R : Type} (K : Ex → St → Option R) (o : Option (Int × Int × Int × Int × Int × Int × (List (Int × Int × Int × Int × Int)) × Int × Int × Int × Int × Int × Int × Int × (List (Int × Int × Int × Int × Int)) × (List (Int × Int × Int × Int × Int)))) : Option R := optK o fun y => K (.normal) (edit_shift_y11_0.enc ((y.1, (y.2.1, (y.2.2.1, (y.2.2.2.1, ())))), ((y.2.2.2.2.1, (y.2.2.2.2.2.1, (y.2.2.2.2.2.2.1, ()))), ((y.2.2.2.2.2.2.2.1, (y.2.2.2.2.2.2.2.2.1, (y.2.2.2.2.2.2.2.2.2.1, ()))), ((y.2.2.2.2.2.2.2.2.2.2.1, (y.2.2.2.2.2.2.2.2.2.2.2.1, ())), ((y.2.2.2.2.2.2.2.2.2.2.2.2.1, (y.2.2.2.2.2.2.2.2.2.2.2.2.2.1, ())), (y.2.2.2.2.2.2.2.2.2.2.2.2.2.2.1, (y.2.2.2.2.2.2.2.2.2.2.2.2.2.2.2, ()))))))))
theorem edit_shift_j11 {R : Type} (K : Ex → St → Option R) (a0 : Int) (a1 : Int) (a2 : Int) (a3 : Int) (a4 : List (Int × Int × Int × Int × Int)) (a5 : Int) (a6 : Int) (a7 : List (Int × Int × Int × Int × Int)) (a8 : Int) (a9 : Int) (a10 : Int) (a11 : Int) (a12 : Int) (a13 : Int) (a14 : Int) (a15 : List (Int × Int × Int × Int × Int)) (a16 : List (Int × Int × Int × Int × Int)) : exec (envL edit_shift_su ll0 cs0 (fun _ _ => false)) 36 (acall (envL edit_shift_su ll0 cs0 (fun _ _ => false)) 1000) 0 edit_shift_b11 (edit_shift_t11.enc ((a0, (a1, (a2, (a3, (a4, ()))))), ((a5, (a6, (a7, ()))), ((a8, (a9, (a10, ()))), ((a11, (a12, ())), ((a13, (a14, ())), (a15, (a16, ())))))))) (exitK edit_shift_ys11 0 K) = edit_shift_k11 K (edit_shift_J11 a0 a1 a2 a3 a4 a5 a6 a7 a8 a9 a10 a11 a12 a13 a14 a15 a16) := by
    unfold edit_shift_J11
    exact Eq.trans (by kernel_rfl) (cond_push (edit_shift_k11 K) _ rfl rfl)
noncomputable def edit_shift_D11 : GoL edit_shift_t11 := fun R (x : ((Int × (Int × (Int × (Int × (List (Int × Int × Int × Int × Int) × Unit))))) × ((Int × (Int × (List (Int × Int × Int × Int × Int) × Unit))) × ((Int × (Int × (Int × Unit))) × ((Int × (Int × Unit)) × ((Int × (Int × Unit)) × (List (Int × Int × Int × Int × Int) × (List (Int × Int × Int × Int × Int) × Unit)))))))) K => edit_shift_k11 K (hide edit_shift_J11 x.1.1 x.1.2.1 x.1.2.2.1 x.1.2.2.2.1 x.1.2.2.2.2.1 x.2.1.1 x.2.1.2.1 x.2.1.2.2.1 x.2.2.1.1 x.2.2.1.2.1 x.2.2.1.2.2.1 x.2.2.2.1.1 x.2.2.2.1.2.1 x.2.2.2.2.1.1 x.2.2.2.2.1.2.1 x.2.2.2.2.2.1 x.2.2.2.2.2.2.1)
theorem edit_shift_C11 : CutOk Try.prog 36 11 (loopH edit_shift_t11 0 edit_shift_D11) := cut_known (envL_ok edit_shift_su_ok ll0_ok cs0_ok) (N := 1000) Try.func36 rfl edit_shift_b11_is (xs := edit_shift_ys11) fun R (x : ((Int × (Int × (Int × (Int × (List (Int × Int × Int × Int × Int) × Unit))))) × ((Int × (Int × (List (Int × Int × Int × Int × Int) × Unit))) × ((Int × (Int × (Int × Unit))) × ((Int × (Int × Unit)) × ((Int × (Int × Unit)) × (List (Int × Int × Int × Int × Int) × (List (Int × Int × Int × Int × Int) × Unit)))))))) K => by
  show edit_shift_k11 K (hide edit_shift_J11 x.1.1 x.1.2.1 x.1.2.2.1 x.1.2.2.2.1 x.1.2.2.2.2.1 x.2.1.1 x.2.1.2.1 x.2.1.2.2.1 x.2.2.1.1 x.2.2.1.2.1 x.2.2.1.2.2.1 x.2.2.2.1.1 x.2.2.2.1.2.1 x.2.2.2.2.1.1 x.2.2.2.2.1.2.1 x.2.2.2.2.2.1 x.2.2.2.2.2.2.1) = _
  rw [hide_eq]
  exact (edit_shift_j11 K x.1.1 x.1.2.1 x.1.2.2.1 x.1.2.2.2.1 x.1.2.2.2.2.1 x.2.1.1 x.2.1.2.1 x.2.1.2.2.1 x.2.2.1.1 x.2.2.1.2.1 x.2.2.1.2.2.1 x.2.2.2.1.1 x.2.2.2.1.2.1 x.2.2.2.2.1.1 x.2.2.2.2.1.2.1 x.2.2.2.2.2.1 x.2.2.2.2.2.2.1).symm
noncomputable def edit_shift_d11 : LoopF := loopH edit_shift_t11 0 edit_shift_D11
noncomputable def edit_shift_cs1 : LoopT := ((36, 11), edit_shift_d11) :: cs0
theorem edit_shift_cs1_ok : AllCut Try.prog edit_shift_cs1 := ⟨edit_shift_C11, cs0_ok⟩
noncomputable def edit_shift_c5 : Code := ((Try.f36.body.map fun b => loopsAt b 5).getD []).headD .skip
theorem edit_shift_c5_is : (Try.f36.body.map fun b => loopsAt b 5) = some [edit_shift_c5] := by kernel_rfl
noncomputable def edit_shift_s5 : SkSt := ⟨(.gap 1 (.cons (.int .i64) (.cons (.int .i64) (.cons (.int .i64) (.gap 1 (.cst (.ptr 0 0) (.gap 3 (.cst (.ptr 1 0) (.cst (.ptr 2 0) (.cst (.ptr 3 0) (.cons (.int .i64) (.gap 61 .nil)))))))))))), (.var 27 (.cons (.int .i64) (.cons (.int .i64) (.cons (.list (.cons (.int .i32) (.cons (.int .i64) (.cons (.int .i64) (.cons (.int .i64) (.one (.int .i64))))))) .nil))) (.var 23 (.cons (.int .i64) (.cons (.int .i64) (.cons (.int .i64) .nil))) (.var 27 (.cons (.int .i64) (.cons (.int .i64) (.cst (.own 4 40 (.cons (.int .i32) (.cons (.int .i64) (.cons (.int .i64) (.cons (.int .i64) (.one (.int .i64))))))) .nil))) (.var 27 (.cons (.int .i64) (.cons (.int .i64) (.cst (.own 5 40 (.cons (.int .i32) (.cons (.int .i64) (.cons (.int .i64) (.cons (.int .i64) (.one (.int .i64))))))) .nil))) (.arr 40 (.cons (.int .i32) (.cons (.int .i64) (.cons (.int .i64) (.cons (.int .i64) (.one (.int .i64)))))) (.arr 40 (.cons (.int .i32) (.cons (.int .i64) (.cons (.int .i64) (.cons (.int .i64) (.one (.int .i64)))))) .nil))))))⟩
noncomputable def edit_shift_x5_0 : SkSt := ⟨(.gap 10 (.cst (.ptr 0 0) (.cst (.ptr 1 0) (.gap 62 .nil)))), (.var 27 (.cons (.int .i64) (.cons (.int .i64) (.cst (.own 2 40 (.cons (.int .i32) (.cons (.int .i64) (.cons (.int .i64) (.cons (.int .i64) (.one (.int .i64))))))) .nil))) (.var 27 (.cons (.int .i64) (.cons (.int .i64) (.cst (.own 3 40 (.cons (.int .i32) (.cons (.int .i64) (.cons (.int .i64) (.cons (.int .i64) (.one (.int .i64))))))) .nil))) (.arr 40 (.cons (.int .i32) (.cons (.int .i64) (.cons (.int .i64) (.cons (.int .i64) (.one (.int .i64)))))) (.arr 40 (.cons (.int .i32) (.cons (.int .i64) (.cons (.int .i64) (.cons (.int .i64) (.one (.int .i64)))))) .nil))))⟩
noncomputable def edit_shift_xs5 : List (Ex × SkSt) := [(.exit 0, edit_shift_x5_0)]
noncomputable def edit_shift_L5 : Nat → Int → Int → Int → Int → Int → Int → List (Int × Int × Int × Int × Int) → Int → Int → Int → Int → Int → Int → Int → List (Int × Int × Int × Int × Int) → List (Int × Int × Int × Int × Int) → Option (Int × Int × Int × Int × (List (Int × Int × Int × Int × Int)) × (List (Int × Int × Int × Int × Int)))
  | 0, _, _, _, _, _, _, _, _, _, _, _, _, _, _, _, _ => none
  | n + 1, a0, a1, a2, a3, a4, a5, a6, a7, a8, a9, a10, a11, a12, a13, a14, a15 => (bif (decide (a3 ≤ a1)) then (optK ((hide edit_blanks_F a5 a7 a8 a9)) fun y4 => (bif (decide (IntKind.i64.wrap (a3 + a2) ≥ a0)) then (bif (decide (IntKind.i64.wrap (a3 + a2) ≤ a1)) then (bif (bnds (some (IntKind.i64.wrap (IntKind.i64.wrap (a3 + a2) * a5))) (some (IntKind.i64.wrap (IntKind.i64.wrap (IntKind.i64.wrap (a3 + a2) + (1 : Int)) * a5))) a6.length && true) then (optK (hide edit_shift_J11 a0 a1 a2 a3 (cutList a6 (some (IntKind.i64.wrap (IntKind.i64.wrap (a3 + a2) * a5))) (some (IntKind.i64.wrap (IntKind.i64.wrap (IntKind.i64.wrap (a3 + a2) + (1 : Int)) * a5)))) a4 a5 a6 a7 a8 a9 a10 a11 a12 a13 a14 a15) fun y5 => (edit_shift_L5 n (y5.1) (y5.2.1) (y5.2.2.1) (IntKind.i64.wrap (y5.2.2.2.1 + (1 : Int))) (y5.2.2.2.2.1) (y5.2.2.2.2.2.1) (y5.2.2.2.2.2.2.1) (y5.2.2.2.2.2.2.2.1) (y5.2.2.2.2.2.2.2.2.1) (y5.2.2.2.2.2.2.2.2.2.1) (y5.2.2.2.2.2.2.2.2.2.2.1) (y5.2.2.2.2.2.2.2.2.2.2.2.1) (y5.2.2.2.2.2.2.2.2.2.2.2.2.1) (y5.2.2.2.2.2.2.2.2.2.2.2.2.2.1) (y5.2.2.2.2.2.2.2.2.2.2.2.2.2.2.1) (y5.2.2.2.2.2.2.2.2.2.2.2.2.2.2.2))) else none) else (optK (hide edit_shift_J11 a0 a1 a2 a3 y4 a4 a5 a6 a7 a8 a9 a10 a11 a12 a13 a14 a15) fun y6 => (edit_shift_L5 n (y6.1) (y6.2.1) (y6.2.2.1) (IntKind.i64.wrap (y6.2.2.2.1 + (1 : Int))) (y6.2.2.2.2.1) (y6.2.2.2.2.2.1) (y6.2.2.2.2.2.2.1) (y6.2.2.2.2.2.2.2.1) (y6.2.2.2.2.2.2.2.2.1) (y6.2.2.2.2.2.2.2.2.2.1) (y6.2.2.2.2.2.2.2.2.2.2.1) (y6.2.2.2.2.2.2.2.2.2.2.2.1) (y6.2.2.2.2.2.2.2.2.2.2.2.2.1) (y6.2.2.2.2.2.2.2.2.2.2.2.2.2.1) (y6.2.2.2.2.2.2.2.2.2.2.2.2.2.2.1) (y6.2.2.2.2.2.2.2.2.2.2.2.2.2.2.2)))) else (optK (hide edit_shift_J11 a0 a1 a2 a3 y4 a4 a5 a6 a7 a8 a9 a10 a11 a12 a13 a14 a15) fun y7 => (edit_shift_L5 n (y7.1) (y7.2.1) (y7.2.2.1) (IntKind.i64.wrap (y7.2.2.2.1 + (1 : Int))) (y7.2.2.2.2.1) (y7.2.2.2.2.2.1) (y7.2.2.2.2.2.2.1) (y7.2.2.2.2.2.2.2.1) (y7.2.2.2.2.2.2.2.2.1) (y7.2.2.2.2.2.2.2.2.2.1) (y7.2.2.2.2.2.2.2.2.2.2.1) (y7.2.2.2.2.2.2.2.2.2.2.2.1) (y7.2.2.2.2.2.2.2.2.2.2.2.2.1) (y7.2.2.2.2.2.2.2.2.2.2.2.2.2.1) (y7.2.2.2.2.2.2.2.2.2.2.2.2.2.2.1) (y7.2.2.2.2.2.2.2.2.2.2.2.2.2.2.2))))) else (some (a10, a11, a12, a13, a14, a15)))
noncomputable def edit_shift_I5 {R : Type} (K : Ex → St → Option R) : Nat → St → Option R := iterN (exec (envL edit_shift_su ll0 edit_shift_cs1 (fun _ _ => false)) 36 (acall (envL edit_shift_su ll0 edit_shift_cs1 (fun _ _ => false)) 1000) 0 edit_shift_c5) (normTo edit_shift_s5 0) (exitK edit_shift_xs5 0 K)
noncomputable def edit_shift_m5 {R : Type} (K : Ex → St → Option R) (o : Option (Int × Int × Int × Int × (List (Int × Int × Int × Int × Int)) × (List (Int × Int × Int × Int × Int)))) : Option R := optK o fun y => K (.exit 0) (edit_shift_x5_0.enc ((), ((y.1, (y.2.1, ())), ((y.2.2.1, (y.2.2.2.1, ())), (y.2.2.2.2.1, (y.2.2.2.2.2, ()))))))
theorem edit_shift_l5 {R : Type} (K : Ex → St → Option R) : ∀ (n : Nat), ∀ (a0 : Int) (a1 : Int) (a2 : Int) (a3 : Int) (a4 : Int) (a5 : Int) (a6 : List (Int × Int × Int × Int × Int)) (a7 : Int) (a8 : Int) (a9 : Int) (a10 : Int) (a11 : Int) (a12 : Int) (a13 : Int) (a14 : List (Int × Int × Int × Int × Int)) (a15 : List (Int × Int × Int × Int × Int)), edit_shift_I5 K n (edit_shift_s5.enc ((a0, (a1, (a2, (a3, ())))), ((a4, (a5, (a6, ()))), ((a7, (a8, (a9, ()))), ((a10, (a11, ())), ((a12, (a13, ())), (a14, (a15, ())))))))) = edit_shift_m5 K (edit_shift_L5 n a0 a1 a2 a3 a4 a5 a6 a7 a8 a9 a10 a11 a12 a13 a14 a15) := by
  intro n
  induction n with
  | zero => intros; rfl
  | succ n ih =>
    intro a0 a1 a2 a3 a4 a5 a6 a7 a8 a9 a10 a11 a12 a13 a14 a15
    rw [edit_shift_L5]
    exact Eq.trans (by kernel_rfl) (cond_push (edit_shift_m5 K) _ (optK_push (edit_shift_m5 K) rfl _ fun y4 => (cond_push (edit_shift_m5 K) _ (cond_push (edit_shift_m5 K) _ (cond_push (edit_shift_m5 K) _ (optK_push (edit_shift_m5 K) rfl _ fun y5 => (ih (y5.1) (y5.2.1) (y5.2.2.1) (IntKind.i64.wrap (y5.2.2.2.1 + (1 : Int))) (y5.2.2.2.2.1) (y5.2.2.2.2.2.1) (y5.2.2.2.2.2.2.1) (y5.2.2.2.2.2.2.2.1) (y5.2.2.2.2.2.2.2.2.1) (y5.2.2.2.2.2.2.2.2.2.1) (y5.2.2.2.2.2.2.2.2.2.2.1) (y5.2.2.2.2.2.2.2.2.2.2.2.1) (y5.2.2.2.2.2.2.2.2.2.2.2.2.1) (y5.2.2.2.2.2.2.2.2.2.2.2.2.2.1) (y5.2.2.2.2.2.2.2.2.2.2.2.2.2.2.1) (y5.2.2.2.2.2.2.2.2.2.2.2.2.2.2.2))) rfl) (optK_push (edit_shift_m5 K) rfl _ fun y6 => (ih (y6.1) (y6.2.1) (y6.2.2.1) (IntKind.i64.wrap (y6.2.2.2.1 + (1 : Int))) (y6.2.2.2.2.1) (y6.2.2.2.2.2.1) (y6.2.2.2.2.2.2.1) (y6.2.2.2.2.2.2.2.1) (y6.2.2.2.2.2.2.2.2.1) (y6.2.2.2.2.2.2.2.2.2.1) (y6.2.2.2.2.2.2.2.2.2.2.1) (y6.2.2.2.2.2.2.2.2.2.2.2.1) (y6.2.2.2.2.2.2.2.2.2.2.2.2.1) (y6.2.2.2.2.2.2.2.2.2.2.2.2.2.1) (y6.2.2.2.2.2.2.2.2.2.2.2.2.2.2.1) (y6.2.2.2.2.2.2.2.2.2.2.2.2.2.2.2)))) (optK_push (edit_shift_m5 K) rfl _ fun y7 => (ih (y7.1) (y7.2.1) (y7.2.2.1) (IntKind.i64.wrap (y7.2.2.2.1 + (1 : Int))) (y7.2.2.2.2.1) (y7.2.2.2.2.2.1) (y7.2.2.2.2.2.2.1) (y7.2.2.2.2.2.2.2.1) (y7.2.2.2.2.2.2.2.2.1) (y7.2.2.2.2.2.2.2.2.2.1) (y7.2.2.2.2.2.2.2.2.2.2.1) (y7.2.2.2.2.2.2.2.2.2.2.2.1) (y7.2.2.2.2.2.2.2.2.2.2.2.2.1) (y7.2.2.2.2.2.2.2.2.2.2.2.2.2.1) (y7.2.2.2.2.2.2.2.2.2.2.2.2.2.2.1) (y7.2.2.2.2.2.2.2.2.2.2.2.2.2.2.2))))) rfl)
def edit_shift_fu5 (a0 : Int) (a1 : Int) (a2 : Int) (a3 : Int) (a4 : Int) (a5 : Int) (a6 : List (Int × Int × Int × Int × Int)) (a7 : Int) (a8 : Int) (a9 : Int) (a10 : Int) (a11 : Int) (a12 : Int) (a13 : Int) (a14 : List (Int × Int × Int × Int × Int)) (a15 : List (Int × Int × Int × Int × Int)) : Nat := Int.natAbs a0 + Int.natAbs a1 + Int.natAbs a2 + Int.natAbs a3 + Int.natAbs a4 + Int.natAbs a5 + List.length a6 + Int.natAbs a7 + Int.natAbs a8 + Int.natAbs a9 + Int.natAbs a10 + Int.natAbs a11 + Int.natAbs a12 + Int.natAbs a13 + List.length a14 + List.length a15 + 5000
noncomputable def edit_shift_G5 : GoL edit_shift_s5 := fun R (x : ((Int × (Int × (Int × (Int × Unit)))) × ((Int × (Int × (List (Int × Int × Int × Int × Int) × Unit))) × ((Int × (Int × (Int × Unit))) × ((Int × (Int × Unit)) × ((Int × (Int × Unit)) × (List (Int × Int × Int × Int × Int) × (List (Int × Int × Int × Int × Int) × Unit)))))))) K => edit_shift_m5 K (hide edit_shift_L5 (edit_shift_fu5 x.1.1 x.1.2.1 x.1.2.2.1 x.1.2.2.2.1 x.2.1.1 x.2.1.2.1 x.2.1.2.2.1 x.2.2.1.1 x.2.2.1.2.1 x.2.2.1.2.2.1 x.2.2.2.1.1 x.2.2.2.1.2.1 x.2.2.2.2.1.1 x.2.2.2.2.1.2.1 x.2.2.2.2.2.1 x.2.2.2.2.2.2.1) x.1.1 x.1.2.1 x.1.2.2.1 x.1.2.2.2.1 x.2.1.1 x.2.1.2.1 x.2.1.2.2.1 x.2.2.1.1 x.2.2.1.2.1 x.2.2.1.2.2.1 x.2.2.2.1.1 x.2.2.2.1.2.1 x.2.2.2.2.1.1 x.2.2.2.2.1.2.1 x.2.2.2.2.2.1 x.2.2.2.2.2.2.1)
theorem edit_shift_H5 : LoopOk Try.prog 36 5 (loopH edit_shift_s5 0 edit_shift_G5) := loop_known (envL_ok edit_shift_su_ok ll0_ok edit_shift_cs1_ok) Try.func36 rfl edit_shift_c5_is (xs := edit_shift_xs5) (fuel := fun (x : ((Int × (Int × (Int × (Int × Unit)))) × ((Int × (Int × (List (Int × Int × Int × Int × Int) × Unit))) × ((Int × (Int × (Int × Unit))) × ((Int × (Int × Unit)) × ((Int × (Int × Unit)) × (List (Int × Int × Int × Int × Int) × (List (Int × Int × Int × Int × Int) × Unit)))))))) => edit_shift_fu5 x.1.1 x.1.2.1 x.1.2.2.1 x.1.2.2.2.1 x.2.1.1 x.2.1.2.1 x.2.1.2.2.1 x.2.2.1.1 x.2.2.1.2.1 x.2.2.1.2.2.1 x.2.2.2.1.1 x.2.2.2.1.2.1 x.2.2.2.2.1.1 x.2.2.2.2.1.2.1 x.2.2.2.2.2.1 x.2.2.2.2.2.2.1) fun R (x : ((Int × (Int × (Int × (Int × Unit)))) × ((Int × (Int × (List (Int × Int × Int × Int × Int) × Unit))) × ((Int × (Int × (Int × Unit))) × ((Int × (Int × Unit)) × ((Int × (Int × Unit)) × (List (Int × Int × Int × Int × Int) × (List (Int × Int × Int × Int × Int) × Unit)))))))) K => by
  show edit_shift_m5 K (hide edit_shift_L5 (edit_shift_fu5 x.1.1 x.1.2.1 x.1.2.2.1 x.1.2.2.2.1 x.2.1.1 x.2.1.2.1 x.2.1.2.2.1 x.2.2.1.1 x.2.2.1.2.1 x.2.2.1.2.2.1 x.2.2.2.1.1 x.2.2.2.1.2.1 x.2.2.2.2.1.1 x.2.2.2.2.1.2.1 x.2.2.2.2.2.1 x.2.2.2.2.2.2.1) x.1.1 x.1.2.1 x.1.2.2.1 x.1.2.2.2.1 x.2.1.1 x.2.1.2.1 x.2.1.2.2.1 x.2.2.1.1 x.2.2.1.2.1 x.2.2.1.2.2.1 x.2.2.2.1.1 x.2.2.2.1.2.1 x.2.2.2.2.1.1 x.2.2.2.2.1.2.1 x.2.2.2.2.2.1 x.2.2.2.2.2.2.1) = _
  rw [hide_eq]
  exact (edit_shift_l5 K (edit_shift_fu5 x.1.1 x.1.2.1 x.1.2.2.1 x.1.2.2.2.1 x.2.1.1 x.2.1.2.1 x.2.1.2.2.1 x.2.2.1.1 x.2.2.1.2.1 x.2.2.1.2.2.1 x.2.2.2.1.1 x.2.2.2.1.2.1 x.2.2.2.2.1.1 x.2.2.2.2.1.2.1 x.2.2.2.2.2.1 x.2.2.2.2.2.2.1) x.1.1 x.1.2.1 x.1.2.2.1 x.1.2.2.2.1 x.2.1.1 x.2.1.2.1 x.2.1.2.2.1 x.2.2.1.1 x.2.2.1.2.1 x.2.2.1.2.2.1 x.2.2.2.1.1 x.2.2.2.1.2.1 x.2.2.2.2.1.1 x.2.2.2.2.1.2.1 x.2.2.2.2.2.1 x.2.2.2.2.2.2.1).symm
noncomputable def edit_shift_h5 : LoopF := loopH edit_shift_s5 0 edit_shift_G5
noncomputable def edit_shift_ll2 : LoopT := ((36, 5), edit_shift_h5) :: ll0
theorem edit_shift_ll2_ok : AllLoop Try.prog edit_shift_ll2 := ⟨edit_shift_H5, ll0_ok⟩
noncomputable def edit_shift_F (x0 : Int) (x1 : Int) (x2 : List (Int × Int × Int × Int × Int)) (x3 : Int) (x4 : Int) (x5 : Int) (x6 : Int) (x7 : Int) (x8 : Int) : Option (Int × Int × (List (Int × Int × Int × Int × Int))) := (bif (x2.length.ble (274877906944 : Nat)) then (bif (decide (x3 < (0 : Int))) then (some (x0, x1, x2)) else (bif (decide (x4 ≥ x0)) then (some (x0, x1, x2)) else (bif (decide (x3 > x4)) then (some (x0, x1, x2)) else (optK (hide edit_shift_L5 (edit_shift_fu5 x3 x4 x5 x3 x0 x1 x2 x6 x7 x8 (0 : Int) (0 : Int) x0 x1 ([]) x2) x3 x4 x5 x3 x0 x1 x2 x6 x7 x8 (0 : Int) (0 : Int) x0 x1 ([]) x2) fun y8 => (some ((y8.2.2.1), (y8.2.2.2.1), (y8.2.2.2.2.2))))))) else none)
noncomputable def edit_shift_A : SkL := (.cons (.agg (.cons (.int .i64) (.cons (.int .i64) (.cons (.list (.cons (.int .i32) (.cons (.int .i64) (.cons (.int .i64) (.cons (.int .i64) (.one (.int .i64))))))) .nil)))) (.cons (.int .i64) (.cons (.int .i64) (.cons (.int .i64) (.cons (.agg (.cons (.int .i64) (.cons (.int .i64) (.cons (.int .i64) .nil)))) .nil)))))
noncomputable def edit_shift_B : Sk := (.agg (.cons (.int .i64) (.cons (.int .i64) (.cons (.list (.cons (.int .i32) (.cons (.int .i64) (.cons (.int .i64) (.cons (.int .i64) (.one (.int .i64))))))) .nil))))
def edit_shift_m {R : Type} (K : (Int × (Int × (List (Int × Int × Int × Int × Int) × Unit))) → Option R) (o : Option (Int × Int × (List (Int × Int × Int × Int × Int)))) : Option R := optK o fun y => K (y.1, (y.2.1, (y.2.2, ())))
theorem edit_shift_run {R : Type} (x0 : Int) (x1 : Int) (x2 : List (Int × Int × Int × Int × Int)) (x3 : Int) (x4 : Int) (x5 : Int) (x6 : Int) (x7 : Int) (x8 : Int) (K : (Int × (Int × (List (Int × Int × Int × Int × Int) × Unit))) → Option R) : acall (envL edit_shift_su edit_shift_ll2 edit_shift_cs1 (fun _ _ => false)) 1000 36 (edit_shift_A.enc ((x0, (x1, (x2, ()))), (x3, (x4, (x5, ((x6, (x7, (x8, ()))), ())))))) [] (resK edit_shift_B true K) = edit_shift_m K (edit_shift_F x0 x1 x2 x3 x4 x5 x6 x7 x8) := by
  unfold edit_shift_F
  exact Eq.trans (by kernel_rfl) (cond_push (edit_shift_m K) _ (cond_push (edit_shift_m K) _ rfl (cond_push (edit_shift_m K) _ rfl (cond_push (edit_shift_m K) _ rfl (optK_push (edit_shift_m K) rfl _ fun y8 => rfl)))) rfl)
noncomputable def edit_shift_G : GoF edit_shift_A edit_shift_B := fun R (x : ((Int × (Int × (List (Int × Int × Int × Int × Int) × Unit))) × (Int × (Int × (Int × ((Int × (Int × (Int × Unit))) × Unit)))))) K => edit_shift_m K (hide edit_shift_F x.1.1 x.1.2.1 x.1.2.2.1 x.2.1 x.2.2.1 x.2.2.2.1 x.2.2.2.2.1.1 x.2.2.2.2.1.2.1 x.2.2.2.2.1.2.2.1)
theorem edit_shift_known : Known Try.prog 36 edit_shift_A edit_shift_B true edit_shift_G := known_of (envL_ok edit_shift_su_ok edit_shift_ll2_ok edit_shift_cs1_ok) (n := 1000) rfl fun R (x : ((Int × (Int × (List (Int × Int × Int × Int × Int) × Unit))) × (Int × (Int × (Int × ((Int × (Int × (Int × Unit))) × Unit)))))) K => by
  show _ = edit_shift_m K (hide edit_shift_F x.1.1 x.1.2.1 x.1.2.2.1 x.2.1 x.2.2.1 x.2.2.2.1 x.2.2.2.2.1.1 x.2.2.2.2.1.2.1 x.2.2.2.2.1.2.2.1)
  rw [hide_eq]
  exact edit_shift_run x.1.1 x.1.2.1 x.1.2.2.1 x.2.1 x.2.2.1 x.2.2.2.1 x.2.2.2.2.1.1 x.2.2.2.2.1.2.1 x.2.2.2.2.1.2.2.1 K

noncomputable def edit_Insert_su : SumT := (18, sumH grid_At_A grid_At_B true grid_At_G) :: (57, sumW slices_Clone_api_Cell_A slices_Clone_api_Cell_B slices_Clone_api_Cell_G) :: (41, sumH edit_parted_A edit_parted_B true edit_parted_G) :: (44, sumH edit_blanks_A edit_blanks_B true edit_blanks_G) :: (42, sumH edit_turned_A edit_turned_B true edit_turned_G) :: sums0
theorem edit_Insert_su_ok : AllSum Try.prog edit_Insert_su := ⟨sumH_ok rfl rfl grid_At_known, ⟨sumW_ok rfl rfl rfl slices_Clone_api_Cell_known, ⟨sumH_ok rfl rfl edit_parted_known, ⟨sumH_ok rfl rfl edit_blanks_known, ⟨sumH_ok rfl rfl edit_turned_known, sums0_ok⟩⟩⟩⟩⟩
noncomputable def edit_Insert_F (x0 : Int) (x1 : Int) (x2 : List (Int × Int × Int × Int × Int)) (x3 : Int) (x4 : Int) (x5 : Int) (x6 : Int) (x7 : Int) (x8 : Int) : Option (Int × Int × (List (Int × Int × Int × Int × Int))) := (optK ((hide grid_At_F x0 x1 x2 x3 x4)) fun y0 => (bif (!y0.2.2.2.2.2) then (bif (x2.length.ble (274877906944 : Nat)) then (some (x0, x1, x2)) else none) else (optK ((hide edit_parted_F x0 x1 x2 x3 x4)) fun y1 => (bif (bnds none (some x4) y1.length && true) then (optK ((hide edit_blanks_F (if (if IntKind.i64.wrap (x1 - x4) < x5 then IntKind.i64.wrap (x1 - x4) else x5) > (0 : Int) then if IntKind.i64.wrap (x1 - x4) < x5 then IntKind.i64.wrap (x1 - x4) else x5 else (0 : Int)) x6 x7 x8)) fun y2 => (bif (bnds (some x4) (some (IntKind.i64.wrap (x1 - if (if IntKind.i64.wrap (x1 - x4) < x5 then IntKind.i64.wrap (x1 - x4) else x5) > (0 : Int) then if IntKind.i64.wrap (x1 - x4) < x5 then IntKind.i64.wrap (x1 - x4) else x5 else (0 : Int)))) y1.length && true) then (bif (decide (IntKind.i64.wrap ((0 : Int) + Int.ofNat (List.length ([cutList y1 none (some x4), y2, cutList y1 (some x4) (some (IntKind.i64.wrap (x1 - if (if IntKind.i64.wrap (x1 - x4) < x5 then IntKind.i64.wrap (x1 - x4) else x5) > (0 : Int) then if IntKind.i64.wrap (x1 - x4) < x5 then IntKind.i64.wrap (x1 - x4) else x5 else (0 : Int))))].getD (0 : Nat) (Row.one (CTy.slice (Row.cons (CTy.int IntKind.i32) (Row.cons (CTy.int IntKind.i64) (Row.cons (CTy.int IntKind.i64) (Row.cons (CTy.int IntKind.i64) (Row.one (CTy.int IntKind.i64)))))))).dflt))) < (0 : Int))) then none else (bif (decide (IntKind.i64.wrap (IntKind.i64.wrap ((0 : Int) + Int.ofNat (List.length ([cutList y1 none (some x4), y2, cutList y1 (some x4) (some (IntKind.i64.wrap (x1 - if (if IntKind.i64.wrap (x1 - x4) < x5 then IntKind.i64.wrap (x1 - x4) else x5) > (0 : Int) then if IntKind.i64.wrap (x1 - x4) < x5 then IntKind.i64.wrap (x1 - x4) else x5 else (0 : Int))))].getD (0 : Nat) (Row.one (CTy.slice (Row.cons (CTy.int IntKind.i32) (Row.cons (CTy.int IntKind.i64) (Row.cons (CTy.int IntKind.i64) (Row.cons (CTy.int IntKind.i64) (Row.one (CTy.int IntKind.i64)))))))).dflt))) + Int.ofNat (List.length ([cutList y1 none (some x4), y2, cutList y1 (some x4) (some (IntKind.i64.wrap (x1 - if (if IntKind.i64.wrap (x1 - x4) < x5 then IntKind.i64.wrap (x1 - x4) else x5) > (0 : Int) then if IntKind.i64.wrap (x1 - x4) < x5 then IntKind.i64.wrap (x1 - x4) else x5 else (0 : Int))))].getD (1 : Nat) (Row.one (CTy.slice (Row.cons (CTy.int IntKind.i32) (Row.cons (CTy.int IntKind.i64) (Row.cons (CTy.int IntKind.i64) (Row.cons (CTy.int IntKind.i64) (Row.one (CTy.int IntKind.i64)))))))).dflt))) < (0 : Int))) then none else (bif (decide (IntKind.i64.wrap (IntKind.i64.wrap (IntKind.i64.wrap ((0 : Int) + Int.ofNat (List.length ([cutList y1 none (some x4), y2, cutList y1 (some x4) (some (IntKind.i64.wrap (x1 - if (if IntKind.i64.wrap (x1 - x4) < x5 then IntKind.i64.wrap (x1 - x4) else x5) > (0 : Int) then if IntKind.i64.wrap (x1 - x4) < x5 then IntKind.i64.wrap (x1 - x4) else x5 else (0 : Int))))].getD (0 : Nat) (Row.one (CTy.slice (Row.cons (CTy.int IntKind.i32) (Row.cons (CTy.int IntKind.i64) (Row.cons (CTy.int IntKind.i64) (Row.cons (CTy.int IntKind.i64) (Row.one (CTy.int IntKind.i64)))))))).dflt))) + Int.ofNat (List.length ([cutList y1 none (some x4), y2, cutList y1 (some x4) (some (IntKind.i64.wrap (x1 - if (if IntKind.i64.wrap (x1 - x4) < x5 then IntKind.i64.wrap (x1 - x4) else x5) > (0 : Int) then if IntKind.i64.wrap (x1 - x4) < x5 then IntKind.i64.wrap (x1 - x4) else x5 else (0 : Int))))].getD (1 : Nat) (Row.one (CTy.slice (Row.cons (CTy.int IntKind.i32) (Row.cons (CTy.int IntKind.i64) (Row.cons (CTy.int IntKind.i64) (Row.cons (CTy.int IntKind.i64) (Row.one (CTy.int IntKind.i64)))))))).dflt))) + Int.ofNat (List.length ([cutList y1 none (some x4), y2, cutList y1 (some x4) (some (IntKind.i64.wrap (x1 - if (if IntKind.i64.wrap (x1 - x4) < x5 then IntKind.i64.wrap (x1 - x4) else x5) > (0 : Int) then if IntKind.i64.wrap (x1 - x4) < x5 then IntKind.i64.wrap (x1 - x4) else x5 else (0 : Int))))].getD (2 : Nat) (Row.one (CTy.slice (Row.cons (CTy.int IntKind.i32) (Row.cons (CTy.int IntKind.i64) (Row.cons (CTy.int IntKind.i64) (Row.cons (CTy.int IntKind.i64) (Row.one (CTy.int IntKind.i64)))))))).dflt))) < (0 : Int))) then none else (bif (decide (IntKind.i64.wrap (IntKind.i64.wrap (IntKind.i64.wrap ((0 : Int) + Int.ofNat (List.length ([cutList y1 none (some x4), y2, cutList y1 (some x4) (some (IntKind.i64.wrap (x1 - if (if IntKind.i64.wrap (x1 - x4) < x5 then IntKind.i64.wrap (x1 - x4) else x5) > (0 : Int) then if IntKind.i64.wrap (x1 - x4) < x5 then IntKind.i64.wrap (x1 - x4) else x5 else (0 : Int))))].getD (0 : Nat) (Row.one (CTy.slice (Row.cons (CTy.int IntKind.i32) (Row.cons (CTy.int IntKind.i64) (Row.cons (CTy.int IntKind.i64) (Row.cons (CTy.int IntKind.i64) (Row.one (CTy.int IntKind.i64)))))))).dflt))) + Int.ofNat (List.length ([cutList y1 none (some x4), y2, cutList y1 (some x4) (some (IntKind.i64.wrap (x1 - if (if IntKind.i64.wrap (x1 - x4) < x5 then IntKind.i64.wrap (x1 - x4) else x5) > (0 : Int) then if IntKind.i64.wrap (x1 - x4) < x5 then IntKind.i64.wrap (x1 - x4) else x5 else (0 : Int))))].getD (1 : Nat) (Row.one (CTy.slice (Row.cons (CTy.int IntKind.i32) (Row.cons (CTy.int IntKind.i64) (Row.cons (CTy.int IntKind.i64) (Row.cons (CTy.int IntKind.i64) (Row.one (CTy.int IntKind.i64)))))))).dflt))) + Int.ofNat (List.length ([cutList y1 none (some x4), y2, cutList y1 (some x4) (some (IntKind.i64.wrap (x1 - if (if IntKind.i64.wrap (x1 - x4) < x5 then IntKind.i64.wrap (x1 - x4) else x5) > (0 : Int) then if IntKind.i64.wrap (x1 - x4) < x5 then IntKind.i64.wrap (x1 - x4) else x5 else (0 : Int))))].getD (2 : Nat) (Row.one (CTy.slice (Row.cons (CTy.int IntKind.i32) (Row.cons (CTy.int IntKind.i64) (Row.cons (CTy.int IntKind.i64) (Row.cons (CTy.int IntKind.i64) (Row.one (CTy.int IntKind.i64)))))))).dflt))) < (0 : Int))) then none else (bif (decide (IntKind.i64.wrap (IntKind.i64.wrap (IntKind.i64.wrap (IntKind.i64.wrap ((0 : Int) + Int.ofNat (List.length ([cutList y1 none (some x4), y2, cutList y1 (some x4) (some (IntKind.i64.wrap (x1 - if (if IntKind.i64.wrap (x1 - x4) < x5 then IntKind.i64.wrap (x1 - x4) else x5) > (0 : Int) then if IntKind.i64.wrap (x1 - x4) < x5 then IntKind.i64.wrap (x1 - x4) else x5 else (0 : Int))))].getD (0 : Nat) (Row.one (CTy.slice (Row.cons (CTy.int IntKind.i32) (Row.cons (CTy.int IntKind.i64) (Row.cons (CTy.int IntKind.i64) (Row.cons (CTy.int IntKind.i64) (Row.one (CTy.int IntKind.i64)))))))).dflt))) + Int.ofNat (List.length ([cutList y1 none (some x4), y2, cutList y1 (some x4) (some (IntKind.i64.wrap (x1 - if (if IntKind.i64.wrap (x1 - x4) < x5 then IntKind.i64.wrap (x1 - x4) else x5) > (0 : Int) then if IntKind.i64.wrap (x1 - x4) < x5 then IntKind.i64.wrap (x1 - x4) else x5 else (0 : Int))))].getD (1 : Nat) (Row.one (CTy.slice (Row.cons (CTy.int IntKind.i32) (Row.cons (CTy.int IntKind.i64) (Row.cons (CTy.int IntKind.i64) (Row.cons (CTy.int IntKind.i64) (Row.one (CTy.int IntKind.i64)))))))).dflt))) + Int.ofNat (List.length ([cutList y1 none (some x4), y2, cutList y1 (some x4) (some (IntKind.i64.wrap (x1 - if (if IntKind.i64.wrap (x1 - x4) < x5 then IntKind.i64.wrap (x1 - x4) else x5) > (0 : Int) then if IntKind.i64.wrap (x1 - x4) < x5 then IntKind.i64.wrap (x1 - x4) else x5 else (0 : Int))))].getD (2 : Nat) (Row.one (CTy.slice (Row.cons (CTy.int IntKind.i32) (Row.cons (CTy.int IntKind.i64) (Row.cons (CTy.int IntKind.i64) (Row.cons (CTy.int IntKind.i64) (Row.one (CTy.int IntKind.i64)))))))).dflt))) - (0 : Int)) > (0 : Int))) then (bif (decide ((0 : Int) < IntKind.i64.wrap (IntKind.i64.wrap (IntKind.i64.wrap (IntKind.i64.wrap ((0 : Int) + Int.ofNat (List.length ([cutList y1 none (some x4), y2, cutList y1 (some x4) (some (IntKind.i64.wrap (x1 - if (if IntKind.i64.wrap (x1 - x4) < x5 then IntKind.i64.wrap (x1 - x4) else x5) > (0 : Int) then if IntKind.i64.wrap (x1 - x4) < x5 then IntKind.i64.wrap (x1 - x4) else x5 else (0 : Int))))].getD (0 : Nat) (Row.one (CTy.slice (Row.cons (CTy.int IntKind.i32) (Row.cons (CTy.int IntKind.i64) (Row.cons (CTy.int IntKind.i64) (Row.cons (CTy.int IntKind.i64) (Row.one (CTy.int IntKind.i64)))))))).dflt))) + Int.ofNat (List.length ([cutList y1 none (some x4), y2, cutList y1 (some x4) (some (IntKind.i64.wrap (x1 - if (if IntKind.i64.wrap (x1 - x4) < x5 then IntKind.i64.wrap (x1 - x4) else x5) > (0 : Int) then if IntKind.i64.wrap (x1 - x4) < x5 then IntKind.i64.wrap (x1 - x4) else x5 else (0 : Int))))].getD (1 : Nat) (Row.one (CTy.slice (Row.cons (CTy.int IntKind.i32) (Row.cons (CTy.int IntKind.i64) (Row.cons (CTy.int IntKind.i64) (Row.cons (CTy.int IntKind.i64) (Row.one (CTy.int IntKind.i64)))))))).dflt))) + Int.ofNat (List.length ([cutList y1 none (some x4), y2, cutList y1 (some x4) (some (IntKind.i64.wrap (x1 - if (if IntKind.i64.wrap (x1 - x4) < x5 then IntKind.i64.wrap (x1 - x4) else x5) > (0 : Int) then if IntKind.i64.wrap (x1 - x4) < x5 then IntKind.i64.wrap (x1 - x4) else x5 else (0 : Int))))].getD (2 : Nat) (Row.one (CTy.slice (Row.cons (CTy.int IntKind.i32) (Row.cons (CTy.int IntKind.i64) (Row.cons (CTy.int IntKind.i64) (Row.cons (CTy.int IntKind.i64) (Row.one (CTy.int IntKind.i64)))))))).dflt))) - (0 : Int))) && decide (IntKind.i64.wrap (IntKind.i64.wrap (IntKind.i64.wrap (IntKind.i64.wrap ((0 : Int) + Int.ofNat (List.length ([cutList y1 none (some x4), y2, cutList y1 (some x4) (some (IntKind.i64.wrap (x1 - if (if IntKind.i64.wrap (x1 - x4) < x5 then IntKind.i64.wrap (x1 - x4) else x5) > (0 : Int) then if IntKind.i64.wrap (x1 - x4) < x5 then IntKind.i64.wrap (x1 - x4) else x5 else (0 : Int))))].getD (0 : Nat) (Row.one (CTy.slice (Row.cons (CTy.int IntKind.i32) (Row.cons (CTy.int IntKind.i64) (Row.cons (CTy.int IntKind.i64) (Row.cons (CTy.int IntKind.i64) (Row.one (CTy.int IntKind.i64)))))))).dflt))) + Int.ofNat (List.length ([cutList y1 none (some x4), y2, cutList y1 (some x4) (some (IntKind.i64.wrap (x1 - if (if IntKind.i64.wrap (x1 - x4) < x5 then IntKind.i64.wrap (x1 - x4) else x5) > (0 : Int) then if IntKind.i64.wrap (x1 - x4) < x5 then IntKind.i64.wrap (x1 - x4) else x5 else (0 : Int))))].getD (1 : Nat) (Row.one (CTy.slice (Row.cons (CTy.int IntKind.i32) (Row.cons (CTy.int IntKind.i64) (Row.cons (CTy.int IntKind.i64) (Row.cons (CTy.int IntKind.i64) (Row.one (CTy.int IntKind.i64)))))))).dflt))) + Int.ofNat (List.length ([cutList y1 none (some x4), y2, cutList y1 (some x4) (some (IntKind.i64.wrap (x1 - if (if IntKind.i64.wrap (x1 - x4) < x5 then IntKind.i64.wrap (x1 - x4) else x5) > (0 : Int) then if IntKind.i64.wrap (x1 - x4) < x5 then IntKind.i64.wrap (x1 - x4) else x5 else (0 : Int))))].getD (2 : Nat) (Row.one (CTy.slice (Row.cons (CTy.int IntKind.i32) (Row.cons (CTy.int IntKind.i64) (Row.cons (CTy.int IntKind.i64) (Row.cons (CTy.int IntKind.i64) (Row.one (CTy.int IntKind.i64)))))))).dflt))) - (0 : Int)) ≤ (274877906944 : Int)) && true) then (bif (((0 : Nat) + (((some (0 : Int)).getD (Int.ofNat (rowN ((0 : Int), (0 : Int), (0 : Int), (0 : Int), (0 : Int)) (IntKind.i64.wrap (IntKind.i64.wrap (IntKind.i64.wrap (IntKind.i64.wrap ((0 : Int) + Int.ofNat (List.length ([cutList y1 none (some x4), y2, cutList y1 (some x4) (some (IntKind.i64.wrap (x1 - if (if IntKind.i64.wrap (x1 - x4) < x5 then IntKind.i64.wrap (x1 - x4) else x5) > (0 : Int) then if IntKind.i64.wrap (x1 - x4) < x5 then IntKind.i64.wrap (x1 - x4) else x5 else (0 : Int))))].getD (0 : Nat) (Row.one (CTy.slice (Row.cons (CTy.int IntKind.i32) (Row.cons (CTy.int IntKind.i64) (Row.cons (CTy.int IntKind.i64) (Row.cons (CTy.int IntKind.i64) (Row.one (CTy.int IntKind.i64)))))))).dflt))) + Int.ofNat (List.length ([cutList y1 none (some x4), y2, cutList y1 (some x4) (some (IntKind.i64.wrap (x1 - if (if IntKind.i64.wrap (x1 - x4) < x5 then IntKind.i64.wrap (x1 - x4) else x5) > (0 : Int) then if IntKind.i64.wrap (x1 - x4) < x5 then IntKind.i64.wrap (x1 - x4) else x5 else (0 : Int))))].getD (1 : Nat) (Row.one (CTy.slice (Row.cons (CTy.int IntKind.i32) (Row.cons (CTy.int IntKind.i64) (Row.cons (CTy.int IntKind.i64) (Row.cons (CTy.int IntKind.i64) (Row.one (CTy.int IntKind.i64)))))))).dflt))) + Int.ofNat (List.length ([cutList y1 none (some x4), y2, cutList y1 (some x4) (some (IntKind.i64.wrap (x1 - if (if IntKind.i64.wrap (x1 - x4) < x5 then IntKind.i64.wrap (x1 - x4) else x5) > (0 : Int) then if IntKind.i64.wrap (x1 - x4) < x5 then IntKind.i64.wrap (x1 - x4) else x5 else (0 : Int))))].getD (2 : Nat) (Row.one (CTy.slice (Row.cons (CTy.int IntKind.i32) (Row.cons (CTy.int IntKind.i64) (Row.cons (CTy.int IntKind.i64) (Row.cons (CTy.int IntKind.i64) (Row.one (CTy.int IntKind.i64)))))))).dflt))) - (0 : Int))).toNat).length)).toNat - (0 : Nat)) + List.length ([cutList y1 none (some x4), y2, cutList y1 (some x4) (some (IntKind.i64.wrap (x1 - if (if IntKind.i64.wrap (x1 - x4) < x5 then IntKind.i64.wrap (x1 - x4) else x5) > (0 : Int) then if IntKind.i64.wrap (x1 - x4) < x5 then IntKind.i64.wrap (x1 - x4) else x5 else (0 : Int))))].getD (0 : Nat) (Row.one (CTy.slice (Row.cons (CTy.int IntKind.i32) (Row.cons (CTy.int IntKind.i64) (Row.cons (CTy.int IntKind.i64) (Row.cons (CTy.int IntKind.i64) (Row.one (CTy.int IntKind.i64)))))))).dflt)).ble (rowN ((0 : Int), (0 : Int), (0 : Int), (0 : Int), (0 : Int)) (IntKind.i64.wrap (IntKind.i64.wrap (IntKind.i64.wrap (IntKind.i64.wrap ((0 : Int) + Int.ofNat (List.length ([cutList y1 none (some x4), y2, cutList y1 (some x4) (some (IntKind.i64.wrap (x1 - if (if IntKind.i64.wrap (x1 - x4) < x5 then IntKind.i64.wrap (x1 - x4) else x5) > (0 : Int) then if IntKind.i64.wrap (x1 - x4) < x5 then IntKind.i64.wrap (x1 - x4) else x5 else (0 : Int))))].getD (0 : Nat) (Row.one (CTy.slice (Row.cons (CTy.int IntKind.i32) (Row.cons (CTy.int IntKind.i64) (Row.cons (CTy.int IntKind.i64) (Row.cons (CTy.int IntKind.i64) (Row.one (CTy.int IntKind.i64)))))))).dflt))) + Int.ofNat (List.length ([cutList y1 none (some x4), y2, cutList y1 (some x4) (some (IntKind.i64.wrap (x1 - if (if IntKind.i64.wrap (x1 - x4) < x5 then IntKind.i64.wrap (x1 - x4) else x5) > (0 : Int) then if IntKind.i64.wrap (x1 - x4) < x5 then IntKind.i64.wrap (x1 - x4) else x5 else (0 : Int))))].getD (1 : Nat) (Row.one (CTy.slice (Row.cons (CTy.int IntKind.i32) (Row.cons (CTy.int IntKind.i64) (Row.cons (CTy.int IntKind.i64) (Row.cons (CTy.int IntKind.i64) (Row.one (CTy.int IntKind.i64)))))))).dflt))) + Int.ofNat (List.length ([cutList y1 none (some x4), y2, cutList y1 (some x4) (some (IntKind.i64.wrap (x1 - if (if IntKind.i64.wrap (x1 - x4) < x5 then IntKind.i64.wrap (x1 - x4) else x5) > (0 : Int) then if IntKind.i64.wrap (x1 - x4) < x5 then IntKind.i64.wrap (x1 - x4) else x5 else (0 : Int))))].getD (2 : Nat) (Row.one (CTy.slice (Row.cons (CTy.int IntKind.i32) (Row.cons (CTy.int IntKind.i64) (Row.cons (CTy.int IntKind.i64) (Row.cons (CTy.int IntKind.i64) (Row.one (CTy.int IntKind.i64)))))))).dflt))) - (0 : Int))).toNat).length) then (bif (((0 : Nat) + (((some (0 : Int)).getD (Int.ofNat (rowN ((0 : Int), (0 : Int), (0 : Int), (0 : Int), (0 : Int)) (IntKind.i64.wrap (IntKind.i64.wrap (IntKind.i64.wrap (IntKind.i64.wrap ((0 : Int) + Int.ofNat (List.length ([cutList y1 none (some x4), y2, cutList y1 (some x4) (some (IntKind.i64.wrap (x1 - if (if IntKind.i64.wrap (x1 - x4) < x5 then IntKind.i64.wrap (x1 - x4) else x5) > (0 : Int) then if IntKind.i64.wrap (x1 - x4) < x5 then IntKind.i64.wrap (x1 - x4) else x5 else (0 : Int))))].getD (0 : Nat) (Row.one (CTy.slice (Row.cons (CTy.int IntKind.i32) (Row.cons (CTy.int IntKind.i64) (Row.cons (CTy.int IntKind.i64) (Row.cons (CTy.int IntKind.i64) (Row.one (CTy.int IntKind.i64)))))))).dflt))) + Int.ofNat (List.length ([cutList y1 none (some x4), y2, cutList y1 (some x4) (some (IntKind.i64.wrap (x1 - if (if IntKind.i64.wrap (x1 - x4) < x5 then IntKind.i64.wrap (x1 - x4) else x5) > (0 : Int) then if IntKind.i64.wrap (x1 - x4) < x5 then IntKind.i64.wrap (x1 - x4) else x5 else (0 : Int))))].getD (1 : Nat) (Row.one (CTy.slice (Row.cons (CTy.int IntKind.i32) (Row.cons (CTy.int IntKind.i64) (Row.cons (CTy.int IntKind.i64) (Row.cons (CTy.int IntKind.i64) (Row.one (CTy.int IntKind.i64)))))))).dflt))) + Int.ofNat (List.length ([cutList y1 none (some x4), y2, cutList y1 (some x4) (some (IntKind.i64.wrap (x1 - if (if IntKind.i64.wrap (x1 - x4) < x5 then IntKind.i64.wrap (x1 - x4) else x5) > (0 : Int) then if IntKind.i64.wrap (x1 - x4) < x5 then IntKind.i64.wrap (x1 - x4) else x5 else (0 : Int))))].getD (2 : Nat) (Row.one (CTy.slice (Row.cons (CTy.int IntKind.i32) (Row.cons (CTy.int IntKind.i64) (Row.cons (CTy.int IntKind.i64) (Row.cons (CTy.int IntKind.i64) (Row.one (CTy.int IntKind.i64)))))))).dflt))) - (0 : Int))).toNat).length)).toNat - (0 : Nat) + List.length ([cutList y1 none (some x4), y2, cutList y1 (some x4) (some (IntKind.i64.wrap (x1 - if (if IntKind.i64.wrap (x1 - x4) < x5 then IntKind.i64.wrap (x1 - x4) else x5) > (0 : Int) then if IntKind.i64.wrap (x1 - x4) < x5 then IntKind.i64.wrap (x1 - x4) else x5 else (0 : Int))))].getD (0 : Nat) (Row.one (CTy.slice (Row.cons (CTy.int IntKind.i32) (Row.cons (CTy.int IntKind.i64) (Row.cons (CTy.int IntKind.i64) (Row.cons (CTy.int IntKind.i64) (Row.one (CTy.int IntKind.i64)))))))).dflt)) + List.length ([cutList y1 none (some x4), y2, cutList y1 (some x4) (some (IntKind.i64.wrap (x1 - if (if IntKind.i64.wrap (x1 - x4) < x5 then IntKind.i64.wrap (x1 - x4) else x5) > (0 : Int) then if IntKind.i64.wrap (x1 - x4) < x5 then IntKind.i64.wrap (x1 - x4) else x5 else (0 : Int))))].getD (1 : Nat) (Row.one (CTy.slice (Row.cons (CTy.int IntKind.i32) (Row.cons (CTy.int IntKind.i64) (Row.cons (CTy.int IntKind.i64) (Row.cons (CTy.int IntKind.i64) (Row.one (CTy.int IntKind.i64)))))))).dflt)).ble (splice (rowN ((0 : Int), (0 : Int), (0 : Int), (0 : Int), (0 : Int)) (IntKind.i64.wrap (IntKind.i64.wrap (IntKind.i64.wrap (IntKind.i64.wrap ((0 : Int) + Int.ofNat (List.length ([cutList y1 none (some x4), y2, cutList y1 (some x4) (some (IntKind.i64.wrap (x1 - if (if IntKind.i64.wrap (x1 - x4) < x5 then IntKind.i64.wrap (x1 - x4) else x5) > (0 : Int) then if IntKind.i64.wrap (x1 - x4) < x5 then IntKind.i64.wrap (x1 - x4) else x5 else (0 : Int))))].getD (0 : Nat) (Row.one (CTy.slice (Row.cons (CTy.int IntKind.i32) (Row.cons (CTy.int IntKind.i64) (Row.cons (CTy.int IntKind.i64) (Row.cons (CTy.int IntKind.i64) (Row.one (CTy.int IntKind.i64)))))))).dflt))) + Int.ofNat (List.length ([cutList y1 none (some x4), y2, cutList y1 (some x4) (some (IntKind.i64.wrap (x1 - if (if IntKind.i64.wrap (x1 - x4) < x5 then IntKind.i64.wrap (x1 - x4) else x5) > (0 : Int) then if IntKind.i64.wrap (x1 - x4) < x5 then IntKind.i64.wrap (x1 - x4) else x5 else (0 : Int))))].getD (1 : Nat) (Row.one (CTy.slice (Row.cons (CTy.int IntKind.i32) (Row.cons (CTy.int IntKind.i64) (Row.cons (CTy.int IntKind.i64) (Row.cons (CTy.int IntKind.i64) (Row.one (CTy.int IntKind.i64)))))))).dflt))) + Int.ofNat (List.length ([cutList y1 none (some x4), y2, cutList y1 (some x4) (some (IntKind.i64.wrap (x1 - if (if IntKind.i64.wrap (x1 - x4) < x5 then IntKind.i64.wrap (x1 - x4) else x5) > (0 : Int) then if IntKind.i64.wrap (x1 - x4) < x5 then IntKind.i64.wrap (x1 - x4) else x5 else (0 : Int))))].getD (2 : Nat) (Row.one (CTy.slice (Row.cons (CTy.int IntKind.i32) (Row.cons (CTy.int IntKind.i64) (Row.cons (CTy.int IntKind.i64) (Row.cons (CTy.int IntKind.i64) (Row.one (CTy.int IntKind.i64)))))))).dflt))) - (0 : Int))).toNat) ((0 : Nat) + (((some (0 : Int)).getD (Int.ofNat (rowN ((0 : Int), (0 : Int), (0 : Int), (0 : Int), (0 : Int)) (IntKind.i64.wrap (IntKind.i64.wrap (IntKind.i64.wrap (IntKind.i64.wrap ((0 : Int) + Int.ofNat (List.length ([cutList y1 none (some x4), y2, cutList y1 (some x4) (some (IntKind.i64.wrap (x1 - if (if IntKind.i64.wrap (x1 - x4) < x5 then IntKind.i64.wrap (x1 - x4) else x5) > (0 : Int) then if IntKind.i64.wrap (x1 - x4) < x5 then IntKind.i64.wrap (x1 - x4) else x5 else (0 : Int))))].getD (0 : Nat) (Row.one (CTy.slice (Row.cons (CTy.int IntKind.i32) (Row.cons (CTy.int IntKind.i64) (Row.cons (CTy.int IntKind.i64) (Row.cons (CTy.int IntKind.i64) (Row.one (CTy.int IntKind.i64)))))))).dflt))) + Int.ofNat (List.length ([cutList y1 none (some x4), y2, cutList y1 (some x4) (some (IntKind.i64.wrap (x1 - if (if IntKind.i64.wrap (x1 - x4) < x5 then IntKind.i64.wrap (x1 - x4) else x5) > (0 : Int) then if IntKind.i64.wrap (x1 - x4) < x5 then IntKind.i64.wrap (x1 - x4) else x5 else (0 : Int))))].getD (1 : Nat) (Row.one (CTy.slice (Row.cons (CTy.int IntKind.i32) (Row.cons (CTy.int IntKind.i64) (Row.cons (CTy.int IntKind.i64) (Row.cons (CTy.int IntKind.i64) (Row.one (CTy.int IntKind.i64)))))))).dflt))) + Int.ofNat (List.length ([cutList y1 none (some x4), y2, cutList y1 (some x4) (some (IntKind.i64.wrap (x1 - if (if IntKind.i64.wrap (x1 - x4) < x5 then IntKind.i64.wrap (x1 - x4) else x5) > (0 : Int) then if IntKind.i64.wrap (x1 - x4) < x5 then IntKind.i64.wrap (x1 - x4) else x5 else (0 : Int))))].getD (2 : Nat) (Row.one (CTy.slice (Row.cons (CTy.int IntKind.i32) (Row.cons (CTy.int IntKind.i64) (Row.cons (CTy.int IntKind.i64) (Row.cons (CTy.int IntKind.i64) (Row.one (CTy.int IntKind.i64)))))))).dflt))) - (0 : Int))).toNat).length)).toNat - (0 : Nat))) ([cutList y1 none (some x4), y2, cutList y1 (some x4) (some (IntKind.i64.wrap (x1 - if (if IntKind.i64.wrap (x1 - x4) < x5 then IntKind.i64.wrap (x1 - x4) else x5) > (0 : Int) then if IntKind.i64.wrap (x1 - x4) < x5 then IntKind.i64.wrap (x1 - x4) else x5 else (0 : Int))))].getD (0 : Nat) (Row.one (CTy.slice (Row.cons (CTy.int IntKind.i32) (Row.cons (CTy.int IntKind.i64) (Row.cons (CTy.int IntKind.i64) (Row.cons (CTy.int IntKind.i64) (Row.one (CTy.int IntKind.i64)))))))).dflt)).length) then (bif (((0 : Nat) + (((some (0 : Int)).getD (Int.ofNat (rowN ((0 : Int), (0 : Int), (0 : Int), (0 : Int), (0 : Int)) (IntKind.i64.wrap (IntKind.i64.wrap (IntKind.i64.wrap (IntKind.i64.wrap ((0 : Int) + Int.ofNat (List.length ([cutList y1 none (some x4), y2, cutList y1 (some x4) (some (IntKind.i64.wrap (x1 - if (if IntKind.i64.wrap (x1 - x4) < x5 then IntKind.i64.wrap (x1 - x4) else x5) > (0 : Int) then if IntKind.i64.wrap (x1 - x4) < x5 then IntKind.i64.wrap (x1 - x4) else x5 else (0 : Int))))].getD (0 : Nat) (Row.one (CTy.slice (Row.cons (CTy.int IntKind.i32) (Row.cons (CTy.int IntKind.i64) (Row.cons (CTy.int IntKind.i64) (Row.cons (CTy.int IntKind.i64) (Row.one (CTy.int IntKind.i64)))))))).dflt))) + Int.ofNat (List.length ([cutList y1 none (some x4), y2, cutList y1 (some x4) (some (IntKind.i64.wrap (x1 - if (if IntKind.i64.wrap (x1 - x4) < x5 then IntKind.i64.wrap (x1 - x4) else x5) > (0 : Int) then if IntKind.i64.wrap (x1 - x4) < x5 then IntKind.i64.wrap (x1 - x4) else x5 else (0 : Int))))].getD (1 : Nat) (Row.one (CTy.slice (Row.cons (CTy.int IntKind.i32) (Row.cons (CTy.int IntKind.i64) (Row.cons (CTy.int IntKind.i64) (Row.cons (CTy.int IntKind.i64) (Row.one (CTy.int IntKind.i64)))))))).dflt))) + Int.ofNat (List.length ([cutList y1 none (some x4), y2, cutList y1 (some x4) (some (IntKind.i64.wrap (x1 - if (if IntKind.i64.wrap (x1 - x4) < x5 then IntKind.i64.wrap (x1 - x4) else x5) > (0 : Int) then if IntKind.i64.wrap (x1 - x4) < x5 then IntKind.i64.wrap (x1 - x4) else x5 else (0 : Int))))].getD (2 : Nat) (Row.one (CTy.slice (Row.cons (CTy.int IntKind.i32) (Row.cons (CTy.int IntKind.i64) (Row.cons (CTy.int IntKind.i64) (Row.cons (CTy.int IntKind.i64) (Row.one (CTy.int IntKind.i64)))))))).dflt))) - (0 : Int))).toNat).length)).toNat - (0 : Nat) + List.length ([cutList y1 none (some x4), y2, cutList y1 (some x4) (some (IntKind.i64.wrap (x1 - if (if IntKind.i64.wrap (x1 - x4) < x5 then IntKind.i64.wrap (x1 - x4) else x5) > (0 : Int) then if IntKind.i64.wrap (x1 - x4) < x5 then IntKind.i64.wrap (x1 - x4) else x5 else (0 : Int))))].getD (0 : Nat) (Row.one (CTy.slice (Row.cons (CTy.int IntKind.i32) (Row.cons (CTy.int IntKind.i64) (Row.cons (CTy.int IntKind.i64) (Row.cons (CTy.int IntKind.i64) (Row.one (CTy.int IntKind.i64)))))))).dflt) + List.length ([cutList y1 none (some x4), y2, cutList y1 (some x4) (some (IntKind.i64.wrap (x1 - if (if IntKind.i64.wrap (x1 - x4) < x5 then IntKind.i64.wrap (x1 - x4) else x5) > (0 : Int) then if IntKind.i64.wrap (x1 - x4) < x5 then IntKind.i64.wrap (x1 - x4) else x5 else (0 : Int))))].getD (1 : Nat) (Row.one (CTy.slice (Row.cons (CTy.int IntKind.i32) (Row.cons (CTy.int IntKind.i64) (Row.cons (CTy.int IntKind.i64) (Row.cons (CTy.int IntKind.i64) (Row.one (CTy.int IntKind.i64)))))))).dflt)) + List.length ([cutList y1 none (some x4), y2, cutList y1 (some x4) (some (IntKind.i64.wrap (x1 - if (if IntKind.i64.wrap (x1 - x4) < x5 then IntKind.i64.wrap (x1 - x4) else x5) > (0 : Int) then if IntKind.i64.wrap (x1 - x4) < x5 then IntKind.i64.wrap (x1 - x4) else x5 else (0 : Int))))].getD (2 : Nat) (Row.one (CTy.slice (Row.cons (CTy.int IntKind.i32) (Row.cons (CTy.int IntKind.i64) (Row.cons (CTy.int IntKind.i64) (Row.cons (CTy.int IntKind.i64) (Row.one (CTy.int IntKind.i64)))))))).dflt)).ble (splice (splice (rowN ((0 : Int), (0 : Int), (0 : Int), (0 : Int), (0 : Int)) (IntKind.i64.wrap (IntKind.i64.wrap (IntKind.i64.wrap (IntKind.i64.wrap ((0 : Int) + Int.ofNat (List.length ([cutList y1 none (some x4), y2, cutList y1 (some x4) (some (IntKind.i64.wrap (x1 - if (if IntKind.i64.wrap (x1 - x4) < x5 then IntKind.i64.wrap (x1 - x4) else x5) > (0 : Int) then if IntKind.i64.wrap (x1 - x4) < x5 then IntKind.i64.wrap (x1 - x4) else x5 else (0 : Int))))].getD (0 : Nat) (Row.one (CTy.slice (Row.cons (CTy.int IntKind.i32) (Row.cons (CTy.int IntKind.i64) (Row.cons (CTy.int IntKind.i64) (Row.cons (CTy.int IntKind.i64) (Row.one (CTy.int IntKind.i64)))))))).dflt))) + Int.ofNat (List.length ([cutList y1 none (some x4), y2, cutList y1 (some x4) (some (IntKind.i64.wrap (x1 - if (if IntKind.i64.wrap (x1 - x4) < x5 then IntKind.i64.wrap (x1 - x4) else x5) > (0 : Int) then if IntKind.i64.wrap (x1 - x4) < x5 then IntKind.i64.wrap (x1 - x4) else x5 else (0 : Int))))].getD (1 : Nat) (Row.one (CTy.slice (Row.cons (CTy.int IntKind.i32) (Row.cons (CTy.int IntKind.i64) (Row.cons (CTy.int IntKind.i64) (Row.cons (CTy.int IntKind.i64) (Row.one (CTy.int IntKind.i64)))))))).dflt))) + Int.ofNat (List.length ([cutList y1 none (some x4), y2, cutList y1 (some x4) (some (IntKind.i64.wrap (x1 - if (if IntKind.i64.wrap (x1 - x4) < x5 then IntKind.i64.wrap (x1 - x4) else x5) > (0 : Int) then if IntKind.i64.wrap (x1 - x4) < x5 then IntKind.i64.wrap (x1 - x4) else x5 else (0 : Int))))].getD (2 : Nat) (Row.one (CTy.slice (Row.cons (CTy.int IntKind.i32) (Row.cons (CTy.int IntKind.i64) (Row.cons (CTy.int IntKind.i64) (Row.cons (CTy.int IntKind.i64) (Row.one (CTy.int IntKind.i64)))))))).dflt))) - (0 : Int))).toNat) ((0 : Nat) + (((some (0 : Int)).getD (Int.ofNat (rowN ((0 : Int), (0 : Int), (0 : Int), (0 : Int), (0 : Int)) (IntKind.i64.wrap (IntKind.i64.wrap (IntKind.i64.wrap (IntKind.i64.wrap ((0 : Int) + Int.ofNat (List.length ([cutList y1 none (some x4), y2, cutList y1 (some x4) (some (IntKind.i64.wrap (x1 - if (if IntKind.i64.wrap (x1 - x4) < x5 then IntKind.i64.wrap (x1 - x4) else x5) > (0 : Int) then if IntKind.i64.wrap (x1 - x4) < x5 then IntKind.i64.wrap (x1 - x4) else x5 else (0 : Int))))].getD (0 : Nat) (Row.one (CTy.slice (Row.cons (CTy.int IntKind.i32) (Row.cons (CTy.int IntKind.i64) (Row.cons (CTy.int IntKind.i64) (Row.cons (CTy.int IntKind.i64) (Row.one (CTy.int IntKind.i64)))))))).dflt))) + Int.ofNat (List.length ([cutList y1 none (some x4), y2, cutList y1 (some x4) (some (IntKind.i64.wrap (x1 - if (if IntKind.i64.wrap (x1 - x4) < x5 then IntKind.i64.wrap (x1 - x4) else x5) > (0 : Int) then if IntKind.i64.wrap (x1 - x4) < x5 then IntKind.i64.wrap (x1 - x4) else x5 else (0 : Int))))].getD (1 : Nat) (Row.one (CTy.slice (Row.cons (CTy.int IntKind.i32) (Row.cons (CTy.int IntKind.i64) (Row.cons (CTy.int IntKind.i64) (Row.cons (CTy.int IntKind.i64) (Row.one (CTy.int IntKind.i64)))))))).dflt))) + Int.ofNat (List.length ([cutList y1 none (some x4), y2, cutList y1 (some x4) (some (IntKind.i64.wrap (x1 - if (if IntKind.i64.wrap (x1 - x4) < x5 then IntKind.i64.wrap (x1 - x4) else x5) > (0 : Int) then if IntKind.i64.wrap (x1 - x4) < x5 then IntKind.i64.wrap (x1 - x4) else x5 else (0 : Int))))].getD (2 : Nat) (Row.one (CTy.slice (Row.cons (CTy.int IntKind.i32) (Row.cons (CTy.int IntKind.i64) (Row.cons (CTy.int IntKind.i64) (Row.cons (CTy.int IntKind.i64) (Row.one (CTy.int IntKind.i64)))))))).dflt))) - (0 : Int))).toNat).length)).toNat - (0 : Nat))) ([cutList y1 none (some x4), y2, cutList y1 (some x4) (some (IntKind.i64.wrap (x1 - if (if IntKind.i64.wrap (x1 - x4) < x5 then IntKind.i64.wrap (x1 - x4) else x5) > (0 : Int) then if IntKind.i64.wrap (x1 - x4) < x5 then IntKind.i64.wrap (x1 - x4) else x5 else (0 : Int))))].getD (0 : Nat) (Row.one (CTy.slice (Row.cons (CTy.int IntKind.i32) (Row.cons (CTy.int IntKind.i64) (Row.cons (CTy.int IntKind.i64) (Row.cons (CTy.int IntKind.i64) (Row.one (CTy.int IntKind.i64)))))))).dflt)) ((0 : Nat) + (((some (0 : Int)).getD (Int.ofNat (rowN ((0 : Int), (0 : Int), (0 : Int), (0 : Int), (0 : Int)) (IntKind.i64.wrap (IntKind.i64.wrap (IntKind.i64.wrap (IntKind.i64.wrap ((0 : Int) + Int.ofNat (List.length ([cutList y1 none (some x4), y2, cutList y1 (some x4) (some (IntKind.i64.wrap (x1 - if (if IntKind.i64.wrap (x1 - x4) < x5 then IntKind.i64.wrap (x1 - x4) else x5) > (0 : Int) then if IntKind.i64.wrap (x1 - x4) < x5 then IntKind.i64.wrap (x1 - x4) else x5 else (0 : Int))))].getD (0 : Nat) (Row.one (CTy.slice (Row.cons (CTy.int IntKind.i32) (Row.cons (CTy.int IntKind.i64) (Row.cons (CTy.int IntKind.i64) (Row.cons (CTy.int IntKind.i64) (Row.one (CTy.int IntKind.i64)))))))).dflt))) + Int.ofNat (List.length ([cutList y1 none (some x4), y2, cutList y1 (some x4) (some (IntKind.i64.wrap (x1 - if (if IntKind.i64.wrap (x1 - x4) < x5 then IntKind.i64.wrap (x1 - x4) else x5) > (0 : Int) then if IntKind.i64.wrap (x1 - x4) < x5 then IntKind.i64.wrap (x1 - x4) else x5 else (0 : Int))))].getD (1 : Nat) (Row.one (CTy.slice (Row.cons (CTy.int IntKind.i32) (Row.cons (CTy.int IntKind.i64) (Row.cons (CTy.int IntKind.i64) (Row.cons (CTy.int IntKind.i64) (Row.one (CTy.int IntKind.i64)))))))).dflt))) + Int.ofNat (List.length ([cutList y1 none (some x4), y2, cutList y1 (some x4) (some (IntKind.i64.wrap (x1 - if (if IntKind.i64.wrap (x1 - x4) < x5 then IntKind.i64.wrap (x1 - x4) else x5) > (0 : Int) then if IntKind.i64.wrap (x1 - x4) < x5 then IntKind.i64.wrap (x1 - x4) else x5 else (0 : Int))))].getD (2 : Nat) (Row.one (CTy.slice (Row.cons (CTy.int IntKind.i32) (Row.cons (CTy.int IntKind.i64) (Row.cons (CTy.int IntKind.i64) (Row.cons (CTy.int IntKind.i64) (Row.one (CTy.int IntKind.i64)))))))).dflt))) - (0 : Int))).toNat).length)).toNat - (0 : Nat) + List.length ([cutList y1 none (some x4), y2, cutList y1 (some x4) (some (IntKind.i64.wrap (x1 - if (if IntKind.i64.wrap (x1 - x4) < x5 then IntKind.i64.wrap (x1 - x4) else x5) > (0 : Int) then if IntKind.i64.wrap (x1 - x4) < x5 then IntKind.i64.wrap (x1 - x4) else x5 else (0 : Int))))].getD (0 : Nat) (Row.one (CTy.slice (Row.cons (CTy.int IntKind.i32) (Row.cons (CTy.int IntKind.i64) (Row.cons (CTy.int IntKind.i64) (Row.cons (CTy.int IntKind.i64) (Row.one (CTy.int IntKind.i64)))))))).dflt))) ([cutList y1 none (some x4), y2, cutList y1 (some x4) (some (IntKind.i64.wrap (x1 - if (if IntKind.i64.wrap (x1 - x4) < x5 then IntKind.i64.wrap (x1 - x4) else x5) > (0 : Int) then if IntKind.i64.wrap (x1 - x4) < x5 then IntKind.i64.wrap (x1 - x4) else x5 else (0 : Int))))].getD (1 : Nat) (Row.one (CTy.slice (Row.cons (CTy.int IntKind.i32) (Row.cons (CTy.int IntKind.i64) (Row.cons (CTy.int IntKind.i64) (Row.cons (CTy.int IntKind.i64) (Row.one (CTy.int IntKind.i64)))))))).dflt)).length) then (optK ((hide edit_turned_F x0 x1 x2 x3 (List.take (((some (0 : Int)).getD (Int.ofNat (rowN ((0 : Int), (0 : Int), (0 : Int), (0 : Int), (0 : Int)) (IntKind.i64.wrap (IntKind.i64.wrap (IntKind.i64.wrap (IntKind.i64.wrap ((0 : Int) + Int.ofNat (List.length ([cutList y1 none (some x4), y2, cutList y1 (some x4) (some (IntKind.i64.wrap (x1 - if (if IntKind.i64.wrap (x1 - x4) < x5 then IntKind.i64.wrap (x1 - x4) else x5) > (0 : Int) then if IntKind.i64.wrap (x1 - x4) < x5 then IntKind.i64.wrap (x1 - x4) else x5 else (0 : Int))))].getD (0 : Nat) (Row.one (CTy.slice (Row.cons (CTy.int IntKind.i32) (Row.cons (CTy.int IntKind.i64) (Row.cons (CTy.int IntKind.i64) (Row.cons (CTy.int IntKind.i64) (Row.one (CTy.int IntKind.i64)))))))).dflt))) + Int.ofNat (List.length ([cutList y1 none (some x4), y2, cutList y1 (some x4) (some (IntKind.i64.wrap (x1 - if (if IntKind.i64.wrap (x1 - x4) < x5 then IntKind.i64.wrap (x1 - x4) else x5) > (0 : Int) then if IntKind.i64.wrap (x1 - x4) < x5 then IntKind.i64.wrap (x1 - x4) else x5 else (0 : Int))))].getD (1 : Nat) (Row.one (CTy.slice (Row.cons (CTy.int IntKind.i32) (Row.cons (CTy.int IntKind.i64) (Row.cons (CTy.int IntKind.i64) (Row.cons (CTy.int IntKind.i64) (Row.one (CTy.int IntKind.i64)))))))).dflt))) + Int.ofNat (List.length ([cutList y1 none (some x4), y2, cutList y1 (some x4) (some (IntKind.i64.wrap (x1 - if (if IntKind.i64.wrap (x1 - x4) < x5 then IntKind.i64.wrap (x1 - x4) else x5) > (0 : Int) then if IntKind.i64.wrap (x1 - x4) < x5 then IntKind.i64.wrap (x1 - x4) else x5 else (0 : Int))))].getD (2 : Nat) (Row.one (CTy.slice (Row.cons (CTy.int IntKind.i32) (Row.cons (CTy.int IntKind.i64) (Row.cons (CTy.int IntKind.i64) (Row.cons (CTy.int IntKind.i64) (Row.one (CTy.int IntKind.i64)))))))).dflt))) - (0 : Int))).toNat).length)).toNat - (0 : Nat) + List.length ([cutList y1 none (some x4), y2, cutList y1 (some x4) (some (IntKind.i64.wrap (x1 - if (if IntKind.i64.wrap (x1 - x4) < x5 then IntKind.i64.wrap (x1 - x4) else x5) > (0 : Int) then if IntKind.i64.wrap (x1 - x4) < x5 then IntKind.i64.wrap (x1 - x4) else x5 else (0 : Int))))].getD (0 : Nat) (Row.one (CTy.slice (Row.cons (CTy.int IntKind.i32) (Row.cons (CTy.int IntKind.i64) (Row.cons (CTy.int IntKind.i64) (Row.cons (CTy.int IntKind.i64) (Row.one (CTy.int IntKind.i64)))))))).dflt) + List.length ([cutList y1 none (some x4), y2, cutList y1 (some x4) (some (IntKind.i64.wrap (x1 - if (if IntKind.i64.wrap (x1 - x4) < x5 then IntKind.i64.wrap (x1 - x4) else x5) > (0 : Int) then if IntKind.i64.wrap (x1 - x4) < x5 then IntKind.i64.wrap (x1 - x4) else x5 else (0 : Int))))].getD (1 : Nat) (Row.one (CTy.slice (Row.cons (CTy.int IntKind.i32) (Row.cons (CTy.int IntKind.i64) (Row.cons (CTy.int IntKind.i64) (Row.cons (CTy.int IntKind.i64) (Row.one (CTy.int IntKind.i64)))))))).dflt) + List.length ([cutList y1 none (some x4), y2, cutList y1 (some x4) (some (IntKind.i64.wrap (x1 - if (if IntKind.i64.wrap (x1 - x4) < x5 then IntKind.i64.wrap (x1 - x4) else x5) > (0 : Int) then if IntKind.i64.wrap (x1 - x4) < x5 then IntKind.i64.wrap (x1 - x4) else x5 else (0 : Int))))].getD (2 : Nat) (Row.one (CTy.slice (Row.cons (CTy.int IntKind.i32) (Row.cons (CTy.int IntKind.i64) (Row.cons (CTy.int IntKind.i64) (Row.cons (CTy.int IntKind.i64) (Row.one (CTy.int IntKind.i64)))))))).dflt)) (List.drop (0 : Nat) (splice (splice (splice (rowN ((0 : Int), (0 : Int), (0 : Int), (0 : Int), (0 : Int)) (IntKind.i64.wrap (IntKind.i64.wrap (IntKind.i64.wrap (IntKind.i64.wrap ((0 : Int) + Int.ofNat (List.length ([cutList y1 none (some x4), y2, cutList y1 (some x4) (some (IntKind.i64.wrap (x1 - if (if IntKind.i64.wrap (x1 - x4) < x5 then IntKind.i64.wrap (x1 - x4) else x5) > (0 : Int) then if IntKind.i64.wrap (x1 - x4) < x5 then IntKind.i64.wrap (x1 - x4) else x5 else (0 : Int))))].getD (0 : Nat) (Row.one (CTy.slice (Row.cons (CTy.int IntKind.i32) (Row.cons (CTy.int IntKind.i64) (Row.cons (CTy.int IntKind.i64) (Row.cons (CTy.int IntKind.i64) (Row.one (CTy.int IntKind.i64)))))))).dflt))) + Int.ofNat (List.length ([cutList y1 none (some x4), y2, cutList y1 (some x4) (some (IntKind.i64.wrap (x1 - if (if IntKind.i64.wrap (x1 - x4) < x5 then IntKind.i64.wrap (x1 - x4) else x5) > (0 : Int) then if IntKind.i64.wrap (x1 - x4) < x5 then IntKind.i64.wrap (x1 - x4) else x5 else (0 : Int))))].getD (1 : Nat) (Row.one (CTy.slice (Row.cons (CTy.int IntKind.i32) (Row.cons (CTy.int IntKind.i64) (Row.cons (CTy.int IntKind.i64) (Row.cons (CTy.int IntKind.i64) (Row.one (CTy.int IntKind.i64)))))))).dflt))) + Int.ofNat (List.length ([cutList y1 none (some x4), y2, cutList y1 (some x4) (some (IntKind.i64.wrap (x1 - if (if IntKind.i64.wrap (x1 - x4) < x5 then IntKind.i64.wrap (x1 - x4) else x5) > (0 : Int) then if IntKind.i64.wrap (x1 - x4) < x5 then IntKind.i64.wrap (x1 - x4) else x5 else (0 : Int))))].getD (2 : Nat) (Row.one (CTy.slice (Row.cons (CTy.int IntKind.i32) (Row.cons (CTy.int IntKind.i64) (Row.cons (CTy.int IntKind.i64) (Row.cons (CTy.int IntKind.i64) (Row.one (CTy.int IntKind.i64)))))))).dflt))) - (0 : Int))).toNat) ((0 : Nat) + (((some (0 : Int)).getD (Int.ofNat (rowN ((0 : Int), (0 : Int), (0 : Int), (0 : Int), (0 : Int)) (IntKind.i64.wrap (IntKind.i64.wrap (IntKind.i64.wrap (IntKind.i64.wrap ((0 : Int) + Int.ofNat (List.length ([cutList y1 none (some x4), y2, cutList y1 (some x4) (some (IntKind.i64.wrap (x1 - if (if IntKind.i64.wrap (x1 - x4) < x5 then IntKind.i64.wrap (x1 - x4) else x5) > (0 : Int) then if IntKind.i64.wrap (x1 - x4) < x5 then IntKind.i64.wrap (x1 - x4) else x5 else (0 : Int))))].getD (0 : Nat) (Row.one (CTy.slice (Row.cons (CTy.int IntKind.i32) (Row.cons (CTy.int IntKind.i64) (Row.cons (CTy.int IntKind.i64) (Row.cons (CTy.int IntKind.i64) (Row.one (CTy.int IntKind.i64)))))))).dflt))) + Int.ofNat (List.length ([cutList y1 none (some x4), y2, cutList y1 (some x4) (some (IntKind.i64.wrap (x1 - if (if IntKind.i64.wrap (x1 - x4) < x5 then IntKind.i64.wrap (x1 - x4) else x5) > (0 : Int) then if IntKind.i64.wrap (x1 - x4) < x5 then IntKind.i64.wrap (x1 - x4) else x5 else (0 : Int))))].getD (1 : Nat) (Row.one (CTy.slice (Row.cons (CTy.int IntKind.i32) (Row.cons (CTy.int IntKind.i64) (Row.cons (CTy.int IntKind.i64) (Row.cons (CTy.int IntKind.i64) (Row.one (CTy.int IntKind.i64)))))))).dflt))) + Int.ofNat (List.length ([cutList y1 none (some x4), y2, cutList y1 (some x4) (some (IntKind.i64.wrap (x1 - if (if IntKind.i64.wrap (x1 - x4) < x5 then IntKind.i64.wrap (x1 - x4) else x5) > (0 : Int) then if IntKind.i64.wrap (x1 - x4) < x5 then IntKind.i64.wrap (x1 - x4) else x5 else (0 : Int))))].getD (2 : Nat) (Row.one (CTy.slice (Row.cons (CTy.int IntKind.i32) (Row.cons (CTy.int IntKind.i64) (Row.cons (CTy.int IntKind.i64) (Row.cons (CTy.int IntKind.i64) (Row.one (CTy.int IntKind.i64)))))))).dflt))) - (0 : Int))).toNat).length)).toNat - (0 : Nat))) ([cutList y1 none (some x4), y2, cutList y1 (some x4) (some (IntKind.i64.wrap (x1 - if (if IntKind.i64.wrap (x1 - x4) < x5 then IntKind.i64.wrap (x1 - x4) else x5) > (0 : Int) then if IntKind.i64.wrap (x1 - x4) < x5 then IntKind.i64.wrap (x1 - x4) else x5 else (0 : Int))))].getD (0 : Nat) (Row.one (CTy.slice (Row.cons (CTy.int IntKind.i32) (Row.cons (CTy.int IntKind.i64) (Row.cons (CTy.int IntKind.i64) (Row.cons (CTy.int IntKind.i64) (Row.one (CTy.int IntKind.i64)))))))).dflt)) ((0 : Nat) + (((some (0 : Int)).getD (Int.ofNat (rowN ((0 : Int), (0 : Int), (0 : Int), (0 : Int), (0 : Int)) (IntKind.i64.wrap (IntKind.i64.wrap (IntKind.i64.wrap (IntKind.i64.wrap ((0 : Int) + Int.ofNat (List.length ([cutList y1 none (some x4), y2, cutList y1 (some x4) (some (IntKind.i64.wrap (x1 - if (if IntKind.i64.wrap (x1 - x4) < x5 then IntKind.i64.wrap (x1 - x4) else x5) > (0 : Int) then if IntKind.i64.wrap (x1 - x4) < x5 then IntKind.i64.wrap (x1 - x4) else x5 else (0 : Int))))].getD (0 : Nat) (Row.one (CTy.slice (Row.cons (CTy.int IntKind.i32) (Row.cons (CTy.int IntKind.i64) (Row.cons (CTy.int IntKind.i64) (Row.cons (CTy.int IntKind.i64) (Row.one (CTy.int IntKind.i64)))))))).dflt))) + Int.ofNat (List.length ([cutList y1 none (some x4), y2, cutList y1 (some x4) (some (IntKind.i64.wrap (x1 - if (if IntKind.i64.wrap (x1 - x4) < x5 then IntKind.i64.wrap (x1 - x4) else x5) > (0 : Int) then if IntKind.i64.wrap (x1 - x4) < x5 then IntKind.i64.wrap (x1 - x4) else x5 else (0 : Int))))].getD (1 : Nat) (Row.one (CTy.slice (Row.cons (CTy.int IntKind.i32) (Row.cons (CTy.int IntKind.i64) (Row.cons (CTy.int IntKind.i64) (Row.cons (CTy.int IntKind.i64) (Row.one (CTy.int IntKind.i64)))))))).dflt))) + Int.ofNat (List.length ([cutList y1 none (some x4), y2, cutList y1 (some x4) (some (IntKind.i64.wrap (x1 - if (if IntKind.i64.wrap (x1 - x4) < x5 then IntKind.i64.wrap (x1 - x4) else x5) > (0 : Int) then if IntKind.i64.wrap (x1 - x4) < x5 then IntKind.i64.wrap (x1 - x4) else x5 else (0 : Int))))].getD (2 : Nat) (Row.one (CTy.slice (Row.cons (CTy.int IntKind.i32) (Row.cons (CTy.int IntKind.i64) (Row.cons (CTy.int IntKind.i64) (Row.cons (CTy.int IntKind.i64) (Row.one (CTy.int IntKind.i64)))))))).dflt))) - (0 : Int))).toNat).length)).toNat - (0 : Nat) + List.length ([cutList y1 none (some x4), y2, cutList y1 (some x4) (some (IntKind.i64.wrap (x1 - if (if IntKind.i64.wrap (x1 - x4) < x5 then IntKind.i64.wrap (x1 - x4) else x5) > (0 : Int) then if IntKind.i64.wrap (x1 - x4) < x5 then IntKind.i64.wrap (x1 - x4) else x5 else (0 : Int))))].getD (0 : Nat) (Row.one (CTy.slice (Row.cons (CTy.int IntKind.i32) (Row.cons (CTy.int IntKind.i64) (Row.cons (CTy.int IntKind.i64) (Row.cons (CTy.int IntKind.i64) (Row.one (CTy.int IntKind.i64)))))))).dflt))) ([cutList y1 none (some x4), y2, cutList y1 (some x4) (some (IntKind.i64.wrap (x1 - if (if IntKind.i64.wrap (x1 - x4) < x5 then IntKind.i64.wrap (x1 - x4) else x5) > (0 : Int) then if IntKind.i64.wrap (x1 - x4) < x5 then IntKind.i64.wrap (x1 - x4) else x5 else (0 : Int))))].getD (1 : Nat) (Row.one (CTy.slice (Row.cons (CTy.int IntKind.i32) (Row.cons (CTy.int IntKind.i64) (Row.cons (CTy.int IntKind.i64) (Row.cons (CTy.int IntKind.i64) (Row.one (CTy.int IntKind.i64)))))))).dflt)) ((0 : Nat) + (((some (0 : Int)).getD (Int.ofNat (rowN ((0 : Int), (0 : Int), (0 : Int), (0 : Int), (0 : Int)) (IntKind.i64.wrap (IntKind.i64.wrap (IntKind.i64.wrap (IntKind.i64.wrap ((0 : Int) + Int.ofNat (List.length ([cutList y1 none (some x4), y2, cutList y1 (some x4) (some (IntKind.i64.wrap (x1 - if (if IntKind.i64.wrap (x1 - x4) < x5 then IntKind.i64.wrap (x1 - x4) else x5) > (0 : Int) then if IntKind.i64.wrap (x1 - x4) < x5 then IntKind.i64.wrap (x1 - x4) else x5 else (0 : Int))))].getD (0 : Nat) (Row.one (CTy.slice (Row.cons (CTy.int IntKind.i32) (Row.cons (CTy.int IntKind.i64) (Row.cons (CTy.int IntKind.i64) (Row.cons (CTy.int IntKind.i64) (Row.one (CTy.int IntKind.i64)))))))).dflt))) + Int.ofNat (List.length ([cutList y1 none (some x4), y2, cutList y1 (some x4) (some (IntKind.i64.wrap (x1 - if (if IntKind.i64.wrap (x1 - x4) < x5 then IntKind.i64.wrap (x1 - x4) else x5) > (0 : Int) then if IntKind.i64.wrap (x1 - x4) < x5 then IntKind.i64.wrap (x1 - x4) else x5 else (0 : Int))))].getD (1 : Nat) (Row.one (CTy.slice (Row.cons (CTy.int IntKind.i32) (Row.cons (CTy.int IntKind.i64) (Row.cons (CTy.int IntKind.i64) (Row.cons (CTy.int IntKind.i64) (Row.one (CTy.int IntKind.i64)))))))).dflt))) + Int.ofNat (List.length ([cutList y1 none (some x4), y2, cutList y1 (some x4) (some (IntKind.i64.wrap (x1 - if (if IntKind.i64.wrap (x1 - x4) < x5 then IntKind.i64.wrap (x1 - x4) else x5) > (0 : Int) then if IntKind.i64.wrap (x1 - x4) < x5 then IntKind.i64.wrap (x1 - x4) else x5 else (0 : Int))))].getD (2 : Nat) (Row.one (CTy.slice (Row.cons (CTy.int IntKind.i32) (Row.cons (CTy.int IntKind.i64) (Row.cons (CTy.int IntKind.i64) (Row.cons (CTy.int IntKind.i64) (Row.one (CTy.int IntKind.i64)))))))).dflt))) - (0 : Int))).toNat).length)).toNat - (0 : Nat) + List.length ([cutList y1 none (some x4), y2, cutList y1 (some x4) (some (IntKind.i64.wrap (x1 - if (if IntKind.i64.wrap (x1 - x4) < x5 then IntKind.i64.wrap (x1 - x4) else x5) > (0 : Int) then if IntKind.i64.wrap (x1 - x4) < x5 then IntKind.i64.wrap (x1 - x4) else x5 else (0 : Int))))].getD (0 : Nat) (Row.one (CTy.slice (Row.cons (CTy.int IntKind.i32) (Row.cons (CTy.int IntKind.i64) (Row.cons (CTy.int IntKind.i64) (Row.cons (CTy.int IntKind.i64) (Row.one (CTy.int IntKind.i64)))))))).dflt) + List.length ([cutList y1 none (some x4), y2, cutList y1 (some x4) (some (IntKind.i64.wrap (x1 - if (if IntKind.i64.wrap (x1 - x4) < x5 then IntKind.i64.wrap (x1 - x4) else x5) > (0 : Int) then if IntKind.i64.wrap (x1 - x4) < x5 then IntKind.i64.wrap (x1 - x4) else x5 else (0 : Int))))].getD (1 : Nat) (Row.one (CTy.slice (Row.cons (CTy.int IntKind.i32) (Row.cons (CTy.int IntKind.i64) (Row.cons (CTy.int IntKind.i64) (Row.cons (CTy.int IntKind.i64) (Row.one (CTy.int IntKind.i64)))))))).dflt))) ([cutList y1 none (some x4), y2, cutList y1 (some x4) (some (IntKind.i64.wrap (x1 - if (if IntKind.i64.wrap (x1 - x4) < x5 then IntKind.i64.wrap (x1 - x4) else x5) > (0 : Int) then if IntKind.i64.wrap (x1 - x4) < x5 then IntKind.i64.wrap (x1 - x4) else x5 else (0 : Int))))].getD (2 : Nat) (Row.one (CTy.slice (Row.cons (CTy.int IntKind.i32) (Row.cons (CTy.int IntKind.i64) (Row.cons (CTy.int IntKind.i64) (Row.cons (CTy.int IntKind.i64) (Row.one (CTy.int IntKind.i64)))))))).dflt)))))) fun y3 => (some ((y3.1), (y3.2.1), (y3.2.2)))) else none) else none) else none) else none) else (bif ((List.length ([cutList y1 none (some x4), y2, cutList y1 (some x4) (some (IntKind.i64.wrap (x1 - if (if IntKind.i64.wrap (x1 - x4) < x5 then IntKind.i64.wrap (x1 - x4) else x5) > (0 : Int) then if IntKind.i64.wrap (x1 - x4) < x5 then IntKind.i64.wrap (x1 - x4) else x5 else (0 : Int))))].getD (0 : Nat) (Row.one (CTy.slice (Row.cons (CTy.int IntKind.i32) (Row.cons (CTy.int IntKind.i64) (Row.cons (CTy.int IntKind.i64) (Row.cons (CTy.int IntKind.i64) (Row.one (CTy.int IntKind.i64)))))))).dflt)).ble (274877906944 : Nat) && true) then (bif (true && ((List.length ([cutList y1 none (some x4), y2, cutList y1 (some x4) (some (IntKind.i64.wrap (x1 - if (if IntKind.i64.wrap (x1 - x4) < x5 then IntKind.i64.wrap (x1 - x4) else x5) > (0 : Int) then if IntKind.i64.wrap (x1 - x4) < x5 then IntKind.i64.wrap (x1 - x4) else x5 else (0 : Int))))].getD (0 : Nat) (Row.one (CTy.slice (Row.cons (CTy.int IntKind.i32) (Row.cons (CTy.int IntKind.i64) (Row.cons (CTy.int IntKind.i64) (Row.cons (CTy.int IntKind.i64) (Row.one (CTy.int IntKind.i64)))))))).dflt) + List.length ([cutList y1 none (some x4), y2, cutList y1 (some x4) (some (IntKind.i64.wrap (x1 - if (if IntKind.i64.wrap (x1 - x4) < x5 then IntKind.i64.wrap (x1 - x4) else x5) > (0 : Int) then if IntKind.i64.wrap (x1 - x4) < x5 then IntKind.i64.wrap (x1 - x4) else x5 else (0 : Int))))].getD (1 : Nat) (Row.one (CTy.slice (Row.cons (CTy.int IntKind.i32) (Row.cons (CTy.int IntKind.i64) (Row.cons (CTy.int IntKind.i64) (Row.cons (CTy.int IntKind.i64) (Row.one (CTy.int IntKind.i64)))))))).dflt)).ble (274877906944 : Nat) && true)) then (bif (true && ((([cutList y1 none (some x4), y2, cutList y1 (some x4) (some (IntKind.i64.wrap (x1 - if (if IntKind.i64.wrap (x1 - x4) < x5 then IntKind.i64.wrap (x1 - x4) else x5) > (0 : Int) then if IntKind.i64.wrap (x1 - x4) < x5 then IntKind.i64.wrap (x1 - x4) else x5 else (0 : Int))))].getD (0 : Nat) (Row.one (CTy.slice (Row.cons (CTy.int IntKind.i32) (Row.cons (CTy.int IntKind.i64) (Row.cons (CTy.int IntKind.i64) (Row.cons (CTy.int IntKind.i64) (Row.one (CTy.int IntKind.i64)))))))).dflt ++ [cutList y1 none (some x4), y2, cutList y1 (some x4) (some (IntKind.i64.wrap (x1 - if (if IntKind.i64.wrap (x1 - x4) < x5 then IntKind.i64.wrap (x1 - x4) else x5) > (0 : Int) then if IntKind.i64.wrap (x1 - x4) < x5 then IntKind.i64.wrap (x1 - x4) else x5 else (0 : Int))))].getD (1 : Nat) (Row.one (CTy.slice (Row.cons (CTy.int IntKind.i32) (Row.cons (CTy.int IntKind.i64) (Row.cons (CTy.int IntKind.i64) (Row.cons (CTy.int IntKind.i64) (Row.one (CTy.int IntKind.i64)))))))).dflt).length + List.length ([cutList y1 none (some x4), y2, cutList y1 (some x4) (some (IntKind.i64.wrap (x1 - if (if IntKind.i64.wrap (x1 - x4) < x5 then IntKind.i64.wrap (x1 - x4) else x5) > (0 : Int) then if IntKind.i64.wrap (x1 - x4) < x5 then IntKind.i64.wrap (x1 - x4) else x5 else (0 : Int))))].getD (2 : Nat) (Row.one (CTy.slice (Row.cons (CTy.int IntKind.i32) (Row.cons (CTy.int IntKind.i64) (Row.cons (CTy.int IntKind.i64) (Row.cons (CTy.int IntKind.i64) (Row.one (CTy.int IntKind.i64)))))))).dflt)).ble (274877906944 : Nat) && true)) then (optK ((hide edit_turned_F x0 x1 x2 x3 ([cutList y1 none (some x4), y2, cutList y1 (some x4) (some (IntKind.i64.wrap (x1 - if (if IntKind.i64.wrap (x1 - x4) < x5 then IntKind.i64.wrap (x1 - x4) else x5) > (0 : Int) then if IntKind.i64.wrap (x1 - x4) < x5 then IntKind.i64.wrap (x1 - x4) else x5 else (0 : Int))))].getD (0 : Nat) (Row.one (CTy.slice (Row.cons (CTy.int IntKind.i32) (Row.cons (CTy.int IntKind.i64) (Row.cons (CTy.int IntKind.i64) (Row.cons (CTy.int IntKind.i64) (Row.one (CTy.int IntKind.i64)))))))).dflt ++ [cutList y1 none (some x4), y2, cutList y1 (some x4) (some (IntKind.i64.wrap (x1 - if (if IntKind.i64.wrap (x1 - x4) < x5 then IntKind.i64.wrap (x1 - x4) else x5) > (0 : Int) then if IntKind.i64.wrap (x1 - x4) < x5 then IntKind.i64.wrap (x1 - x4) else x5 else (0 : Int))))].getD (1 : Nat) (Row.one (CTy.slice (Row.cons (CTy.int IntKind.i32) (Row.cons (CTy.int IntKind.i64) (Row.cons (CTy.int IntKind.i64) (Row.cons (CTy.int IntKind.i64) (Row.one (CTy.int IntKind.i64)))))))).dflt ++ [cutList y1 none (some x4), y2, cutList y1 (some x4) (some (IntKind.i64.wrap (x1 - if (if IntKind.i64.wrap (x1 - x4) < x5 then IntKind.i64.wrap (x1 - x4) else x5) > (0 : Int) then if IntKind.i64.wrap (x1 - x4) < x5 then IntKind.i64.wrap (x1 - x4) else x5 else (0 : Int))))].getD (2 : Nat) (Row.one (CTy.slice (Row.cons (CTy.int IntKind.i32) (Row.cons (CTy.int IntKind.i64) (Row.cons (CTy.int IntKind.i64) (Row.cons (CTy.int IntKind.i64) (Row.one (CTy.int IntKind.i64)))))))).dflt))) fun y4 => (some ((y4.1), (y4.2.1), (y4.2.2)))) else none) else none) else none)))))) else none)) else none))))
noncomputable def edit_Insert_A : SkL := (.cons (.agg (.cons (.int .i64) (.cons (.int .i64) (.cons (.list (.cons (.int .i32) (.cons (.int .i64) (.cons (.int .i64) (.cons (.int .i64) (.one (.int .i64))))))) .nil)))) (.cons (.int .i64) (.cons (.int .i64) (.cons (.int .i64) (.cons (.agg (.cons (.int .i64) (.cons (.int .i64) (.cons (.int .i64) .nil)))) .nil)))))
noncomputable def edit_Insert_B : Sk := (.agg (.cons (.int .i64) (.cons (.int .i64) (.cons (.list (.cons (.int .i32) (.cons (.int .i64) (.cons (.int .i64) (.cons (.int .i64) (.one (.int .i64))))))) .nil))))
def edit_Insert_m {R : Type} (K : (Int × (Int × (List (Int × Int × Int × Int × Int) × Unit))) → Option R) (o : Option (Int × Int × (List (Int × Int × Int × Int × Int)))) : Option R := optK o fun y => K (y.1, (y.2.1, (y.2.2, ())))
theorem edit_Insert_run {R : Type} (x0 : Int) (x1 : Int) (x2 : List (Int × Int × Int × Int × Int)) (x3 : Int) (x4 : Int) (x5 : Int) (x6 : Int) (x7 : Int) (x8 : Int) (K : (Int × (Int × (List (Int × Int × Int × Int × Int) × Unit))) → Option R) : acall (envL edit_Insert_su ll0 cs0 (fun _ _ => false)) 1000 13 (edit_Insert_A.enc ((x0, (x1, (x2, ()))), (x3, (x4, (x5, ((x6, (x7, (x8, ()))), ())))))) [] (resK edit_Insert_B false K) = edit_Insert_m K (edit_Insert_F x0 x1 x2 x3 x4 x5 x6 x7 x8) := by
  unfold edit_Insert_F
  exact Eq.trans (by kernel_rfl) (optK_push (edit_Insert_m K) rfl _ fun y0 => (cond_push (edit_Insert_m K) _ (cond_push (edit_Insert_m K) _ rfl rfl) (optK_push (edit_Insert_m K) rfl _ fun y1 => (cond_push (edit_Insert_m K) _ (optK_push (edit_Insert_m K) rfl _ fun y2 => (cond_push (edit_Insert_m K) _ (cond_push (edit_Insert_m K) _ rfl (cond_push (edit_Insert_m K) _ rfl (cond_push (edit_Insert_m K) _ rfl (cond_push (edit_Insert_m K) _ rfl (cond_push (edit_Insert_m K) _ (cond_push (edit_Insert_m K) _ (cond_push (edit_Insert_m K) _ (cond_push (edit_Insert_m K) _ (cond_push (edit_Insert_m K) _ (optK_push (edit_Insert_m K) rfl _ fun y3 => rfl) rfl) rfl) rfl) rfl) (cond_push (edit_Insert_m K) _ (cond_push (edit_Insert_m K) _ (cond_push (edit_Insert_m K) _ (optK_push (edit_Insert_m K) rfl _ fun y4 => rfl) rfl) rfl) rfl)))))) rfl)) rfl))))
noncomputable def edit_Insert_G : GoF edit_Insert_A edit_Insert_B := fun R (x : ((Int × (Int × (List (Int × Int × Int × Int × Int) × Unit))) × (Int × (Int × (Int × ((Int × (Int × (Int × Unit))) × Unit)))))) K => edit_Insert_m K (hide edit_Insert_F x.1.1 x.1.2.1 x.1.2.2.1 x.2.1 x.2.2.1 x.2.2.2.1 x.2.2.2.2.1.1 x.2.2.2.2.1.2.1 x.2.2.2.2.1.2.2.1)
theorem edit_Insert_known : Known Try.prog 13 edit_Insert_A edit_Insert_B false edit_Insert_G := known_of (envL_ok edit_Insert_su_ok ll0_ok cs0_ok) (n := 1000) rfl fun R (x : ((Int × (Int × (List (Int × Int × Int × Int × Int) × Unit))) × (Int × (Int × (Int × ((Int × (Int × (Int × Unit))) × Unit)))))) K => by
  show _ = edit_Insert_m K (hide edit_Insert_F x.1.1 x.1.2.1 x.1.2.2.1 x.2.1 x.2.2.1 x.2.2.2.1 x.2.2.2.2.1.1 x.2.2.2.2.1.2.1 x.2.2.2.2.1.2.2.1)
  rw [hide_eq]
  exact edit_Insert_run x.1.1 x.1.2.1 x.1.2.2.1 x.2.1 x.2.2.1 x.2.2.2.1 x.2.2.2.2.1.1 x.2.2.2.2.1.2.1 x.2.2.2.2.1.2.2.1 K

noncomputable def edit_Delete_su : SumT := (18, sumH grid_At_A grid_At_B true grid_At_G) :: (57, sumW slices_Clone_api_Cell_A slices_Clone_api_Cell_B slices_Clone_api_Cell_G) :: (41, sumH edit_parted_A edit_parted_B true edit_parted_G) :: (44, sumH edit_blanks_A edit_blanks_B true edit_blanks_G) :: (42, sumH edit_turned_A edit_turned_B true edit_turned_G) :: sums0
theorem edit_Delete_su_ok : AllSum Try.prog edit_Delete_su := ⟨sumH_ok rfl rfl grid_At_known, ⟨sumW_ok rfl rfl rfl slices_Clone_api_Cell_known, ⟨sumH_ok rfl rfl edit_parted_known, ⟨sumH_ok rfl rfl edit_blanks_known, ⟨sumH_ok rfl rfl edit_turned_known, sums0_ok⟩⟩⟩⟩⟩
noncomputable def edit_Delete_F (x0 : Int) (x1 : Int) (x2 : List (Int × Int × Int × Int × Int)) (x3 : Int) (x4 : Int) (x5 : Int) (x6 : Int) (x7 : Int) (x8 : Int) : Option (Int × Int × (List (Int × Int × Int × Int × Int))) := (optK ((hide grid_At_F x0 x1 x2 x3 x4)) fun y0 => (bif (!y0.2.2.2.2.2) then (bif (x2.length.ble (274877906944 : Nat)) then (some (x0, x1, x2)) else none) else (optK ((hide edit_parted_F x0 x1 x2 x3 x4)) fun y1 => (bif (bnds none (some x4) y1.length && true) then (bif (bnds (some (IntKind.i64.wrap (x4 + if (if IntKind.i64.wrap (x1 - x4) < x5 then IntKind.i64.wrap (x1 - x4) else x5) > (0 : Int) then if IntKind.i64.wrap (x1 - x4) < x5 then IntKind.i64.wrap (x1 - x4) else x5 else (0 : Int)))) none y1.length && true) then (optK ((hide edit_blanks_F (if (if IntKind.i64.wrap (x1 - x4) < x5 then IntKind.i64.wrap (x1 - x4) else x5) > (0 : Int) then if IntKind.i64.wrap (x1 - x4) < x5 then IntKind.i64.wrap (x1 - x4) else x5 else (0 : Int)) x6 x7 x8)) fun y2 => (bif (decide (IntKind.i64.wrap ((0 : Int) + Int.ofNat (List.length ([cutList y1 none (some x4), cutList y1 (some (IntKind.i64.wrap (x4 + if (if IntKind.i64.wrap (x1 - x4) < x5 then IntKind.i64.wrap (x1 - x4) else x5) > (0 : Int) then if IntKind.i64.wrap (x1 - x4) < x5 then IntKind.i64.wrap (x1 - x4) else x5 else (0 : Int)))) none, y2].getD (0 : Nat) (Row.one (CTy.slice (Row.cons (CTy.int IntKind.i32) (Row.cons (CTy.int IntKind.i64) (Row.cons (CTy.int IntKind.i64) (Row.cons (CTy.int IntKind.i64) (Row.one (CTy.int IntKind.i64)))))))).dflt))) < (0 : Int))) then none else (bif (decide (IntKind.i64.wrap (IntKind.i64.wrap ((0 : Int) + Int.ofNat (List.length ([cutList y1 none (some x4), cutList y1 (some (IntKind.i64.wrap (x4 + if (if IntKind.i64.wrap (x1 - x4) < x5 then IntKind.i64.wrap (x1 - x4) else x5) > (0 : Int) then if IntKind.i64.wrap (x1 - x4) < x5 then IntKind.i64.wrap (x1 - x4) else x5 else (0 : Int)))) none, y2].getD (0 : Nat) (Row.one (CTy.slice (Row.cons (CTy.int IntKind.i32) (Row.cons (CTy.int IntKind.i64) (Row.cons (CTy.int IntKind.i64) (Row.cons (CTy.int IntKind.i64) (Row.one (CTy.int IntKind.i64)))))))).dflt))) + Int.ofNat (List.length ([cutList y1 none (some x4), cutList y1 (some (IntKind.i64.wrap (x4 + if (if IntKind.i64.wrap (x1 - x4) < x5 then IntKind.i64.wrap (x1 - x4) else x5) > (0 : Int) then if IntKind.i64.wrap (x1 - x4) < x5 then IntKind.i64.wrap (x1 - x4) else x5 else (0 : Int)))) none, y2].getD (1 : Nat) (Row.one (CTy.slice (Row.cons (CTy.int IntKind.i32) (Row.cons (CTy.int IntKind.i64) (Row.cons (CTy.int IntKind.i64) (Row.cons (CTy.int IntKind.i64) (Row.one (CTy.int IntKind.i64)))))))).dflt))) < (0 : Int))) then none else (bif (decide (IntKind.i64.wrap (IntKind.i64.wrap (IntKind.i64.wrap ((0 : Int) + Int.ofNat (List.length ([cutList y1 none (some x4), cutList y1 (some (IntKind.i64.wrap (x4 + if (if IntKind.i64.wrap (x1 - x4) < x5 then IntKind.i64.wrap (x1 - x4) else x5) > (0 : Int) then if IntKind.i64.wrap (x1 - x4) < x5 then IntKind.i64.wrap (x1 - x4) else x5 else (0 : Int)))) none, y2].getD (0 : Nat) (Row.one (CTy.slice (Row.cons (CTy.int IntKind.i32) (Row.cons (CTy.int IntKind.i64) (Row.cons (CTy.int IntKind.i64) (Row.cons (CTy.int IntKind.i64) (Row.one (CTy.int IntKind.i64)))))))).dflt))) + Int.ofNat (List.length ([cutList y1 none (some x4), cutList y1 (some (IntKind.i64.wrap (x4 + if (if IntKind.i64.wrap (x1 - x4) < x5 then IntKind.i64.wrap (x1 - x4) else x5) > (0 : Int) then if IntKind.i64.wrap (x1 - x4) < x5 then IntKind.i64.wrap (x1 - x4) else x5 else (0 : Int)))) none, y2].getD (1 : Nat) (Row.one (CTy.slice (Row.cons (CTy.int IntKind.i32) (Row.cons (CTy.int IntKind.i64) (Row.cons (CTy.int IntKind.i64) (Row.cons (CTy.int IntKind.i64) (Row.one (CTy.int IntKind.i64)))))))).dflt))) + Int.ofNat (List.length ([cutList y1 none (some x4), cutList y1 (some (IntKind.i64.wrap (x4 + if (if IntKind.i64.wrap (x1 - x4) < x5 then IntKind.i64.wrap (x1 - x4) else x5) > (0 : Int) then if IntKind.i64.wrap (x1 - x4) < x5 then IntKind.i64.wrap (x1 - x4) else x5 else (0 : Int)))) none, y2].getD (2 : Nat) (Row.one (CTy.slice (Row.cons (CTy.int IntKind.i32) (Row.cons (CTy.int IntKind.i64) (Row.cons (CTy.int IntKind.i64) (Row.cons (CTy.int IntKind.i64) (Row.one (CTy.int IntKind.i64)))))))).dflt))) < (0 : Int))) then none else (bif (decide (IntKind.i64.wrap (IntKind.i64.wrap (IntKind.i64.wrap ((0 : Int) + Int.ofNat (List.length ([cutList y1 none (some x4), cutList y1 (some (IntKind.i64.wrap (x4 + if (if IntKind.i64.wrap (x1 - x4) < x5 then IntKind.i64.wrap (x1 - x4) else x5) > (0 : Int) then if IntKind.i64.wrap (x1 - x4) < x5 then IntKind.i64.wrap (x1 - x4) else x5 else (0 : Int)))) none, y2].getD (0 : Nat) (Row.one (CTy.slice (Row.cons (CTy.int IntKind.i32) (Row.cons (CTy.int IntKind.i64) (Row.cons (CTy.int IntKind.i64) (Row.cons (CTy.int IntKind.i64) (Row.one (CTy.int IntKind.i64)))))))).dflt))) + Int.ofNat (List.length ([cutList y1 none (some x4), cutList y1 (some (IntKind.i64.wrap (x4 + if (if IntKind.i64.wrap (x1 - x4) < x5 then IntKind.i64.wrap (x1 - x4) else x5) > (0 : Int) then if IntKind.i64.wrap (x1 - x4) < x5 then IntKind.i64.wrap (x1 - x4) else x5 else (0 : Int)))) none, y2].getD (1 : Nat) (Row.one (CTy.slice (Row.cons (CTy.int IntKind.i32) (Row.cons (CTy.int IntKind.i64) (Row.cons (CTy.int IntKind.i64) (Row.cons (CTy.int IntKind.i64) (Row.one (CTy.int IntKind.i64)))))))).dflt))) + Int.ofNat (List.length ([cutList y1 none (some x4), cutList y1 (some (IntKind.i64.wrap (x4 + if (if IntKind.i64.wrap (x1 - x4) < x5 then IntKind.i64.wrap (x1 - x4) else x5) > (0 : Int) then if IntKind.i64.wrap (x1 - x4) < x5 then IntKind.i64.wrap (x1 - x4) else x5 else (0 : Int)))) none, y2].getD (2 : Nat) (Row.one (CTy.slice (Row.cons (CTy.int IntKind.i32) (Row.cons (CTy.int IntKind.i64) (Row.cons (CTy.int IntKind.i64) (Row.cons (CTy.int IntKind.i64) (Row.one (CTy.int IntKind.i64)))))))).dflt))) < (0 : Int))) then none else (bif (decide (IntKind.i64.wrap (IntKind.i64.wrap (IntKind.i64.wrap (IntKind.i64.wrap ((0 : Int) + Int.ofNat (List.length ([cutList y1 none (some x4), cutList y1 (some (IntKind.i64.wrap (x4 + if (if IntKind.i64.wrap (x1 - x4) < x5 then IntKind.i64.wrap (x1 - x4) else x5) > (0 : Int) then if IntKind.i64.wrap (x1 - x4) < x5 then IntKind.i64.wrap (x1 - x4) else x5 else (0 : Int)))) none, y2].getD (0 : Nat) (Row.one (CTy.slice (Row.cons (CTy.int IntKind.i32) (Row.cons (CTy.int IntKind.i64) (Row.cons (CTy.int IntKind.i64) (Row.cons (CTy.int IntKind.i64) (Row.one (CTy.int IntKind.i64)))))))).dflt))) + Int.ofNat (List.length ([cutList y1 none (some x4), cutList y1 (some (IntKind.i64.wrap (x4 + if (if IntKind.i64.wrap (x1 - x4) < x5 then IntKind.i64.wrap (x1 - x4) else x5) > (0 : Int) then if IntKind.i64.wrap (x1 - x4) < x5 then IntKind.i64.wrap (x1 - x4) else x5 else (0 : Int)))) none, y2].getD (1 : Nat) (Row.one (CTy.slice (Row.cons (CTy.int IntKind.i32) (Row.cons (CTy.int IntKind.i64) (Row.cons (CTy.int IntKind.i64) (Row.cons (CTy.int IntKind.i64) (Row.one (CTy.int IntKind.i64)))))))).dflt))) + Int.ofNat (List.length ([cutList y1 none (some x4), cutList y1 (some (IntKind.i64.wrap (x4 + if (if IntKind.i64.wrap (x1 - x4) < x5 then IntKind.i64.wrap (x1 - x4) else x5) > (0 : Int) then if IntKind.i64.wrap (x1 - x4) < x5 then IntKind.i64.wrap (x1 - x4) else x5 else (0 : Int)))) none, y2].getD (2 : Nat) (Row.one (CTy.slice (Row.cons (CTy.int IntKind.i32) (Row.cons (CTy.int IntKind.i64) (Row.cons (CTy.int IntKind.i64) (Row.cons (CTy.int IntKind.i64) (Row.one (CTy.int IntKind.i64)))))))).dflt))) - (0 : Int)) > (0 : Int))) then (bif (decide ((0 : Int) < IntKind.i64.wrap (IntKind.i64.wrap (IntKind.i64.wrap (IntKind.i64.wrap ((0 : Int) + Int.ofNat (List.length ([cutList y1 none (some x4), cutList y1 (some (IntKind.i64.wrap (x4 + if (if IntKind.i64.wrap (x1 - x4) < x5 then IntKind.i64.wrap (x1 - x4) else x5) > (0 : Int) then if IntKind.i64.wrap (x1 - x4) < x5 then IntKind.i64.wrap (x1 - x4) else x5 else (0 : Int)))) none, y2].getD (0 : Nat) (Row.one (CTy.slice (Row.cons (CTy.int IntKind.i32) (Row.cons (CTy.int IntKind.i64) (Row.cons (CTy.int IntKind.i64) (Row.cons (CTy.int IntKind.i64) (Row.one (CTy.int IntKind.i64)))))))).dflt))) + Int.ofNat (List.length ([cutList y1 none (some x4), cutList y1 (some (IntKind.i64.wrap (x4 + if (if IntKind.i64.wrap (x1 - x4) < x5 then IntKind.i64.wrap (x1 - x4) else x5) > (0 : Int) then if IntKind.i64.wrap (x1 - x4) < x5 then IntKind.i64.wrap (x1 - x4) else x5 else (0 : Int)))) none, y2].getD (1 : Nat) (Row.one (CTy.slice (Row.cons (CTy.int IntKind.i32) (Row.cons (CTy.int IntKind.i64) (Row.cons (CTy.int IntKind.i64) (Row.cons (CTy.int IntKind.i64) (Row.one (CTy.int IntKind.i64)))))))).dflt))) + Int.ofNat (List.length ([cutList y1 none (some x4), cutList y1 (some (IntKind.i64.wrap (x4 + if (if IntKind.i64.wrap (x1 - x4) < x5 then IntKind.i64.wrap (x1 - x4) else x5) > (0 : Int) then if IntKind.i64.wrap (x1 - x4) < x5 then IntKind.i64.wrap (x1 - x4) else x5 else (0 : Int)))) none, y2].getD (2 : Nat) (Row.one (CTy.slice (Row.cons (CTy.int IntKind.i32) (Row.cons (CTy.int IntKind.i64) (Row.cons (CTy.int IntKind.i64) (Row.cons (CTy.int IntKind.i64) (Row.one (CTy.int IntKind.i64)))))))).dflt))) - (0 : Int))) && decide (IntKind.i64.wrap (IntKind.i64.wrap (IntKind.i64.wrap (IntKind.i64.wrap ((0 : Int) + Int.ofNat (List.length ([cutList y1 none (some x4), cutList y1 (some (IntKind.i64.wrap (x4 + if (if IntKind.i64.wrap (x1 - x4) < x5 then IntKind.i64.wrap (x1 - x4) else x5) > (0 : Int) then if IntKind.i64.wrap (x1 - x4) < x5 then IntKind.i64.wrap (x1 - x4) else x5 else (0 : Int)))) none, y2].getD (0 : Nat) (Row.one (CTy.slice (Row.cons (CTy.int IntKind.i32) (Row.cons (CTy.int IntKind.i64) (Row.cons (CTy.int IntKind.i64) (Row.cons (CTy.int IntKind.i64) (Row.one (CTy.int IntKind.i64)))))))).dflt))) + Int.ofNat (List.length ([cutList y1 none (some x4), cutList y1 (some (IntKind.i64.wrap (x4 + if (if IntKind.i64.wrap (x1 - x4) < x5 then IntKind.i64.wrap (x1 - x4) else x5) > (0 : Int) then if IntKind.i64.wrap (x1 - x4) < x5 then IntKind.i64.wrap (x1 - x4) else x5 else (0 : Int)))) none, y2].getD (1 : Nat) (Row.one (CTy.slice (Row.cons (CTy.int IntKind.i32) (Row.cons (CTy.int IntKind.i64) (Row.cons (CTy.int IntKind.i64) (Row.cons (CTy.int IntKind.i64) (Row.one (CTy.int IntKind.i64)))))))).dflt))) + Int.ofNat (List.length ([cutList y1 none (some x4), cutList y1 (some (IntKind.i64.wrap (x4 + if (if IntKind.i64.wrap (x1 - x4) < x5 then IntKind.i64.wrap (x1 - x4) else x5) > (0 : Int) then if IntKind.i64.wrap (x1 - x4) < x5 then IntKind.i64.wrap (x1 - x4) else x5 else (0 : Int)))) none, y2].getD (2 : Nat) (Row.one (CTy.slice (Row.cons (CTy.int IntKind.i32) (Row.cons (CTy.int IntKind.i64) (Row.cons (CTy.int IntKind.i64) (Row.cons (CTy.int IntKind.i64) (Row.one (CTy.int IntKind.i64)))))))).dflt))) - (0 : Int)) ≤ (274877906944 : Int)) && true) then (bif (((0 : Nat) + (((some (0 : Int)).getD (Int.ofNat (rowN ((0 : Int), (0 : Int), (0 : Int), (0 : Int), (0 : Int)) (IntKind.i64.wrap (IntKind.i64.wrap (IntKind.i64.wrap (IntKind.i64.wrap ((0 : Int) + Int.ofNat (List.length ([cutList y1 none (some x4), cutList y1 (some (IntKind.i64.wrap (x4 + if (if IntKind.i64.wrap (x1 - x4) < x5 then IntKind.i64.wrap (x1 - x4) else x5) > (0 : Int) then if IntKind.i64.wrap (x1 - x4) < x5 then IntKind.i64.wrap (x1 - x4) else x5 else (0 : Int)))) none, y2].getD (0 : Nat) (Row.one (CTy.slice (Row.cons (CTy.int IntKind.i32) (Row.cons (CTy.int IntKind.i64) (Row.cons (CTy.int IntKind.i64) (Row.cons (CTy.int IntKind.i64) (Row.one (CTy.int IntKind.i64)))))))).dflt))) + Int.ofNat (List.length ([cutList y1 none (some x4), cutList y1 (some (IntKind.i64.wrap (x4 + if (if IntKind.i64.wrap (x1 - x4) < x5 then IntKind.i64.wrap (x1 - x4) else x5) > (0 : Int) then if IntKind.i64.wrap (x1 - x4) < x5 then IntKind.i64.wrap (x1 - x4) else x5 else (0 : Int)))) none, y2].getD (1 : Nat) (Row.one (CTy.slice (Row.cons (CTy.int IntKind.i32) (Row.cons (CTy.int IntKind.i64) (Row.cons (CTy.int IntKind.i64) (Row.cons (CTy.int IntKind.i64) (Row.one (CTy.int IntKind.i64)))))))).dflt))) + Int.ofNat (List.length ([cutList y1 none (some x4), cutList y1 (some (IntKind.i64.wrap (x4 + if (if IntKind.i64.wrap (x1 - x4) < x5 then IntKind.i64.wrap (x1 - x4) else x5) > (0 : Int) then if IntKind.i64.wrap (x1 - x4) < x5 then IntKind.i64.wrap (x1 - x4) else x5 else (0 : Int)))) none, y2].getD (2 : Nat) (Row.one (CTy.slice (Row.cons (CTy.int IntKind.i32) (Row.cons (CTy.int IntKind.i64) (Row.cons (CTy.int IntKind.i64) (Row.cons (CTy.int IntKind.i64) (Row.one (CTy.int IntKind.i64)))))))).dflt))) - (0 : Int))).toNat).length)).toNat - (0 : Nat)) + List.length ([cutList y1 none (some x4), cutList y1 (some (IntKind.i64.wrap (x4 + if (if IntKind.i64.wrap (x1 - x4) < x5 then IntKind.i64.wrap (x1 - x4) else x5) > (0 : Int) then if IntKind.i64.wrap (x1 - x4) < x5 then IntKind.i64.wrap (x1 - x4) else x5 else (0 : Int)))) none, y2].getD (0 : Nat) (Row.one (CTy.slice (Row.cons (CTy.int IntKind.i32) (Row.cons (CTy.int IntKind.i64) (Row.cons (CTy.int IntKind.i64) (Row.cons (CTy.int IntKind.i64) (Row.one (CTy.int IntKind.i64)))))))).dflt)).ble (rowN ((0 : Int), (0 : Int), (0 : Int), (0 : Int), (0 : Int)) (IntKind.i64.wrap (IntKind.i64.wrap (IntKind.i64.wrap (IntKind.i64.wrap ((0 : Int) + Int.ofNat (List.length ([cutList y1 none (some x4), cutList y1 (some (IntKind.i64.wrap (x4 + if (if IntKind.i64.wrap (x1 - x4) < x5 then IntKind.i64.wrap (x1 - x4) else x5) > (0 : Int) then if IntKind.i64.wrap (x1 - x4) < x5 then IntKind.i64.wrap (x1 - x4) else x5 else (0 : Int)))) none, y2].getD (0 : Nat) (Row.one (CTy.slice (Row.cons (CTy.int IntKind.i32) (Row.cons (CTy.int IntKind.i64) (Row.cons (CTy.int IntKind.i64) (Row.cons (CTy.int IntKind.i64) (Row.one (CTy.int IntKind.i64)))))))).dflt))) + Int.ofNat (List.length ([cutList y1 none (some x4), cutList y1 (some (IntKind.i64.wrap (x4 + if (if IntKind.i64.wrap (x1 - x4) < x5 then IntKind.i64.wrap (x1 - x4) else x5) > (0 : Int) then if IntKind.i64.wrap (x1 - x4) < x5 then IntKind.i64.wrap (x1 - x4) else x5 else (0 : Int)))) none, y2].getD (1 : Nat) (Row.one (CTy.slice (Row.cons (CTy.int IntKind.i32) (Row.cons (CTy.int IntKind.i64) (Row.cons (CTy.int IntKind.i64) (Row.cons (CTy.int IntKind.i64) (Row.one (CTy.int IntKind.i64)))))))).dflt))) + Int.ofNat (List.length ([cutList y1 none (some x4), cutList y1 (some (IntKind.i64.wrap (x4 + if (if IntKind.i64.wrap (x1 - x4) < x5 then IntKind.i64.wrap (x1 - x4) else x5) > (0 : Int) then if IntKind.i64.wrap (x1 - x4) < x5 then IntKind.i64.wrap (x1 - x4) else x5 else (0 : Int)))) none, y2].getD (2 : Nat) (Row.one (CTy.slice (Row.cons (CTy.int IntKind.i32) (Row.cons (CTy.int IntKind.i64) (Row.cons (CTy.int IntKind.i64) (Row.cons (CTy.int IntKind.i64) (Row.one (CTy.int IntKind.i64)))))))).dflt))) - (0 : Int))).toNat).length) then (bif (((0 : Nat) + (((some (0 : Int)).getD (Int.ofNat (rowN ((0 : Int), (0 : Int), (0 : Int), (0 : Int), (0 : Int)) (IntKind.i64.wrap (IntKind.i64.wrap (IntKind.i64.wrap (IntKind.i64.wrap ((0 : Int) + Int.ofNat (List.length ([cutList y1 none (some x4), cutList y1 (some (IntKind.i64.wrap (x4 + if (if IntKind.i64.wrap (x1 - x4) < x5 then IntKind.i64.wrap (x1 - x4) else x5) > (0 : Int) then if IntKind.i64.wrap (x1 - x4) < x5 then IntKind.i64.wrap (x1 - x4) else x5 else (0 : Int)))) none, y2].getD (0 : Nat) (Row.one (CTy.slice (Row.cons (CTy.int IntKind.i32) (Row.cons (CTy.int IntKind.i64) (Row.cons (CTy.int IntKind.i64) (Row.cons (CTy.int IntKind.i64) (Row.one (CTy.int IntKind.i64)))))))).dflt))) + Int.ofNat (List.length ([cutList y1 none (some x4), cutList y1 (some (IntKind.i64.wrap (x4 + if (if IntKind.i64.wrap (x1 - x4) < x5 then IntKind.i64.wrap (x1 - x4) else x5) > (0 : Int) then if IntKind.i64.wrap (x1 - x4) < x5 then IntKind.i64.wrap (x1 - x4) else x5 else (0 : Int)))) none, y2].getD (1 : Nat) (Row.one (CTy.slice (Row.cons (CTy.int IntKind.i32) (Row.cons (CTy.int IntKind.i64) (Row.cons (CTy.int IntKind.i64) (Row.cons (CTy.int IntKind.i64) (Row.one (CTy.int IntKind.i64)))))))).dflt))) + Int.ofNat (List.length ([cutList y1 none (some x4), cutList y1 (some (IntKind.i64.wrap (x4 + if (if IntKind.i64.wrap (x1 - x4) < x5 then IntKind.i64.wrap (x1 - x4) else x5) > (0 : Int) then if IntKind.i64.wrap (x1 - x4) < x5 then IntKind.i64.wrap (x1 - x4) else x5 else (0 : Int)))) none, y2].getD (2 : Nat) (Row.one (CTy.slice (Row.cons (CTy.int IntKind.i32) (Row.cons (CTy.int IntKind.i64) (Row.cons (CTy.int IntKind.i64) (Row.cons (CTy.int IntKind.i64) (Row.one (CTy.int IntKind.i64)))))))).dflt))) - (0 : Int))).toNat).length)).toNat - (0 : Nat) + List.length ([cutList y1 none (some x4), cutList y1 (some (IntKind.i64.wrap (x4 + if (if IntKind.i64.wrap (x1 - x4) < x5 then IntKind.i64.wrap (x1 - x4) else x5) > (0 : Int) then if IntKind.i64.wrap (x1 - x4) < x5 then IntKind.i64.wrap (x1 - x4) else x5 else (0 : Int)))) none, y2].getD (0 : Nat) (Row.one (CTy.slice (Row.cons (CTy.int IntKind.i32) (Row.cons (CTy.int IntKind.i64) (Row.cons (CTy.int IntKind.i64) (Row.cons (CTy.int IntKind.i64) (Row.one (CTy.int IntKind.i64)))))))).dflt)) + List.length ([cutList y1 none (some x4), cutList y1 (some (IntKind.i64.wrap (x4 + if (if IntKind.i64.wrap (x1 - x4) < x5 then IntKind.i64.wrap (x1 - x4) else x5) > (0 : Int) then if IntKind.i64.wrap (x1 - x4) < x5 then IntKind.i64.wrap (x1 - x4) else x5 else (0 : Int)))) none, y2].getD (1 : Nat) (Row.one (CTy.slice (Row.cons (CTy.int IntKind.i32) (Row.cons (CTy.int IntKind.i64) (Row.cons (CTy.int IntKind.i64) (Row.cons (CTy.int IntKind.i64) (Row.one (CTy.int IntKind.i64)))))))).dflt)).ble (splice (rowN ((0 : Int), (0 : Int), (0 : Int), (0 : Int), (0 : Int)) (IntKind.i64.wrap (IntKind.i64.wrap (IntKind.i64.wrap (IntKind.i64.wrap ((0 : Int) + Int.ofNat (List.length ([cutList y1 none (some x4), cutList y1 (some (IntKind.i64.wrap (x4 + if (if IntKind.i64.wrap (x1 - x4) < x5 then IntKind.i64.wrap (x1 - x4) else x5) > (0 : Int) then if IntKind.i64.wrap (x1 - x4) < x5 then IntKind.i64.wrap (x1 - x4) else x5 else (0 : Int)))) none, y2].getD (0 : Nat) (Row.one (CTy.slice (Row.cons (CTy.int IntKind.i32) (Row.cons (CTy.int IntKind.i64) (Row.cons (CTy.int IntKind.i64) (Row.cons (CTy.int IntKind.i64) (Row.one (CTy.int IntKind.i64)))))))).dflt))) + Int.ofNat (List.length ([cutList y1 none (some x4), cutList y1 (some (IntKind.i64.wrap (x4 + if (if IntKind.i64.wrap (x1 - x4) < x5 then IntKind.i64.wrap (x1 - x4) else x5) > (0 : Int) then if IntKind.i64.wrap (x1 - x4) < x5 then IntKind.i64.wrap (x1 - x4) else x5 else (0 : Int)))) none, y2].getD (1 : Nat) (Row.one (CTy.slice (Row.cons (CTy.int IntKind.i32) (Row.cons (CTy.int IntKind.i64) (Row.cons (CTy.int IntKind.i64) (Row.cons (CTy.int IntKind.i64) (Row.one (CTy.int IntKind.i64)))))))).dflt))) + Int.ofNat (List.length ([cutList y1 none (some x4), cutList y1 (some (IntKind.i64.wrap (x4 + if (if IntKind.i64.wrap (x1 - x4) < x5 then IntKind.i64.wrap (x1 - x4) else x5) > (0 : Int) then if IntKind.i64.wrap (x1 - x4) < x5 then IntKind.i64.wrap (x1 - x4) else x5 else (0 : Int)))) none, y2].getD (2 : Nat) (Row.one (CTy.slice (Row.cons (CTy.int IntKind.i32) (Row.cons (CTy.int IntKind.i64) (Row.cons (CTy.int IntKind.i64) (Row.cons (CTy.int IntKind.i64) (Row.one (CTy.int IntKind.i64)))))))).dflt))) - (0 : Int))).toNat) ((0 : Nat) + (((some (0 : Int)).getD (Int.ofNat (rowN ((0 : Int), (0 : Int), (0 : Int), (0 : Int), (0 : Int)) (IntKind.i64.wrap (IntKind.i64.wrap (IntKind.i64.wrap (IntKind.i64.wrap ((0 : Int) + Int.ofNat (List.length ([cutList y1 none (some x4), cutList y1 (some (IntKind.i64.wrap (x4 + if (if IntKind.i64.wrap (x1 - x4) < x5 then IntKind.i64.wrap (x1 - x4) else x5) > (0 : Int) then if IntKind.i64.wrap (x1 - x4) < x5 then IntKind.i64.wrap (x1 - x4) else x5 else (0 : Int)))) none, y2].getD (0 : Nat) (Row.one (CTy.slice (Row.cons (CTy.int IntKind.i32) (Row.cons (CTy.int IntKind.i64) (Row.cons (CTy.int IntKind.i64) (Row.cons (CTy.int IntKind.i64) (Row.one (CTy.int IntKind.i64)))))))).dflt))) + Int.ofNat (List.length ([cutList y1 none (some x4), cutList y1 (some (IntKind.i64.wrap (x4 + if (if IntKind.i64.wrap (x1 - x4) < x5 then IntKind.i64.wrap (x1 - x4) else x5) > (0 : Int) then if IntKind.i64.wrap (x1 - x4) < x5 then IntKind.i64.wrap (x1 - x4) else x5 else (0 : Int)))) none, y2].getD (1 : Nat) (Row.one (CTy.slice (Row.cons (CTy.int IntKind.i32) (Row.cons (CTy.int IntKind.i64) (Row.cons (CTy.int IntKind.i64) (Row.cons (CTy.int IntKind.i64) (Row.one (CTy.int IntKind.i64)))))))).dflt))) + Int.ofNat (List.length ([cutList y1 none (some x4), cutList y1 (some (IntKind.i64.wrap (x4 + if (if IntKind.i64.wrap (x1 - x4) < x5 then IntKind.i64.wrap (x1 - x4) else x5) > (0 : Int) then if IntKind.i64.wrap (x1 - x4) < x5 then IntKind.i64.wrap (x1 - x4) else x5 else (0 : Int)))) none, y2].getD (2 : Nat) (Row.one (CTy.slice (Row.cons (CTy.int IntKind.i32) (Row.cons (CTy.int IntKind.i64) (Row.cons (CTy.int IntKind.i64) (Row.cons (CTy.int IntKind.i64) (Row.one (CTy.int IntKind.i64)))))))).dflt))) - (0 : Int))).toNat).length)).toNat - (0 : Nat))) ([cutList y1 none (some x4), cutList y1 (some (IntKind.i64.wrap (x4 + if (if IntKind.i64.wrap (x1 - x4) < x5 then IntKind.i64.wrap (x1 - x4) else x5) > (0 : Int) then if IntKind.i64.wrap (x1 - x4) < x5 then IntKind.i64.wrap (x1 - x4) else x5 else (0 : Int)))) none, y2].getD (0 : Nat) (Row.one (CTy.slice (Row.cons (CTy.int IntKind.i32) (Row.cons (CTy.int IntKind.i64) (Row.cons (CTy.int IntKind.i64) (Row.cons (CTy.int IntKind.i64) (Row.one (CTy.int IntKind.i64)))))))).dflt)).length) then (bif (((0 : Nat) + (((some (0 : Int)).getD (Int.ofNat (rowN ((0 : Int), (0 : Int), (0 : Int), (0 : Int), (0 : Int)) (IntKind.i64.wrap (IntKind.i64.wrap (IntKind.i64.wrap (IntKind.i64.wrap ((0 : Int) + Int.ofNat (List.length ([cutList y1 none (some x4), cutList y1 (some (IntKind.i64.wrap (x4 + if (if IntKind.i64.wrap (x1 - x4) < x5 then IntKind.i64.wrap (x1 - x4) else x5) > (0 : Int) then if IntKind.i64.wrap (x1 - x4) < x5 then IntKind.i64.wrap (x1 - x4) else x5 else (0 : Int)))) none, y2].getD (0 : Nat) (Row.one (CTy.slice (Row.cons (CTy.int IntKind.i32) (Row.cons (CTy.int IntKind.i64) (Row.cons (CTy.int IntKind.i64) (Row.cons (CTy.int IntKind.i64) (Row.one (CTy.int IntKind.i64)))))))).dflt))) + Int.ofNat (List.length ([cutList y1 none (some x4), cutList y1 (some (IntKind.i64.wrap (x4 + if (if IntKind.i64.wrap (x1 - x4) < x5 then IntKind.i64.wrap (x1 - x4) else x5) > (0 : Int) then if IntKind.i64.wrap (x1 - x4) < x5 then IntKind.i64.wrap (x1 - x4) else x5 else (0 : Int)))) none, y2].getD (1 : Nat) (Row.one (CTy.slice (Row.cons (CTy.int IntKind.i32) (Row.cons (CTy.int IntKind.i64) (Row.cons (CTy.int IntKind.i64) (Row.cons (CTy.int IntKind.i64) (Row.one (CTy.int IntKind.i64)))))))).dflt))) + Int.ofNat (List.length ([cutList y1 none (some x4), cutList y1 (some (IntKind.i64.wrap (x4 + if (if IntKind.i64.wrap (x1 - x4) < x5 then IntKind.i64.wrap (x1 - x4) else x5) > (0 : Int) then if IntKind.i64.wrap (x1 - x4) < x5 then IntKind.i64.wrap (x1 - x4) else x5 else (0 : Int)))) none, y2].getD (2 : Nat) (Row.one (CTy.slice (Row.cons (CTy.int IntKind.i32) (Row.cons (CTy.int IntKind.i64) (Row.cons (CTy.int IntKind.i64) (Row.cons (CTy.int IntKind.i64) (Row.one (CTy.int IntKind.i64)))))))).dflt))) - (0 : Int))).toNat).length)).toNat - (0 : Nat) + List.length ([cutList y1 none (some x4), cutList y1 (some (IntKind.i64.wrap (x4 + if (if IntKind.i64.wrap (x1 - x4) < x5 then IntKind.i64.wrap (x1 - x4) else x5) > (0 : Int) then if IntKind.i64.wrap (x1 - x4) < x5 then IntKind.i64.wrap (x1 - x4) else x5 else (0 : Int)))) none, y2].getD (0 : Nat) (Row.one (CTy.slice (Row.cons (CTy.int IntKind.i32) (Row.cons (CTy.int IntKind.i64) (Row.cons (CTy.int IntKind.i64) (Row.cons (CTy.int IntKind.i64) (Row.one (CTy.int IntKind.i64)))))))).dflt) + List.length ([cutList y1 none (some x4), cutList y1 (some (IntKind.i64.wrap (x4 + if (if IntKind.i64.wrap (x1 - x4) < x5 then IntKind.i64.wrap (x1 - x4) else x5) > (0 : Int) then if IntKind.i64.wrap (x1 - x4) < x5 then IntKind.i64.wrap (x1 - x4) else x5 else (0 : Int)))) none, y2].getD (1 : Nat) (Row.one (CTy.slice (Row.cons (CTy.int IntKind.i32) (Row.cons (CTy.int IntKind.i64) (Row.cons (CTy.int IntKind.i64) (Row.cons (CTy.int IntKind.i64) (Row.one (CTy.int IntKind.i64)))))))).dflt)) + List.length ([cutList y1 none (some x4), cutList y1 (some (IntKind.i64.wrap (x4 + if (if IntKind.i64.wrap (x1 - x4) < x5 then IntKind.i64.wrap (x1 - x4) else x5) > (0 : Int) then if IntKind.i64.wrap (x1 - x4) < x5 then IntKind.i64.wrap (x1 - x4) else x5 else (0 : Int)))) none, y2].getD (2 : Nat) (Row.one (CTy.slice (Row.cons (CTy.int IntKind.i32) (Row.cons (CTy.int IntKind.i64) (Row.cons (CTy.int IntKind.i64) (Row.cons (CTy.int IntKind.i64) (Row.one (CTy.int IntKind.i64)))))))).dflt)).ble (splice (splice (rowN ((0 : Int), (0 : Int), (0 : Int), (0 : Int), (0 : Int)) (IntKind.i64.wrap (IntKind.i64.wrap (IntKind.i64.wrap (IntKind.i64.wrap ((0 : Int) + Int.ofNat (List.length ([cutList y1 none (some x4), cutList y1 (some (IntKind.i64.wrap (x4 + if (if IntKind.i64.wrap (x1 - x4) < x5 then IntKind.i64.wrap (x1 - x4) else x5) > (0 : Int) then if IntKind.i64.wrap (x1 - x4) < x5 then IntKind.i64.wrap (x1 - x4) else x5 else (0 : Int)))) none, y2].getD (0 : Nat) (Row.one (CTy.slice (Row.cons (CTy.int IntKind.i32) (Row.cons (CTy.int IntKind.i64) (Row.cons (CTy.int IntKind.i64) (Row.cons (CTy.int IntKind.i64) (Row.one (CTy.int IntKind.i64)))))))).dflt))) + Int.ofNat (List.length ([cutList y1 none (some x4), cutList y1 (some (IntKind.i64.wrap (x4 + if (if IntKind.i64.wrap (x1 - x4) < x5 then IntKind.i64.wrap (x1 - x4) else x5) > (0 : Int) then if IntKind.i64.wrap (x1 - x4) < x5 then IntKind.i64.wrap (x1 - x4) else x5 else (0 : Int)))) none, y2].getD (1 : Nat) (Row.one (CTy.slice (Row.cons (CTy.int IntKind.i32) (Row.cons (CTy.int IntKind.i64) (Row.cons (CTy.int IntKind.i64) (Row.cons (CTy.int IntKind.i64) (Row.one (CTy.int IntKind.i64)))))))).dflt))) + Int.ofNat (List.length ([cutList y1 none (some x4), cutList y1 (some (IntKind.i64.wrap (x4 + if (if IntKind.i64.wrap (x1 - x4) < x5 then IntKind.i64.wrap (x1 - x4) else x5) > (0 : Int) then if IntKind.i64.wrap (x1 - x4) < x5 then IntKind.i64.wrap (x1 - x4) else x5 else (0 : Int)))) none, y2].getD (2 : Nat) (Row.one (CTy.slice (Row.cons (CTy.int IntKind.i32) (Row.cons (CTy.int IntKind.i64) (Row.cons (CTy.int IntKind.i64) (Row.cons (CTy.int IntKind.i64) (Row.one (CTy.int IntKind.i64)))))))).dflt))) - (0 : Int))).toNat) ((0 : Nat) + (((some (0 : Int)).getD (Int.ofNat (rowN ((0 : Int), (0 : Int), (0 : Int), (0 : Int), (0 : Int)) (IntKind.i64.wrap (IntKind.i64.wrap (IntKind.i64.wrap (IntKind.i64.wrap ((0 : Int) + Int.ofNat (List.length ([cutList y1 none (some x4), cutList y1 (some (IntKind.i64.wrap (x4 + if (if IntKind.i64.wrap (x1 - x4) < x5 then IntKind.i64.wrap (x1 - x4) else x5) > (0 : Int) then if IntKind.i64.wrap (x1 - x4) < x5 then IntKind.i64.wrap (x1 - x4) else x5 else (0 : Int)))) none, y2].getD (0 : Nat) (Row.one (CTy.slice (Row.cons (CTy.int IntKind.i32) (Row.cons (CTy.int IntKind.i64) (Row.cons (CTy.int IntKind.i64) (Row.cons (CTy.int IntKind.i64) (Row.one (CTy.int IntKind.i64)))))))).dflt))) + Int.ofNat (List.length ([cutList y1 none (some x4), cutList y1 (some (IntKind.i64.wrap (x4 + if (if IntKind.i64.wrap (x1 - x4) < x5 then IntKind.i64.wrap (x1 - x4) else x5) > (0 : Int) then if IntKind.i64.wrap (x1 - x4) < x5 then IntKind.i64.wrap (x1 - x4) else x5 else (0 : Int)))) none, y2].getD (1 : Nat) (Row.one (CTy.slice (Row.cons (CTy.int IntKind.i32) (Row.cons (CTy.int IntKind.i64) (Row.cons (CTy.int IntKind.i64) (Row.cons (CTy.int IntKind.i64) (Row.one (CTy.int IntKind.i64)))))))).dflt))) + Int.ofNat (List.length ([cutList y1 none (some x4), cutList y1 (some (IntKind.i64.wrap (x4 + if (if IntKind.i64.wrap (x1 - x4) < x5 then IntKind.i64.wrap (x1 - x4) else x5) > (0 : Int) then if IntKind.i64.wrap (x1 - x4) < x5 then IntKind.i64.wrap (x1 - x4) else x5 else (0 : Int)))) none, y2].getD (2 : Nat) (Row.one (CTy.slice (Row.cons (CTy.int IntKind.i32) (Row.cons (CTy.int IntKind.i64) (Row.cons (CTy.int IntKind.i64) (Row.cons (CTy.int IntKind.i64) (Row.one (CTy.int IntKind.i64)))))))).dflt))) - (0 : Int))).toNat).length)).toNat - (0 : Nat))) ([cutList y1 none (some x4), cutList y1 (some (IntKind.i64.wrap (x4 + if (if IntKind.i64.wrap (x1 - x4) < x5 then IntKind.i64.wrap (x1 - x4) else x5) > (0 : Int) then if IntKind.i64.wrap (x1 - x4) < x5 then IntKind.i64.wrap (x1 - x4) else x5 else (0 : Int)))) none, y2].getD (0 : Nat) (Row.one (CTy.slice (Row.cons (CTy.int IntKind.i32) (Row.cons (CTy.int IntKind.i64) (Row.cons (CTy.int IntKind.i64) (Row.cons (CTy.int IntKind.i64) (Row.one (CTy.int IntKind.i64)))))))).dflt)) ((0 : Nat) + (((some (0 : Int)).getD (Int.ofNat (rowN ((0 : Int), (0 : Int), (0 : Int), (0 : Int), (0 : Int)) (IntKind.i64.wrap (IntKind.i64.wrap (IntKind.i64.wrap (IntKind.i64.wrap ((0 : Int) + Int.ofNat (List.length ([cutList y1 none (some x4), cutList y1 (some (IntKind.i64.wrap (x4 + if (if IntKind.i64.wrap (x1 - x4) < x5 then IntKind.i64.wrap (x1 - x4) else x5) > (0 : Int) then if IntKind.i64.wrap (x1 - x4) < x5 then IntKind.i64.wrap (x1 - x4) else x5 else (0 : Int)))) none, y2].getD (0 : Nat) (Row.one (CTy.slice (Row.cons (CTy.int IntKind.i32) (Row.cons (CTy.int IntKind.i64) (Row.cons (CTy.int IntKind.i64) (Row.cons (CTy.int IntKind.i64) (Row.one (CTy.int IntKind.i64)))))))).dflt))) + Int.ofNat (List.length ([cutList y1 none (some x4), cutList y1 (some (IntKind.i64.wrap (x4 + if (if IntKind.i64.wrap (x1 - x4) < x5 then IntKind.i64.wrap (x1 - x4) else x5) > (0 : Int) then if IntKind.i64.wrap (x1 - x4) < x5 then IntKind.i64.wrap (x1 - x4) else x5 else (0 : Int)))) none, y2].getD (1 : Nat) (Row.one (CTy.slice (Row.cons (CTy.int IntKind.i32) (Row.cons (CTy.int IntKind.i64) (Row.cons (CTy.int IntKind.i64) (Row.cons (CTy.int IntKind.i64) (Row.one (CTy.int IntKind.i64)))))))).dflt))) + Int.ofNat (List.length ([cutList y1 none (some x4), cutList y1 (some (IntKind.i64.wrap (x4 + if (if IntKind.i64.wrap (x1 - x4) < x5 then IntKind.i64.wrap (x1 - x4) else x5) > (0 : Int) then if IntKind.i64.wrap (x1 - x4) < x5 then IntKind.i64.wrap (x1 - x4) else x5 else (0 : Int)))) none, y2].getD (2 : Nat) (Row.one (CTy.slice (Row.cons (CTy.int IntKind.i32) (Row.cons (CTy.int IntKind.i64) (Row.cons (CTy.int IntKind.i64) (Row.cons (CTy.int IntKind.i64) (Row.one (CTy.int IntKind.i64)))))))).dflt))) - (0 : Int))).toNat).length)).toNat - (0 : Nat) + List.length ([cutList y1 none (some x4), cutList y1 (some (IntKind.i64.wrap (x4 + if (if IntKind.i64.wrap (x1 - x4) < x5 then IntKind.i64.wrap (x1 - x4) else x5) > (0 : Int) then if IntKind.i64.wrap (x1 - x4) < x5 then IntKind.i64.wrap (x1 - x4) else x5 else (0 : Int)))) none, y2].getD (0 : Nat) (Row.one (CTy.slice (Row.cons (CTy.int IntKind.i32) (Row.cons (CTy.int IntKind.i64) (Row.cons (CTy.int IntKind.i64) (Row.cons (CTy.int IntKind.i64) (Row.one (CTy.int IntKind.i64)))))))).dflt))) ([cutList y1 none (some x4), cutList y1 (some (IntKind.i64.wrap (x4 + if (if IntKind.i64.wrap (x1 - x4) < x5 then IntKind.i64.wrap (x1 - x4) else x5) > (0 : Int) then if IntKind.i64.wrap (x1 - x4) < x5 then IntKind.i64.wrap (x1 - x4) else x5 else (0 : Int)))) none, y2].getD (1 : Nat) (Row.one (CTy.slice (Row.cons (CTy.int IntKind.i32) (Row.cons (CTy.int IntKind.i64) (Row.cons (CTy.int IntKind.i64) (Row.cons (CTy.int IntKind.i64) (Row.one (CTy.int IntKind.i64)))))))).dflt)).length) then (optK ((hide edit_turned_F x0 x1 x2 x3 (List.take (((some (0 : Int)).getD (Int.ofNat (rowN ((0 : Int), (0 : Int), (0 : Int), (0 : Int), (0 : Int)) (IntKind.i64.wrap (IntKind.i64.wrap (IntKind.i64.wrap (IntKind.i64.wrap ((0 : Int) + Int.ofNat (List.length ([cutList y1 none (some x4), cutList y1 (some (IntKind.i64.wrap (x4 + if (if IntKind.i64.wrap (x1 - x4) < x5 then IntKind.i64.wrap (x1 - x4) else x5) > (0 : Int) then if IntKind.i64.wrap (x1 - x4) < x5 then IntKind.i64.wrap (x1 - x4) else x5 else (0 : Int)))) none, y2].getD (0 : Nat) (Row.one (CTy.slice (Row.cons (CTy.int IntKind.i32) (Row.cons (CTy.int IntKind.i64) (Row.cons (CTy.int IntKind.i64) (Row.cons (CTy.int IntKind.i64) (Row.one (CTy.int IntKind.i64)))))))).dflt))) + Int.ofNat (List.length ([cutList y1 none (some x4), cutList y1 (some (IntKind.i64.wrap (x4 + if (if IntKind.i64.wrap (x1 - x4) < x5 then IntKind.i64.wrap (x1 - x4) else x5) > (0 : Int) then if IntKind.i64.wrap (x1 - x4) < x5 then IntKind.i64.wrap (x1 - x4) else x5 else (0 : Int)))) none, y2].getD (1 : Nat) (Row.one (CTy.slice (Row.cons (CTy.int IntKind.i32) (Row.cons (CTy.int IntKind.i64) (Row.cons (CTy.int IntKind.i64) (Row.cons (CTy.int IntKind.i64) (Row.one (CTy.int IntKind.i64)))))))).dflt))) + Int.ofNat (List.length ([cutList y1 none (some x4), cutList y1 (some (IntKind.i64.wrap (x4 + if (if IntKind.i64.wrap (x1 - x4) < x5 then IntKind.i64.wrap (x1 - x4) else x5) > (0 : Int) then if IntKind.i64.wrap (x1 - x4) < x5 then IntKind.i64.wrap (x1 - x4) else x5 else (0 : Int)))) none, y2].getD (2 : Nat) (Row.one (CTy.slice (Row.cons (CTy.int IntKind.i32) (Row.cons (CTy.int IntKind.i64) (Row.cons (CTy.int IntKind.i64) (Row.cons (CTy.int IntKind.i64) (Row.one (CTy.int IntKind.i64)))))))).dflt))) - (0 : Int))).toNat).length)).toNat - (0 : Nat) + List.length ([cutList y1 none (some x4), cutList y1 (some (IntKind.i64.wrap (x4 + if (if IntKind.i64.wrap (x1 - x4) < x5 then IntKind.i64.wrap (x1 - x4) else x5) > (0 : Int) then if IntKind.i64.wrap (x1 - x4) < x5 then IntKind.i64.wrap (x1 - x4) else x5 else (0 : Int)))) none, y2].getD (0 : Nat) (Row.one (CTy.slice (Row.cons (CTy.int IntKind.i32) (Row.cons (CTy.int IntKind.i64) (Row.cons (CTy.int IntKind.i64) (Row.cons (CTy.int IntKind.i64) (Row.one (CTy.int IntKind.i64)))))))).dflt) + List.length ([cutList y1 none (some x4), cutList y1 (some (IntKind.i64.wrap (x4 + if (if IntKind.i64.wrap (x1 - x4) < x5 then IntKind.i64.wrap (x1 - x4) else x5) > (0 : Int) then if IntKind.i64.wrap (x1 - x4) < x5 then IntKind.i64.wrap (x1 - x4) else x5 else (0 : Int)))) none, y2].getD (1 : Nat) (Row.one (CTy.slice (Row.cons (CTy.int IntKind.i32) (Row.cons (CTy.int IntKind.i64) (Row.cons (CTy.int IntKind.i64) (Row.cons (CTy.int IntKind.i64) (Row.one (CTy.int IntKind.i64)))))))).dflt) + List.length ([cutList y1 none (some x4), cutList y1 (some (IntKind.i64.wrap (x4 + if (if IntKind.i64.wrap (x1 - x4) < x5 then IntKind.i64.wrap (x1 - x4) else x5) > (0 : Int) then if IntKind.i64.wrap (x1 - x4) < x5 then IntKind.i64.wrap (x1 - x4) else x5 else (0 : Int)))) none, y2].getD (2 : Nat) (Row.one (CTy.slice (Row.cons (CTy.int IntKind.i32) (Row.cons (CTy.int IntKind.i64) (Row.cons (CTy.int IntKind.i64) (Row.cons (CTy.int IntKind.i64) (Row.one (CTy.int IntKind.i64)))))))).dflt)) (List.drop (0 : Nat) (splice (splice (splice (rowN ((0 : Int), (0 : Int), (0 : Int), (0 : Int), (0 : Int)) (IntKind.i64.wrap (IntKind.i64.wrap (IntKind.i64.wrap (IntKind.i64.wrap ((0 : Int) + Int.ofNat (List.length ([cutList y1 none (some x4), cutList y1 (some (IntKind.i64.wrap (x4 + if (if IntKind.i64.wrap (x1 - x4) < x5 then IntKind.i64.wrap (x1 - x4) else x5) > (0 : Int) then if IntKind.i64.wrap (x1 - x4) < x5 then IntKind.i64.wrap (x1 - x4) else x5 else (0 : Int)))) none, y2].getD (0 : Nat) (Row.one (CTy.slice (Row.cons (CTy.int IntKind.i32) (Row.cons (CTy.int IntKind.i64) (Row.cons (CTy.int IntKind.i64) (Row.cons (CTy.int IntKind.i64) (Row.one (CTy.int IntKind.i64)))))))).dflt))) + Int.ofNat (List.length ([cutList y1 none (some x4), cutList y1 (some (IntKind.i64.wrap (x4 + if (if IntKind.i64.wrap (x1 - x4) < x5 then IntKind.i64.wrap (x1 - x4) else x5) > (0 : Int) then if IntKind.i64.wrap (x1 - x4) < x5 then IntKind.i64.wrap (x1 - x4) else x5 else (0 : Int)))) none, y2].getD (1 : Nat) (Row.one (CTy.slice (Row.cons (CTy.int IntKind.i32) (Row.cons (CTy.int IntKind.i64) (Row.cons (CTy.int IntKind.i64) (Row.cons (CTy.int IntKind.i64) (Row.one (CTy.int IntKind.i64)))))))).dflt))) + Int.ofNat (List.length ([cutList y1 none (some x4), cutList y1 (some (IntKind.i64.wrap (x4 + if (if IntKind.i64.wrap (x1 - x4) < x5 then IntKind.i64.wrap (x1 - x4) else x5) > (0 : Int) then if IntKind.i64.wrap (x1 - x4) < x5 then IntKind.i64.wrap (x1 - x4) else x5 else (0 : Int)))) none, y2].getD (2 : Nat) (Row.one (CTy.slice (Row.cons (CTy.int IntKind.i32) (Row.cons (CTy.int IntKind.i64) (Row.cons (CTy.int IntKind.i64) (Row.cons (CTy.int IntKind.i64) (Row.one (CTy.int IntKind.i64)))))))).dflt))) - (0 : Int))).toNat) ((0 : Nat) + (((some (0 : Int)).getD (Int.ofNat (rowN ((0 : Int), (0 : Int), (0 : Int), (0 : Int), (0 : Int)) (IntKind.i64.wrap (IntKind.i64.wrap (IntKind.i64.wrap (IntKind.i64.wrap ((0 : Int) + Int.ofNat (List.length ([cutList y1 none (some x4), cutList y1 (some (IntKind.i64.wrap (x4 + if (if IntKind.i64.wrap (x1 - x4) < x5 then IntKind.i64.wrap (x1 - x4) else x5) > (0 : Int) then if IntKind.i64.wrap (x1 - x4) < x5 then IntKind.i64.wrap (x1 - x4) else x5 else (0 : Int)))) none, y2].getD (0 : Nat) (Row.one (CTy.slice (Row.cons (CTy.int IntKind.i32) (Row.cons (CTy.int IntKind.i64) (Row.cons (CTy.int IntKind.i64) (Row.cons (CTy.int IntKind.i64) (Row.one (CTy.int IntKind.i64)))))))).dflt))) + Int.ofNat (List.length ([cutList y1 none (some x4), cutList y1 (some (IntKind.i64.wrap (x4 + if (if IntKind.i64.wrap (x1 - x4) < x5 then IntKind.i64.wrap (x1 - x4) else x5) > (0 : Int) then if IntKind.i64.wrap (x1 - x4) < x5 then IntKind.i64.wrap (x1 - x4) else x5 else (0 : Int)))) none, y2].getD (1 : Nat) (Row.one (CTy.slice (Row.cons (CTy.int IntKind.i32) (Row.cons (CTy.int IntKind.i64) (Row.cons (CTy.int IntKind.i64) (Row.cons (CTy.int IntKind.i64) (Row.one (CTy.int IntKind.i64)))))))).dflt))) + Int.ofNat (List.length ([cutList y1 none (some x4), cutList y1 (some (IntKind.i64.wrap (x4 + if (if IntKind.i64.wrap (x1 - x4) < x5 then IntKind.i64.wrap (x1 - x4) else x5) > (0 : Int) then if IntKind.i64.wrap (x1 - x4) < x5 then IntKind.i64.wrap (x1 - x4) else x5 else (0 : Int)))) none, y2].getD (2 : Nat) (Row.one (CTy.slice (Row.cons (CTy.int IntKind.i32) (Row.cons (CTy.int IntKind.i64) (Row.cons (CTy.int IntKind.i64) (Row.cons (CTy.int IntKind.i64) (Row.one (CTy.int IntKind.i64)))))))).dflt))) - (0 : Int))).toNat).length)).toNat - (0 : Nat))) ([cutList y1 none (some x4), cutList y1 (some (IntKind.i64.wrap (x4 + if (if IntKind.i64.wrap (x1 - x4) < x5 then IntKind.i64.wrap (x1 - x4) else x5) > (0 : Int) then if IntKind.i64.wrap (x1 - x4) < x5 then IntKind.i64.wrap (x1 - x4) else x5 else (0 : Int)))) none, y2].getD (0 : Nat) (Row.one (CTy.slice (Row.cons (CTy.int IntKind.i32) (Row.cons (CTy.int IntKind.i64) (Row.cons (CTy.int IntKind.i64) (Row.cons (CTy.int IntKind.i64) (Row.one (CTy.int IntKind.i64)))))))).dflt)) ((0 : Nat) + (((some (0 : Int)).getD (Int.ofNat (rowN ((0 : Int), (0 : Int), (0 : Int), (0 : Int), (0 : Int)) (IntKind.i64.wrap (IntKind.i64.wrap (IntKind.i64.wrap (IntKind.i64.wrap ((0 : Int) + Int.ofNat (List.length ([cutList y1 none (some x4), cutList y1 (some (IntKind.i64.wrap (x4 + if (if IntKind.i64.wrap (x1 - x4) < x5 then IntKind.i64.wrap (x1 - x4) else x5) > (0 : Int) then if IntKind.i64.wrap (x1 - x4) < x5 then IntKind.i64.wrap (x1 - x4) else x5 else (0 : Int)))) none, y2].getD (0 : Nat) (Row.one (CTy.slice (Row.cons (CTy.int IntKind.i32) (Row.cons (CTy.int IntKind.i64) (Row.cons (CTy.int IntKind.i64) (Row.cons (CTy.int IntKind.i64) (Row.one (CTy.int IntKind.i64)))))))).dflt))) + Int.ofNat (List.length ([cutList y1 none (some x4), cutList y1 (some (IntKind.i64.wrap (x4 + if (if IntKind.i64.wrap (x1 - x4) < x5 then IntKind.i64.wrap (x1 - x4) else x5) > (0 : Int) then if IntKind.i64.wrap (x1 - x4) < x5 then IntKind.i64.wrap (x1 - x4) else x5 else (0 : Int)))) none, y2].getD (1 : Nat) (Row.one (CTy.slice (Row.cons (CTy.int IntKind.i32) (Row.cons (CTy.int IntKind.i64) (Row.cons (CTy.int IntKind.i64) (Row.cons (CTy.int IntKind.i64) (Row.one (CTy.int IntKind.i64)))))))).dflt))) + Int.ofNat (List.length ([cutList y1 none (some x4), cutList y1 (some (IntKind.i64.wrap (x4 + if (if IntKind.i64.wrap (x1 - x4) < x5 then IntKind.i64.wrap (x1 - x4) else x5) > (0 : Int) then if IntKind.i64.wrap (x1 - x4) < x5 then IntKind.i64.wrap (x1 - x4) else x5 else (0 : Int)))) none, y2].getD (2 : Nat) (Row.one (CTy.slice (Row.cons (CTy.int IntKind.i32) (Row.cons (CTy.int IntKind.i64) (Row.cons (CTy.int IntKind.i64) (Row.cons (CTy.int IntKind.i64) (Row.one (CTy.int IntKind.i64)))))))).dflt))) - (0 : Int))).toNat).length)).toNat - (0 : Nat) + List.length ([cutList y1 none (some x4), cutList y1 (some (IntKind.i64.wrap (x4 + if (if IntKind.i64.wrap (x1 - x4) < x5 then IntKind.i64.wrap (x1 - x4) else x5) > (0 : Int) then if IntKind.i64.wrap (x1 - x4) < x5 then IntKind.i64.wrap (x1 - x4) else x5 else (0 : Int)))) none, y2].getD (0 : Nat) (Row.one (CTy.slice (Row.cons (CTy.int IntKind.i32) (Row.cons (CTy.int IntKind.i64) (Row.cons (CTy.int IntKind.i64) (Row.cons (CTy.int IntKind.i64) (Row.one (CTy.int IntKind.i64)))))))).dflt))) ([cutList y1 none (some x4), cutList y1 (some (IntKind.i64.wrap (x4 + if (if IntKind.i64.wrap (x1 - x4) < x5 then IntKind.i64.wrap (x1 - x4) else x5) > (0 : Int) then if IntKind.i64.wrap (x1 - x4) < x5 then IntKind.i64.wrap (x1 - x4) else x5 else (0 : Int)))) none, y2].getD (1 : Nat) (Row.one (CTy.slice (Row.cons (CTy.int IntKind.i32) (Row.cons (CTy.int IntKind.i64) (Row.cons (CTy.int IntKind.i64) (Row.cons (CTy.int IntKind.i64) (Row.one (CTy.int IntKind.i64)))))))).dflt)) ((0 : Nat) + (((some (0 : Int)).getD (Int.ofNat (rowN ((0 : Int), (0 : Int), (0 : Int), (0 : Int), (0 : Int)) (IntKind.i64.wrap (IntKind.i64.wrap (IntKind.i64.wrap (IntKind.i64.wrap ((0 : Int) + Int.ofNat (List.length ([cutList y1 none (some x4), cutList y1 (some (IntKind.i64.wrap (x4 + if (if IntKind.i64.wrap (x1 - x4) < x5 then IntKind.i64.wrap (x1 - x4) else x5) > (0 : Int) then if IntKind.i64.wrap (x1 - x4) < x5 then IntKind.i64.wrap (x1 - x4) else x5 else (0 : Int)))) none, y2].getD (0 : Nat) (Row.one (CTy.slice (Row.cons (CTy.int IntKind.i32) (Row.cons (CTy.int IntKind.i64) (Row.cons (CTy.int IntKind.i64) (Row.cons (CTy.int IntKind.i64) (Row.one (CTy.int IntKind.i64)))))))).dflt))) + Int.ofNat (List.length ([cutList y1 none (some x4), cutList y1 (some (IntKind.i64.wrap (x4 + if (if IntKind.i64.wrap (x1 - x4) < x5 then IntKind.i64.wrap (x1 - x4) else x5) > (0 : Int) then if IntKind.i64.wrap (x1 - x4) < x5 then IntKind.i64.wrap (x1 - x4) else x5 else (0 : Int)))) none, y2].getD (1 : Nat) (Row.one (CTy.slice (Row.cons (CTy.int IntKind.i32) (Row.cons (CTy.int IntKind.i64) (Row.cons (CTy.int IntKind.i64) (Row.cons (CTy.int IntKind.i64) (Row.one (CTy.int IntKind.i64)))))))).dflt))) + Int.ofNat (List.length ([cutList y1 none (some x4), cutList y1 (some (IntKind.i64.wrap (x4 + if (if IntKind.i64.wrap (x1 - x4) < x5 then IntKind.i64.wrap (x1 - x4) else x5) > (0 : Int) then if IntKind.i64.wrap (x1 - x4) < x5 then IntKind.i64.wrap (x1 - x4) else x5 else (0 : Int)))) none, y2].getD (2 : Nat) (Row.one (CTy.slice (Row.cons (CTy.int IntKind.i32) (Row.cons (CTy.int IntKind.i64) (Row.cons (CTy.int IntKind.i64) (Row.cons (CTy.int IntKind.i64) (Row.one (CTy.int IntKind.i64)))))))).dflt))) - (0 : Int))).toNat).length)).toNat - (0 : Nat) + List.length ([cutList y1 none (some x4), cutList y1 (some (IntKind.i64.wrap (x4 + if (if IntKind.i64.wrap (x1 - x4) < x5 then IntKind.i64.wrap (x1 - x4) else x5) > (0 : Int) then if IntKind.i64.wrap (x1 - x4) < x5 then IntKind.i64.wrap (x1 - x4) else x5 else (0 : Int)))) none, y2].getD (0 : Nat) (Row.one (CTy.slice (Row.cons (CTy.int IntKind.i32) (Row.cons (CTy.int IntKind.i64) (Row.cons (CTy.int IntKind.i64) (Row.cons (CTy.int IntKind.i64) (Row.one (CTy.int IntKind.i64)))))))).dflt) + List.length ([cutList y1 none (some x4), cutList y1 (some (IntKind.i64.wrap (x4 + if (if IntKind.i64.wrap (x1 - x4) < x5 then IntKind.i64.wrap (x1 - x4) else x5) > (0 : Int) then if IntKind.i64.wrap (x1 - x4) < x5 then IntKind.i64.wrap (x1 - x4) else x5 else (0 : Int)))) none, y2].getD (1 : Nat) (Row.one (CTy.slice (Row.cons (CTy.int IntKind.i32) (Row.cons (CTy.int IntKind.i64) (Row.cons (CTy.int IntKind.i64) (Row.cons (CTy.int IntKind.i64) (Row.one (CTy.int IntKind.i64)))))))).dflt))) ([cutList y1 none (some x4), cutList y1 (some (IntKind.i64.wrap (x4 + if (if IntKind.i64.wrap (x1 - x4) < x5 then IntKind.i64.wrap (x1 - x4) else x5) > (0 : Int) then if IntKind.i64.wrap (x1 - x4) < x5 then IntKind.i64.wrap (x1 - x4) else x5 else (0 : Int)))) none, y2].getD (2 : Nat) (Row.one (CTy.slice (Row.cons (CTy.int IntKind.i32) (Row.cons (CTy.int IntKind.i64) (Row.cons (CTy.int IntKind.i64) (Row.cons (CTy.int IntKind.i64) (Row.one (CTy.int IntKind.i64)))))))).dflt)))))) fun y3 => (some ((y3.1), (y3.2.1), (y3.2.2)))) else none) else none) else none) else none) else (bif ((List.length ([cutList y1 none (some x4), cutList y1 (some (IntKind.i64.wrap (x4 + if (if IntKind.i64.wrap (x1 - x4) < x5 then IntKind.i64.wrap (x1 - x4) else x5) > (0 : Int) then if IntKind.i64.wrap (x1 - x4) < x5 then IntKind.i64.wrap (x1 - x4) else x5 else (0 : Int)))) none, y2].getD (0 : Nat) (Row.one (CTy.slice (Row.cons (CTy.int IntKind.i32) (Row.cons (CTy.int IntKind.i64) (Row.cons (CTy.int IntKind.i64) (Row.cons (CTy.int IntKind.i64) (Row.one (CTy.int IntKind.i64)))))))).dflt)).ble (274877906944 : Nat) && true) then (bif (true && ((List.length ([cutList y1 none (some x4), cutList y1 (some (IntKind.i64.wrap (x4 + if (if IntKind.i64.wrap (x1 - x4) < x5 then IntKind.i64.wrap (x1 - x4) else x5) > (0 : Int) then if IntKind.i64.wrap (x1 - x4) < x5 then IntKind.i64.wrap (x1 - x4) else x5 else (0 : Int)))) none, y2].getD (0 : Nat) (Row.one (CTy.slice (Row.cons (CTy.int IntKind.i32) (Row.cons (CTy.int IntKind.i64) (Row.cons (CTy.int IntKind.i64) (Row.cons (CTy.int IntKind.i64) (Row.one (CTy.int IntKind.i64)))))))).dflt) + List.length ([cutList y1 none (some x4), cutList y1 (some (IntKind.i64.wrap (x4 + if (if IntKind.i64.wrap (x1 - x4) < x5 then IntKind.i64.wrap (x1 - x4) else x5) > (0 : Int) then if IntKind.i64.wrap (x1 - x4) < x5 then IntKind.i64.wrap (x1 - x4) else x5 else (0 : Int)))) none, y2].getD (1 : Nat) (Row.one (CTy.slice (Row.cons (CTy.int IntKind.i32) (Row.cons (CTy.int IntKind.i64) (Row.cons (CTy.int IntKind.i64) (Row.cons (CTy.int IntKind.i64) (Row.one (CTy.int IntKind.i64)))))))).dflt)).ble (274877906944 : Nat) && true)) then (bif (true && ((([cutList y1 none (some x4), cutList y1 (some (IntKind.i64.wrap (x4 + if (if IntKind.i64.wrap (x1 - x4) < x5 then IntKind.i64.wrap (x1 - x4) else x5) > (0 : Int) then if IntKind.i64.wrap (x1 - x4) < x5 then IntKind.i64.wrap (x1 - x4) else x5 else (0 : Int)))) none, y2].getD (0 : Nat) (Row.one (CTy.slice (Row.cons (CTy.int IntKind.i32) (Row.cons (CTy.int IntKind.i64) (Row.cons (CTy.int IntKind.i64) (Row.cons (CTy.int IntKind.i64) (Row.one (CTy.int IntKind.i64)))))))).dflt ++ [cutList y1 none (some x4), cutList y1 (some (IntKind.i64.wrap (x4 + if (if IntKind.i64.wrap (x1 - x4) < x5 then IntKind.i64.wrap (x1 - x4) else x5) > (0 : Int) then if IntKind.i64.wrap (x1 - x4) < x5 then IntKind.i64.wrap (x1 - x4) else x5 else (0 : Int)))) none, y2].getD (1 : Nat) (Row.one (CTy.slice (Row.cons (CTy.int IntKind.i32) (Row.cons (CTy.int IntKind.i64) (Row.cons (CTy.int IntKind.i64) (Row.cons (CTy.int IntKind.i64) (Row.one (CTy.int IntKind.i64)))))))).dflt).length + List.length ([cutList y1 none (some x4), cutList y1 (some (IntKind.i64.wrap (x4 + if (if IntKind.i64.wrap (x1 - x4) < x5 then IntKind.i64.wrap (x1 - x4) else x5) > (0 : Int) then if IntKind.i64.wrap (x1 - x4) < x5 then IntKind.i64.wrap (x1 - x4) else x5 else (0 : Int)))) none, y2].getD (2 : Nat) (Row.one (CTy.slice (Row.cons (CTy.int IntKind.i32) (Row.cons (CTy.int IntKind.i64) (Row.cons (CTy.int IntKind.i64) (Row.cons (CTy.int IntKind.i64) (Row.one (CTy.int IntKind.i64)))))))).dflt)).ble (274877906944 : Nat) && true)) then (optK ((hide edit_turned_F x0 x1 x2 x3 ([cutList y1 none (some x4), cutList y1 (some (IntKind.i64.wrap (x4 + if (if IntKind.i64.wrap (x1 - x4) < x5 then IntKind.i64.wrap (x1 - x4) else x5) > (0 : Int) then if IntKind.i64.wrap (x1 - x4) < x5 then IntKind.i64.wrap (x1 - x4) else x5 else (0 : Int)))) none, y2].getD (0 : Nat) (Row.one (CTy.slice (Row.cons (CTy.int IntKind.i32) (Row.cons (CTy.int IntKind.i64) (Row.cons (CTy.int IntKind.i64) (Row.cons (CTy.int IntKind.i64) (Row.one (CTy.int IntKind.i64)))))))).dflt ++ [cutList y1 none (some x4), cutList y1 (some (IntKind.i64.wrap (x4 + if (if IntKind.i64.wrap (x1 - x4) < x5 then IntKind.i64.wrap (x1 - x4) else x5) > (0 : Int) then if IntKind.i64.wrap (x1 - x4) < x5 then IntKind.i64.wrap (x1 - x4) else x5 else (0 : Int)))) none, y2].getD (1 : Nat) (Row.one (CTy.slice (Row.cons (CTy.int IntKind.i32) (Row.cons (CTy.int IntKind.i64) (Row.cons (CTy.int IntKind.i64) (Row.cons (CTy.int IntKind.i64) (Row.one (CTy.int IntKind.i64)))))))).dflt ++ [cutList y1 none (some x4), cutList y1 (some (IntKind.i64.wrap (x4 + if (if IntKind.i64.wrap (x1 - x4) < x5 then IntKind.i64.wrap (x1 - x4) else x5) > (0 : Int) then if IntKind.i64.wrap (x1 - x4) < x5 then IntKind.i64.wrap (x1 - x4) else x5 else (0 : Int)))) none, y2].getD (2 : Nat) (Row.one (CTy.slice (Row.cons (CTy.int IntKind.i32) (Row.cons (CTy.int IntKind.i64) (Row.cons (CTy.int IntKind.i64) (Row.cons (CTy.int IntKind.i64) (Row.one (CTy.int IntKind.i64)))))))).dflt))) fun y4 => (some ((y4.1), (y4.2.1), (y4.2.2)))) else none) else none) else none))))))) else none) else none))))
noncomputable def edit_Delete_A : SkL := (.cons (.agg (.cons (.int .i64) (.cons (.int .i64) (.cons (.list (.cons (.int .i32) (.cons (.int .i64) (.cons (.int .i64) (.cons (.int .i64) (.one (.int .i64))))))) .nil)))) (.cons (.int .i64) (.cons (.int .i64) (.cons (.int .i64) (.cons (.agg (.cons (.int .i64) (.cons (.int .i64) (.cons (.int .i64) .nil)))) .nil)))))
noncomputable def edit_Delete_B : Sk := (.agg (.cons (.int .i64) (.cons (.int .i64) (.cons (.list (.cons (.int .i32) (.cons (.int .i64) (.cons (.int .i64) (.cons (.int .i64) (.one (.int .i64))))))) .nil))))
def edit_Delete_m {R : Type} (K : (Int × (Int × (List (Int × Int × Int × Int × Int) × Unit))) → Option R) (o : Option (Int × Int × (List (Int × Int × Int × Int × Int)))) : Option R := optK o fun y => K (y.1, (y.2.1, (y.2.2, ())))
theorem edit_Delete_run {R : Type} (x0 : Int) (x1 : Int) (x2 : List (Int × Int × Int × Int × Int)) (x3 : Int) (x4 : Int) (x5 : Int) (x6 : Int) (x7 : Int) (x8 : Int) (K : (Int × (Int × (List (Int × Int × Int × Int × Int) × Unit))) → Option R) : acall (envL edit_Delete_su ll0 cs0 (fun _ _ => false)) 1000 15 (edit_Delete_A.enc ((x0, (x1, (x2, ()))), (x3, (x4, (x5, ((x6, (x7, (x8, ()))), ())))))) [] (resK edit_Delete_B false K) = edit_Delete_m K (edit_Delete_F x0 x1 x2 x3 x4 x5 x6 x7 x8) := by
  unfold edit_Delete_F
  exact Eq.trans (by kernel_rfl) (optK_push (edit_Delete_m K) rfl _ fun y0 => (cond_push (edit_Delete_m K) _ (cond_push (edit_Delete_m K) _ rfl rfl) (optK_push (edit_Delete_m K) rfl _ fun y1 => (cond_push (edit_Delete_m K) _ (cond_push (edit_Delete_m K) _ (optK_push (edit_Delete_m K) rfl _ fun y2 => (cond_push (edit_Delete_m K) _ rfl (cond_push (edit_Delete_m K) _ rfl (cond_push (edit_Delete_m K) _ rfl (cond_push (edit_Delete_m K) _ rfl (cond_push (edit_Delete_m K) _ (cond_push (edit_Delete_m K) _ (cond_push (edit_Delete_m K) _ (cond_push (edit_Delete_m K) _ (cond_push (edit_Delete_m K) _ (optK_push (edit_Delete_m K) rfl _ fun y3 => rfl) rfl) rfl) rfl) rfl) (cond_push (edit_Delete_m K) _ (cond_push (edit_Delete_m K) _ (cond_push (edit_Delete_m K) _ (optK_push (edit_Delete_m K) rfl _ fun y4 => rfl) rfl) rfl) rfl))))))) rfl) rfl))))
noncomputable def edit_Delete_G : GoF edit_Delete_A edit_Delete_B := fun R (x : ((Int × (Int × (List (Int × Int × Int × Int × Int) × Unit))) × (Int × (Int × (Int × ((Int × (Int × (Int × Unit))) × Unit)))))) K => edit_Delete_m K (hide edit_Delete_F x.1.1 x.1.2.1 x.1.2.2.1 x.2.1 x.2.2.1 x.2.2.2.1 x.2.2.2.2.1.1 x.2.2.2.2.1.2.1 x.2.2.2.2.1.2.2.1)
theorem edit_Delete_known : Known Try.prog 15 edit_Delete_A edit_Delete_B false edit_Delete_G := known_of (envL_ok edit_Delete_su_ok ll0_ok cs0_ok) (n := 1000) rfl fun R (x : ((Int × (Int × (List (Int × Int × Int × Int × Int) × Unit))) × (Int × (Int × (Int × ((Int × (Int × (Int × Unit))) × Unit)))))) K => by
  show _ = edit_Delete_m K (hide edit_Delete_F x.1.1 x.1.2.1 x.1.2.2.1 x.2.1 x.2.2.1 x.2.2.2.1 x.2.2.2.2.1.1 x.2.2.2.2.1.2.1 x.2.2.2.2.1.2.2.1)
  rw [hide_eq]
  exact edit_Delete_run x.1.1 x.1.2.1 x.1.2.2.1 x.2.1 x.2.2.1 x.2.2.2.1 x.2.2.2.2.1.1 x.2.2.2.2.1.2.1 x.2.2.2.2.1.2.2.1 K

noncomputable def edit_Line_su : SumT := (18, sumH grid_At_A grid_At_B true grid_At_G) :: (57, sumW slices_Clone_api_Cell_A slices_Clone_api_Cell_B slices_Clone_api_Cell_G) :: (47, sumH grid_Wipe_A grid_Wipe_B true grid_Wipe_G) :: sums0
theorem edit_Line_su_ok : AllSum Try.prog edit_Line_su := ⟨sumH_ok rfl rfl grid_At_known, ⟨sumW_ok rfl rfl rfl slices_Clone_api_Cell_known, ⟨sumH_ok rfl rfl grid_Wipe_known, sums0_ok⟩⟩⟩
noncomputable def edit_Line_F (x0 : Int) (x1 : Int) (x2 : List (Int × Int × Int × Int × Int)) (x3 : Int) (x4 : Int) (x5 : Int) (x6 : Int) (x7 : Int) (x8 : Int) : Option (Int × Int × (List (Int × Int × Int × Int × Int))) := (optK ((hide grid_At_F x0 x1 x2 x3 x4)) fun y0 => (bif (!y0.2.2.2.2.2) then (bif (x2.length.ble (274877906944 : Nat)) then (some (x0, x1, x2)) else none) else (bif (x5 == (0 : Int)) then (optK ((hide grid_Wipe_F x0 x1 x2 x3 x4 x1 x6 x7 x8)) fun y1 => (some ((y1.1), (y1.2.1), (y1.2.2)))) else (bif (x5 == (1 : Int)) then (optK ((hide grid_Wipe_F x0 x1 x2 x3 (0 : Int) (IntKind.i64.wrap (x4 + (1 : Int))) x6 x7 x8)) fun y2 => (some ((y2.1), (y2.2.1), (y2.2.2)))) else (bif (x5 == (2 : Int)) then (optK ((hide grid_Wipe_F x0 x1 x2 x3 (0 : Int) x1 x6 x7 x8)) fun y3 => (some ((y3.1), (y3.2.1), (y3.2.2)))) else (bif (x2.length.ble (274877906944 : Nat)) then (some (x0, x1, x2)) else none))))))
noncomputable def edit_Line_A : SkL := (.cons (.agg (.cons (.int .i64) (.cons (.int .i64) (.cons (.list (.cons (.int .i32) (.cons (.int .i64) (.cons (.int .i64) (.cons (.int .i64) (.one (.int .i64))))))) .nil)))) (.cons (.int .i64) (.cons (.int .i64) (.cons (.int .i64) (.cons (.agg (.cons (.int .i64) (.cons (.int .i64) (.cons (.int .i64) .nil)))) .nil)))))
noncomputable def edit_Line_B : Sk := (.agg (.cons (.int .i64) (.cons (.int .i64) (.cons (.list (.cons (.int .i32) (.cons (.int .i64) (.cons (.int .i64) (.cons (.int .i64) (.one (.int .i64))))))) .nil))))
def edit_Line_m {R : Type} (K : (Int × (Int × (List (Int × Int × Int × Int × Int) × Unit))) → Option R) (o : Option (Int × Int × (List (Int × Int × Int × Int × Int)))) : Option R := optK o fun y => K (y.1, (y.2.1, (y.2.2, ())))
theorem edit_Line_run {R : Type} (x0 : Int) (x1 : Int) (x2 : List (Int × Int × Int × Int × Int)) (x3 : Int) (x4 : Int) (x5 : Int) (x6 : Int) (x7 : Int) (x8 : Int) (K : (Int × (Int × (List (Int × Int × Int × Int × Int) × Unit))) → Option R) : acall (envL edit_Line_su ll0 cs0 (fun _ _ => false)) 1000 21 (edit_Line_A.enc ((x0, (x1, (x2, ()))), (x3, (x4, (x5, ((x6, (x7, (x8, ()))), ())))))) [] (resK edit_Line_B false K) = edit_Line_m K (edit_Line_F x0 x1 x2 x3 x4 x5 x6 x7 x8) := by
  unfold edit_Line_F
  exact Eq.trans (by kernel_rfl) (optK_push (edit_Line_m K) rfl _ fun y0 => (cond_push (edit_Line_m K) _ (cond_push (edit_Line_m K) _ rfl rfl) (cond_push (edit_Line_m K) _ (optK_push (edit_Line_m K) rfl _ fun y1 => rfl) (cond_push (edit_Line_m K) _ (optK_push (edit_Line_m K) rfl _ fun y2 => rfl) (cond_push (edit_Line_m K) _ (optK_push (edit_Line_m K) rfl _ fun y3 => rfl) (cond_push (edit_Line_m K) _ rfl rfl))))))
noncomputable def edit_Line_G : GoF edit_Line_A edit_Line_B := fun R (x : ((Int × (Int × (List (Int × Int × Int × Int × Int) × Unit))) × (Int × (Int × (Int × ((Int × (Int × (Int × Unit))) × Unit)))))) K => edit_Line_m K (hide edit_Line_F x.1.1 x.1.2.1 x.1.2.2.1 x.2.1 x.2.2.1 x.2.2.2.1 x.2.2.2.2.1.1 x.2.2.2.2.1.2.1 x.2.2.2.2.1.2.2.1)
theorem edit_Line_known : Known Try.prog 21 edit_Line_A edit_Line_B false edit_Line_G := known_of (envL_ok edit_Line_su_ok ll0_ok cs0_ok) (n := 1000) rfl fun R (x : ((Int × (Int × (List (Int × Int × Int × Int × Int) × Unit))) × (Int × (Int × (Int × ((Int × (Int × (Int × Unit))) × Unit)))))) K => by
  show _ = edit_Line_m K (hide edit_Line_F x.1.1 x.1.2.1 x.1.2.2.1 x.2.1 x.2.2.1 x.2.2.2.1 x.2.2.2.2.1.1 x.2.2.2.2.1.2.1 x.2.2.2.2.1.2.2.1)
  rw [hide_eq]
  exact edit_Line_run x.1.1 x.1.2.1 x.1.2.2.1 x.2.1 x.2.2.1 x.2.2.2.1 x.2.2.2.2.1.1 x.2.2.2.2.1.2.1 x.2.2.2.2.1.2.2.1 K

noncomputable def grid_Right_su : SumT := (34, rowH 5) :: (55, sumH grid_may_A grid_may_B true grid_may_G) :: sums0
theorem grid_Right_su_ok : AllSum Try.prog grid_Right_su := ⟨grid_row_ok, ⟨sumH_ok rfl rfl grid_may_known, sums0_ok⟩⟩
noncomputable def grid_Right_c4 : Code := ((Try.f28.body.map fun b => loopsAt b 4).getD []).headD .skip
theorem grid_Right_c4_is : (Try.f28.body.map fun b => loopsAt b 4) = some [grid_Right_c4] := by kernel_rfl
noncomputable def grid_Right_s4 : SkSt := ⟨(.gap 1 (.cst (.ptr 0 0) (.gap 33 (.cons (.int .i64) (.cons (.int .i64) (.gap 15 .nil)))))), (.var 27 (.cons (.int .i64) (.cons (.int .i64) (.cons (.list (.cons (.int .i32) (.cons (.int .i64) (.cons (.int .i64) (.cons (.int .i64) (.one (.int .i64))))))) .nil))) .nil)⟩
noncomputable def grid_Right_x4_0 : SkSt := ⟨(.gap 2 (.cons .bool (.gap 49 .nil))), .nil⟩
noncomputable def grid_Right_x4_1 : SkSt := ⟨(.gap 52 .nil), .nil⟩
noncomputable def grid_Right_xs4 : List (Ex × SkSt) := [(.ret, grid_Right_x4_0), (.exit 0, grid_Right_x4_1)]
noncomputable def grid_Right_L4 : Nat → Int → Int → Int → Int → List (Int × Int × Int × Int × Int) → Option (((Bool) ⊕ (Unit)))
  | 0, _, _, _, _, _ => none
  | n + 1, a0, a1, a2, a3, a4 => (bif (decide (a1 < a0)) then (bif (a3 == (0 : Int)) then none else (bif (bnds (some (IntKind.i64.wrap (IntKind.i64.wrap (a1.tdiv a3) * a3))) (some (IntKind.i64.wrap (IntKind.i64.wrap (IntKind.i64.wrap (a1.tdiv a3) + (1 : Int)) * a3))) a4.length && true) then (bif (a3 == (0 : Int)) then none else (optK ((hide grid_may_F (cutList a4 (some (IntKind.i64.wrap (IntKind.i64.wrap (a1.tdiv a3) * a3))) (some (IntKind.i64.wrap (IntKind.i64.wrap (IntKind.i64.wrap (a1.tdiv a3) + (1 : Int)) * a3)))) (a1.tmod a3))) fun y1 => (bif (!y1) then (some (.inl (false))) else (grid_Right_L4 n a0 (IntKind.i64.wrap (a1 + (1 : Int))) a2 a3 a4)))) else none)) else (some (.inr ())))
noncomputable def grid_Right_I4 {R : Type} (K : Ex → St → Option R) : Nat → St → Option R := iterN (exec (envL grid_Right_su ll0 cs0 (fun _ _ => false)) 28 (acall (envL grid_Right_su ll0 cs0 (fun _ _ => false)) 1000) 0 grid_Right_c4) (normTo grid_Right_s4 0) (exitK grid_Right_xs4 0 K)
noncomputable def grid_Right_m4 {R : Type} (K : Ex → St → Option R) (o : Option (((Bool) ⊕ (Unit)))) : Option R := optK o fun y => sumK y (fun y => K (.ret) (grid_Right_x4_0.enc ((y, ()), ()))) (fun y => K (.exit 0) (grid_Right_x4_1.enc ((), ())))
theorem grid_Right_l4 {R : Type} (K : Ex → St → Option R) : ∀ (n : Nat), ∀ (a0 : Int) (a1 : Int) (a2 : Int) (a3 : Int) (a4 : List (Int × Int × Int × Int × Int)), grid_Right_I4 K n (grid_Right_s4.enc ((a0, (a1, ())), ((a2, (a3, (a4, ()))), ()))) = grid_Right_m4 K (grid_Right_L4 n a0 a1 a2 a3 a4) := by
  intro n
  induction n with
  | zero => intros; rfl
  | succ n ih =>
    intro a0 a1 a2 a3 a4
    rw [grid_Right_L4]
    exact Eq.trans (by kernel_rfl) (cond_push (grid_Right_m4 K) _ (cond_push (grid_Right_m4 K) _ rfl (cond_push (grid_Right_m4 K) _ (cond_push (grid_Right_m4 K) _ rfl (optK_push (grid_Right_m4 K) rfl _ fun y1 => (cond_push (grid_Right_m4 K) _ rfl (ih a0 (IntKind.i64.wrap (a1 + (1 : Int))) a2 a3 a4)))) rfl)) rfl)
def grid_Right_fu4 (a0 : Int) (a1 : Int) (a2 : Int) (a3 : Int) (a4 : List (Int × Int × Int × Int × Int)) : Nat := Int.natAbs a0 + Int.natAbs a1 + Int.natAbs a2 + Int.natAbs a3 + List.length a4 + 5000
noncomputable def grid_Right_G4 : GoL grid_Right_s4 := fun R (x : ((Int × (Int × Unit)) × ((Int × (Int × (List (Int × Int × Int × Int × Int) × Unit))) × Unit))) K => grid_Right_m4 K (hide grid_Right_L4 (grid_Right_fu4 x.1.1 x.1.2.1 x.2.1.1 x.2.1.2.1 x.2.1.2.2.1) x.1.1 x.1.2.1 x.2.1.1 x.2.1.2.1 x.2.1.2.2.1)
theorem grid_Right_H4 : LoopOk Try.prog 28 4 (loopH grid_Right_s4 0 grid_Right_G4) := loop_known (envL_ok grid_Right_su_ok ll0_ok cs0_ok) Try.func28 rfl grid_Right_c4_is (xs := grid_Right_xs4) (fuel := fun (x : ((Int × (Int × Unit)) × ((Int × (Int × (List (Int × Int × Int × Int × Int) × Unit))) × Unit))) => grid_Right_fu4 x.1.1 x.1.2.1 x.2.1.1 x.2.1.2.1 x.2.1.2.2.1) fun R (x : ((Int × (Int × Unit)) × ((Int × (Int × (List (Int × Int × Int × Int × Int) × Unit))) × Unit))) K => by
  show grid_Right_m4 K (hide grid_Right_L4 (grid_Right_fu4 x.1.1 x.1.2.1 x.2.1.1 x.2.1.2.1 x.2.1.2.2.1) x.1.1 x.1.2.1 x.2.1.1 x.2.1.2.1 x.2.1.2.2.1) = _
  rw [hide_eq]
  exact (grid_Right_l4 K (grid_Right_fu4 x.1.1 x.1.2.1 x.2.1.1 x.2.1.2.1 x.2.1.2.2.1) x.1.1 x.1.2.1 x.2.1.1 x.2.1.2.1 x.2.1.2.2.1).symm
noncomputable def grid_Right_h4 : LoopF := loopH grid_Right_s4 0 grid_Right_G4
noncomputable def grid_Right_ll1 : LoopT := ((28, 4), grid_Right_h4) :: ll0
theorem grid_Right_ll1_ok : AllLoop Try.prog grid_Right_ll1 := ⟨grid_Right_H4, ll0_ok⟩
noncomputable def grid_Right_F (x0 : Int) (x1 : Int) (x2 : List (Int × Int × Int × Int × Int)) : Option (Bool) := (bif (decide (x0 < (1 : Int))) then (some (false)) else (bif (decide (x0 > (40 : Int))) then (some (false)) else (bif (decide (x1 < (1 : Int))) then (some (false)) else (bif (decide (x1 > (60 : Int))) then (some (false)) else (bif (Int.ofNat x2.length != IntKind.i64.wrap (x0 * x1)) then (some (false)) else (optK (hide grid_Right_L4 (grid_Right_fu4 (Int.ofNat x2.length) (0 : Int) x0 x1 x2) (Int.ofNat x2.length) (0 : Int) x0 x1 x2) fun y2 => (sumK y2 (fun y2a => (some y2a)) (fun y2b => (some (true))))))))))
noncomputable def grid_Right_A : SkL := (.cons (.agg (.cons (.int .i64) (.cons (.int .i64) (.cons (.list (.cons (.int .i32) (.cons (.int .i64) (.cons (.int .i64) (.cons (.int .i64) (.one (.int .i64))))))) .nil)))) .nil)
noncomputable def grid_Right_B : Sk := .bool
def grid_Right_m {R : Type} (K : Bool → Option R) (o : Option (Bool)) : Option R := optK o fun y => K y
theorem grid_Right_run {R : Type} (x0 : Int) (x1 : Int) (x2 : List (Int × Int × Int × Int × Int)) (K : Bool → Option R) : acall (envL grid_Right_su grid_Right_ll1 cs0 (fun _ _ => false)) 1000 28 (grid_Right_A.enc ((x0, (x1, (x2, ()))), ())) [] (resK grid_Right_B true K) = grid_Right_m K (grid_Right_F x0 x1 x2) := by
  unfold grid_Right_F
  exact Eq.trans (by kernel_rfl) (cond_push (grid_Right_m K) _ rfl (cond_push (grid_Right_m K) _ rfl (cond_push (grid_Right_m K) _ rfl (cond_push (grid_Right_m K) _ rfl (cond_push (grid_Right_m K) _ rfl (optK_push (grid_Right_m K) rfl _ fun y2 => (sumK_push (grid_Right_m K) _ (fun y2a => rfl) (fun y2b => rfl))))))))
noncomputable def grid_Right_G : GoF grid_Right_A grid_Right_B := fun R (x : ((Int × (Int × (List (Int × Int × Int × Int × Int) × Unit))) × Unit)) K => grid_Right_m K (hide grid_Right_F x.1.1 x.1.2.1 x.1.2.2.1)
theorem grid_Right_known : Known Try.prog 28 grid_Right_A grid_Right_B true grid_Right_G := known_of (envL_ok grid_Right_su_ok grid_Right_ll1_ok cs0_ok) (n := 1000) rfl fun R (x : ((Int × (Int × (List (Int × Int × Int × Int × Int) × Unit))) × Unit)) K => by
  show _ = grid_Right_m K (hide grid_Right_F x.1.1 x.1.2.1 x.1.2.2.1)
  rw [hide_eq]
  exact grid_Right_run x.1.1 x.1.2.1 x.1.2.2.1 K
end Go.Proofs.YtpneolkfeihkhaaAbs

-- Written by a program of this session (dec.py); Lean checks it.
namespace Go.Proofs.YtpneolkfeihkhaaAbs
open Go Go.Proofs
set_option linter.unusedVariables false
set_option maxHeartbeats 2000000
set_option maxRecDepth 100000
noncomputable def edit_Up_su : SumT := (37, sumH edit_far_A edit_far_B true edit_far_G) :: (36, sumH edit_shift_A edit_shift_B true edit_shift_G) :: sums0
theorem edit_Up_su_ok : AllSum Try.prog edit_Up_su := ⟨sumH_ok rfl rfl edit_far_known, ⟨sumH_ok rfl rfl edit_shift_known, sums0_ok⟩⟩
noncomputable def edit_Up_F (x0 : Int) (x1 : Int) (x2 : List (Int × Int × Int × Int × Int)) (x3 : Int) (x4 : Int) (x5 : Int) (x6 : Int) (x7 : Int) (x8 : Int) : Option (Int × Int × (List (Int × Int × Int × Int × Int))) := (optK ((hide edit_far_F x5)) fun y0 => (optK ((hide edit_shift_F x0 x1 x2 x3 x4 y0 x6 x7 x8)) fun y1 => (some ((y1.1), (y1.2.1), (y1.2.2)))))
noncomputable def edit_Up_A : SkL := (.cons (.agg (.cons (.int .i64) (.cons (.int .i64) (.cons (.list (.cons (.int .i32) (.cons (.int .i64) (.cons (.int .i64) (.cons (.int .i64) (.one (.int .i64))))))) .nil)))) (.cons (.int .i64) (.cons (.int .i64) (.cons (.int .i64) (.cons (.agg (.cons (.int .i64) (.cons (.int .i64) (.cons (.int .i64) .nil)))) .nil)))))
noncomputable def edit_Up_B : Sk := (.agg (.cons (.int .i64) (.cons (.int .i64) (.cons (.list (.cons (.int .i32) (.cons (.int .i64) (.cons (.int .i64) (.cons (.int .i64) (.one (.int .i64))))))) .nil))))
def edit_Up_m {R : Type} (K : (Int × (Int × (List (Int × Int × Int × Int × Int) × Unit))) → Option R) (o : Option (Int × Int × (List (Int × Int × Int × Int × Int)))) : Option R := optK o fun y => K (y.1, (y.2.1, (y.2.2, ())))
theorem edit_Up_run {R : Type} (x0 : Int) (x1 : Int) (x2 : List (Int × Int × Int × Int × Int)) (x3 : Int) (x4 : Int) (x5 : Int) (x6 : Int) (x7 : Int) (x8 : Int) (K : (Int × (Int × (List (Int × Int × Int × Int × Int) × Unit))) → Option R) : acall (envL edit_Up_su ll0 cs0 (fun _ _ => false)) 1000 11 (edit_Up_A.enc ((x0, (x1, (x2, ()))), (x3, (x4, (x5, ((x6, (x7, (x8, ()))), ())))))) [] (resK edit_Up_B false K) = edit_Up_m K (edit_Up_F x0 x1 x2 x3 x4 x5 x6 x7 x8) := by
  unfold edit_Up_F
  exact Eq.trans (by kernel_rfl) (optK_push (edit_Up_m K) rfl _ fun y0 => (optK_push (edit_Up_m K) rfl _ fun y1 => rfl))
noncomputable def edit_Up_G : GoF edit_Up_A edit_Up_B := fun R (x : ((Int × (Int × (List (Int × Int × Int × Int × Int) × Unit))) × (Int × (Int × (Int × ((Int × (Int × (Int × Unit))) × Unit)))))) K => edit_Up_m K (hide edit_Up_F x.1.1 x.1.2.1 x.1.2.2.1 x.2.1 x.2.2.1 x.2.2.2.1 x.2.2.2.2.1.1 x.2.2.2.2.1.2.1 x.2.2.2.2.1.2.2.1)
theorem edit_Up_known : Known Try.prog 11 edit_Up_A edit_Up_B false edit_Up_G := known_of (envL_ok edit_Up_su_ok ll0_ok cs0_ok) (n := 1000) rfl fun R (x : ((Int × (Int × (List (Int × Int × Int × Int × Int) × Unit))) × (Int × (Int × (Int × ((Int × (Int × (Int × Unit))) × Unit)))))) K => by
  show _ = edit_Up_m K (hide edit_Up_F x.1.1 x.1.2.1 x.1.2.2.1 x.2.1 x.2.2.1 x.2.2.2.1 x.2.2.2.2.1.1 x.2.2.2.2.1.2.1 x.2.2.2.2.1.2.2.1)
  rw [hide_eq]
  exact edit_Up_run x.1.1 x.1.2.1 x.1.2.2.1 x.2.1 x.2.2.1 x.2.2.2.1 x.2.2.2.2.1.1 x.2.2.2.2.1.2.1 x.2.2.2.2.1.2.2.1 K

noncomputable def edit_Down_su : SumT := (37, sumH edit_far_A edit_far_B true edit_far_G) :: (36, sumH edit_shift_A edit_shift_B true edit_shift_G) :: sums0
theorem edit_Down_su_ok : AllSum Try.prog edit_Down_su := ⟨sumH_ok rfl rfl edit_far_known, ⟨sumH_ok rfl rfl edit_shift_known, sums0_ok⟩⟩
noncomputable def edit_Down_F (x0 : Int) (x1 : Int) (x2 : List (Int × Int × Int × Int × Int)) (x3 : Int) (x4 : Int) (x5 : Int) (x6 : Int) (x7 : Int) (x8 : Int) : Option (Int × Int × (List (Int × Int × Int × Int × Int))) := (optK ((hide edit_far_F x5)) fun y0 => (optK ((hide edit_shift_F x0 x1 x2 x3 x4 (IntKind.i64.wrap ((0 : Int) - y0)) x6 x7 x8)) fun y1 => (some ((y1.1), (y1.2.1), (y1.2.2)))))
noncomputable def edit_Down_A : SkL := (.cons (.agg (.cons (.int .i64) (.cons (.int .i64) (.cons (.list (.cons (.int .i32) (.cons (.int .i64) (.cons (.int .i64) (.cons (.int .i64) (.one (.int .i64))))))) .nil)))) (.cons (.int .i64) (.cons (.int .i64) (.cons (.int .i64) (.cons (.agg (.cons (.int .i64) (.cons (.int .i64) (.cons (.int .i64) .nil)))) .nil)))))
noncomputable def edit_Down_B : Sk := (.agg (.cons (.int .i64) (.cons (.int .i64) (.cons (.list (.cons (.int .i32) (.cons (.int .i64) (.cons (.int .i64) (.cons (.int .i64) (.one (.int .i64))))))) .nil))))
def edit_Down_m {R : Type} (K : (Int × (Int × (List (Int × Int × Int × Int × Int) × Unit))) → Option R) (o : Option (Int × Int × (List (Int × Int × Int × Int × Int)))) : Option R := optK o fun y => K (y.1, (y.2.1, (y.2.2, ())))
theorem edit_Down_run {R : Type} (x0 : Int) (x1 : Int) (x2 : List (Int × Int × Int × Int × Int)) (x3 : Int) (x4 : Int) (x5 : Int) (x6 : Int) (x7 : Int) (x8 : Int) (K : (Int × (Int × (List (Int × Int × Int × Int × Int) × Unit))) → Option R) : acall (envL edit_Down_su ll0 cs0 (fun _ _ => false)) 1000 20 (edit_Down_A.enc ((x0, (x1, (x2, ()))), (x3, (x4, (x5, ((x6, (x7, (x8, ()))), ())))))) [] (resK edit_Down_B false K) = edit_Down_m K (edit_Down_F x0 x1 x2 x3 x4 x5 x6 x7 x8) := by
  unfold edit_Down_F
  exact Eq.trans (by kernel_rfl) (optK_push (edit_Down_m K) rfl _ fun y0 => (optK_push (edit_Down_m K) rfl _ fun y1 => rfl))
noncomputable def edit_Down_G : GoF edit_Down_A edit_Down_B := fun R (x : ((Int × (Int × (List (Int × Int × Int × Int × Int) × Unit))) × (Int × (Int × (Int × ((Int × (Int × (Int × Unit))) × Unit)))))) K => edit_Down_m K (hide edit_Down_F x.1.1 x.1.2.1 x.1.2.2.1 x.2.1 x.2.2.1 x.2.2.2.1 x.2.2.2.2.1.1 x.2.2.2.2.1.2.1 x.2.2.2.2.1.2.2.1)
theorem edit_Down_known : Known Try.prog 20 edit_Down_A edit_Down_B false edit_Down_G := known_of (envL_ok edit_Down_su_ok ll0_ok cs0_ok) (n := 1000) rfl fun R (x : ((Int × (Int × (List (Int × Int × Int × Int × Int) × Unit))) × (Int × (Int × (Int × ((Int × (Int × (Int × Unit))) × Unit)))))) K => by
  show _ = edit_Down_m K (hide edit_Down_F x.1.1 x.1.2.1 x.1.2.2.1 x.2.1 x.2.2.1 x.2.2.2.1 x.2.2.2.2.1.1 x.2.2.2.2.1.2.1 x.2.2.2.2.1.2.2.1)
  rw [hide_eq]
  exact edit_Down_run x.1.1 x.1.2.1 x.1.2.2.1 x.2.1 x.2.2.1 x.2.2.2.1 x.2.2.2.2.1.1 x.2.2.2.2.1.2.1 x.2.2.2.2.1.2.2.1 K

noncomputable def edit_Erase_su : SumT := (18, sumH grid_At_A grid_At_B true grid_At_G) :: (57, sumW slices_Clone_api_Cell_A slices_Clone_api_Cell_B slices_Clone_api_Cell_G) :: (21, sumH edit_Line_A edit_Line_B false edit_Line_G) :: (47, sumH grid_Wipe_A grid_Wipe_B true grid_Wipe_G) :: sums0
theorem edit_Erase_su_ok : AllSum Try.prog edit_Erase_su := ⟨sumH_ok rfl rfl grid_At_known, ⟨sumW_ok rfl rfl rfl slices_Clone_api_Cell_known, ⟨sumH_ok rfl rfl edit_Line_known, ⟨sumH_ok rfl rfl grid_Wipe_known, sums0_ok⟩⟩⟩⟩
noncomputable def edit_Erase_c6 : Code := ((Try.f23.body.map fun b => loopsAt b 6).getD []).headD .skip
theorem edit_Erase_c6_is : (Try.f23.body.map fun b => loopsAt b 6) = some [edit_Erase_c6] := by kernel_rfl
noncomputable def edit_Erase_s6 : SkSt := ⟨(.gap 1 (.cons (.int .i64) (.gap 1 (.cons (.int .i64) (.gap 1 (.cst (.ptr 0 0) (.gap 3 (.cst (.ptr 1 0) (.cst (.ptr 2 0) (.gap 2 (.cst (.ptr 3 0) (.gap 27 (.cons (.int .i64) (.cons (.int .i64) (.gap 26 .nil))))))))))))))), (.var 27 (.cons (.int .i64) (.cons (.int .i64) (.cons (.list (.cons (.int .i32) (.cons (.int .i64) (.cons (.int .i64) (.cons (.int .i64) (.one (.int .i64))))))) .nil))) (.var 23 (.cons (.int .i64) (.cons (.int .i64) (.cons (.int .i64) .nil))) (.var 27 (.cons (.int .i64) (.cons (.int .i64) (.cst (.own 4 40 (.cons (.int .i32) (.cons (.int .i64) (.cons (.int .i64) (.cons (.int .i64) (.one (.int .i64))))))) .nil))) (.var 27 (.cons (.int .i64) (.cons (.int .i64) (.cons (.list (.cons (.int .i32) (.cons (.int .i64) (.cons (.int .i64) (.cons (.int .i64) (.one (.int .i64))))))) .nil))) (.arr 40 (.cons (.int .i32) (.cons (.int .i64) (.cons (.int .i64) (.cons (.int .i64) (.one (.int .i64)))))) .nil)))))⟩
noncomputable def edit_Erase_x6_0 : SkSt := ⟨(.gap 10 (.cst (.ptr 0 0) (.gap 2 (.cst (.ptr 1 0) (.gap 55 .nil))))), (.var 27 (.cons (.int .i64) (.cons (.int .i64) (.cst (.own 2 40 (.cons (.int .i32) (.cons (.int .i64) (.cons (.int .i64) (.cons (.int .i64) (.one (.int .i64))))))) .nil))) (.var 27 (.cons (.int .i64) (.cons (.int .i64) (.cons (.list (.cons (.int .i32) (.cons (.int .i64) (.cons (.int .i64) (.cons (.int .i64) (.one (.int .i64))))))) .nil))) (.arr 40 (.cons (.int .i32) (.cons (.int .i64) (.cons (.int .i64) (.cons (.int .i64) (.one (.int .i64)))))) .nil)))⟩
noncomputable def edit_Erase_xs6 : List (Ex × SkSt) := [(.exit 0, edit_Erase_x6_0)]
noncomputable def edit_Erase_L6 : Nat → Int → Int → Int → Int → Int → Int → List (Int × Int × Int × Int × Int) → Int → Int → Int → Int → Int → Int → Int → List (Int × Int × Int × Int × Int) → List (Int × Int × Int × Int × Int) → Option (Int × Int × Int × Int × (List (Int × Int × Int × Int × Int)) × (List (Int × Int × Int × Int × Int)))
  | 0, _, _, _, _, _, _, _, _, _, _, _, _, _, _, _, _ => none
  | n + 1, a0, a1, a2, a3, a4, a5, a6, a7, a8, a9, a10, a11, a12, a13, a14, a15 => (bif (decide (a3 < a2)) then (bif (decide (a3 > a0)) then (bif (a1 != (1 : Int)) then (optK ((hide grid_Wipe_F a12 a13 a14 a3 (0 : Int) a5 a7 a8 a9)) fun y5 => (edit_Erase_L6 n a0 a1 a2 (IntKind.i64.wrap (a3 + (1 : Int))) a4 a5 a6 a7 a8 a9 a10 a11 (y5.1) (y5.2.1) (y5.2.2) a15)) else (bif (decide (a3 < a0)) then (bif (a1 != (0 : Int)) then (optK ((hide grid_Wipe_F a12 a13 a14 a3 (0 : Int) a5 a7 a8 a9)) fun y6 => (edit_Erase_L6 n a0 a1 a2 (IntKind.i64.wrap (a3 + (1 : Int))) a4 a5 a6 a7 a8 a9 a10 a11 (y6.1) (y6.2.1) (y6.2.2) a15)) else (edit_Erase_L6 n a0 a1 a2 (IntKind.i64.wrap (a3 + (1 : Int))) a4 a5 a6 a7 a8 a9 a10 a11 a12 a13 a14 a15)) else (edit_Erase_L6 n a0 a1 a2 (IntKind.i64.wrap (a3 + (1 : Int))) a4 a5 a6 a7 a8 a9 a10 a11 a12 a13 a14 a15))) else (bif (decide (a3 < a0)) then (bif (a1 != (0 : Int)) then (optK ((hide grid_Wipe_F a12 a13 a14 a3 (0 : Int) a5 a7 a8 a9)) fun y7 => (edit_Erase_L6 n a0 a1 a2 (IntKind.i64.wrap (a3 + (1 : Int))) a4 a5 a6 a7 a8 a9 a10 a11 (y7.1) (y7.2.1) (y7.2.2) a15)) else (edit_Erase_L6 n a0 a1 a2 (IntKind.i64.wrap (a3 + (1 : Int))) a4 a5 a6 a7 a8 a9 a10 a11 a12 a13 a14 a15)) else (edit_Erase_L6 n a0 a1 a2 (IntKind.i64.wrap (a3 + (1 : Int))) a4 a5 a6 a7 a8 a9 a10 a11 a12 a13 a14 a15))) else (some (a10, a11, a12, a13, a14, a15)))
noncomputable def edit_Erase_I6 {R : Type} (K : Ex → St → Option R) : Nat → St → Option R := iterN (exec (envL edit_Erase_su ll0 cs0 (fun _ _ => false)) 23 (acall (envL edit_Erase_su ll0 cs0 (fun _ _ => false)) 1000) 0 edit_Erase_c6) (normTo edit_Erase_s6 0) (exitK edit_Erase_xs6 0 K)
noncomputable def edit_Erase_m6 {R : Type} (K : Ex → St → Option R) (o : Option (Int × Int × Int × Int × (List (Int × Int × Int × Int × Int)) × (List (Int × Int × Int × Int × Int)))) : Option R := optK o fun y => K (.exit 0) (edit_Erase_x6_0.enc ((), ((y.1, (y.2.1, ())), ((y.2.2.1, (y.2.2.2.1, (y.2.2.2.2.1, ()))), (y.2.2.2.2.2, ())))))
theorem edit_Erase_l6 {R : Type} (K : Ex → St → Option R) : ∀ (n : Nat), ∀ (a0 : Int) (a1 : Int) (a2 : Int) (a3 : Int) (a4 : Int) (a5 : Int) (a6 : List (Int × Int × Int × Int × Int)) (a7 : Int) (a8 : Int) (a9 : Int) (a10 : Int) (a11 : Int) (a12 : Int) (a13 : Int) (a14 : List (Int × Int × Int × Int × Int)) (a15 : List (Int × Int × Int × Int × Int)), edit_Erase_I6 K n (edit_Erase_s6.enc ((a0, (a1, (a2, (a3, ())))), ((a4, (a5, (a6, ()))), ((a7, (a8, (a9, ()))), ((a10, (a11, ())), ((a12, (a13, (a14, ()))), (a15, ()))))))) = edit_Erase_m6 K (edit_Erase_L6 n a0 a1 a2 a3 a4 a5 a6 a7 a8 a9 a10 a11 a12 a13 a14 a15) := by
  intro n
  induction n with
  | zero => intros; rfl
  | succ n ih =>
    intro a0 a1 a2 a3 a4 a5 a6 a7 a8 a9 a10 a11 a12 a13 a14 a15
    rw [edit_Erase_L6]
    exact Eq.trans (by kernel_rfl) (cond_push (edit_Erase_m6 K) _ (cond_push (edit_Erase_m6 K) _ (cond_push (edit_Erase_m6 K) _ (optK_push (edit_Erase_m6 K) rfl _ fun y5 => (ih a0 a1 a2 (IntKind.i64.wrap (a3 + (1 : Int))) a4 a5 a6 a7 a8 a9 a10 a11 (y5.1) (y5.2.1) (y5.2.2) a15)) (cond_push (edit_Erase_m6 K) _ (cond_push (edit_Erase_m6 K) _ (optK_push (edit_Erase_m6 K) rfl _ fun y6 => (ih a0 a1 a2 (IntKind.i64.wrap (a3 + (1 : Int))) a4 a5 a6 a7 a8 a9 a10 a11 (y6.1) (y6.2.1) (y6.2.2) a15)) (ih a0 a1 a2 (IntKind.i64.wrap (a3 + (1 : Int))) a4 a5 a6 a7 a8 a9 a10 a11 a12 a13 a14 a15)) (ih a0 a1 a2 (IntKind.i64.wrap (a3 + (1 : Int))) a4 a5 a6 a7 a8 a9 a10 a11 a12 a13 a14 a15))) (cond_push (edit_Erase_m6 K) _ (cond_push (edit_Erase_m6 K) _ (optK_push (edit_Erase_m6 K) rfl _ fun y7 => (ih a0 a1 a2 (IntKind.i64.wrap (a3 + (1 : Int))) a4 a5 a6 a7 a8 a9 a10 a11 (y7.1) (y7.2.1) (y7.2.2) a15)) (ih a0 a1 a2 (IntKind.i64.wrap (a3 + (1 : Int))) a4 a5 a6 a7 a8 a9 a10 a11 a12 a13 a14 a15)) (ih a0 a1 a2 (IntKind.i64.wrap (a3 + (1 : Int))) a4 a5 a6 a7 a8 a9 a10 a11 a12 a13 a14 a15))) rfl)
def edit_Erase_fu6 (a0 : Int) (a1 : Int) (a2 : Int) (a3 : Int) (a4 : Int) (a5 : Int) (a6 : List (Int × Int × Int × Int × Int)) (a7 : Int) (a8 : Int) (a9 : Int) (a10 : Int) (a11 : Int) (a12 : Int) (a13 : Int) (a14 : List (Int × Int × Int × Int × Int)) (a15 : List (Int × Int × Int × Int × Int)) : Nat := Int.natAbs a0 + Int.natAbs a1 + Int.natAbs a2 + Int.natAbs a3 + Int.natAbs a4 + Int.natAbs a5 + List.length a6 + Int.natAbs a7 + Int.natAbs a8 + Int.natAbs a9 + Int.natAbs a10 + Int.natAbs a11 + Int.natAbs a12 + Int.natAbs a13 + List.length a14 + List.length a15 + 5000
noncomputable def edit_Erase_G6 : GoL edit_Erase_s6 := fun R (x : ((Int × (Int × (Int × (Int × Unit)))) × ((Int × (Int × (List (Int × Int × Int × Int × Int) × Unit))) × ((Int × (Int × (Int × Unit))) × ((Int × (Int × Unit)) × ((Int × (Int × (List (Int × Int × Int × Int × Int) × Unit))) × (List (Int × Int × Int × Int × Int) × Unit))))))) K => edit_Erase_m6 K (hide edit_Erase_L6 (edit_Erase_fu6 x.1.1 x.1.2.1 x.1.2.2.1 x.1.2.2.2.1 x.2.1.1 x.2.1.2.1 x.2.1.2.2.1 x.2.2.1.1 x.2.2.1.2.1 x.2.2.1.2.2.1 x.2.2.2.1.1 x.2.2.2.1.2.1 x.2.2.2.2.1.1 x.2.2.2.2.1.2.1 x.2.2.2.2.1.2.2.1 x.2.2.2.2.2.1) x.1.1 x.1.2.1 x.1.2.2.1 x.1.2.2.2.1 x.2.1.1 x.2.1.2.1 x.2.1.2.2.1 x.2.2.1.1 x.2.2.1.2.1 x.2.2.1.2.2.1 x.2.2.2.1.1 x.2.2.2.1.2.1 x.2.2.2.2.1.1 x.2.2.2.2.1.2.1 x.2.2.2.2.1.2.2.1 x.2.2.2.2.2.1)
theorem edit_Erase_H6 : LoopOk Try.prog 23 6 (loopH edit_Erase_s6 0 edit_Erase_G6) := loop_known (envL_ok edit_Erase_su_ok ll0_ok cs0_ok) Try.func23 rfl edit_Erase_c6_is (xs := edit_Erase_xs6) (fuel := fun (x : ((Int × (Int × (Int × (Int × Unit)))) × ((Int × (Int × (List (Int × Int × Int × Int × Int) × Unit))) × ((Int × (Int × (Int × Unit))) × ((Int × (Int × Unit)) × ((Int × (Int × (List (Int × Int × Int × Int × Int) × Unit))) × (List (Int × Int × Int × Int × Int) × Unit))))))) => edit_Erase_fu6 x.1.1 x.1.2.1 x.1.2.2.1 x.1.2.2.2.1 x.2.1.1 x.2.1.2.1 x.2.1.2.2.1 x.2.2.1.1 x.2.2.1.2.1 x.2.2.1.2.2.1 x.2.2.2.1.1 x.2.2.2.1.2.1 x.2.2.2.2.1.1 x.2.2.2.2.1.2.1 x.2.2.2.2.1.2.2.1 x.2.2.2.2.2.1) fun R (x : ((Int × (Int × (Int × (Int × Unit)))) × ((Int × (Int × (List (Int × Int × Int × Int × Int) × Unit))) × ((Int × (Int × (Int × Unit))) × ((Int × (Int × Unit)) × ((Int × (Int × (List (Int × Int × Int × Int × Int) × Unit))) × (List (Int × Int × Int × Int × Int) × Unit))))))) K => by
  show edit_Erase_m6 K (hide edit_Erase_L6 (edit_Erase_fu6 x.1.1 x.1.2.1 x.1.2.2.1 x.1.2.2.2.1 x.2.1.1 x.2.1.2.1 x.2.1.2.2.1 x.2.2.1.1 x.2.2.1.2.1 x.2.2.1.2.2.1 x.2.2.2.1.1 x.2.2.2.1.2.1 x.2.2.2.2.1.1 x.2.2.2.2.1.2.1 x.2.2.2.2.1.2.2.1 x.2.2.2.2.2.1) x.1.1 x.1.2.1 x.1.2.2.1 x.1.2.2.2.1 x.2.1.1 x.2.1.2.1 x.2.1.2.2.1 x.2.2.1.1 x.2.2.1.2.1 x.2.2.1.2.2.1 x.2.2.2.1.1 x.2.2.2.1.2.1 x.2.2.2.2.1.1 x.2.2.2.2.1.2.1 x.2.2.2.2.1.2.2.1 x.2.2.2.2.2.1) = _
  rw [hide_eq]
  exact (edit_Erase_l6 K (edit_Erase_fu6 x.1.1 x.1.2.1 x.1.2.2.1 x.1.2.2.2.1 x.2.1.1 x.2.1.2.1 x.2.1.2.2.1 x.2.2.1.1 x.2.2.1.2.1 x.2.2.1.2.2.1 x.2.2.2.1.1 x.2.2.2.1.2.1 x.2.2.2.2.1.1 x.2.2.2.2.1.2.1 x.2.2.2.2.1.2.2.1 x.2.2.2.2.2.1) x.1.1 x.1.2.1 x.1.2.2.1 x.1.2.2.2.1 x.2.1.1 x.2.1.2.1 x.2.1.2.2.1 x.2.2.1.1 x.2.2.1.2.1 x.2.2.1.2.2.1 x.2.2.2.1.1 x.2.2.2.1.2.1 x.2.2.2.2.1.1 x.2.2.2.2.1.2.1 x.2.2.2.2.1.2.2.1 x.2.2.2.2.2.1).symm
noncomputable def edit_Erase_h6 : LoopF := loopH edit_Erase_s6 0 edit_Erase_G6
noncomputable def edit_Erase_ll1 : LoopT := ((23, 6), edit_Erase_h6) :: ll0
theorem edit_Erase_ll1_ok : AllLoop Try.prog edit_Erase_ll1 := ⟨edit_Erase_H6, ll0_ok⟩
noncomputable def edit_Erase_F (x0 : Int) (x1 : Int) (x2 : List (Int × Int × Int × Int × Int)) (x3 : Int) (x4 : Int) (x5 : Int) (x6 : Int) (x7 : Int) (x8 : Int) : Option (Int × Int × (List (Int × Int × Int × Int × Int))) := (optK ((hide grid_At_F x0 x1 x2 x3 x4)) fun y0 => (bif (!y0.2.2.2.2.2) then (bif (x2.length.ble (274877906944 : Nat)) then (some (x0, x1, x2)) else none) else (bif (decide (x5 < (0 : Int))) then (bif (x2.length.ble (274877906944 : Nat)) then (some (x0, x1, x2)) else none) else (bif (decide (x5 > (2 : Int))) then (bif (x2.length.ble (274877906944 : Nat)) then (some (x0, x1, x2)) else none) else (optK ((hide edit_Line_F x0 x1 x2 x3 x4 x5 x6 x7 x8)) fun y1 => (optK (hide edit_Erase_L6 (edit_Erase_fu6 x3 x5 x0 (0 : Int) x0 x1 x2 x6 x7 x8 (0 : Int) (0 : Int) (y1.1) (y1.2.1) (y1.2.2) ([])) x3 x5 x0 (0 : Int) x0 x1 x2 x6 x7 x8 (0 : Int) (0 : Int) (y1.1) (y1.2.1) (y1.2.2) ([])) fun y8 => (some ((y8.2.2.1), (y8.2.2.2.1), (y8.2.2.2.2.1)))))))))
noncomputable def edit_Erase_A : SkL := (.cons (.agg (.cons (.int .i64) (.cons (.int .i64) (.cons (.list (.cons (.int .i32) (.cons (.int .i64) (.cons (.int .i64) (.cons (.int .i64) (.one (.int .i64))))))) .nil)))) (.cons (.int .i64) (.cons (.int .i64) (.cons (.int .i64) (.cons (.agg (.cons (.int .i64) (.cons (.int .i64) (.cons (.int .i64) .nil)))) .nil)))))
noncomputable def edit_Erase_B : Sk := (.agg (.cons (.int .i64) (.cons (.int .i64) (.cons (.list (.cons (.int .i32) (.cons (.int .i64) (.cons (.int .i64) (.cons (.int .i64) (.one (.int .i64))))))) .nil))))
def edit_Erase_m {R : Type} (K : (Int × (Int × (List (Int × Int × Int × Int × Int) × Unit))) → Option R) (o : Option (Int × Int × (List (Int × Int × Int × Int × Int)))) : Option R := optK o fun y => K (y.1, (y.2.1, (y.2.2, ())))
theorem edit_Erase_run {R : Type} (x0 : Int) (x1 : Int) (x2 : List (Int × Int × Int × Int × Int)) (x3 : Int) (x4 : Int) (x5 : Int) (x6 : Int) (x7 : Int) (x8 : Int) (K : (Int × (Int × (List (Int × Int × Int × Int × Int) × Unit))) → Option R) : acall (envL edit_Erase_su edit_Erase_ll1 cs0 (fun _ _ => false)) 1000 23 (edit_Erase_A.enc ((x0, (x1, (x2, ()))), (x3, (x4, (x5, ((x6, (x7, (x8, ()))), ())))))) [] (resK edit_Erase_B false K) = edit_Erase_m K (edit_Erase_F x0 x1 x2 x3 x4 x5 x6 x7 x8) := by
  unfold edit_Erase_F
  exact Eq.trans (by kernel_rfl) (optK_push (edit_Erase_m K) rfl _ fun y0 => (cond_push (edit_Erase_m K) _ (cond_push (edit_Erase_m K) _ rfl rfl) (cond_push (edit_Erase_m K) _ (cond_push (edit_Erase_m K) _ rfl rfl) (cond_push (edit_Erase_m K) _ (cond_push (edit_Erase_m K) _ rfl rfl) (optK_push (edit_Erase_m K) rfl _ fun y1 => (optK_push (edit_Erase_m K) rfl _ fun y8 => rfl))))))
noncomputable def edit_Erase_G : GoF edit_Erase_A edit_Erase_B := fun R (x : ((Int × (Int × (List (Int × Int × Int × Int × Int) × Unit))) × (Int × (Int × (Int × ((Int × (Int × (Int × Unit))) × Unit)))))) K => edit_Erase_m K (hide edit_Erase_F x.1.1 x.1.2.1 x.1.2.2.1 x.2.1 x.2.2.1 x.2.2.2.1 x.2.2.2.2.1.1 x.2.2.2.2.1.2.1 x.2.2.2.2.1.2.2.1)
theorem edit_Erase_known : Known Try.prog 23 edit_Erase_A edit_Erase_B false edit_Erase_G := known_of (envL_ok edit_Erase_su_ok edit_Erase_ll1_ok cs0_ok) (n := 1000) rfl fun R (x : ((Int × (Int × (List (Int × Int × Int × Int × Int) × Unit))) × (Int × (Int × (Int × ((Int × (Int × (Int × Unit))) × Unit)))))) K => by
  show _ = edit_Erase_m K (hide edit_Erase_F x.1.1 x.1.2.1 x.1.2.2.1 x.2.1 x.2.2.1 x.2.2.2.1 x.2.2.2.2.1.1 x.2.2.2.2.1.2.1 x.2.2.2.2.1.2.2.1)
  rw [hide_eq]
  exact edit_Erase_run x.1.1 x.1.2.1 x.1.2.2.1 x.2.1 x.2.2.1 x.2.2.2.1 x.2.2.2.2.1.1 x.2.2.2.2.1.2.1 x.2.2.2.2.1.2.2.1 K
end Go.Proofs.YtpneolkfeihkhaaAbs

/- Plain laws: numbers, widths of runes, halves of wide runes, rows mended. -/
namespace Go.Proofs.YtpneolkfeihkhaaAbs
set_option linter.unusedVariables false
set_option linter.unusedSimpArgs false
open Go Go.Proofs
abbrev Cell := Int × Int × Int × Int × Int
abbrev dC : Cell := (0, 0, 0, 0, 0)
theorem optK_s {α R : Type} (v : α) (K : α → Option R) : optK (some v) K = K v := rfl
theorem w64 {n : Int} (h0 : -9223372036854775808 ≤ n) (h1 : n < 9223372036854775808) : IntKind.i64.wrap n = n := by rw [IntKind.wrap_i64]; omega
theorem w32 {n : Int} (h0 : -2147483648 ≤ n) (h1 : n < 2147483648) : IntKind.i32.wrap n = n := by rw [IntKind.wrap_i32]; omega
theorem between_eq (a b c : Int) : hide cell_between_F a b c = some (decide (b ≤ a ∧ a ≤ c)) := by
  rw [hide_eq]; unfold cell_between_F
  by_cases h1 : b ≤ a <;> by_cases h2 : a ≤ c <;> simp [h1, h2]
def wideP (x : Int) : Bool := decide (4352 ≤ x ∧ x ≤ 4447) || decide (11904 ≤ x ∧ x ≤ 42191) || decide (44032 ≤ x ∧ x ≤ 55203) || decide (63744 ≤ x ∧ x ≤ 64255) || decide (65072 ≤ x ∧ x ≤ 65135) || decide (65280 ≤ x ∧ x ≤ 65376) || decide (65504 ≤ x ∧ x ≤ 65510) || decide (127744 ≤ x ∧ x ≤ 129791) || decide (131072 ≤ x ∧ x ≤ 262141)
def narrowP (x : Int) : Bool := decide (x < 32) || decide (127 ≤ x ∧ x ≤ 159) || decide (768 ≤ x ∧ x ≤ 879) || decide (55296 ≤ x ∧ x ≤ 57343) || decide (1114111 < x)
theorem narrow_eq (x : Int) : hide cell_narrow_F x = some (narrowP x) := by
  rw [hide_eq]; unfold cell_narrow_F
  simp only [between_eq, optK_s]
  unfold narrowP
  by_cases h1 : x < 32 <;> by_cases h2 : (127 ≤ x ∧ x ≤ 159) <;> by_cases h3 : (768 ≤ x ∧ x ≤ 879) <;> by_cases h4 : (55296 ≤ x ∧ x ≤ 57343) <;> simp [h1, h2, h3, h4]
theorem ofNat_lt {a b : Nat} : decide ((Int.ofNat a) < Int.ofNat b) = decide (a < b) := by
  by_cases h : a < b <;> simp [h]
theorem wrap_succ {i : Nat} (h : i < 4611686018427387904) : IntKind.i64.wrap (Int.ofNat i + 1) = Int.ofNat (i + 1) := by
  rw [w64 (by simp; omega) (by simp; omega)]; simp
theorem wide_loop (x : Int) (l : List (Int × Int)) (hl : l.length < 4611686018427387904) : ∀ (n i : Nat), i ≤ l.length → l.length - i < n →
    cell_wide_L2 n x l (Int.ofNat l.length) (Int.ofNat i) = some (if (l.drop i).any (fun p => decide (p.1 ≤ x ∧ x ≤ p.2)) then .inl true else .inr ()) := by
  intro n
  induction n with
  | zero => intro i h1 h2; omega
  | succ n ih =>
    intro i h1 h2
    rw [cell_wide_L2]
    by_cases hi : i < l.length
    · have e0 : decide ((0 : Int) ≤ Int.ofNat i) = true := by simp
      rw [ofNat_lt, e0]
      simp only [hi, decide_true, cond_true, Bool.and_self, between_eq, optK_s]
      rw [List.drop_eq_getElem_cons hi, List.any_cons]
      have e1 : l.getD (Int.ofNat i).toNat (0, 0) = l[i] := by simp [hi]
      rw [e1, wrap_succ (by omega), ih (i + 1) (by omega) (by omega)]
      cases hp : decide (l[i].1 ≤ x ∧ x ≤ l[i].2)
      · simp only [Bool.false_or, cond_false]
      · simp
    · have : i = l.length := by omega
      subst this
      simp
theorem wide_eq (x : Int) : hide cell_wide_F x = some (wideP x) := by
  rw [hide_eq]; unfold cell_wide_F
  simp only [hide_eq]
  have h := wide_loop x [((4352 : Int), (4447 : Int)), ((11904 : Int), (42191 : Int)), ((44032 : Int), (55203 : Int)), ((63744 : Int), (64255 : Int)), ((65072 : Int), (65135 : Int)), ((65280 : Int), (65376 : Int)), ((65504 : Int), (65510 : Int)), ((127744 : Int), (129791 : Int)), ((131072 : Int), (262141 : Int))] (by simp)
    (cell_wide_fu2 x [((4352 : Int), (4447 : Int)), ((11904 : Int), (42191 : Int)), ((44032 : Int), (55203 : Int)), ((63744 : Int), (64255 : Int)), ((65072 : Int), (65135 : Int)), ((65280 : Int), (65376 : Int)), ((65504 : Int), (65510 : Int)), ((127744 : Int), (129791 : Int)), ((131072 : Int), (262141 : Int))] 9 0) 0 (by simp) (by unfold cell_wide_fu2; first | (simp; done) | (simp; omega))
  have e9 : (Int.ofNat 9 : Int) = 9 := rfl
  have e0 : (Int.ofNat 0 : Int) = 0 := rfl
  simp only [List.length_cons, List.length_nil, e0, Nat.zero_add, Nat.reduceAdd, e9] at h
  rw [h]
  simp only [List.drop_zero, List.any_cons, List.any_nil, Bool.or_false, optK_s]
  have e : ∀ c : Bool, (sumK (if c = true then Sum.inl true else Sum.inr ()) (fun y2a => some y2a) fun y2b => some false : Option Bool) = some c := fun c => by cases c <;> rfl
  rw [e]
  congr 1
  unfold wideP
  simp only [Bool.or_assoc]
def widthP (x : Int) : Int := bif narrowP x then 0 else bif wideP x then 2 else 1
theorem width_eq (x : Int) : hide cell_Width_F x = some (widthP x) := by
  rw [hide_eq]; unfold cell_Width_F widthP
  simp only [narrow_eq, wide_eq, optK_s]
  cases narrowP x <;> cases wideP x <;> rfl

/-! ### halves -/
def halfB (l : List Cell) (i : Nat) : Bool :=
  bif (l.getD i dC).2.1 == 1 then (decide (i + 1 = l.length) || ((l.getD (i + 1) dC).2.1 != 2)) else
  bif (l.getD i dC).2.1 == 2 then (decide (i = 0) || ((l.getD (i - 1) dC).2.1 != 1)) else false
theorem half_eq (l : List Cell) (i : Nat) (hl : l.length < 4611686018427387904) (hi : i < l.length) : hide grid_half_F l (Int.ofNat i) = some (halfB l i) := by
  rw [hide_eq]; unfold grid_half_F halfB
  have e0 : decide ((0 : Int) ≤ Int.ofNat i) = true := by simp
  have e1 : (Int.ofNat i).toNat = i := by simp
  rw [ofNat_lt, e0, e1, wrap_succ (by omega)]
  simp only [hi, decide_true, Bool.and_self, cond_true]
  cases h1 : (l.getD i dC).2.1 == 1 with
  | true =>
    simp only [cond_true]
    by_cases h2 : i + 1 = l.length
    · have : (Int.ofNat (i + 1) == Int.ofNat l.length) = true := by rw [h2]; simp
      rw [this]; simp [h2]
    · have : (Int.ofNat (i + 1) == Int.ofNat l.length) = false := by
        exact beq_false_of_ne fun k => h2 (Int.ofNat.inj k)
      have e2 : decide ((0 : Int) ≤ Int.ofNat (i + 1)) = true := by simp; omega
      have e3 : (Int.ofNat (i + 1)).toNat = i + 1 := by simp
      rw [this, ofNat_lt, e2, e3]
      have : decide (i + 1 < l.length) = true := decide_eq_true (by omega)
      rw [this]; simp [h2]
  | false =>
    simp only [cond_false]
    cases h2 : (l.getD i dC).2.1 == 2 with
    | true =>
      simp only [cond_true]
      by_cases h3 : i = 0
      · subst h3; simp
      · have : (Int.ofNat i == (0 : Int)) = false := by
          exact beq_false_of_ne fun k => h3 (Int.ofNat.inj k)
        have e2 : IntKind.i64.wrap (Int.ofNat i - 1) = Int.ofNat (i - 1) := by
          rw [w64 (by simp; omega) (by simp; omega)]; simp; omega
        have e3 : (Int.ofNat (i - 1)).toNat = i - 1 := by simp
        have e4 : decide ((0 : Int) ≤ Int.ofNat (i - 1)) = true := by simp
        rw [this, e2, ofNat_lt, e3, e4]
        have : decide (i - 1 < l.length) = true := decide_eq_true (by omega)
        rw [this]; simp [h3]
    | false => rfl

/-! ### rows mended -/
def blankOf (x : Cell) : Cell := (32, 0, x.2.2)
def mendAt (l : List Cell) (i : Nat) : Cell := bif halfB l i then blankOf (l.getD i dC) else l.getD i dC
def mend (l : List Cell) : List Cell := (List.range l.length).map (mendAt l)
theorem mend_length (l : List Cell) : (mend l).length = l.length := by simp [mend]
theorem mend_getD (l : List Cell) (i : Nat) (h : i < l.length) : (mend l).getD i dC = mendAt l i := by simp [mend, h]
theorem mend_get (l : List Cell) (i : Nat) (h : i < l.length) : (mend l)[i]'(by rw [mend_length]; exact h) = mendAt l i := by simp [mend]
theorem take_set_drop {α : Type} (a b : List α) (i : Nat) (x : α) (h : i < b.length) (hab : a.length = b.length) (hx : a[i]'(by omega) = x) : (a.take i ++ b.drop i).set i x = a.take (i + 1) ++ b.drop (i + 1) := by
  have h1 : (a.take i).length = i := by simp; omega
  rw [List.set_append_right _ _ (by omega), h1, Nat.sub_self, List.drop_eq_getElem_cons h, List.set_cons_zero, ← List.take_append_getElem (l := a) (i := i) (by omega), hx, List.append_assoc]
  rfl
theorem take_keep_drop {α : Type} (a b : List α) (i : Nat) (h : i < b.length) (hab : a.length = b.length) (hx : a[i]'(by omega) = b[i]) : a.take i ++ b.drop i = a.take (i + 1) ++ b.drop (i + 1) := by
  rw [List.drop_eq_getElem_cons h, ← List.take_append_getElem (l := a) (i := i) (by omega), hx, List.append_assoc]
  rfl
theorem blank_eq (a b c : Int) : hide cell_Blank_F a b c = some (32, 0, a, b, c) := by rw [hide_eq]; rfl
theorem mend_loop (l : List Cell) (hl : l.length < 4611686018427387904) : ∀ (n i : Nat), i ≤ l.length → l.length - i < n →
    grid_Mend_L3 n l l (Int.ofNat l.length) (Int.ofNat i) ((mend l).take i ++ l.drop i) = some (mend l) := by
  intro n
  induction n with
  | zero => intro i h1 h2; omega
  | succ n ih =>
    intro i h1 h2
    rw [grid_Mend_L3]
    by_cases hi : i < l.length
    · have e0 : decide ((0 : Int) ≤ Int.ofNat i) = true := by simp
      have e1 : (Int.ofNat i).toNat = i := by simp
      have e2 : l.getD i dC = l[i] := by simp [hi]
      have e3 : ((mend l).take i ++ l.drop i).length = l.length := by simp [mend_length]; omega
      rw [ofNat_lt, ofNat_lt, e0, e1, e3, half_eq l i hl hi, wrap_succ (by omega)]
      simp only [hi, decide_true, cond_true, Bool.and_self, optK_s, blank_eq]
      have e4 := mend_get l i hi
      unfold mendAt at e4
      cases hh : halfB l i with
      | true =>
        rw [hh] at e4
        simp only [cond_true] at e4 ⊢
        have e5 := take_set_drop (mend l) l i _ hi (mend_length l) e4
        have : (32, 0, (l.getD i dC).2.2.1, (l.getD i dC).2.2.2.1, (l.getD i dC).2.2.2.2) = blankOf (l.getD i dC) := rfl
        rw [this, e5]
        exact ih (i + 1) (by omega) (by omega)
      | false =>
        rw [hh] at e4
        simp only [cond_false] at e4 ⊢
        rw [take_keep_drop (mend l) l i hi (mend_length l) (by rw [e4, e2])]
        exact ih (i + 1) (by omega) (by omega)
    · have : i = l.length := by omega
      subst this
      have e : decide (Int.ofNat l.length < Int.ofNat l.length) = false := by simp
      rw [e, List.drop_length, List.append_nil, List.take_of_length_le (by rw [mend_length]; exact Nat.le_refl _)]
      rfl
theorem mend_eq (l : List Cell) (hl : l.length ≤ 274877906944) : hide grid_Mend_F l = some (mend l) := by
  rw [hide_eq]; unfold grid_Mend_F
  have e : (l.length.ble 274877906944) = true := Nat.ble_eq_true_of_le hl
  rw [e]
  simp only [hide_eq, cond_true]
  have := mend_loop l (by omega) (grid_Mend_fu3 l l (Int.ofNat l.length) (Int.ofNat 0) l) 0 (by omega) (by unfold grid_Mend_fu3; omega)
  simp only [List.take_zero, List.drop_zero, List.nil_append] at this
  rw [show (0 : Int) = Int.ofNat 0 from rfl, this]
  rfl
end Go.Proofs.YtpneolkfeihkhaaAbs

/- Plain laws: what is put into a grid, what is there. -/
namespace Go.Proofs.YtpneolkfeihkhaaAbs
set_option linter.unusedVariables false
set_option linter.unusedSimpArgs false
open Go Go.Proofs
section
variable {α : Type}
theorem set3 {A R B : List α} (c : Nat) (y : α) (hc : c < R.length) : (A ++ R ++ B).set (A.length + c) y = A ++ R.set c y ++ B := by
  rw [List.append_assoc, List.set_append_right _ _ (by omega), Nat.add_sub_cancel_left, List.set_append_left _ _ hc, List.append_assoc]
theorem mid3 {A R B : List α} : ((A ++ R ++ B).drop A.length).take R.length = R := by simp
theorem splice3 {A R B X : List α} (h : X.length = R.length) : splice (A ++ R ++ B) A.length X = A ++ X ++ B := by
  unfold splice
  have e1 : (A ++ R ++ B).take A.length = A := by simp
  have e2 : (A ++ R ++ B).drop (A.length + X.length) = B := by
    rw [h, ← List.length_append, List.drop_left]
  rw [e1, e2]
theorem split3 (l : List α) (o w : Nat) (h : o + w ≤ l.length) : l = l.take o ++ (l.drop o).take w ++ l.drop (o + w) := by
  rw [List.append_assoc, ← List.drop_drop, List.take_append_drop, List.take_append_drop]
end
theorem bnds_ok {a b n : Nat} (h1 : a ≤ b) (h2 : b ≤ n) : bnds (some (Int.ofNat a)) (some (Int.ofNat b)) n = true := by
  simp [bnds]; omega
theorem cutList_ok {α : Type} {l : List α} {a b : Nat} (h1 : a ≤ b) : cutList l (some (Int.ofNat a)) (some (Int.ofNat b)) = (l.drop a).take (b - a) := by
  simp [cutList, List.drop_take]
theorem place_eq (R C : Int) (l : List Cell) (r c : Int) : hide grid_place_F R C l r c = some (decide (0 ≤ r ∧ r < R ∧ 0 ≤ c ∧ c < C)) := by
  rw [hide_eq]; unfold grid_place_F
  by_cases h1 : 0 ≤ r <;> by_cases h2 : r < R <;> by_cases h3 : 0 ≤ c <;> simp [h1, h2, h3]
theorem mul_bound {r w h : Nat} (hr : r < h) : r * w + w ≤ h * w := by
  have : (r + 1) * w ≤ h * w := Nat.mul_le_mul_right w hr
  rw [Nat.add_mul, Nat.one_mul] at this; exact this
theorem small_mul {h w : Nat} (h1 : h ≤ 64) (h2 : w ≤ 64) : h * w ≤ 4096 := Nat.mul_le_mul h1 h2
theorem row_lo (r w : Nat) (hr : r ≤ 64) (hw : w ≤ 64) : IntKind.i64.wrap (Int.ofNat r * Int.ofNat w) = Int.ofNat (r * w) := by
  have := small_mul hr hw
  have e : Int.ofNat r * Int.ofNat w = Int.ofNat (r * w) := by simp
  rw [e, w64 (by simp; omega) (by simp; omega)]
theorem row_hi (r w : Nat) (hr : r ≤ 63) (hw : w ≤ 64) : IntKind.i64.wrap (IntKind.i64.wrap (Int.ofNat r + 1) * Int.ofNat w) = Int.ofNat (r * w + w) := by
  rw [wrap_succ (by omega), row_lo (r + 1) w (by omega) hw, Nat.add_mul, Nat.one_mul]
theorem getD_some' {α : Type} (a d : α) : (some a).getD d = a := rfl
theorem toNat_ofNat' (n : Nat) : (Int.ofNat n).toNat = n := rfl
abbrev Pen := Int × Int × Int
def inRow (w : Nat) (l : List Cell) (r : Nat) (f : List Cell → List Cell) : List Cell := l.take (r * w) ++ f ((l.drop (r * w)).take w) ++ l.drop (r * w + w)
end Go.Proofs.YtpneolkfeihkhaaAbs

/- Plain laws: cells at places, new grids, grids held against each other, numbers brought into bounds. -/
namespace Go.Proofs.YtpneolkfeihkhaaAbs
set_option linter.unusedVariables false
set_option linter.unusedSimpArgs false
open Go Go.Proofs
def at_ (h w : Nat) (l : List Cell) (r c : Int) : Int × Int × Int × Int × Int × Bool :=
  if 0 ≤ r ∧ r < h ∧ 0 ≤ c ∧ c < w then (let x := l.getD (r.toNat * w + c.toNat) dC; (x.1, x.2.1, x.2.2.1, x.2.2.2.1, x.2.2.2.2, true)) else (0, 0, 0, 0, 0, false)
theorem at_eq {R C : Int} {h w : Nat} (hR : R = Int.ofNat h) (hC : C = Int.ofNat w) (hh : h ≤ 40) (hw : w ≤ 60) {l : List Cell} (hl : l.length = h * w) {r c : Int} :
    hide grid_At_F R C l r c = some (at_ h w l r c) := by
  rw [hide_eq]; unfold grid_At_F at_
  simp only [place_eq, optK_s]
  by_cases hp : 0 ≤ r ∧ r < R ∧ 0 ≤ c ∧ c < C
  · have hp' : 0 ≤ r ∧ r < (h : Int) ∧ 0 ≤ c ∧ c < (w : Int) := by rw [hR, hC] at hp; exact hp
    rw [decide_eq_true hp, if_pos hp']
    obtain ⟨rn, rfl⟩ : ∃ n : Nat, r = Int.ofNat n := ⟨r.toNat, by simp; omega⟩
    obtain ⟨cn, rfl⟩ : ∃ n : Nat, c = Int.ofNat n := ⟨c.toNat, by simp; omega⟩
    have hrn : rn < h := by have := hp'.2.1; simpa using this
    have hcn : cn < w := by have := hp'.2.2.2; simpa using this
    have hb := mul_bound (w := w) hrn
    subst hC
    simp only [row_lo rn w (by omega) (by omega), row_hi rn w (by omega) (by omega), toNat_ofNat', Bool.not_true, cond_false]
    rw [bnds_ok (by omega) (by omega), cutList_ok (by omega)]
    have e3 : rn * w + w - rn * w = w := by omega
    have hM : ((l.drop (rn * w)).take w).length = w := by simp; omega
    have e4 : decide ((0 : Int) ≤ Int.ofNat cn) = true := by simp
    rw [e3, hM, e4]
    simp only [ofNat_lt, hcn, decide_true, Bool.and_self, cond_true]
    have e5 : ((l.drop (rn * w)).take w).getD cn (0, 0, 0, 0, 0) = l.getD (rn * w + cn) dC := by
      simp only [List.getD_eq_getElem?_getD, List.getElem?_take, List.getElem?_drop, hcn, if_true]
    rw [e5]
  · have hp' : ¬ (0 ≤ r ∧ r < (h : Int) ∧ 0 ≤ c ∧ c < (w : Int)) := by rw [hR, hC] at hp; exact hp
    rw [decide_eq_false hp, if_neg hp']
    rfl

/-! ### repeated -/
theorem repeat_loop (b : Cell) (N : Nat) (hN : N < 4611686018427387904) : ∀ (n k : Nat) (l : List Cell), l.length = N → 1 ≤ k → k ≤ N → l.take k = List.replicate k b → N - k < n →
    slices_Repeat_api_Cell_L8 n (Int.ofNat k) l = some (List.replicate N b) := by
  intro n
  induction n with
  | zero => intro k l h1 h2 h3 h4 h5; omega
  | succ n ih =>
    intro k l h1 h2 h3 h4 h5
    rw [slices_Repeat_api_Cell_L8]
    rw [ofNat_lt, h1]
    by_cases hk : k < N
    · have b1 : bnds (some (Int.ofNat k)) none N = true := by simp [bnds]; omega
      have b2 : bnds none (some (Int.ofNat k)) N = true := by simp [bnds]; omega
      rw [decide_eq_true hk, b1, b2]
      have e0 : (none.getD (Int.ofNat N)).toNat = N := rfl
      simp only [cond_true, getD_some', toNat_ofNat', Nat.sub_zero, List.drop_zero, e0, h4, List.take_replicate, List.length_replicate]
      have hm : k.min (N - k) = min k (N - k) := rfl
      rw [hm, w64 (by simp; omega) (by simp; omega)]
      have e1 : Int.ofNat k + Int.ofNat (min k (N - k)) = Int.ofNat (k + min k (N - k)) := by simp
      rw [e1, Nat.min_comm (N - k) k]
      refine ih (k + min k (N - k)) _ ?_ (by omega) (by omega) ?_ (by omega)
      · unfold splice; simp; omega
      · unfold splice
        rw [h4, List.replicate_append_replicate, List.take_append_of_le_length (by simp), List.take_of_length_le (by simp)]
    · have : k = N := by omega
      subst this
      rw [decide_eq_false hk]
      rw [List.take_of_length_le (by omega)] at h4
      rw [h4]; rfl
theorem mul_hi_small (y : Int) (h0 : 0 ≤ y) (h1 : y ≤ 4096) : hide math_bits_Mul_F 1 y = some (0, y) := by
  rw [hide_eq]; unfold math_bits_Mul_F
  have a1 : bitsOp BinOp.and IntKind.u64 y 4294967295 = y := by
    have key : ∀ n : Nat, n ≤ 4096 → bitsOp BinOp.and IntKind.u64 (n : Int) 4294967295 = (n : Int) := by
      intro n hn
      have e1 : (BitVec.ofInt 64 (n : Int)) = BitVec.ofNat 64 n := by simp
      have e2 : (BitVec.ofNat 64 n &&& BitVec.ofNat 64 4294967295) = BitVec.ofNat 64 n := by
        apply BitVec.eq_of_toNat_eq
        simp only [BitVec.toNat_and, BitVec.toNat_ofNat]
        have : n % 2 ^ 64 = n := Nat.mod_eq_of_lt (by omega)
        rw [this, show (4294967295 % 2 ^ 64 : Nat) = 2 ^ 32 - 1 from rfl, Nat.and_two_pow_sub_one_eq_mod]
        exact Nat.mod_eq_of_lt (by omega)
      show IntKind.u64.wrap ((BitVec.ofInt 64 (n : Int) &&& BitVec.ofInt 64 4294967295).toNat : Int) = n
      have e3 : (BitVec.ofInt 64 4294967295) = BitVec.ofNat 64 4294967295 := rfl
      rw [e1, e3, e2, IntKind.wrap_u64]
      simp only [BitVec.toNat_ofNat]
      omega
    obtain ⟨n, rfl⟩ : ∃ n : Nat, y = (n : Int) := ⟨y.toNat, by omega⟩
    exact key n (by omega)
  have a2 : bitsOp BinOp.and IntKind.u64 1 4294967295 = 1 := by decide
  have a3 : (1 : Int).fdiv 4294967296 = 0 := by decide
  have a4 : y.fdiv 4294967296 = 0 := by
    rw [Int.fdiv_eq_ediv_of_nonneg _ (by omega)]; omega
  have a5 : IntKind.u64.wrap y = y := by rw [IntKind.wrap_u64]; omega
  have a6 : bitsOp BinOp.and IntKind.u64 0 4294967295 = 0 := by decide
  have a7 : IntKind.u64.wrap 0 = 0 := by decide
  have a8 : (0 : Int).fdiv 4294967296 = 0 := by decide
  simp only [a1, a2, a3, a4, a5, a6, a7, a8, Int.zero_mul, Int.mul_zero, Int.one_mul, Int.add_zero, Int.zero_add, Int.mul_one]
theorem repeat_eq (b : Cell) (n : Nat) (h1 : 1 ≤ n) (h2 : n ≤ 4096) : hide slices_Repeat_api_Cell_F [b] (Int.ofNat n) = some (List.replicate n b) := by
  rw [hide_eq]; unfold slices_Repeat_api_Cell_F
  have e0 : decide (Int.ofNat n < 0) = false := by simp
  rw [e0]
  simp only [cond_false, hide_eq]
  unfold slices_Repeat_api_Cell_J3
  have e1 : IntKind.u64.wrap (Int.ofNat [b].length) = 1 := by simp [IntKind.wrap_u64]
  have e2 : IntKind.u64.wrap (Int.ofNat n) = Int.ofNat n := by rw [IntKind.wrap_u64]; first | (simp; done) | (simp; omega) | (show (n : Int) % _ = n; omega)
  rw [e1, e2, mul_hi_small _ (by simp) (by first | (simp; done) | (simp; omega))]
  simp only [optK_s, hide_eq]
  have e3 : decide ((0 : Int) > 0) = false := by simp
  have e4 : decide (Int.ofNat n > 9223372036854775807) = false := by simp; omega
  rw [e3, e4]
  simp only [cond_false]
  unfold slices_Repeat_api_Cell_J6
  have e5 : IntKind.i64.wrap (Int.ofNat n) = Int.ofNat n := w64 (by first | (simp; done) | (simp; omega)) (by simp; omega)
  rw [e5]
  have e6 : decide ((0 : Int) ≤ Int.ofNat n) = true := by simp
  have e7 : decide (Int.ofNat n ≤ Int.ofNat n) = true := by simp
  have e8 : decide (Int.ofNat n ≤ 274877906944) = true := by simp; omega
  rw [e6, e7, e8]
  simp only [Bool.and_self, cond_true, hide_eq]
  have e9 : (rowN ((0 : Int), (0 : Int), (0 : Int), (0 : Int), (0 : Int)) (Int.ofNat n).toNat) = List.replicate n dC := rfl
  rw [e9]
  have e10 : [b].length.min (List.replicate n dC).length = 1 := by
    rw [List.length_replicate]; exact Nat.min_eq_left h1
  have e11 : splice (List.replicate n dC) 0 (List.take (List.replicate n dC).length [b]) = b :: List.replicate (n - 1) dC := by
    unfold splice
    simp only [List.length_replicate]
    have e12 : List.take n [b] = [b] := List.take_of_length_le (by simpa using h1)
    rw [e12]
    simp
  rw [e10, e11]
  have h := repeat_loop b n (by omega) (slices_Repeat_api_Cell_fu8 (Int.ofNat 1) (b :: List.replicate (n - 1) dC)) 1 (b :: List.replicate (n - 1) dC) (by simp; omega) (by omega) (by omega) (by simp) (by unfold slices_Repeat_api_Cell_fu8; simp; omega)
  rw [h]
  rfl
theorem new_eq {R C : Int} {h w : Nat} (hR : R = Int.ofNat h) (hC : C = Int.ofNat w) (h1 : 1 ≤ h) (hh : h ≤ 40) (w1 : 1 ≤ w) (hw : w ≤ 60) (p0 p1 p2 : Int) :
    hide grid_New_F R C p0 p1 p2 = some (R, C, List.replicate (h * w) (32, 0, p0, p1, p2)) := by
  have hsm := small_mul (show h ≤ 64 by omega) (show w ≤ 64 by omega)
  have hpos : 1 ≤ h * w := Nat.mul_le_mul h1 w1
  rw [hide_eq]; unfold grid_New_F
  simp only [blank_eq, optK_s]
  subst hR hC
  have i1 : ¬ (40 : Int) < Int.ofNat h := by simp; omega
  have i2 : ¬ (60 : Int) < Int.ofNat w := by simp; omega
  simp only [i1, i2, if_false]
  have i3 : (if Int.ofNat h > 1 then Int.ofNat h else 1) = Int.ofNat h := by
    split
    · rfl
    · rename_i k; simp at k ⊢; omega
  have i4 : (if Int.ofNat w > 1 then Int.ofNat w else 1) = Int.ofNat w := by
    split
    · rfl
    · rename_i k; simp at k ⊢; omega
  rw [i3, i4, row_lo h w (by omega) (by omega), repeat_eq _ _ hpos hsm]
  rfl

/-! ### held against each other -/
theorem cell_beq (a b : Cell) : (a.1 == b.1 && (a.2.1 == b.2.1 && (a.2.2.1 == b.2.2.1 && (a.2.2.2.1 == b.2.2.2.1 && (a.2.2.2.2 == b.2.2.2.2 && true))))) = decide (a = b) := by
  obtain ⟨a1, a2, a3, a4, a5⟩ := a
  obtain ⟨b1, b2, b3, b4, b5⟩ := b
  by_cases h : ((a1, a2, a3, a4, a5) : Cell) = (b1, b2, b3, b4, b5)
  · have k := h
    injection k with k1 k; injection k with k2 k; injection k with k3 k; injection k with k4 k5
    subst k1 k2 k3 k4 k5
    simp
  · rw [decide_eq_false h]
    simp only [Prod.mk.injEq] at h
    simp only [Bool.and_true, Bool.and_eq_false_iff, beq_eq_false_iff_ne, ne_eq]
    by_cases c1 : a1 = b1 <;> by_cases c2 : a2 = b2 <;> by_cases c3 : a3 = b3 <;> by_cases c4 : a4 = b4 <;> simp_all
theorem equal_loop (a b : List Cell) (hl : a.length = b.length) (hb : a.length < 4611686018427387904) : ∀ (n i : Nat), i ≤ a.length → a.length - i < n →
    slices_Equal_api_Cell_L4 n a b (Int.ofNat a.length) (Int.ofNat i) = some (if a.drop i = b.drop i then .inr () else .inl false) := by
  intro n
  induction n with
  | zero => intro i h1 h2; omega
  | succ n ih =>
    intro i h1 h2
    rw [slices_Equal_api_Cell_L4]
    by_cases hi : i < a.length
    · have e0 : decide ((0 : Int) ≤ Int.ofNat i) = true := by simp
      rw [ofNat_lt, ofNat_lt, e0, toNat_ofNat', cell_beq, wrap_succ (by omega), ih (i + 1) (by omega) (by omega)]
      have e2 : a.getD i dC = a[i] := by simp [hi]
      have e3 : b.getD i dC = b[i]'(by omega) := by simp [show i < b.length by omega]
      have hi2 : i < b.length := by omega
      simp only [hi, hi2, decide_true, Bool.and_self, cond_true, e2, e3]
      have hc : (a.drop i = b.drop i) ↔ (a[i] = b[i] ∧ a.drop (i + 1) = b.drop (i + 1)) := by
        rw [List.drop_eq_getElem_cons hi, List.drop_eq_getElem_cons hi2]
        exact ⟨fun k => by injection k with k1 k2; exact ⟨k1, k2⟩, fun k => by rw [k.1, k.2]⟩
      by_cases he : a[i] = b[i]
      · rw [decide_eq_true he]
        by_cases hd : a.drop (i + 1) = b.drop (i + 1)
        · rw [if_pos hd, if_pos (hc.2 ⟨he, hd⟩)]; rfl
        · rw [if_neg hd, if_neg (fun k => hd (hc.1 k).2)]; rfl
      · rw [decide_eq_false he, if_neg (fun k => he (hc.1 k).1)]; rfl
    · have : i = a.length := by omega
      subst this
      have e : decide (Int.ofNat a.length < Int.ofNat a.length) = false := by simp
      rw [e, List.drop_length, hl, List.drop_length]
      rfl
theorem equal_eq (a b : List Cell) (hb : a.length < 4611686018427387904) : hide slices_Equal_api_Cell_F a b = some (decide (a = b)) := by
  rw [hide_eq]; unfold slices_Equal_api_Cell_F
  by_cases hl : a.length = b.length
  · have : (Int.ofNat a.length != Int.ofNat b.length) = false := by rw [hl]; simp
    rw [this]
    simp only [cond_false, hide_eq]
    have h := equal_loop a b hl hb (slices_Equal_api_Cell_fu4 a b (Int.ofNat a.length) (Int.ofNat 0)) 0 (by omega) (by unfold slices_Equal_api_Cell_fu4; omega)
    rw [show (0 : Int) = Int.ofNat 0 from rfl, h]
    simp only [List.drop_zero, optK_s]
    by_cases he : a = b
    · simp [he, sumK]
    · simp [he, sumK]
  · have : (Int.ofNat a.length != Int.ofNat b.length) = true := by
      rw [bne_iff_ne]; intro k; exact hl (Int.ofNat.inj k)
    rw [this, decide_eq_false (fun k => hl (by rw [k]))]
    rfl
theorem same_eq (R C R' C' : Int) (a b : List Cell) (hb : a.length < 4611686018427387904) : hide grid_Same_F R C a R' C' b = some (decide (R = R' ∧ C = C' ∧ a = b)) := by
  rw [hide_eq]; unfold grid_Same_F
  rw [equal_eq a b hb]
  by_cases h1 : R = R'
  · by_cases h2 : C = C'
    · simp [h1, h2, optK_s]
    · have : decide (R = R' ∧ C = C' ∧ a = b) = false := decide_eq_false (fun k => h2 k.2.1)
      rw [this, show (C == C') = false from beq_false_of_ne h2, show (R == R') = true from by rw [h1]; simp]; rfl
  · have : decide (R = R' ∧ C = C' ∧ a = b) = false := decide_eq_false (fun k => h1 k.1)
    rw [this, show (R == R') = false from beq_false_of_ne h1]; rfl

/-! ### numbers brought into bounds -/
theorem within_eq (n lo hi : Int) (hn : -9223372036854775808 ≤ n) (hn2 : n < 9223372036854775808) (h0 : -1000000 ≤ lo) (h1 : lo ≤ hi) (h2 : hi < 4611686018427387904) :
    ∃ r, hide linguistbook_Within_F n lo hi = some r ∧ lo ≤ r ∧ r ≤ hi := by
  rw [hide_eq]; unfold linguistbook_Within_F
  rw [w64 (n := hi - lo) (by omega) (by omega), w64 (n := hi - lo + 1) (by omega) (by omega)]
  have e0 : (hi - lo + 1 == 0) = false := beq_false_of_ne (by omega)
  have b1 : n.tmod (hi - lo + 1) < hi - lo + 1 := Int.tmod_lt_of_pos _ (by omega)
  have b2 : -(hi - lo + 1) < n.tmod (hi - lo + 1) := by
    have := Int.lt_tmod_of_pos n (show 0 < hi - lo + 1 by omega); omega
  rw [e0]
  generalize n.tmod (hi - lo + 1) = m at *
  simp only [cond_false]
  by_cases hm : m < 0
  · rw [decide_eq_true hm]
    simp only [cond_true]
    rw [w64 (n := m + hi) (by omega) (by omega), w64 (n := m + hi - lo) (by omega) (by omega), w64 (n := m + hi - lo + 1) (by omega) (by omega), w64 (by omega) (by omega)]
    exact ⟨_, rfl, by omega, by omega⟩
  · rw [decide_eq_false hm]
    simp only [cond_false]
    rw [w64 (by omega) (by omega)]
    exact ⟨_, rfl, by omega, by omega⟩
end Go.Proofs.YtpneolkfeihkhaaAbs

/- Plain laws: cells wiped, grids cut to a size, pens out of numbers. -/
namespace Go.Proofs.YtpneolkfeihkhaaAbs
set_option linter.unusedVariables false
set_option linter.unusedSimpArgs false
open Go Go.Proofs
/-! ### places filled -/
def fillR {α : Type} (l : List α) (i : Nat) : Nat → α → List α
  | 0, _ => l
  | n + 1, y => fillR (l.set i y) (i + 1) n y
theorem fillR_length {α : Type} (y : α) : ∀ (n : Nat) (l : List α) (i : Nat), (fillR l i n y).length = l.length
  | 0, l, i => rfl
  | n + 1, l, i => by simp [fillR, fillR_length y n]
theorem fillR_get {α : Type} (y d : α) : ∀ (n : Nat) (l : List α) (i j : Nat), (fillR l i n y).getD j d = if i ≤ j ∧ j < i + n ∧ j < l.length then y else l.getD j d
  | 0, l, i, j => by simp [fillR]; intro h1 h2; omega
  | n + 1, l, i, j => by
    rw [fillR, fillR_get y d n]
    simp only [List.length_set]
    by_cases hj : j = i
    · subst hj
      rw [if_neg (by omega)]
      by_cases hl : j < l.length
      · rw [if_pos (by omega)]; simp [hl]
      · rw [if_neg (by omega)]; simp [List.getD_eq_getElem?_getD, hl]
    · have e : (l.set i y).getD j d = l.getD j d := by
        simp [List.getD_eq_getElem?_getD, List.getElem?_set, show ¬ i = j from fun k => hj k.symm]
      rw [e]
      by_cases h : i + 1 ≤ j ∧ j < i + 1 + n ∧ j < l.length
      · rw [if_pos h, if_pos (by omega)]
      · rw [if_neg h, if_neg (by omega)]
theorem fillR3 {α : Type} {A B : List α} (y : α) : ∀ (n c : Nat) (R : List α), c + n ≤ R.length → fillR (A ++ R ++ B) (A.length + c) n y = A ++ fillR R c n y ++ B
  | 0, c, R, h => rfl
  | n + 1, c, R, h => by
    rw [fillR, set3 c y (by omega), Nat.add_assoc, fillR3 y n (c + 1) (R.set c y) (by simp; omega)]
    rfl
def wipeN (w : Nat) (a b : Int) : Nat × Nat := ((max a 0).toNat, (min b w).toNat - (max a 0).toNat)
def wipe (h w : Nat) (l : List Cell) (r a b : Int) (p : Pen) : List Cell :=
  if 0 ≤ r ∧ r < h then inRow w l r.toNat fun row => mend (fillR row (wipeN w a b).1 (wipeN w a b).2 (32, 0, p)) else l
theorem wipe_loop {r t R C p0 p1 p2 x y : Int} {z : List Cell} {o len : Nat} (E : Int) (hE : (if C < t then C else t) = E) (hlen : E ≤ (len : Int)) (hl2 : len ≤ 4096) : ∀ (n c : Nat) (l : List Cell), E.toNat - c < n → c ≤ 4096 →
    grid_Wipe_L6 n r t o len (Int.ofNat c) R C p0 p1 p2 x y l z = some (r, R, C, x, y, fillR l (o + c) (E.toNat - c) (32, 0, p0, p1, p2), z) := by
  intro n
  induction n with
  | zero => intro c l h1 h2; omega
  | succ n ih =>
    intro c l h1 h2
    rw [grid_Wipe_L6, hE]
    by_cases hc : (Int.ofNat c) < E
    · have hc' : (c : Int) < E := hc
      have e0 : decide ((0 : Int) ≤ Int.ofNat c) = true := by simp
      have e1 : decide (Int.ofNat c < Int.ofNat len) = true := decide_eq_true (by show (c : Int) < (len : Int); omega)
      rw [decide_eq_true hc, e0, e1, blank_eq]
      simp only [cond_true, Bool.and_self, optK_s, toNat_ofNat']
      rw [wrap_succ (by omega), ih (c + 1) _ (by omega) (by omega)]
      have e2 : E.toNat - c = (E.toNat - (c + 1)) + 1 := by omega
      rw [e2, fillR]
      rfl
    · have hc' : ¬ (c : Int) < E := hc
      rw [decide_eq_false hc]
      have : E.toNat - c = 0 := by omega
      rw [this]; rfl
theorem wipe_eq {R C : Int} {h w : Nat} (hR : R = Int.ofNat h) (hC : C = Int.ofNat w) (hh : h ≤ 40) (w1 : 1 ≤ w) (hw : w ≤ 60) {l : List Cell} (hl : l.length = h * w) {r a b : Int} (ha : a ≤ 4000) (p0 p1 p2 : Int) :
    hide grid_Wipe_F R C l r a b p0 p1 p2 = some (R, C, wipe h w l r a b (p0, p1, p2)) := by
  have hsm := small_mul (show h ≤ 64 by omega) (show w ≤ 64 by omega)
  rw [hide_eq]; unfold grid_Wipe_F
  have e : (l.length.ble 274877906944) = true := Nat.ble_eq_true_of_le (by rw [hl]; omega)
  rw [e]
  simp only [cond_true, optK_s, place_eq]
  unfold wipe
  by_cases hp : 0 ≤ r ∧ r < (h : Int)
  · have hp2 : 0 ≤ r ∧ r < R ∧ (0 : Int) ≤ 0 ∧ 0 < C := by rw [hR, hC]; exact ⟨hp.1, hp.2, by omega, by show (0 : Int) < (w : Int); omega⟩
    rw [decide_eq_true hp2, if_pos hp]
    simp only [Bool.not_true, cond_false]
    obtain ⟨rn, rfl⟩ : ∃ n : Nat, r = Int.ofNat n := ⟨r.toNat, by simp; omega⟩
    have hrn : rn < h := by have := hp.2; simpa using this
    have hb := mul_bound (w := w) hrn
    subst hC
    simp only [row_lo rn w (by omega) (by omega), row_hi rn w (by omega) (by omega), getD_some', toNat_ofNat']
    rw [bnds_ok (by omega) (by omega)]
    have e3 : rn * w + w - rn * w = w := by omega
    simp only [cond_true, e3, hide_eq grid_Wipe_L6]
    have ea : (if (0 : Int) > a then 0 else a) = Int.ofNat (max a 0).toNat := by
      show _ = (((max a 0).toNat : Nat) : Int)
      split <;> omega
    have eE : (if Int.ofNat w < b then Int.ofNat w else b) = min b (w : Int) := by
      show (if (w : Int) < b then (w : Int) else b) = _
      split <;> omega
    rw [ea, wipe_loop (min b (w : Int)) eE (by omega) (by omega) _ _ _ (by unfold grid_Wipe_fu6; have : (min b (w : Int)).toNat ≤ w := (by omega); omega) (by omega)]
    simp only [optK_s, row_lo rn w (by omega) (by omega), row_hi rn w (by omega) (by omega), getD_some', toNat_ofNat', fillR_length]
    rw [bnds_ok (by omega) (by omega)]
    simp only [cond_true, e3]
    have hs := split3 l (rn * w) w (by omega)
    have hA : (l.take (rn * w)).length = rn * w := by simp; omega
    have hM : ((l.drop (rn * w)).take w).length = w := by simp; omega
    unfold inRow wipeN
    simp only [toNat_ofNat']
    generalize hAA : l.take (rn * w) = A at *
    generalize hMM : (l.drop (rn * w)).take w = M at *
    generalize hBB : l.drop (rn * w + w) = B at *
    generalize (max a 0).toNat = c at *
    subst hs
    clear hAA hMM hBB e
    rw [← hA]
    by_cases hcw : c ≤ w
    · rw [fillR3 _ _ c M (by omega)]
      generalize hX : fillR M c ((min b (w : Int)).toNat - c) (32, 0, p0, p1, p2) = X
      have hXl : X.length = w := by rw [← hX, fillR_length, hM]
      have e8 : List.take w (List.drop A.length (A ++ X ++ B)) = X := by
        have := @mid3 _ A X B
        rw [hXl] at this; exact this
      rw [e8, mend_eq _ (by omega)]
      simp only [optK_s]
      rw [List.take_of_length_le (by rw [mend_length]; omega), splice3 (by rw [mend_length])]
    · have : (min b (w : Int)).toNat - c = 0 := by omega
      rw [this]
      simp only [fillR]
      have e8 : List.take w (List.drop A.length (A ++ M ++ B)) = M := by
        have := @mid3 _ A M B
        rw [hM] at this; exact this
      rw [e8, mend_eq _ (by omega)]
      simp only [optK_s]
      rw [List.take_of_length_le (by rw [mend_length]; omega), splice3 (by rw [mend_length])]
  · have hp2 : ¬ (0 ≤ r ∧ r < R ∧ (0 : Int) ≤ 0 ∧ 0 < C) := by rw [hR]; exact fun k => hp ⟨k.1, k.2.1⟩
    rw [decide_eq_false hp2, if_neg hp]; rfl
end Go.Proofs.YtpneolkfeihkhaaAbs

/- Plain laws: texts of rows, pens out of numbers. -/
namespace Go.Proofs.YtpneolkfeihkhaaAbs
set_option linter.unusedVariables false
set_option linter.unusedSimpArgs false
open Go Go.Proofs
/-! ### texts -/
def encB (x : Int) : List Int := (bif (decide (IntKind.u32.wrap x ≤ (127 : Int))) then [IntKind.u8.wrap x] else (bif (decide (IntKind.u32.wrap x ≤ (2047 : Int))) then [bitsOp BinOp.or IntKind.u8 (192 : Int) (IntKind.u8.wrap (Int.fdiv x (64 : Int))), bitsOp BinOp.or IntKind.u8 (128 : Int) (bitsOp BinOp.and IntKind.u8 (IntKind.u8.wrap x) (63 : Int))] else (bif (decide (IntKind.u32.wrap x < (55296 : Int))) then [bitsOp BinOp.or IntKind.u8 (224 : Int) (IntKind.u8.wrap (Int.fdiv x (4096 : Int))), bitsOp BinOp.or IntKind.u8 (128 : Int) (bitsOp BinOp.and IntKind.u8 (IntKind.u8.wrap (Int.fdiv x (64 : Int))) (63 : Int)), bitsOp BinOp.or IntKind.u8 (128 : Int) (bitsOp BinOp.and IntKind.u8 (IntKind.u8.wrap x) (63 : Int))] else (bif (decide ((57343 : Int) < IntKind.u32.wrap x)) then (bif (decide (IntKind.u32.wrap x ≤ (65535 : Int))) then [bitsOp BinOp.or IntKind.u8 (224 : Int) (IntKind.u8.wrap (Int.fdiv x (4096 : Int))), bitsOp BinOp.or IntKind.u8 (128 : Int) (bitsOp BinOp.and IntKind.u8 (IntKind.u8.wrap (Int.fdiv x (64 : Int))) (63 : Int)), bitsOp BinOp.or IntKind.u8 (128 : Int) (bitsOp BinOp.and IntKind.u8 (IntKind.u8.wrap x) (63 : Int))] else (bif (decide (IntKind.u32.wrap x > (65535 : Int))) then (bif (decide (IntKind.u32.wrap x ≤ (1114111 : Int))) then [bitsOp BinOp.or IntKind.u8 (240 : Int) (IntKind.u8.wrap (Int.fdiv x (262144 : Int))), bitsOp BinOp.or IntKind.u8 (128 : Int) (bitsOp BinOp.and IntKind.u8 (IntKind.u8.wrap (Int.fdiv x (4096 : Int))) (63 : Int)), bitsOp BinOp.or IntKind.u8 (128 : Int) (bitsOp BinOp.and IntKind.u8 (IntKind.u8.wrap (Int.fdiv x (64 : Int))) (63 : Int)), bitsOp BinOp.or IntKind.u8 (128 : Int) (bitsOp BinOp.and IntKind.u8 (IntKind.u8.wrap x) (63 : Int))] else [(239 : Int), (191 : Int), (189 : Int)]) else [(239 : Int), (191 : Int), (189 : Int)])) else (bif (decide (IntKind.u32.wrap x > (65535 : Int))) then (bif (decide (IntKind.u32.wrap x ≤ (1114111 : Int))) then [bitsOp BinOp.or IntKind.u8 (240 : Int) (IntKind.u8.wrap (Int.fdiv x (262144 : Int))), bitsOp BinOp.or IntKind.u8 (128 : Int) (bitsOp BinOp.and IntKind.u8 (IntKind.u8.wrap (Int.fdiv x (4096 : Int))) (63 : Int)), bitsOp BinOp.or IntKind.u8 (128 : Int) (bitsOp BinOp.and IntKind.u8 (IntKind.u8.wrap (Int.fdiv x (64 : Int))) (63 : Int)), bitsOp BinOp.or IntKind.u8 (128 : Int) (bitsOp BinOp.and IntKind.u8 (IntKind.u8.wrap x) (63 : Int))] else [(239 : Int), (191 : Int), (189 : Int)]) else [(239 : Int), (191 : Int), (189 : Int)])))))
theorem condP {α β : Type} (M : α → β) (c : Bool) {A B : β} {a b : α} (h1 : A = M a) (h2 : B = M b) : (bif c then A else B) = M (bif c then a else b) := by
  cases c
  · exact h2
  · exact h1
theorem text_step (n : Nat) (l : List Cell) (i : Nat) (t : List Int) (hl : l.length < 1000000) (ht : t.length < 1000000) (hi : i < l.length) :
    grid_Text_L5 (n + 1) (.inr (l, Int.ofNat l.length, Int.ofNat i, t)) = (bif (l.getD i dC).2.1 != 2 then grid_Text_L5 n (.inr (l, Int.ofNat l.length, Int.ofNat (i + 1), t ++ encB (l.getD i dC).1)) else grid_Text_L5 n (.inr (l, Int.ofNat l.length, Int.ofNat (i + 1), t))) ∧
    grid_Text_L5 (n + 1) (.inl (l, Int.ofNat l.length, Int.ofNat i, t)) = (bif (l.getD i dC).2.1 != 2 then grid_Text_L5 n (.inr (l, Int.ofNat l.length, Int.ofNat (i + 1), t ++ encB (l.getD i dC).1)) else grid_Text_L5 n (.inl (l, Int.ofNat l.length, Int.ofNat (i + 1), t))) := by
  have e0 : decide ((0 : Int) ≤ Int.ofNat i) = true := by simp
  have b1 : ∀ k, k ≤ 4 → (t.length + k).ble 274877906944 = true := fun k hk => Nat.ble_eq_true_of_le (by omega)
  constructor
  · rw [grid_Text_L5]
    rw [ofNat_lt, e0, wrap_succ (by omega)]
    simp only [hi, decide_true, Bool.and_self, cond_true, Bool.true_and, Bool.and_true, toNat_ofNat', List.length_cons, List.length_nil, Nat.zero_add, Nat.reduceAdd]
    rw [b1 1 (by omega), b1 2 (by omega), b1 3 (by omega), b1 4 (by omega)]
    simp only [cond_true]
    congr 1
    unfold encB
    repeat' (first | rfl | refine condP (fun u => grid_Text_L5 n (.inr (l, Int.ofNat l.length, Int.ofNat (i + 1), t ++ u))) _ ?_ ?_)
  · rw [grid_Text_L5]
    rw [ofNat_lt, e0, wrap_succ (by omega)]
    simp only [hi, decide_true, Bool.and_self, cond_true, Bool.true_and, Bool.and_true, toNat_ofNat', List.length_cons, List.length_nil, Nat.zero_add, Nat.reduceAdd]
    rw [b1 1 (by omega), b1 2 (by omega), b1 3 (by omega), b1 4 (by omega)]
    simp only [cond_true]
    congr 1
    unfold encB
    repeat' (first | rfl | refine condP (fun u => grid_Text_L5 n (.inr (l, Int.ofNat l.length, Int.ofNat (i + 1), t ++ u))) _ ?_ ?_)
def textOf (l : List Cell) : List Int := l.flatMap fun x => if x.2.1 = 2 then [] else encB x.1
theorem textOf_cons (x : Cell) (l : List Cell) : textOf (x :: l) = (if x.2.1 = 2 then [] else encB x.1) ++ textOf l := by simp [textOf]
theorem encB_length (x : Int) : (encB x).length ≤ 4 := by
  unfold encB
  cases decide (IntKind.u32.wrap x ≤ 127) <;> cases decide (IntKind.u32.wrap x ≤ 2047) <;> cases decide (IntKind.u32.wrap x < 55296) <;> cases decide (57343 < IntKind.u32.wrap x) <;> cases decide (IntKind.u32.wrap x ≤ 65535) <;> cases decide (IntKind.u32.wrap x > 65535) <;> cases decide (IntKind.u32.wrap x ≤ 1114111) <;> simp
theorem text_loop (l : List Cell) (hl : l.length ≤ 100) : ∀ (n i : Nat) (t : List Int), i ≤ l.length → t.length ≤ 4 * i → l.length - i < n →
    grid_Text_L5 n (.inr (l, Int.ofNat l.length, Int.ofNat i, t)) = some (t ++ textOf (l.drop i)) ∧ grid_Text_L5 n (.inl (l, Int.ofNat l.length, Int.ofNat i, t)) = some (t ++ textOf (l.drop i)) := by
  intro n
  induction n with
  | zero => intro i t h1 h2 h3; omega
  | succ n ih =>
    intro i t h1 ht h2
    by_cases hi : i < l.length
    · obtain ⟨s1, s2⟩ := text_step n l i t (by omega) (by omega) hi
      have e2 : l.getD i dC = l[i] := by simp [hi]
      rw [s1, s2, e2, List.drop_eq_getElem_cons hi, textOf_cons]
      have hlen := encB_length l[i].1
      by_cases hk : l[i].2.1 = 2
      · rw [show (l[i].2.1 != 2) = false by rw [hk]; rfl]
        simp only [cond_false, hk, if_true, List.nil_append]
        exact ih (i + 1) t (by omega) (by omega) (by omega)
      · rw [show (l[i].2.1 != 2) = true by simpa using hk]
        simp only [cond_true, hk, if_false]
        have := ih (i + 1) (t ++ encB l[i].1) (by omega) (by simp; omega) (by omega)
        rw [List.append_assoc] at this
        exact ⟨this.1, this.1⟩
    · have : i = l.length := by omega
      subst this
      rw [grid_Text_L5, grid_Text_L5]
      have e : decide (Int.ofNat l.length < Int.ofNat l.length) = false := by simp
      rw [e, List.drop_length]
      simp [textOf]
theorem encB_pos (x : Int) : 1 ≤ (encB x).length := by
  unfold encB
  cases decide (IntKind.u32.wrap x ≤ 127) <;> cases decide (IntKind.u32.wrap x ≤ 2047) <;> cases decide (IntKind.u32.wrap x < 55296) <;> cases decide (57343 < IntKind.u32.wrap x) <;> cases decide (IntKind.u32.wrap x ≤ 65535) <;> cases decide (IntKind.u32.wrap x > 65535) <;> cases decide (IntKind.u32.wrap x ≤ 1114111) <;> simp
theorem textOf_length (l : List Cell) : (textOf l).length ≤ 4 * l.length := by
  induction l with
  | nil => simp [textOf]
  | cons x l ih =>
    rw [textOf_cons]
    have := encB_length x.1
    split <;> simp <;> omega
/-- A row's text: of rows that don't begin with a wide rune's other half. -/
theorem text_eq {R C : Int} {h w : Nat} (hR : R = Int.ofNat h) (hC : C = Int.ofNat w) (hh : h ≤ 40) (w1 : 1 ≤ w) (hw : w ≤ 60) {l : List Cell} (hl : l.length = h * w) {r : Nat} (hr : r < h) (hne : textOf ((l.drop (r * w)).take w) ≠ []) :
    hide grid_Text_F R C l (Int.ofNat r) = some (textOf ((l.drop (r * w)).take w)) := by
  rw [hide_eq]; unfold grid_Text_F
  have hp2 : 0 ≤ Int.ofNat r ∧ Int.ofNat r < R ∧ (0 : Int) ≤ 0 ∧ 0 < C := by rw [hR, hC]; exact ⟨by simp, by simp; omega, by omega, by show (0 : Int) < (w : Int); omega⟩
  simp only [place_eq, optK_s]
  rw [decide_eq_true hp2]
  have hb := mul_bound (w := w) hr
  subst hC
  simp only [row_lo r w (by omega) (by omega), row_hi r w (by omega) (by omega), Bool.not_true, cond_false]
  rw [bnds_ok (by omega) (by omega), cutList_ok (by omega)]
  have e3 : r * w + w - r * w = w := by omega
  have hM : ((l.drop (r * w)).take w).length = w := by simp; omega
  rw [e3]
  generalize (l.drop (r * w)).take w = M at *
  simp only [Bool.and_self, cond_true, hide_eq]
  have h := (text_loop M (by omega) (grid_Text_fu5 (.inl (M, Int.ofNat M.length, Int.ofNat 0, []))) 0 [] (by omega) (by simp) (by simp only [grid_Text_fu5]; omega)).2
  rw [show (0 : Int) = Int.ofNat 0 from rfl, h]
  simp only [List.drop_zero, List.nil_append, optK_s]
  have h2 := textOf_length M
  cases ht : textOf M with
  | nil => exact absurd ht hne
  | cons x t =>
    have e1 : neL (x :: t) = true := rfl
    rw [ht] at h2
    have e2 : (x :: t).length.ble 274877906944 = true := Nat.ble_eq_true_of_le (by omega)
    have e4 : Nat.blt 0 (x :: t).length = true := by simp
    have e5 : decide (Int.ofNat (x :: t).length = Int.ofNat (x :: t).length) = true := by simp
    rw [e1, e2, e4]
    simp

/-! ### pens -/
theorem colour_eq (n : Int) (h1 : -9223372036854775808 ≤ n) (h2 : n < 9223372036854775808) : ∃ v, hide linguistkeep_colour_F n = some v ∧ ((-1 ≤ v ∧ v ≤ 255) ∨ (16777216 ≤ v ∧ v < 33554432)) := by
  rw [hide_eq]; unfold linguistkeep_colour_F
  obtain ⟨a, ha, a1, a2⟩ := within_eq n 0 3 h1 h2 (by omega) (by omega) (by omega)
  rw [ha]
  have hd : -9223372036854775808 ≤ n.tdiv 4 ∧ n.tdiv 4 < 9223372036854775808 := by
    have : n.tmod 4 = n - 4 * n.tdiv 4 := Int.tmod_def _ _
    have b1 : n.tmod 4 < 4 := Int.tmod_lt_of_pos _ (by omega)
    have b2 : -4 < n.tmod 4 := by have := Int.lt_tmod_of_pos n (show (0 : Int) < 4 by omega); omega
    omega
  rw [w64 hd.1 hd.2]
  simp only [optK_s]
  cases c0 : a == 0 with
  | true => exact ⟨-1, rfl, .inl (by omega)⟩
  | false =>
    simp only [cond_false]
    cases c1 : a == 1 with
    | true =>
      obtain ⟨b, hb, b1, b2⟩ := within_eq (n.tdiv 4) 0 15 hd.1 hd.2 (by omega) (by omega) (by omega)
      exact ⟨b, by simp only [cond_true, hb, optK_s], .inl (by omega)⟩
    | false =>
      simp only [cond_false]
      cases c2 : a == 2 with
      | true =>
        obtain ⟨b, hb, b1, b2⟩ := within_eq (n.tdiv 4) 0 255 hd.1 hd.2 (by omega) (by omega) (by omega)
        exact ⟨b, by simp only [cond_true, hb, optK_s], .inl (by omega)⟩
      | false =>
        obtain ⟨b, hb, b1, b2⟩ := within_eq (n.tdiv 4) 0 16777215 hd.1 hd.2 (by omega) (by omega) (by omega)
        refine ⟨16777216 + b, by simp only [cond_false, hb, optK_s]; rw [w64 (by omega) (by omega)], .inr (by omega)⟩
def rightColour (v : Int) : Prop := (-1 ≤ v ∧ v ≤ 255) ∨ (16777216 ≤ v ∧ v < 33554432)
def rightPen (p : Pen) : Prop := rightColour p.1 ∧ rightColour p.2.1 ∧ 0 ≤ p.2.2 ∧ p.2.2 ≤ 255
def in64 (n : Int) : Prop := -9223372036854775808 ≤ n ∧ n < 9223372036854775808
theorem pen_eq (a b c : Int) (ha : in64 a) (hb : in64 b) (hc : in64 c) : ∃ p : Pen, hide linguistkeep_Pen_Pen_F a b c = some p ∧ rightPen p := by
  rw [hide_eq]; unfold linguistkeep_Pen_Pen_F
  obtain ⟨x, hx, x1⟩ := colour_eq a ha.1 ha.2
  obtain ⟨y, hy, y1⟩ := colour_eq b hb.1 hb.2
  obtain ⟨z, hz, z1, z2⟩ := within_eq c 0 255 hc.1 hc.2 (by omega) (by omega) (by omega)
  exact ⟨(x, y, z), by simp only [hx, hy, hz, optK_s], x1, y1, z1, z2⟩
end Go.Proofs.YtpneolkfeihkhaaAbs

/- Plain laws: grids cut to a size. -/
namespace Go.Proofs.YtpneolkfeihkhaaAbs
set_option linter.unusedVariables false
set_option linter.unusedSimpArgs false
open Go Go.Proofs
def rowOf (w : Nat) (l : List Cell) (r : Nat) : List Cell := (l.drop (r * w)).take w
theorem rowOf_length {h w : Nat} {l : List Cell} (hl : l.length = h * w) {r : Nat} (hr : r < h) : (rowOf w l r).length = w := by
  have := mul_bound (w := w) hr
  unfold rowOf; simp; omega
end Go.Proofs.YtpneolkfeihkhaaAbs

/- Plain laws: right rows. -/
namespace Go.Proofs.YtpneolkfeihkhaaAbs
set_option linter.unusedVariables false
set_option linter.unusedSimpArgs false
open Go Go.Proofs
def kd (l : List Cell) (i : Nat) : Int := (l.getD i dC).2.1
theorem half_iff (l : List Cell) (i : Nat) : halfB l i = true ↔ (kd l i = 1 ∧ (i + 1 = l.length ∨ kd l (i + 1) ≠ 2)) ∨ (kd l i = 2 ∧ (i = 0 ∨ kd l (i - 1) ≠ 1)) := by
  unfold halfB
  show (bif kd l i == 1 then (decide (i + 1 = l.length) || (kd l (i + 1) != 2)) else bif kd l i == 2 then (decide (i = 0) || (kd l (i - 1) != 1)) else false) = true ↔ _
  by_cases h1 : kd l i = 1
  · simp [h1]
  · by_cases h2 : kd l i = 2 <;> simp [h1, h2]
def rightR (l : List Cell) : Prop := ∀ i, i < l.length → halfB l i = false
theorem mend_right {l : List Cell} (h : rightR l) : mend l = l := by
  apply List.ext_getElem (mend_length l)
  intro i h1 h2
  rw [mend_get l i h2]
  unfold mendAt
  rw [h i h2]
  simp [h2]
theorem kd_mend (l : List Cell) (i : Nat) (h : i < l.length) : kd (mend l) i = if halfB l i = true then 0 else kd l i := by
  unfold kd
  rw [mend_getD l i h]
  unfold mendAt
  cases hh : halfB l i
  · simp
  · simp [blankOf]
theorem right_mend (l : List Cell) : rightR (mend l) := by
  intro i hi
  rw [mend_length] at hi
  cases hb : halfB (mend l) i
  · rfl
  · rw [half_iff, mend_length] at hb
    exfalso
    have k0 := kd_mend l i hi
    have n0 : halfB l i = true → False := by
      intro h
      rw [if_pos h] at k0
      rcases hb with ⟨h1, _⟩ | ⟨h1, _⟩ <;> omega
    rw [if_neg n0] at k0
    rw [half_iff] at n0
    rcases hb with ⟨h1, h2⟩ | ⟨h1, h2⟩
    · rw [k0] at h1
      have a1 : i + 1 ≠ l.length := fun h => n0 (Or.inl ⟨h1, Or.inl h⟩)
      have a2 : kd l (i + 1) = 2 := by
        apply Decidable.byContradiction
        intro h
        exact n0 (Or.inl ⟨h1, Or.inr h⟩)
      rcases h2 with h2 | h2
      · exact a1 h2
      · apply h2
        rw [kd_mend l (i + 1) (by omega), if_neg, a2]
        rw [half_iff]
        rintro (⟨h3, _⟩ | ⟨_, h3 | h3⟩)
        · omega
        · omega
        · exact h3 (by simpa using h1)
    · rw [k0] at h1
      have a1 : i ≠ 0 := fun h => n0 (Or.inr ⟨h1, Or.inl h⟩)
      have a2 : kd l (i - 1) = 1 := by
        apply Decidable.byContradiction
        intro h
        exact n0 (Or.inr ⟨h1, Or.inr h⟩)
      rcases h2 with h2 | h2
      · exact a1 h2
      · apply h2
        rw [kd_mend l (i - 1) (by omega), if_neg, a2]
        rw [half_iff]
        have e : i - 1 + 1 = i := by omega
        rw [e]
        rintro (⟨_, h3 | h3⟩ | ⟨h3, _⟩)
        · omega
        · exact h3 h1
        · omega
theorem right_singles {l : List Cell} (h : ∀ x ∈ l, x.2.1 = 0) : rightR l := by
  intro i hi
  cases hb : halfB l i
  · rfl
  · rw [half_iff] at hb
    have : kd l i = 0 := by unfold kd; rw [List.getD_eq_getElem?_getD, List.getElem?_eq_getElem hi]; exact h _ (List.getElem_mem hi)
    omega
end Go.Proofs.YtpneolkfeihkhaaAbs

/- Plain laws: the document's width of a rune. -/
namespace Go.Proofs.YtpneolkfeihkhaaAbs
set_option linter.unusedVariables false
set_option linter.unusedSimpArgs false
open Go Go.Proofs
end Go.Proofs.YtpneolkfeihkhaaAbs

/- Plain laws: what put leaves as it was. -/
namespace Go.Proofs.YtpneolkfeihkhaaAbs
set_option linter.unusedVariables false
set_option linter.unusedSimpArgs false
open Go Go.Proofs
end Go.Proofs.YtpneolkfeihkhaaAbs

/- Plain laws: right grids, row by row. -/
namespace Go.Proofs.YtpneolkfeihkhaaAbs
set_option linter.unusedVariables false
set_option linter.unusedSimpArgs false
open Go Go.Proofs
theorem rowOf_getD {w : Nat} {l : List Cell} {r i : Nat} (hi : i < w) : (rowOf w l r).getD i dC = l.getD (r * w + i) dC := by
  unfold rowOf
  simp [List.getD_eq_getElem?_getD, List.getElem?_take_of_lt hi, List.getElem?_drop]
section
variable {h w : Nat} {l : List Cell} {r : Nat} {f : List Cell → List Cell}
theorem inRow_length (hl : l.length = h * w) (hr : r < h) (hf : (f (rowOf w l r)).length = w) : (inRow w l r f).length = h * w := by
  have := mul_bound (w := w) hr
  unfold inRow
  have hf' : (f ((l.drop (r * w)).take w)).length = w := hf
  simp only [List.length_append, List.length_take, List.length_drop, hf']
  omega
theorem inRow_same (hl : l.length = h * w) (hr : r < h) (hf : (f (rowOf w l r)).length = w) : rowOf w (inRow w l r f) r = f (rowOf w l r) := by
  have hb := mul_bound (w := w) hr
  have hA : (l.take (r * w)).length = r * w := by simp; omega
  show ((l.take (r * w) ++ f (rowOf w l r) ++ l.drop (r * w + w)).drop (r * w)).take w = _
  rw [List.append_assoc, List.drop_append_of_le_length (by omega), List.drop_of_length_le (by omega), List.nil_append, List.take_append_of_le_length (by omega), List.take_of_length_le (by omega)]
theorem inRow_other (hl : l.length = h * w) (hr : r < h) (hf : (f (rowOf w l r)).length = w) {r' : Nat} (hr' : r' < h) (hne : r' ≠ r) : rowOf w (inRow w l r f) r' = rowOf w l r' := by
  have hb := mul_bound (w := w) hr
  have hb' := mul_bound (w := w) hr'
  have hA : (l.take (r * w)).length = r * w := by simp; omega
  show ((l.take (r * w) ++ f (rowOf w l r) ++ l.drop (r * w + w)).drop (r' * w)).take w = (l.drop (r' * w)).take w
  by_cases hlt : r' < r
  · have hb2 := mul_bound (w := w) hlt
    rw [List.append_assoc, List.drop_append_of_le_length (by omega), List.take_append_of_le_length (by rw [List.length_drop]; omega), List.drop_take, List.take_take]
    congr 1
    omega
  · have hb2 := mul_bound (w := w) (show r < r' by omega)
    have hX : (l.take (r * w) ++ f (rowOf w l r)).length = r * w + w := by rw [List.length_append, hA, hf]
    rw [List.drop_append, List.drop_of_length_le (by omega), List.nil_append, List.drop_drop, hX]
    congr 2
    omega
end
def RG (h w : Nat) (l : List Cell) : Prop := l.length = h * w ∧ ∀ r, r < h → rightR (rowOf w l r)
theorem RG.inRow {h w : Nat} {l : List Cell} {r : Nat} {f : List Cell → List Cell} (k : RG h w l) (hr : r < h) (hf : (f (rowOf w l r)).length = w) (hR : rightR (f (rowOf w l r))) : RG h w (inRow w l r f) := by
  refine ⟨inRow_length k.1 hr hf, fun r' hr' => ?_⟩
  by_cases e : r' = r
  · subst e; rw [inRow_same k.1 hr hf]; exact hR
  · rw [inRow_other k.1 hr hf hr' e]; exact k.2 r' hr'
theorem RG.wipe {h w : Nat} {l : List Cell} (k : RG h w l) (r a b : Int) (p : Pen) : RG h w (wipe h w l r a b p) := by
  unfold Go.Proofs.YtpneolkfeihkhaaAbs.wipe
  split
  · rename_i hn
    have hr : r.toNat < h := by omega
    exact k.inRow hr (by rw [mend_length, fillR_length, rowOf_length k.1 hr]) (right_mend _)
  · exact k
/-- Rows tell a grid. -/
theorem rows_ext {h w : Nat} {l m : List Cell} (hl : l.length = h * w) (hm : m.length = h * w) (e : ∀ r, r < h → rowOf w l r = rowOf w m r) : l = m := by
  apply List.ext_getElem (by omega)
  intro i h1 h2
  have hw : 0 < w := by
    rcases Nat.eq_zero_or_pos w with h0 | h0
    · subst h0; simp at hl; omega
    · exact h0
  have hr : i / w < h := by rw [Nat.div_lt_iff_lt_mul hw]; omega
  have hi : i % w < w := Nat.mod_lt _ hw
  have hd : i / w * w + i % w = i := by rw [Nat.mul_comm]; exact Nat.div_add_mod i w
  have a := rowOf_getD (l := l) (r := i / w) hi
  have b := rowOf_getD (l := m) (r := i / w) hi
  rw [e _ hr, b, hd] at a
  simpa [List.getD_eq_getElem?_getD, h1, h2] using a.symm
end Go.Proofs.YtpneolkfeihkhaaAbs

/- Plain laws: wiped, resized there and back. -/
namespace Go.Proofs.YtpneolkfeihkhaaAbs
set_option linter.unusedVariables false
set_option linter.unusedSimpArgs false
open Go Go.Proofs
theorem fill_all {w : Nat} {row : List Cell} (hl : row.length = w) (p : Pen) : mend (fillR row (wipeN w 0 w).1 (wipeN w 0 w).2 (32, 0, p)) = List.replicate w (32, 0, p) := by
  have e1 : (wipeN w 0 w).1 = 0 := by unfold wipeN; simp
  have e2 : (wipeN w 0 w).2 = w := by unfold wipeN; simp
  rw [e1, e2]
  have e : fillR row 0 w ((32, 0, p) : Cell) = List.replicate w (32, 0, p) := by
    apply List.ext_getElem (by rw [fillR_length, hl]; simp)
    intro i h1 h2
    have := fillR_get ((32, 0, p) : Cell) dC w row 0 i
    rw [fillR_length] at h1
    rw [if_pos (by omega)] at this
    simpa [List.getD_eq_getElem?_getD, fillR_length, h1] using this
  rw [e]
  exact mend_right (right_singles fun x hx => by rw [(List.mem_replicate.1 hx).2])
theorem rep_row {w h r : Nat} (hr : r < h) (b : Cell) : rowOf w (List.replicate (h * w) b) r = List.replicate w b := by
  have := mul_bound (w := w) hr
  unfold rowOf
  rw [List.drop_replicate, List.take_replicate]
  congr 1
  omega
end Go.Proofs.YtpneolkfeihkhaaAbs

/- Plain laws: rows whose cells may be. -/
namespace Go.Proofs.YtpneolkfeihkhaaAbs
set_option linter.unusedVariables false
set_option linter.unusedSimpArgs false
open Go Go.Proofs
theorem getD_set {α : Type} (l : List α) (i j : Nat) (y d : α) : (l.set i y).getD j d = if i = j ∧ j < l.length then y else l.getD j d := by
  by_cases h : i = j
  · subst h
    by_cases hl : i < l.length
    · simp [hl]
    · simp [List.getD_eq_getElem?_getD, hl]
  · rw [if_neg (fun k => h k.1)]
    simp [List.getD_eq_getElem?_getD, List.getElem?_set_ne h]
theorem getD_append_l {α : Type} {a b : List α} {i : Nat} (d : α) (h : i < a.length) : (a ++ b).getD i d = a.getD i d := by
  simp [List.getD_eq_getElem?_getD, List.getElem?_append_left h]
theorem getD_append_r {α : Type} {a b : List α} {i : Nat} (d : α) (h : a.length ≤ i) : (a ++ b).getD i d = b.getD (i - a.length) d := by
  simp [List.getD_eq_getElem?_getD, List.getElem?_append_right h]
theorem getD_take {α : Type} {a : List α} {i n : Nat} (d : α) (h : i < n) : (a.take n).getD i d = a.getD i d := by
  simp [List.getD_eq_getElem?_getD, List.getElem?_take_of_lt h]
theorem getD_drop {α : Type} {a : List α} {i n : Nat} (d : α) : (a.drop n).getD i d = a.getD (n + i) d := by
  simp [List.getD_eq_getElem?_getD, List.getElem?_drop]
theorem getD_rep {α : Type} {i n : Nat} (y d : α) (h : i < n) : (List.replicate n y).getD i d = y := by
  simp [List.getD_eq_getElem?_getD, List.getElem?_replicate, h]
def cellS (x : Cell) : Prop := rightPen x.2.2 ∧ ((x.2.1 = 0 ∧ widthP x.1 = 1) ∨ (x.2.1 = 1 ∧ widthP x.1 = 2) ∨ (x.2.1 = 2 ∧ x.1 = 0))
def lk (x y : Cell) : Prop := x.2.1 = 1 → y.2.1 = 2 → y.2.2 = x.2.2
def Semi (l : List Cell) : Prop := ∀ i, i < l.length → cellS (l.getD i dC) ∧ (i + 1 < l.length → lk (l.getD i dC) (l.getD (i + 1) dC))
theorem cellS_single {x : Int} {p : Pen} (hw : widthP x = 1) (hp : rightPen p) : cellS (x, 0, p) := ⟨hp, .inl ⟨rfl, hw⟩⟩
theorem width_blank : widthP 32 = 1 := by decide
theorem cellS_blank {p : Pen} (hp : rightPen p) : cellS (32, 0, p) := cellS_single width_blank hp
/-- Single cells may stand in place of others. -/
theorem semi_mix {l m : List Cell} (hl : m.length = l.length) (h : Semi l) (hm : ∀ i, i < m.length → m.getD i dC = l.getD i dC ∨ (cellS (m.getD i dC) ∧ (m.getD i dC).2.1 = 0)) : Semi m := by
  intro i hi
  have a := hm i hi
  refine ⟨?_, fun hi1 => ?_⟩
  · rcases a with a | a
    · rw [a]; exact (h i (by omega)).1
    · exact a.1
  · have b := hm (i + 1) hi1
    intro k1 k2
    rcases a with a | a
    · rcases b with b | b
      · rw [a] at k1 ⊢; rw [b] at k2 ⊢
        exact (h i (by omega)).2 (by omega) k1 k2
      · rw [b.2] at k2; cases k2
    · rw [a.2] at k1; cases k1
theorem semi_mend {l : List Cell} (h : Semi l) : Semi (mend l) := by
  refine semi_mix (mend_length l) h fun i hi => ?_
  rw [mend_length] at hi
  rw [mend_getD l i hi]
  unfold mendAt
  cases halfB l i
  · exact .inl rfl
  · exact .inr ⟨cellS_blank (h i hi).1.1, rfl⟩
theorem semi_fill {l : List Cell} (h : Semi l) (i n : Nat) {p : Pen} (hp : rightPen p) : Semi (fillR l i n (32, 0, p)) := by
  refine semi_mix (by rw [fillR_length]) h fun j hj => ?_
  rw [fillR_get]
  split
  · exact .inr ⟨cellS_blank hp, rfl⟩
  · exact .inl rfl
theorem semi_take {l : List Cell} (h : Semi l) (n : Nat) : Semi (l.take n) := by
  intro i hi
  rw [List.length_take] at hi
  rw [getD_take _ (by omega)]
  refine ⟨(h i (by omega)).1, fun hi1 => ?_⟩
  rw [List.length_take] at hi1
  rw [getD_take _ (by omega)]
  exact (h i (by omega)).2 (by omega)
theorem semi_drop {l : List Cell} (h : Semi l) (n : Nat) : Semi (l.drop n) := by
  intro i hi
  rw [List.length_drop] at hi
  rw [getD_drop]
  refine ⟨(h (n + i) (by omega)).1, fun hi1 => ?_⟩
  rw [List.length_drop] at hi1
  rw [getD_drop]
  exact (h (n + i) (by omega)).2 (by omega)
theorem semi_append {a b : List Cell} (ha : Semi a) (hb : Semi b) (hj : 1 ≤ a.length → 1 ≤ b.length → lk (a.getD (a.length - 1) dC) (b.getD 0 dC)) : Semi (a ++ b) := by
  intro i hi
  rw [List.length_append] at hi
  by_cases h1 : i < a.length
  · rw [getD_append_l _ h1]
    refine ⟨(ha i h1).1, fun hi1 => ?_⟩
    rw [List.length_append] at hi1
    by_cases h2 : i + 1 < a.length
    · rw [getD_append_l _ h2]; exact (ha i h1).2 h2
    · have e : a.length = i + 1 := by omega
      rw [getD_append_r _ (by omega), e, Nat.sub_self]
      have := hj (by omega) (by omega)
      rw [e] at this
      exact this
  · rw [getD_append_r _ (by omega)]
    refine ⟨(hb _ (by omega)).1, fun hi1 => ?_⟩
    rw [List.length_append] at hi1
    rw [getD_append_r _ (by omega), show i + 1 - a.length = i - a.length + 1 by omega]
    exact (hb _ (by omega)).2 (by omega)
theorem semi_rep (n : Nat) {p : Pen} (hp : rightPen p) : Semi (List.replicate n ((32, 0, p) : Cell)) := by
  intro i hi
  rw [List.length_replicate] at hi
  rw [getD_rep _ _ hi]
  exact ⟨cellS_blank hp, fun _ k => by cases k⟩
theorem semi_append_rep {a : List Cell} (ha : Semi a) (n : Nat) {p : Pen} (hp : rightPen p) : Semi (a ++ List.replicate n ((32, 0, p) : Cell)) := by
  refine semi_append ha (semi_rep n hp) fun _ h2 _ k => ?_
  rw [List.length_replicate] at h2
  rw [getD_rep _ _ h2] at k; cases k
/-! ### grids that may be -/
def GG (h w : Nat) (l : List Cell) : Prop := RG h w l ∧ ∀ r, r < h → Semi (rowOf w l r)
theorem GG.inRow {h w : Nat} {l : List Cell} {r : Nat} {f : List Cell → List Cell} (k : GG h w l) (hr : r < h) (hf : (f (rowOf w l r)).length = w) (hR : rightR (f (rowOf w l r))) (hS : Semi (f (rowOf w l r))) : GG h w (inRow w l r f) := by
  refine ⟨k.1.inRow hr hf hR, fun r' hr' => ?_⟩
  by_cases e : r' = r
  · subst e; rw [inRow_same k.1.1 hr hf]; exact hS
  · rw [inRow_other k.1.1 hr hf hr' e]; exact k.2 r' hr'
theorem GG.wipe {h w : Nat} {l : List Cell} (k : GG h w l) (r a b : Int) {p : Pen} (hp : rightPen p) : GG h w (wipe h w l r a b p) := by
  unfold Go.Proofs.YtpneolkfeihkhaaAbs.wipe
  split
  · rename_i hn
    have hr : r.toNat < h := by omega
    exact k.inRow hr (by rw [mend_length, fillR_length, rowOf_length k.1.1 hr]) (right_mend _) (semi_mend (semi_fill (k.2 _ hr) _ _ hp))
  · exact k
end Go.Proofs.YtpneolkfeihkhaaAbs

/- Plain laws: grids held right; grids made of numbers. -/
namespace Go.Proofs.YtpneolkfeihkhaaAbs
set_option linter.unusedVariables false
set_option linter.unusedSimpArgs false
open Go Go.Proofs
theorem color_eq {v : Int} (h : rightColour v) : hide cell_color_F v = some true := by
  rw [hide_eq]; unfold cell_color_F
  unfold rightColour at h
  by_cases h1 : v ≥ -1
  · by_cases h2 : v ≤ 255
    · simp [h1, h2]
    · have a1 : v ≥ 16777216 := by omega
      have a2 : v < 33554432 := by omega
      simp [h1, h2, a1, a2]
  · omega
theorem cellRight_eq {a b c : Int} (h : rightPen (a, b, c)) : hide cell_Right_F a b c = some true := by
  rw [hide_eq]; unfold cell_Right_F
  obtain ⟨h1, h2, h3, h4⟩ := h
  have h3' : (0 : Int) ≤ c := h3
  have h4' : c ≤ 255 := h4
  rw [color_eq h1, color_eq h2]
  simp [optK_s, h3', h4']
theorem may_eq {l : List Cell} (hl : l.length < 4611686018427387904) (hS : Semi l) (hR : rightR l) {i : Nat} (hi : i < l.length) : hide grid_may_F l (Int.ofNat i) = some true := by
  rw [hide_eq]; unfold grid_may_F
  have e0 : decide ((0 : Int) ≤ Int.ofNat i) = true := by simp
  rw [ofNat_lt, e0, toNat_ofNat', width_eq, half_eq l i hl hi, hR i hi]
  obtain ⟨⟨p1, p2⟩, p3⟩ := hS i hi
  have hh := hR i hi
  rw [show ((0 : Int), (0 : Int), (0 : Int), (0 : Int), (0 : Int)) = dC from rfl]
  have hn : kd l i = 1 → i + 1 < l.length ∧ kd l (i + 1) = 2 := by
    intro k
    have : ¬ halfB l i = true := by rw [hh]; simp
    rw [half_iff] at this
    refine ⟨?_, ?_⟩
    · rcases Nat.lt_or_ge (i + 1) l.length with h | h
      · exact h
      · exact absurd (.inl ⟨k, .inl (by omega)⟩) this
    · exact Decidable.byContradiction fun h => this (.inl ⟨k, .inr h⟩)
  unfold kd at hn
  have hp : hide cell_Right_F (l.getD i dC).2.2.1 (l.getD i dC).2.2.2.1 (l.getD i dC).2.2.2.2 = some true := cellRight_eq p1
  rw [hp]
  simp only [hi, decide_true, cond_true, Bool.and_self, optK_s]
  rcases p2 with ⟨k1, k2⟩ | ⟨k1, k2⟩ | ⟨k1, k2⟩
  · rw [k1, k2]; rfl
  · obtain ⟨n1, n2⟩ := hn k1
    have e1 := p3 n1 k1 n2
    have e2 : decide ((0 : Int) ≤ Int.ofNat (i + 1)) = true := decide_eq_true (by show (0 : Int) ≤ ((i + 1 : Nat) : Int); omega)
    rw [k1, k2, wrap_succ (by omega), ofNat_lt, e2, toNat_ofNat', e1]
    simp [n1]
  · rw [k1, k2]; rfl
theorem wrap_nat {q : Nat} (h : q < 4611686018427387904) : IntKind.i64.wrap (Int.ofNat q) = Int.ofNat q := w64 (by show _ ≤ (q : Int); omega) (by show (q : Int) < _; omega)
theorem right_loop {h w : Nat} {l : List Cell} (k : GG h w l) (hh : h ≤ 40) (w1 : 1 ≤ w) (hw : w ≤ 60) : ∀ (n i : Nat), i ≤ h * w → h * w - i < n →
    grid_Right_L4 n (Int.ofNat (h * w)) (Int.ofNat i) (Int.ofNat h) (Int.ofNat w) l = some (.inr ()) := by
  have hsm := small_mul (show h ≤ 64 by omega) (show w ≤ 64 by omega)
  intro n
  induction n with
  | zero => intro i h1 h2; omega
  | succ n ih =>
    intro i h1 h2
    rw [grid_Right_L4, ofNat_lt]
    by_cases hi : i < h * w
    · have hr : i / w < h := by rw [Nat.div_lt_iff_lt_mul (by omega)]; omega
      have hc : i % w < w := Nat.mod_lt _ (by omega)
      have e1 : (Int.ofNat i).tdiv (Int.ofNat w) = Int.ofNat (i / w) := rfl
      have e2 : (Int.ofNat i).tmod (Int.ofNat w) = Int.ofNat (i % w) := rfl
      have e3 : (Int.ofNat w == 0) = false := beq_false_of_ne (by show (w : Int) ≠ 0; omega)
      have e4 : IntKind.i64.wrap (Int.ofNat (i / w)) = Int.ofNat (i / w) := wrap_nat (by omega)
      have hb := mul_bound (w := w) hr
      have hl := k.1.1
      have hM := rowOf_length hl hr
      rw [e1, e2, e3, e4, row_lo (i / w) w (by omega) (by omega), row_hi (i / w) w (by omega) (by omega), bnds_ok (by omega) (by omega), cutList_ok (by omega)]
      have e5 : i / w * w + w - i / w * w = w := by omega
      rw [e5, show (l.drop (i / w * w)).take w = rowOf w l (i / w) from rfl, may_eq (by omega) (k.2 _ hr) (k.1.2 _ hr) (by omega), wrap_succ (by omega), ih (i + 1) (by omega) (by omega)]
      simp [hi, optK_s]
    · rw [decide_eq_false hi]; rfl
theorem gridRight_eq {R C : Int} {h w : Nat} (hR : R = Int.ofNat h) (hC : C = Int.ofNat w) (h1 : 1 ≤ h) (hh : h ≤ 40) (w1 : 1 ≤ w) (hw : w ≤ 60) {l : List Cell} (k : GG h w l) : hide grid_Right_F R C l = some true := by
  subst hR hC
  rw [hide_eq]; unfold grid_Right_F
  have e1 : decide (Int.ofNat h < 1) = false := decide_eq_false (by show ¬ (h : Int) < 1; omega)
  have e2 : decide (Int.ofNat h > 40) = false := decide_eq_false (by show ¬ (h : Int) > 40; omega)
  have e3 : decide (Int.ofNat w < 1) = false := decide_eq_false (by show ¬ (w : Int) < 1; omega)
  have e4 : decide (Int.ofNat w > 60) = false := decide_eq_false (by show ¬ (w : Int) > 60; omega)
  have hl := right_loop k hh w1 hw (grid_Right_fu4 (Int.ofNat (h * w)) (Int.ofNat 0) (Int.ofNat h) (Int.ofNat w) l) 0 (by omega) (by unfold grid_Right_fu4; have : (Int.ofNat (h * w)).natAbs = h * w := rfl; omega)
  have z : Int.ofNat 0 = 0 := rfl
  rw [z] at hl
  rw [e1, e2, e3, e4, k.1.1, row_lo h w (by omega) (by omega), hide_eq grid_Right_L4, hl]
  simp [optK_s, sumK]

/-! ### books -/
/-! ### grids out of numbers -/
def flatG (w : Nat) (l : List Cell) : Prop := ∀ j, j < l.length → cellS (l.getD j dC) ∧ (kd l j = 1 → j + 1 < l.length ∧ (j + 1) % w ≠ 0 ∧ kd l (j + 1) = 2 ∧ (l.getD (j + 1) dC).2.2 = (l.getD j dC).2.2) ∧ (kd l j = 2 → j % w ≠ 0 ∧ kd l (j - 1) = 1)
theorem flat_nil (w : Nat) : flatG w [] := fun j h => by simp at h
theorem flat_one {w : Nat} {l : List Cell} (h : flatG w l) {x : Int} {p : Pen} (hw : widthP x = 1) (hp : rightPen p) : flatG w (l ++ [(x, 0, p)]) := by
  intro j hj
  rw [List.length_append, List.length_singleton] at hj
  unfold kd
  by_cases h1 : j < l.length
  · rw [getD_append_l _ h1]
    obtain ⟨a, b, c⟩ := h j h1
    refine ⟨a, fun k => ?_, fun k => ?_⟩
    · obtain ⟨b1, b2, b3, b4⟩ := b k
      rw [getD_append_l _ b1]
      exact ⟨by simp; omega, b2, b3, b4⟩
    · rw [getD_append_l _ (by omega)]; exact c k
  · have e : j = l.length := by omega
    subst e
    rw [getD_append_r _ (by omega), Nat.sub_self]
    exact ⟨cellS_single hw hp, fun k => (by cases k), fun k => (by cases k)⟩
theorem flat_two {w : Nat} {l : List Cell} (h : flatG w l) {x : Int} {p : Pen} (hw : widthP x = 2) (hp : rightPen p) (hm : (l.length + 1) % w ≠ 0) : flatG w (l ++ [(x, 1, p), (0, 2, p)]) := by
  intro j hj
  rw [List.length_append, List.length_cons, List.length_singleton] at hj
  unfold kd
  have hlen : (l ++ [((x, 1, p) : Cell), (0, 2, p)]).length = l.length + 2 := by simp
  rw [hlen]
  have g0 : (l ++ [((x, 1, p) : Cell), (0, 2, p)]).getD l.length dC = (x, 1, p) := by rw [getD_append_r _ (by omega), Nat.sub_self]; rfl
  have g1 : (l ++ [((x, 1, p) : Cell), (0, 2, p)]).getD (l.length + 1) dC = (0, 2, p) := by rw [getD_append_r _ (by omega), Nat.add_sub_cancel_left]; rfl
  by_cases h1 : j < l.length
  · rw [getD_append_l _ h1]
    obtain ⟨a, b, c⟩ := h j h1
    refine ⟨a, fun k => ?_, fun k => ?_⟩
    · obtain ⟨b1, b2, b3, b4⟩ := b k
      rw [getD_append_l _ b1]
      exact ⟨by omega, b2, b3, b4⟩
    · rw [getD_append_l _ (by omega)]; exact c k
  · by_cases h2 : j = l.length
    · subst h2
      rw [g0, g1]
      exact ⟨⟨hp, .inr (.inl ⟨rfl, hw⟩)⟩, fun _ => ⟨by omega, hm, rfl, rfl⟩, fun k => by cases k⟩
    · have h3 : j = l.length + 1 := by omega
      subst h3
      rw [g1]
      refine ⟨⟨hp, .inr (.inr ⟨rfl, rfl⟩)⟩, fun k => (by cases k), fun _ => ⟨hm, ?_⟩⟩
      rw [Nat.add_sub_cancel, g0]
theorem flat_GG {h w : Nat} {l : List Cell} (k : flatG w l) (hl : l.length = h * w) : GG h w l := by
  have key : ∀ r, r < h → ∀ i, i < w → r * w + i < l.length := fun r hr i hi => by
    have := mul_bound (w := w) hr; omega
  refine ⟨⟨hl, fun r hr i hi => ?_⟩, fun r hr i hi => ?_⟩
  · rw [rowOf_length hl hr] at hi
    cases hb : halfB (rowOf w l r) i
    · rfl
    · exfalso
      rw [half_iff, rowOf_length hl hr] at hb
      obtain ⟨_, b, c⟩ := k (r * w + i) (key r hr i hi)
      unfold kd at hb b c
      rw [rowOf_getD hi] at hb
      rcases hb with ⟨h1, h2⟩ | ⟨h1, h2⟩
      · obtain ⟨b1, b2, b3, _⟩ := b h1
        rcases h2 with h2 | h2
        · apply b2
          rw [Nat.add_assoc, h2, Nat.mul_comm, ← Nat.mul_succ, Nat.mul_mod_right]
        · by_cases h3 : i + 1 < w
          · rw [rowOf_getD h3] at h2; exact h2 b3
          · apply b2
            have : i + 1 = w := by omega
            rw [Nat.add_assoc, this, Nat.mul_comm, ← Nat.mul_succ, Nat.mul_mod_right]
      · obtain ⟨c1, c2⟩ := c h1
        rcases h2 with h2 | h2
        · apply c1; rw [h2, Nat.add_zero, Nat.mul_mod_left]
        · have h0 : i ≠ 0 := fun h0 => by apply c1; rw [h0, Nat.add_zero, Nat.mul_mod_left]
          rw [rowOf_getD (by omega)] at h2
          apply h2
          rw [show r * w + (i - 1) = r * w + i - 1 by omega]; exact c2
  · rw [rowOf_length hl hr] at hi
    rw [rowOf_length hl hr, rowOf_getD hi]
    obtain ⟨a, b, _⟩ := k (r * w + i) (key r hr i hi)
    refine ⟨a, fun h1 h2 _ => ?_⟩
    rw [rowOf_getD h1]
    exact (b h2).2.2.2
theorem pick_eq (l : List Int) (hl : ∀ y, y ∈ l → in64 y) (i : Nat) : ∃ v, hide linguistkeep_pick_F l (Int.ofNat i) = some v ∧ in64 v := by
  rw [hide_eq]; unfold linguistkeep_pick_F
  cases hn : l with
  | nil => exact ⟨0, rfl, by unfold in64; omega⟩
  | cons x t =>
    rw [← hn]
    have hpos : 0 < l.length := by rw [hn]; simp
    have e1 : (Int.ofNat l.length == 0) = false := beq_false_of_ne (by show (l.length : Int) ≠ 0; omega)
    have e2 : (Int.ofNat i).tmod (Int.ofNat l.length) = Int.ofNat (i % l.length) := rfl
    have hm := Nat.mod_lt i hpos
    have e3 : decide ((0 : Int) ≤ Int.ofNat (i % l.length)) = true := decide_eq_true (by show (0 : Int) ≤ ((i % l.length : Nat) : Int); omega)
    rw [e1, e2, ofNat_lt, e3, decide_eq_true hm, toNat_ofNat']
    refine ⟨_, rfl, hl _ ?_⟩
    rw [List.getD_eq_getElem?_getD, List.getElem?_eq_getElem hm]
    exact List.getElem_mem hm
theorem wide_20k {n : Int} (h0 : 0 ≤ n) (h1 : n ≤ 8) : widthP (19968 + n) = 2 := by
  unfold widthP
  have a : narrowP (19968 + n) = false := by
    unfold narrowP
    simp only [Bool.or_eq_false_iff, decide_eq_false_iff_not]
    omega
  have b : wideP (19968 + n) = true := by
    unfold wideP
    have : decide (11904 ≤ 19968 + n ∧ 19968 + n ≤ 42191) = true := decide_eq_true (by omega)
    rw [this]; simp
  rw [a, b]; rfl
theorem wide_no {x : Int} (h : x < 4352) : wideP x = false := by
  unfold wideP
  simp only [Bool.or_eq_false_iff, decide_eq_false_iff_not]
  omega
theorem width_ascii {x : Int} (h0 : 32 ≤ x) (h1 : x ≤ 126) : widthP x = 1 := by
  unfold widthP
  have a : narrowP x = false := by
    unfold narrowP
    simp only [Bool.or_eq_false_iff, decide_eq_false_iff_not]
    omega
  rw [a, wide_no (by omega)]; rfl
theorem tdiv_in64 {v : Int} (h : in64 v) : in64 (v.tdiv 16) ∧ in64 (v.tdiv 64) := by
  unfold in64 at *
  have a1 : v.tmod 16 = v - 16 * v.tdiv 16 := Int.tmod_def _ _
  have a2 : v.tmod 16 < 16 := Int.tmod_lt_of_pos _ (by omega)
  have a3 : -16 < v.tmod 16 := by have := Int.lt_tmod_of_pos v (show (0 : Int) < 16 by omega); omega
  have b1 : v.tmod 64 = v - 64 * v.tdiv 64 := Int.tmod_def _ _
  have b2 : v.tmod 64 < 64 := Int.tmod_lt_of_pos _ (by omega)
  have b3 : -64 < v.tmod 64 := by have := Int.lt_tmod_of_pos v (show (0 : Int) < 64 by omega); omega
  omega
theorem keepGrid_loop {x2 x3 a3 a4 a7 a8 : Int} {rs ps : List Int} {h w : Nat} (hh : h ≤ 5) (w1 : 1 ≤ w) (hw : w ≤ 9) (hr : ∀ y, y ∈ rs → in64 y) (hp : ∀ y, y ∈ ps → in64 y) {a9 a10 : Int} {z : List Cell} : ∀ (n i : Nat) (l : List Cell), l.length = i → i ≤ h * w → flatG w l → h * w - i < n →
    ∃ m : List Cell, m.length = h * w ∧ flatG w m ∧ linguistkeep_Grid_Grid_L4 n (Int.ofNat h) (Int.ofNat w) (Int.ofNat i) a3 a4 rs ps a7 a8 a9 a10 z l = some (a7, a8, a9, a10, z, m) := by
  have hsm : h * w ≤ 45 := Nat.mul_le_mul hh hw
  intro n
  induction n with
  | zero => intro i l h0 h1 h2 h3; omega
  | succ n ih =>
    intro i l h0 h1 h2 h3
    rw [linguistkeep_Grid_Grid_L4, row_lo h w (by omega) (by omega), ofNat_lt]
    by_cases hi : i < h * w
    · rw [decide_eq_true hi]
      obtain ⟨y, hy, y1⟩ := pick_eq rs hr i
      have e1 : IntKind.i64.wrap ((Int.ofNat i).tdiv 3) = Int.ofNat (i / 3) := by
        have : (Int.ofNat i).tdiv 3 = Int.ofNat (i / 3) := rfl
        rw [this]; exact w64 (by show _ ≤ ((i / 3 : Nat) : Int); omega) (by show ((i / 3 : Nat) : Int) < _; omega)
      obtain ⟨v, hv, v1⟩ := pick_eq ps hp (i / 3)
      obtain ⟨d1, d2⟩ := tdiv_in64 v1
      obtain ⟨p, hpp, p1⟩ := pen_eq v (v.tdiv 16) (v.tdiv 64) v1 d1 d2
      obtain ⟨b, hb, b1, b2⟩ := within_eq y 0 9 y1.1 y1.2 (by omega) (by omega) (by omega)
      rw [hy, e1, hv]
      simp only [cond_true, optK_s]
      rw [w64 d1.1 d1.2, w64 d2.1 d2.2, hpp]
      have single : widthP (IntKind.i32.wrap (IntKind.i64.wrap (97 + b))) = 1 := by
        rw [w64 (by omega) (by omega), w32 (by omega) (by omega)]; exact width_ascii (by omega) (by omega)
      have l1 : (l.length + 1).ble 274877906944 = true := Nat.ble_eq_true_of_le (by omega)
      have l2 : (l.length + 2).ble 274877906944 = true := Nat.ble_eq_true_of_le (by omega)
      rw [wrap_succ (by omega), hb]
      have S1 := ih (i + 1) (l ++ [(IntKind.i32.wrap (IntKind.i64.wrap (97 + b)), 0, p.1, p.2.1, p.2.2)]) (by simp; omega) (by omega) (flat_one h2 single p1) (by omega)
      have ew : (Int.ofNat w == 0) = false := beq_false_of_ne (by show (w : Int) ≠ 0; omega)
      have em : (Int.ofNat (i + 1)).tmod (Int.ofNat w) = Int.ofNat ((i + 1) % w) := rfl
      rw [ew, em]
      simp only [optK_s, List.length_cons, List.length_nil, Nat.zero_add, Nat.reduceAdd, l1, l2, Bool.and_self, cond_true, cond_false]
      cases h5 : (y.tmod 5 == 4) with
      | false => exact S1
      | true =>
        by_cases hm : (i + 1) % w = 0
        · have : (Int.ofNat ((i + 1) % w) != 0) = false := by rw [hm]; rfl
          rw [this]; exact S1
        · have : (Int.ofNat ((i + 1) % w) != 0) = true := by rw [bne_iff_ne]; intro k; exact hm (Int.ofNat.inj k)
          rw [this]
          have h5' := eq_of_beq h5
          have hy0 : 0 ≤ y := by
            rcases Int.lt_or_le y 0 with hneg | hpos
            · exfalso
              have q1 : (-(-y)).tmod 5 = -((-y).tmod 5) := Int.neg_tmod (-y) 5
              have q2 : 0 ≤ (-y).tmod 5 := Int.tmod_nonneg 5 (by omega)
              rw [Int.neg_neg] at q1
              omega
            · exact hpos
          have n0 : 0 ≤ y.tmod 9 := Int.tmod_nonneg 9 hy0
          have n1 : y.tmod 9 < 9 := Int.tmod_lt_of_pos y (by omega)
          have dbl : widthP (IntKind.i32.wrap (IntKind.i64.wrap (19968 + y.tmod 9))) = 2 := by
            rw [w64 (by omega) (by omega), w32 (by omega) (by omega)]; exact wide_20k n0 (by omega)
          have hi1 : i + 1 < h * w := by
            rcases Nat.lt_or_ge (i + 1) (h * w) with a | a
            · exact a
            · exfalso; apply hm; rw [show i + 1 = h * w by omega, Nat.mul_mod_left]
          rw [wrap_succ (by omega)]
          exact ih (i + 1 + 1) (l ++ [(IntKind.i32.wrap (IntKind.i64.wrap (19968 + y.tmod 9)), 1, p.1, p.2.1, p.2.2), (0, 2, p.1, p.2.1, p.2.2)]) (by simp; omega) (by omega) (flat_two (p := p) h2 dbl p1 (by rw [h0]; exact hm)) (by omega)
    · have e : i = h * w := by omega
      rw [decide_eq_false hi]
      exact ⟨l, by omega, h2, rfl⟩
theorem keepGrid_eq {x0 x1 : Int} {rs ps : List Int} (h0 : in64 x0) (h1 : in64 x1) (hr : ∀ y, y ∈ rs → in64 y) (hp : ∀ y, y ∈ ps → in64 y) :
    ∃ (h w : Nat) (l : List Cell), 1 ≤ h ∧ h ≤ 5 ∧ 1 ≤ w ∧ w ≤ 9 ∧ GG h w l ∧ hide linguistkeep_Grid_Grid_F x0 x1 rs ps = some (Int.ofNat h, Int.ofNat w, l) := by
  rw [hide_eq]; unfold linguistkeep_Grid_Grid_F
  obtain ⟨a, ha, a1, a2⟩ := within_eq x0 1 5 h0.1 h0.2 (by omega) (by omega) (by omega)
  obtain ⟨b, hb, b1, b2⟩ := within_eq x1 1 9 h1.1 h1.2 (by omega) (by omega) (by omega)
  obtain ⟨h, rfl⟩ : ∃ h : Nat, a = Int.ofNat h := ⟨a.toNat, by show a = ((a.toNat : Nat) : Int); omega⟩
  obtain ⟨w, rfl⟩ : ∃ w : Nat, b = Int.ofNat w := ⟨b.toNat, by show b = ((b.toNat : Nat) : Int); omega⟩
  have a1' : (1 : Int) ≤ (h : Int) := a1
  have a2' : (h : Int) ≤ 5 := a2
  have b1' : (1 : Int) ≤ (w : Int) := b1
  have b2' : (w : Int) ≤ 9 := b2
  have hsm : h * w ≤ 45 := Nat.mul_le_mul (show h ≤ 5 by omega) (show w ≤ 9 by omega)
  obtain ⟨m, m1, m2, m3⟩ := keepGrid_loop (x2 := 0) (x3 := 0) (a3 := x0) (a4 := x1) (a7 := 0) (a8 := 0) (h := h) (w := w) (by omega) (by omega) (by omega) hr hp (a9 := Int.ofNat h) (a10 := Int.ofNat w) (z := []) (linguistkeep_Grid_Grid_fu4 (Int.ofNat h) (Int.ofNat w) 0 x0 x1 rs ps 0 0 (Int.ofNat h) (Int.ofNat w) [] []) 0 [] rfl (by omega) (flat_nil w) (by
    unfold linguistkeep_Grid_Grid_fu4
    have e1 : (Int.ofNat h).natAbs = h := rfl
    have e2 : (Int.ofNat w).natAbs = w := rfl
    rw [e1, e2]
    have : h * w ≤ 5 * w := Nat.mul_le_mul_right w (by omega)
    omega)
  rw [ha, hb]
  simp only [optK_s, hide_eq linguistkeep_Grid_Grid_L4]
  rw [show (0 : Int) = Int.ofNat 0 from rfl] at *
  rw [m3]
  exact ⟨h, w, m, by omega, by omega, by omega, by omega, flat_GG m2 m1, rfl⟩
end Go.Proofs.YtpneolkfeihkhaaAbs

/- Plain laws: the document's own grids: made, mended, set, wiped. -/
namespace Go.Proofs.YtpneolkfeihkhaaAbs
set_option linter.unusedVariables false
set_option linter.unusedSimpArgs false
open Go Go.Proofs
end Go.Proofs.YtpneolkfeihkhaaAbs

/- Plain laws: the document's own grids: what is put, cut to a size. -/
namespace Go.Proofs.YtpneolkfeihkhaaAbs
set_option linter.unusedVariables false
set_option linter.unusedSimpArgs false
open Go Go.Proofs
theorem right_1 {l : List Cell} (h : rightR l) {i : Nat} (hi : i < l.length) (k : kd l i = 1) : i + 1 < l.length ∧ kd l (i + 1) = 2 := by
  have : ¬ halfB l i = true := by rw [h i hi]; simp
  rw [half_iff] at this
  refine ⟨?_, Decidable.byContradiction fun q => this (.inl ⟨k, .inr q⟩)⟩
  rcases Nat.lt_or_ge (i + 1) l.length with a | a
  · exact a
  · exact absurd (.inl ⟨k, .inl (by omega)⟩) this
theorem right_2 {l : List Cell} (h : rightR l) {i : Nat} (hi : i < l.length) (k : kd l i = 2) : 1 ≤ i ∧ kd l (i - 1) = 1 := by
  have : ¬ halfB l i = true := by rw [h i hi]; simp
  rw [half_iff] at this
  refine ⟨?_, Decidable.byContradiction fun q => this (.inr ⟨k, .inr q⟩)⟩
  rcases Nat.eq_zero_or_pos i with a | a
  · exact absurd (.inr ⟨k, .inl a⟩) this
  · exact a
end Go.Proofs.YtpneolkfeihkhaaAbs

/- Plain laws: the document's own put and resize, called. -/
namespace Go.Proofs.YtpneolkfeihkhaaAbs
set_option linter.unusedVariables false
set_option linter.unusedSimpArgs false
open Go Go.Proofs
theorem inRow_congr {w : Nat} {l : List Cell} {r : Nat} {f g : List Cell → List Cell} (e : f (rowOf w l r) = g (rowOf w l r)) : inRow w l r f = inRow w l r g := by
  show l.take (r * w) ++ f (rowOf w l r) ++ _ = l.take (r * w) ++ g (rowOf w l r) ++ _
  rw [e]
end Go.Proofs.YtpneolkfeihkhaaAbs

/- What is known of letters. -/
namespace Go.Proofs.YtpneolkfeihkhaaAbs
set_option linter.unusedVariables false
open Go Go.Proofs Go.RowKit
theorem isTrue_res : (isTrue : AV → Heap → Option Bool) = resK .bool true (fun b => some b) := by
  funext v h
  cases v <;> rfl
theorem law_res {P : Program} {E : Env} (hE : EnvOk P E) {n f : Nat} {args : List AV} {us : List Value} (e : acall (R := Bool) E n f args [] (resK .bool true (fun b => some b)) = some true) (W : World)
    (q : RelL ⟨W, fun _ => none, fun B => B < W.heap.size⟩ [] false args us) : Calls P f us.toArray W fun e W' => e = .returned (.bool true) ∧ Below W.heap.size W W' :=
  law_rows hE (by rw [isTrue_res]; exact e) W q
theorem wf_in64 {x : Int} (h : (Lit.int .i64 x).wf = true) : in64 x := by
  simp [Lit.wf, IntKind.min, IntKind.max, IntKind.bits, IntKind.signed] at h
  unfold in64; omega
theorem wf_list64 {l : List Int} (h : List.length (α := Int) l ≤ 9223372036854775807 ∧ ∀ y : Int, List.Mem y l → ((Lit.int .i64 y).wf = true)) : ∀ y, y ∈ l → in64 y := fun y hy => wf_in64 (h.2 y hy)
end Go.Proofs.YtpneolkfeihkhaaAbs

/- Plain laws: rows of a grid shifted. -/
namespace Go.Proofs.YtpneolkfeihkhaaAbs
set_option linter.unusedVariables false
set_option linter.unusedSimpArgs false
open Go Go.Proofs
theorem rowOf_append_l {w r : Nat} {A B : List Cell} (h : r * w + w ≤ A.length) : rowOf w (A ++ B) r = rowOf w A r := by
  unfold rowOf
  rw [List.drop_append_of_le_length (by omega), List.take_append_of_le_length (by rw [List.length_drop]; omega)]
theorem rowOf_append_r {w r : Nat} {A B : List Cell} (h : A.length = r * w) : rowOf w (A ++ B) r = B.take w := by
  unfold rowOf
  rw [← h, List.drop_left]
def mapRows (h : Nat) (f : Nat → List Cell) : List Cell := (List.range h).flatMap f
theorem mapRows_succ (h : Nat) (f : Nat → List Cell) : mapRows (h + 1) f = mapRows h f ++ f h := by
  unfold mapRows; rw [List.range_succ, List.flatMap_append]; simp
theorem mapRows_length {w : Nat} {f : Nat → List Cell} : ∀ {h : Nat}, (∀ r, r < h → (f r).length = w) → (mapRows h f).length = h * w
  | 0, _ => by simp [mapRows]
  | h + 1, hf => by
    rw [mapRows_succ, List.length_append, mapRows_length (fun r hr => hf r (by omega)), hf h (by omega), Nat.add_mul, Nat.one_mul]
theorem mapRows_row {w : Nat} {f : Nat → List Cell} : ∀ {h : Nat}, (∀ r, r < h → (f r).length = w) → ∀ r, r < h → rowOf w (mapRows h f) r = f r
  | 0, _, r, hr => by omega
  | h + 1, hf, r, hr => by
    have hl := mapRows_length (h := h) (fun r hr => hf r (by omega))
    rw [mapRows_succ]
    by_cases hrh : r < h
    · have hb := mul_bound (w := w) hrh
      rw [rowOf_append_l (by omega)]
      exact mapRows_row (fun r hr => hf r (by omega)) r hrh
    · have : r = h := by omega
      subst this
      rw [rowOf_append_r hl, List.take_of_length_le (by rw [hf r (by omega)]; exact Nat.le_refl _)]
/-- A row of a grid of which rows are shifted. -/
def shX (w : Nat) (l : List Cell) (t b : Nat) (sh : Int) (p : Pen) (r : Nat) : List Cell :=
  if (t : Int) ≤ r + sh ∧ r + sh ≤ b then rowOf w l (r + sh).toNat else List.replicate w (32, 0, p)
def shRow (w : Nat) (l : List Cell) (t b : Nat) (sh : Int) (p : Pen) (r : Nat) : List Cell :=
  if t ≤ r ∧ r ≤ b then shX w l t b sh p r else rowOf w l r
def shiftG (h w : Nat) (l : List Cell) (top bot sh : Int) (p : Pen) : List Cell :=
  if top < 0 ∨ (h : Int) ≤ bot ∨ bot < top then l else mapRows h (shRow w l top.toNat bot.toNat sh p)
section
variable {h w : Nat} {l : List Cell} {t b : Nat} {sh : Int} {p : Pen}
theorem shX_length (hl : l.length = h * w) (hb : b < h) (r : Nat) : (shX w l t b sh p r).length = w := by
  unfold shX
  split
  · exact rowOf_length hl (by omega)
  · simp
theorem shRow_length (hl : l.length = h * w) (hb : b < h) {r : Nat} (hr : r < h) : (shRow w l t b sh p r).length = w := by
  unfold shRow
  split
  · exact shX_length hl hb r
  · exact rowOf_length hl hr
end
theorem shiftG_length {h w : Nat} {l : List Cell} (hl : l.length = h * w) (top bot sh : Int) (p : Pen) : (shiftG h w l top bot sh p).length = h * w := by
  unfold shiftG
  split
  · exact hl
  · exact mapRows_length fun r hr => shRow_length hl (by omega) hr
theorem shiftG_row {h w : Nat} {l : List Cell} (hl : l.length = h * w) {top bot sh : Int} {p : Pen} (hc : ¬ (top < 0 ∨ (h : Int) ≤ bot ∨ bot < top)) {r : Nat} (hr : r < h) : rowOf w (shiftG h w l top bot sh p) r = shRow w l top.toNat bot.toNat sh p r := by
  unfold shiftG
  rw [if_neg hc]
  exact mapRows_row (fun r hr => shRow_length hl (by omega) hr) r hr
/-- So far shifted. -/
def ShTo (h w : Nat) (l : List Cell) (t b : Nat) (sh : Int) (p : Pen) (k : Nat) (out : List Cell) : Prop :=
  out.length = h * w ∧ ∀ r, r < h → rowOf w out r = if t ≤ r ∧ r < k then shX w l t b sh p r else rowOf w l r
theorem ShTo.start {h w : Nat} {l : List Cell} {t b : Nat} {sh : Int} {p : Pen} (hl : l.length = h * w) : ShTo h w l t b sh p t l := ⟨hl, fun r hr => by rw [if_neg (by omega)]⟩
theorem ShTo.step {h w : Nat} {l : List Cell} {t b : Nat} {sh : Int} {p : Pen} {k : Nat} {out : List Cell} (hl : l.length = h * w) (hb : b < h) (ht : t ≤ k) (hk : k ≤ b) (S : ShTo h w l t b sh p k out) : ShTo h w l t b sh p (k + 1) (inRow w out k fun _ => shX w l t b sh p k) := by
  have hX := shX_length (t := t) (sh := sh) (p := p) hl hb k
  refine ⟨inRow_length S.1 (by omega) hX, fun r hr => ?_⟩
  by_cases e : r = k
  · subst e
    rw [inRow_same S.1 hr hX, if_pos (by omega)]
  · rw [inRow_other S.1 (by omega) hX hr e, S.2 r hr]
    by_cases c : t ≤ r ∧ r < k
    · rw [if_pos c, if_pos (by omega)]
    · rw [if_neg c, if_neg (by omega)]
theorem ShTo.fin {h w : Nat} {l : List Cell} {top bot : Int} {sh : Int} {p : Pen} {out : List Cell} (hl : l.length = h * w) (hc : ¬ (top < 0 ∨ (h : Int) ≤ bot ∨ bot < top)) (S : ShTo h w l top.toNat bot.toNat sh p (bot.toNat + 1) out) : out = shiftG h w l top bot sh p := by
  refine rows_ext S.1 (shiftG_length hl _ _ _ _) fun r hr => ?_
  rw [S.2 r hr, shiftG_row hl hc hr]
  unfold shRow
  by_cases c : top.toNat ≤ r ∧ r ≤ bot.toNat
  · rw [if_pos c, if_pos (by omega)]
  · rw [if_neg c, if_neg (by omega)]
theorem blanks_eq {w : Nat} (w1 : 1 ≤ w) (hw : w ≤ 60) (p0 p1 p2 : Int) : hide edit_blanks_F (Int.ofNat w) p0 p1 p2 = some (List.replicate w (32, 0, p0, p1, p2)) := by
  rw [hide_eq]; unfold edit_blanks_F
  rw [blank_eq]
  simp only [optK_s]
  rw [repeat_eq _ _ w1 (by omega)]
  rfl
theorem shiftJ {R R' C' top bot sh p0 p1 p2 z0 z1 : Int} {h w r : Nat} {l out X z : List Cell} (hX : X.length = w) (ho : out.length = h * w) (hr : r < h) (hh : h ≤ 40) (hw : w ≤ 60) :
    edit_shift_J11 top bot sh (Int.ofNat r) X R (Int.ofNat w) l p0 p1 p2 z0 z1 R' C' z out = some (top, bot, sh, Int.ofNat r, R, Int.ofNat w, l, p0, p1, p2, z0, z1, R', C', z, inRow w out r fun _ => X) := by
  have hsm := small_mul (show h ≤ 64 by omega) (show w ≤ 64 by omega)
  have hb := mul_bound (w := w) hr
  unfold edit_shift_J11
  rw [row_lo r w (by omega) (by omega)]
  have b1 : bnds (some (Int.ofNat (r * w))) none out.length = true := by simp [bnds]; omega
  rw [b1]
  simp only [cond_true, getD_some', toNat_ofNat']
  have e0 : (none.getD (Int.ofNat out.length)).toNat = out.length := rfl
  rw [e0, List.take_of_length_le (by omega)]
  unfold splice inRow
  rw [hX]
theorem shift_loop {R R' C' p0 p1 p2 z0 z1 : Int} {h w : Nat} {l z : List Cell} {t b : Nat} {sh : Int} (hl : l.length = h * w) (hb : b < h) (hh : h ≤ 40) (w1 : 1 ≤ w) (hw : w ≤ 60) (hs : -100 ≤ sh ∧ sh ≤ 100) : ∀ (n k : Nat) (out : List Cell), t ≤ k → k ≤ b + 1 → b + 1 - k < n → ShTo h w l t b sh (p0, p1, p2) k out →
    ∃ out', ShTo h w l t b sh (p0, p1, p2) (b + 1) out' ∧ edit_shift_L5 n (Int.ofNat t) (Int.ofNat b) sh (Int.ofNat k) R (Int.ofNat w) l p0 p1 p2 z0 z1 R' C' z out = some (z0, z1, R', C', z, out') := by
  have hsm := small_mul (show h ≤ 64 by omega) (show w ≤ 64 by omega)
  intro n
  induction n with
  | zero => intro k out h1 h2 h3; omega
  | succ n ih =>
    intro k out h1 h2 h3 S
    rw [edit_shift_L5]
    by_cases hk : k ≤ b
    · have e1 : decide (Int.ofNat k ≤ Int.ofNat b) = true := decide_eq_true (by show (k : Int) ≤ (b : Int); omega)
      have e2 : IntKind.i64.wrap (Int.ofNat k + sh) = (k : Int) + sh := w64 (by show _ ≤ (k : Int) + sh; omega) (by show (k : Int) + sh < _; omega)
      rw [e1, blanks_eq w1 hw, e2]
      simp only [cond_true, optK_s, hide_eq edit_shift_J11]
      have next := fun (X : List Cell) (hX : X = shX w l t b sh (p0, p1, p2) k) => ih (k + 1) (inRow w out k fun _ => X) (by omega) (by omega) (by omega) (by rw [hX]; exact S.step hl hb h1 hk)
      by_cases c : (t : Int) ≤ k + sh ∧ (k : Int) + sh ≤ b
      · have d1 : decide ((k : Int) + sh ≥ Int.ofNat t) = true := decide_eq_true c.1
        have d2 : decide ((k : Int) + sh ≤ Int.ofNat b) = true := decide_eq_true c.2
        obtain ⟨q, hq⟩ : ∃ q : Nat, (k : Int) + sh = Int.ofNat q := ⟨((k : Int) + sh).toNat, by show _ = ((((k : Int) + sh).toNat : Nat) : Int); omega⟩
        have hqh : q < h := by have : (k : Int) + sh = (q : Int) := hq; omega
        have hqb := mul_bound (w := w) hqh
        have hX : rowOf w l q = shX w l t b sh (p0, p1, p2) k := by
          unfold shX; rw [if_pos c, hq]; rfl
        rw [d1, d2, hq, row_lo q w (by omega) (by omega), row_hi q w (by omega) (by omega), bnds_ok (by omega) (by omega), cutList_ok (by omega), show q * w + w - q * w = w by omega, show (l.drop (q * w)).take w = rowOf w l q from rfl]
        simp only [cond_true, Bool.and_self]
        rw [shiftJ (rowOf_length hl hqh) S.1 (by omega) hh hw]
        simp only [optK_s]
        rw [wrap_succ (by omega)]
        exact next _ hX
      · have hX : List.replicate w ((32, 0, p0, p1, p2) : Cell) = shX w l t b sh (p0, p1, p2) k := by
          unfold shX; rw [if_neg c]
        have fin : optK (edit_shift_J11 (Int.ofNat t) (Int.ofNat b) sh (Int.ofNat k) (List.replicate w (32, 0, p0, p1, p2)) R (Int.ofNat w) l p0 p1 p2 z0 z1 R' C' z out) = optK (some (Int.ofNat t, Int.ofNat b, sh, Int.ofNat k, R, Int.ofNat w, l, p0, p1, p2, z0, z1, R', C', z, inRow w out k fun _ => List.replicate w (32, 0, p0, p1, p2))) (R := Int × Int × Int × Int × List Cell × List Cell) := by
          rw [shiftJ (by simp) S.1 (by omega) hh hw]
        by_cases d1 : (k : Int) + sh ≥ Int.ofNat t
        · have d2 : ¬ (k : Int) + sh ≤ Int.ofNat b := fun d2 => c ⟨d1, d2⟩
          rw [decide_eq_true d1, decide_eq_false d2]
          simp only [cond_true, cond_false]
          rw [fin]
          simp only [optK_s]
          rw [wrap_succ (by omega)]
          exact next _ hX
        · rw [decide_eq_false d1]
          simp only [cond_false]
          rw [fin]
          simp only [optK_s]
          rw [wrap_succ (by omega)]
          exact next _ hX
    · have e : k = b + 1 := by omega
      have e1 : decide (Int.ofNat k ≤ Int.ofNat b) = false := decide_eq_false (by show ¬ (k : Int) ≤ (b : Int); omega)
      rw [e1]
      subst e
      exact ⟨out, S, rfl⟩
theorem shift_eq {R C : Int} {h w : Nat} (hR : R = Int.ofNat h) (hC : C = Int.ofNat w) (hh : h ≤ 40) (w1 : 1 ≤ w) (hw : w ≤ 60) {l : List Cell} (hl : l.length = h * w) (top bot sh : Int) (hs : -100 ≤ sh ∧ sh ≤ 100) (p0 p1 p2 : Int) :
    hide edit_shift_F R C l top bot sh p0 p1 p2 = some (R, C, shiftG h w l top bot sh (p0, p1, p2)) := by
  have hsm := small_mul (show h ≤ 64 by omega) (show w ≤ 64 by omega)
  rw [hide_eq]; unfold edit_shift_F
  rw [Nat.ble_eq_true_of_le (by omega)]
  simp only [cond_true]
  by_cases hc : top < 0 ∨ (h : Int) ≤ bot ∨ bot < top
  · have e : shiftG h w l top bot sh (p0, p1, p2) = l := by unfold shiftG; rw [if_pos hc]
    rw [e]
    by_cases c1 : top < 0
    · rw [decide_eq_true c1]; rfl
    · rw [decide_eq_false c1]
      by_cases c2 : bot ≥ R
      · rw [decide_eq_true c2]; rfl
      · have c3 : top > bot := by rw [hR] at c2; have : ¬ bot ≥ (h : Int) := c2; omega
        rw [decide_eq_false c2, decide_eq_true c3]; rfl
  · have c1 : ¬ top < 0 := fun a => hc (.inl a)
    have c2 : ¬ bot ≥ R := fun a => hc (.inr (.inl (by rw [hR] at a; exact a)))
    have c3 : ¬ top > bot := fun a => hc (.inr (.inr a))
    have hbh : bot < (h : Int) := by rw [hR] at c2; have : ¬ bot ≥ (h : Int) := c2; omega
    rw [decide_eq_false c1, decide_eq_false c2, decide_eq_false c3]
    simp only [cond_false, hide_eq edit_shift_L5]
    obtain ⟨t, rfl⟩ : ∃ t : Nat, top = Int.ofNat t := ⟨top.toNat, by show top = ((top.toNat : Nat) : Int); omega⟩
    obtain ⟨b, rfl⟩ : ∃ b : Nat, bot = Int.ofNat b := ⟨bot.toNat, by show bot = ((bot.toNat : Nat) : Int); omega⟩
    have hb : b < h := by have : (b : Int) < (h : Int) := hbh; omega
    have htb : t ≤ b := by have : ¬ (t : Int) > (b : Int) := c3; omega
    subst hR hC
    obtain ⟨out, S, e⟩ := shift_loop (R := Int.ofNat h) (R' := Int.ofNat h) (C' := Int.ofNat w) (p0 := p0) (p1 := p1) (p2 := p2) (z0 := 0) (z1 := 0) (z := []) (t := t) (b := b) (sh := sh) hl hb hh w1 hw hs (edit_shift_fu5 (Int.ofNat t) (Int.ofNat b) sh (Int.ofNat t) (Int.ofNat h) (Int.ofNat w) l p0 p1 p2 0 0 (Int.ofNat h) (Int.ofNat w) [] l) t l (by omega) (by omega) (by unfold edit_shift_fu5; omega) (ShTo.start hl)
    rw [e, S.fin (top := Int.ofNat t) (bot := Int.ofNat b) hl hc]
    rfl
end Go.Proofs.YtpneolkfeihkhaaAbs

/- Plain laws: edit.Up, edit.Down. -/
namespace Go.Proofs.YtpneolkfeihkhaaAbs
set_option linter.unusedVariables false
set_option linter.unusedSimpArgs false
open Go Go.Proofs
def farN (n : Int) : Int := max 0 (min n 40)
theorem far_eq (n : Int) : hide edit_far_F n = some (farN n) := by
  rw [hide_eq]; unfold edit_far_F farN
  congr 1
  split <;> split <;> omega
theorem editUp_eq {R C : Int} {h w : Nat} (hR : R = Int.ofNat h) (hC : C = Int.ofNat w) (hh : h ≤ 40) (w1 : 1 ≤ w) (hw : w ≤ 60) {l : List Cell} (hl : l.length = h * w) (top bot n : Int) (p0 p1 p2 : Int) :
    hide edit_Up_F R C l top bot n p0 p1 p2 = some (R, C, shiftG h w l top bot (farN n) (p0, p1, p2)) := by
  rw [hide_eq]; unfold edit_Up_F
  rw [far_eq]
  simp only [optK_s]
  rw [shift_eq hR hC hh w1 hw hl top bot (farN n) (by unfold farN; omega)]
  rfl
theorem editDown_eq {R C : Int} {h w : Nat} (hR : R = Int.ofNat h) (hC : C = Int.ofNat w) (hh : h ≤ 40) (w1 : 1 ≤ w) (hw : w ≤ 60) {l : List Cell} (hl : l.length = h * w) (top bot n : Int) (p0 p1 p2 : Int) :
    hide edit_Down_F R C l top bot n p0 p1 p2 = some (R, C, shiftG h w l top bot (-farN n) (p0, p1, p2)) := by
  rw [hide_eq]; unfold edit_Down_F
  rw [far_eq]
  simp only [optK_s]
  have hb : 0 ≤ farN n ∧ farN n ≤ 40 := by unfold farN; omega
  rw [w64 (n := 0 - farN n) (by omega) (by omega), Int.zero_sub, shift_eq hR hC hh w1 hw hl top bot (-farN n) (by omega)]
  rfl
end Go.Proofs.YtpneolkfeihkhaaAbs

/- Plain laws: edit's Insert, Delete, Line. -/
namespace Go.Proofs.YtpneolkfeihkhaaAbs
set_option linter.unusedVariables false
set_option linter.unusedSimpArgs false
open Go Go.Proofs
theorem repeat_zero (b : Cell) : hide slices_Repeat_api_Cell_F [b] 0 = some [] := by
  rw [hide_eq]; unfold slices_Repeat_api_Cell_F
  rw [show decide ((0 : Int) < 0) = false from rfl]
  simp only [cond_false, hide_eq]
  unfold slices_Repeat_api_Cell_J3
  have e1 : IntKind.u64.wrap (Int.ofNat [b].length) = 1 := by simp [IntKind.wrap_u64]
  have e2 : IntKind.u64.wrap 0 = 0 := by rw [IntKind.wrap_u64]; rfl
  rw [e1, e2, mul_hi_small _ (by omega) (by omega)]
  simp only [optK_s, hide_eq]
  rw [show decide ((0 : Int) > 0) = false from rfl, show decide ((0 : Int) > 9223372036854775807) = false from rfl]
  simp only [cond_false]
  unfold slices_Repeat_api_Cell_J6
  rw [w64 (n := 0) (by omega) (by omega)]
  simp only [hide_eq]
  have e9 : (rowN ((0 : Int), (0 : Int), (0 : Int), (0 : Int), (0 : Int)) (Int.toNat 0)) = [] := rfl
  rw [e9]
  have e10 : (Int.ofNat ([b].length.min ([] : List Cell).length)) = 0 := rfl
  have e11 : splice ([] : List Cell) 0 (List.take ([] : List Cell).length [b]) = [] := rfl
  rw [e10, e11]
  obtain ⟨m, hm⟩ : ∃ m, slices_Repeat_api_Cell_fu8 0 [] = m + 1 := Nat.exists_eq_succ_of_ne_zero (by unfold slices_Repeat_api_Cell_fu8; omega)
  rw [hm]
  rfl
theorem blanks_any {n : Nat} (hn : n ≤ 4096) (p0 p1 p2 : Int) : hide edit_blanks_F (Int.ofNat n) p0 p1 p2 = some (List.replicate n (32, 0, p0, p1, p2)) := by
  rw [hide_eq]; unfold edit_blanks_F
  rw [blank_eq]
  simp only [optK_s]
  rcases Nat.eq_zero_or_pos n with k | k
  · subst k
    have := repeat_zero (32, 0, p0, p1, p2)
    rw [show (Int.ofNat 0) = 0 from rfl, this]; rfl
  · rw [repeat_eq _ _ k hn]; rfl
theorem turned_eq {R C : Int} {h w : Nat} (hC : C = Int.ofNat w) (hh : h ≤ 40) (hw : w ≤ 60) {l : List Cell} (hl : l.length = h * w) {r : Nat} (hr : r < h) {row : List Cell} (hrow : row.length = w) :
    hide edit_turned_F R C l (Int.ofNat r) row = some (R, C, inRow w l r fun _ => mend row) := by
  subst hC
  have hsm := small_mul (show h ≤ 64 by omega) (show w ≤ 64 by omega)
  have hb := mul_bound (w := w) hr
  rw [hide_eq]; unfold edit_turned_F
  have e : (l.length.ble 274877906944) = true := Nat.ble_eq_true_of_le (by rw [hl]; omega)
  rw [e, row_lo r w (by omega) (by omega)]
  have b1 : bnds (some (Int.ofNat (r * w))) none l.length = true := by simp [bnds]; omega
  rw [b1, mend_eq row (by omega)]
  simp only [cond_true, getD_some', toNat_ofNat', optK_s]
  have e0 : (none.getD (Int.ofNat l.length)).toNat = l.length := rfl
  rw [e0, List.take_of_length_le (by rw [mend_length]; omega)]
  unfold splice inRow
  rw [mend_length, hrow]
def parted (row : List Cell) (c : Nat) : List Cell :=
  if kd row c = 2 ∧ 0 < c then (row.set (c - 1) (blankOf (row.getD (c - 1) dC))).set c (blankOf (row.getD c dC)) else row
theorem parted_length (row : List Cell) (c : Nat) : (parted row c).length = row.length := by
  unfold parted; split <;> simp
theorem parted_eq {R C : Int} {h w : Nat} (hC : C = Int.ofNat w) (hh : h ≤ 40) (hw : w ≤ 60) {l : List Cell} (hl : l.length = h * w) {r : Nat} (hr : r < h) {c : Nat} (hc : c < w) :
    hide edit_parted_F R C l (Int.ofNat r) (Int.ofNat c) = some (parted (rowOf w l r) c) := by
  subst hC
  have hb := mul_bound (w := w) hr
  have hsm := small_mul (show h ≤ 64 by omega) (show w ≤ 64 by omega)
  rw [hide_eq]; unfold edit_parted_F
  rw [row_lo r w (by omega) (by omega), row_hi r w (by omega) (by omega), bnds_ok (by omega) (by omega), cutList_ok (by omega), show r * w + w - r * w = w by omega]
  rw [show (l.drop (r * w)).take w = rowOf w l r from rfl]
  have hrl : (rowOf w l r).length = w := rowOf_length hl hr
  generalize rowOf w l r = row at hrl ⊢
  have e : (row.length.ble 274877906944) = true := Nat.ble_eq_true_of_le (by omega)
  have e1 : (decide ((0 : Int) ≤ Int.ofNat c) && decide (Int.ofNat c < Int.ofNat row.length) && true) = true := by simp; omega
  rw [e, e1]
  simp only [cond_true, Bool.and_true, toNat_ofNat']
  unfold parted
  show (bif (kd row c == 2) then _ else _) = _
  by_cases k : kd row c = 2
  · rw [show (kd row c == 2) = true by rw [k]; rfl]
    simp only [cond_true]
    by_cases k0 : 0 < c
    · have e2 : decide (Int.ofNat c > 0) = true := by simp; omega
      have e3 : IntKind.i64.wrap (Int.ofNat c - 1) = Int.ofNat (c - 1) := by rw [w64 (by simp; omega) (by simp; omega)]; simp; omega
      have e4 : (decide ((0 : Int) ≤ Int.ofNat (c - 1)) && decide (Int.ofNat (c - 1) < Int.ofNat row.length)) = true := by simp; omega
      rw [e2, e3]
      simp only [cond_true, toNat_ofNat', List.length_set]
      have e5 : (decide ((0 : Int) ≤ Int.ofNat c) && decide (Int.ofNat c < Int.ofNat row.length)) = true := by simp; omega
      simp only [e4, e5, cond_true, blank_eq, optK_s]
      rw [if_pos ⟨k, k0⟩]
      rfl
    · have e2 : decide (Int.ofNat c > 0) = false := by simp; omega
      rw [e2, if_neg (fun q => k0 q.2)]; rfl
  · rw [show (kd row c == 2) = false by simp [k], if_neg (fun q => k q.1)]; rfl
/-- How many cells a call may move. -/
def num (w c : Nat) (n : Int) : Nat := (max 0 (min n ((w : Int) - c))).toNat
theorem num_le (w c : Nat) (hc : c ≤ w) (n : Int) : c + num w c n ≤ w := by unfold num; omega
theorem num_eq {w c : Nat} (hw : w ≤ 60) (hc : c < w) (n : Int) :
    (if (if IntKind.i64.wrap (Int.ofNat w - Int.ofNat c) < n then IntKind.i64.wrap (Int.ofNat w - Int.ofNat c) else n) > (0 : Int) then (if IntKind.i64.wrap (Int.ofNat w - Int.ofNat c) < n then IntKind.i64.wrap (Int.ofNat w - Int.ofNat c) else n) else (0 : Int)) = Int.ofNat (num w c n) := by
  have e : IntKind.i64.wrap (Int.ofNat w - Int.ofNat c) = (w : Int) - c := w64 (by show _ ≤ (w : Int) - c; omega) (by show (w : Int) - c < _; omega)
  rw [e]; unfold num
  show _ = ((max 0 (min n ((w : Int) - c))).toNat : Int)
  split <;> split <;> omega
def insRow (row : List Cell) (c n : Nat) (p : Pen) : List Cell :=
  (parted row c).take c ++ List.replicate n (32, 0, p) ++ ((parted row c).drop c).take (row.length - n - c)
def delRow (row : List Cell) (c n : Nat) (p : Pen) : List Cell :=
  (parted row c).take c ++ (parted row c).drop (c + n) ++ List.replicate n (32, 0, p)
def insG (h w : Nat) (l : List Cell) (r c n : Int) (p : Pen) : List Cell :=
  if 0 ≤ r ∧ r < h ∧ 0 ≤ c ∧ c < w then inRow w l r.toNat fun row => mend (insRow row c.toNat (num w c.toNat n) p) else l
def delG (h w : Nat) (l : List Cell) (r c n : Int) (p : Pen) : List Cell :=
  if 0 ≤ r ∧ r < h ∧ 0 ≤ c ∧ c < w then inRow w l r.toNat fun row => mend (delRow row c.toNat (num w c.toNat n) p) else l
theorem insRow_length {row : List Cell} {c n : Nat} {p : Pen} (h : c + n ≤ row.length) : (insRow row c n p).length = row.length := by
  unfold insRow; simp [parted_length]; omega
theorem delRow_length {row : List Cell} {c n : Nat} {p : Pen} (h : c + n ≤ row.length) : (delRow row c n p).length = row.length := by
  unfold delRow; simp [parted_length]; omega
theorem at_no {h w : Nat} {l : List Cell} {r c : Int} (k : ¬ (0 ≤ r ∧ r < h ∧ 0 ≤ c ∧ c < w)) : at_ h w l r c = (0, 0, 0, 0, 0, false) := if_neg k
theorem at_yes {h w : Nat} {l : List Cell} {r c : Int} (k : 0 ≤ r ∧ r < h ∧ 0 ≤ c ∧ c < w) : (at_ h w l r c).2.2.2.2.2 = true := by unfold at_; rw [if_pos k]
theorem cutTo {α : Type} (l : List α) (c : Nat) : cutList l none (some (Int.ofNat c)) = l.take c := by simp [cutList]
theorem cutFrom {α : Type} (l : List α) (c : Nat) : cutList l (some (Int.ofNat c)) none = l.drop c := by simp [cutList]
end Go.Proofs.YtpneolkfeihkhaaAbs

/- Plain laws: edit.Insert, edit.Delete, edit.Line as list functions. -/
namespace Go.Proofs.YtpneolkfeihkhaaAbs
set_option linter.unusedVariables false
set_option linter.unusedSimpArgs false
set_option maxHeartbeats 4000000
open Go Go.Proofs
theorem wrap_add {a b : Nat} (h : a + b < 4611686018427387904) : IntKind.i64.wrap (Int.ofNat a + Int.ofNat b) = Int.ofNat (a + b) := by
  rw [show Int.ofNat a + Int.ofNat b = Int.ofNat (a + b) from rfl, wrap_nat (by omega)]
theorem spl_length {A X : List Cell} {i : Nat} (h : i + X.length ≤ A.length) : (splice A i X).length = A.length := by
  unfold splice; simp; omega
theorem splice_all {A B D : List Cell} : splice (splice (splice (List.replicate (A.length + B.length + D.length) dC) 0 A) A.length B) (A.length + B.length) D = A ++ B ++ D := by
  have h1 : splice (List.replicate (A.length + B.length + D.length) dC) 0 A = A ++ List.replicate (B.length + D.length) dC := by
    unfold splice; simp [Nat.add_assoc]
  have h2 : splice (A ++ List.replicate (B.length + D.length) dC) A.length B = A ++ B ++ List.replicate D.length dC := by
    unfold splice; simp [List.drop_append]
  have h3 : splice (A ++ B ++ List.replicate D.length dC) (A.length + B.length) D = A ++ B ++ D := by
    unfold splice
    rw [show A.length + B.length = (A ++ B).length by simp, List.take_left' rfl, show (A ++ B).length + D.length = (A ++ B ++ List.replicate D.length dC).length by simp [Nat.add_assoc], List.drop_length, List.append_nil]
  rw [h1, h2, h3]
abbrev rowC : Row := .cons (.int .i32) (.cons (.int .i64) (.cons (.int .i64) (.cons (.int .i64) (.one (.int .i64)))))
theorem insert_eq {R C : Int} {h w : Nat} (hR : R = Int.ofNat h) (hC : C = Int.ofNat w) (hh : h ≤ 40) (w1 : 1 ≤ w) (hw : w ≤ 60) {l : List Cell} (hl : l.length = h * w) (r c n : Int) (p0 p1 p2 : Int) :
    hide edit_Insert_F R C l r c n p0 p1 p2 = some (R, C, insG h w l r c n (p0, p1, p2)) := by
  have hsm := small_mul (show h ≤ 64 by omega) (show w ≤ 64 by omega)
  rw [hide_eq]; unfold edit_Insert_F insG
  rw [at_eq hR hC hh hw hl]
  simp only [optK_s]
  by_cases k : 0 ≤ r ∧ r < h ∧ 0 ≤ c ∧ c < w
  · rw [at_yes k, if_pos k]
    obtain ⟨k1, k2, k3, k4⟩ := k
    obtain ⟨r, rfl⟩ : ∃ q : Nat, r = Int.ofNat q := ⟨r.toNat, (Int.toNat_of_nonneg k1).symm⟩
    obtain ⟨c, rfl⟩ : ∃ q : Nat, c = Int.ofNat q := ⟨c.toNat, (Int.toNat_of_nonneg k3).symm⟩
    have hr : r < h := by have : (r : Int) < h := k2; omega
    have hc : c < w := by have : (c : Int) < w := k4; omega
    subst hC
    simp only [Bool.not_true, cond_false]
    rw [parted_eq (R := R) rfl hh hw hl hr hc]
    simp only [optK_s, num_eq hw hc, toNat_ofNat']
    have hn := num_le w c (by omega) n
    generalize num w c n = m at hn ⊢
    rw [blanks_any (by omega)]
    simp only [optK_s, cutTo]
    have hrl : (rowOf w l r).length = w := rowOf_length hl hr
    have hpl : (parted (rowOf w l r) c).length = w := by rw [parted_length, hrl]
    have e2 : IntKind.i64.wrap (Int.ofNat w - Int.ofNat m) = Int.ofNat (w - m) := by
      rw [show Int.ofNat w - Int.ofNat m = Int.ofNat (w - m) by simp; omega, wrap_nat (by omega)]
    simp only [e2]
    rw [cutList_ok (show c ≤ w - m by omega)]
    have b1 : bnds none (some (Int.ofNat c)) (parted (rowOf w l r) c).length = true := by rw [hpl]; simp [bnds]; omega
    have b2 : bnds (some (Int.ofNat c)) (some (Int.ofNat (w - m))) (parted (rowOf w l r) c).length = true := by rw [hpl]; exact bnds_ok (by omega) (by omega)
    rw [b1, b2]
    rw [inRow_congr (f := fun row => mend (insRow row c m (p0, p1, p2))) (g := fun _ => mend (insRow (rowOf w l r) c m (p0, p1, p2))) rfl]
    unfold insRow
    rw [hrl]
    have la : ((parted (rowOf w l r) c).take c).length = c := by simp [hpl]; omega
    have lb : (List.replicate m ((32, 0, p0, p1, p2) : Cell)).length = m := by simp
    have lc : (((parted (rowOf w l r) c).drop c).take (w - m - c)).length = w - m - c := by simp [hpl]; omega
    generalize (parted (rowOf w l r) c).take c = A at la ⊢
    generalize List.replicate m ((32, 0, p0, p1, p2) : Cell) = B at lb ⊢
    generalize ((parted (rowOf w l r) c).drop c).take (w - m - c) = D at lc ⊢
    have g0 : ∀ (d : (Row.one (CTy.slice rowC)).den), @List.getD (List Cell) [A, B, D] 0 d = A := fun _ => rfl
    have g1 : ∀ (d : (Row.one (CTy.slice rowC)).den), @List.getD (List Cell) [A, B, D] 1 d = B := fun _ => rfl
    have g2 : ∀ (d : (Row.one (CTy.slice rowC)).den), @List.getD (List Cell) [A, B, D] 2 d = D := fun _ => rfl
    simp only [g0, g1, g2, cond_true, Bool.and_true]
    have s1 : IntKind.i64.wrap (0 + Int.ofNat A.length) = Int.ofNat A.length := by rw [Int.zero_add, wrap_nat (by omega)]
    have s2 : IntKind.i64.wrap (Int.ofNat A.length + Int.ofNat B.length) = Int.ofNat (A.length + B.length) := wrap_add (by omega)
    have s3 : IntKind.i64.wrap (Int.ofNat (A.length + B.length) + Int.ofNat D.length) = Int.ofNat (A.length + B.length + D.length) := wrap_add (by omega)
    have s4 : IntKind.i64.wrap (Int.ofNat (A.length + B.length + D.length) - 0) = Int.ofNat (A.length + B.length + D.length) := by rw [Int.sub_zero, wrap_nat (by omega)]
    have n1 : ∀ q : Nat, decide (Int.ofNat q < 0) = false := fun q => by simp
    have p1 : decide (Int.ofNat (A.length + B.length + D.length) > 0) = true := by simp; omega
    have p2 : decide ((0 : Int) < Int.ofNat (A.length + B.length + D.length)) = true := by simp; omega
    have p3 : decide (Int.ofNat (A.length + B.length + D.length) ≤ 274877906944) = true := by simp; omega
    simp only [s1, s2, s3, s4, n1, p1, p2, p3, cond_true, cond_false, Bool.and_self, toNat_ofNat', getD_some']
    have r1 : ∀ q, rowN ((0 : Int), (0 : Int), (0 : Int), (0 : Int), (0 : Int)) q = List.replicate q dC := fun _ => rfl
    simp only [r1, show Int.toNat 0 = 0 from rfl, Nat.sub_self, Nat.add_zero, Nat.zero_add, List.drop_zero]
    have c1 : A.length.ble (List.replicate (A.length + B.length + D.length) dC).length = true := Nat.ble_eq_true_of_le (by simp; omega)
    have l1 : (splice (List.replicate (A.length + B.length + D.length) dC) 0 A).length = A.length + B.length + D.length := by rw [spl_length (by simp; omega)]; simp
    have l2 : (splice (splice (List.replicate (A.length + B.length + D.length) dC) 0 A) A.length B).length = A.length + B.length + D.length := by rw [spl_length (by rw [l1]; omega), l1]
    rw [c1, l1, l2, splice_all, Nat.ble_eq_true_of_le (show A.length + B.length ≤ A.length + B.length + D.length by omega), Nat.ble_eq_true_of_le (Nat.le_refl _)]
    rw [List.take_of_length_le (by simp; omega)]
    simp only [cond_true]
    rw [turned_eq rfl hh hw hl hr (by simp; omega)]
    rfl
  · rw [at_no k, if_neg k]
    have e : (l.length.ble 274877906944) = true := Nat.ble_eq_true_of_le (by rw [hl]; omega)
    rw [e]; rfl
theorem delete_eq {R C : Int} {h w : Nat} (hR : R = Int.ofNat h) (hC : C = Int.ofNat w) (hh : h ≤ 40) (w1 : 1 ≤ w) (hw : w ≤ 60) {l : List Cell} (hl : l.length = h * w) (r c n : Int) (p0 p1 p2 : Int) :
    hide edit_Delete_F R C l r c n p0 p1 p2 = some (R, C, delG h w l r c n (p0, p1, p2)) := by
  have hsm := small_mul (show h ≤ 64 by omega) (show w ≤ 64 by omega)
  rw [hide_eq]; unfold edit_Delete_F delG
  rw [at_eq hR hC hh hw hl]
  simp only [optK_s]
  by_cases k : 0 ≤ r ∧ r < h ∧ 0 ≤ c ∧ c < w
  · rw [at_yes k, if_pos k]
    obtain ⟨k1, k2, k3, k4⟩ := k
    obtain ⟨r, rfl⟩ : ∃ q : Nat, r = Int.ofNat q := ⟨r.toNat, (Int.toNat_of_nonneg k1).symm⟩
    obtain ⟨c, rfl⟩ : ∃ q : Nat, c = Int.ofNat q := ⟨c.toNat, (Int.toNat_of_nonneg k3).symm⟩
    have hr : r < h := by have : (r : Int) < h := k2; omega
    have hc : c < w := by have : (c : Int) < w := k4; omega
    subst hC
    simp only [Bool.not_true, cond_false]
    rw [parted_eq (R := R) rfl hh hw hl hr hc]
    simp only [optK_s, num_eq hw hc, toNat_ofNat']
    have hn := num_le w c (by omega) n
    generalize num w c n = m at hn ⊢
    simp only [optK_s, cutTo]
    have hrl : (rowOf w l r).length = w := rowOf_length hl hr
    have hpl : (parted (rowOf w l r) c).length = w := by rw [parted_length, hrl]
    have e2 : IntKind.i64.wrap (Int.ofNat c + Int.ofNat m) = Int.ofNat (c + m) := wrap_add (by omega)
    simp only [e2, cutFrom]
    have b1 : bnds none (some (Int.ofNat c)) (parted (rowOf w l r) c).length = true := by rw [hpl]; simp [bnds]; omega
    have b2 : bnds (some (Int.ofNat (c + m))) none (parted (rowOf w l r) c).length = true := by rw [hpl]; simp [bnds]; omega
    rw [b1, b2, blanks_any (by omega)]
    simp only [optK_s]
    rw [inRow_congr (f := fun row => mend (delRow row c m (p0, p1, p2))) (g := fun _ => mend (delRow (rowOf w l r) c m (p0, p1, p2))) rfl]
    unfold delRow
    have la : ((parted (rowOf w l r) c).take c).length = c := by simp [hpl]; omega
    have lb : ((parted (rowOf w l r) c).drop (c + m)).length = w - m - c := by simp [hpl]; omega
    have lc : (List.replicate m ((32, 0, p0, p1, p2) : Cell)).length = m := by simp
    generalize (parted (rowOf w l r) c).take c = A at la ⊢
    generalize (parted (rowOf w l r) c).drop (c + m) = B at lb ⊢
    generalize List.replicate m ((32, 0, p0, p1, p2) : Cell) = D at lc ⊢
    have g0 : ∀ (d : (Row.one (CTy.slice rowC)).den), @List.getD (List Cell) [A, B, D] 0 d = A := fun _ => rfl
    have g1 : ∀ (d : (Row.one (CTy.slice rowC)).den), @List.getD (List Cell) [A, B, D] 1 d = B := fun _ => rfl
    have g2 : ∀ (d : (Row.one (CTy.slice rowC)).den), @List.getD (List Cell) [A, B, D] 2 d = D := fun _ => rfl
    simp only [g0, g1, g2, cond_true, Bool.and_true]
    have s1 : IntKind.i64.wrap (0 + Int.ofNat A.length) = Int.ofNat A.length := by rw [Int.zero_add, wrap_nat (by omega)]
    have s2 : IntKind.i64.wrap (Int.ofNat A.length + Int.ofNat B.length) = Int.ofNat (A.length + B.length) := wrap_add (by omega)
    have s3 : IntKind.i64.wrap (Int.ofNat (A.length + B.length) + Int.ofNat D.length) = Int.ofNat (A.length + B.length + D.length) := wrap_add (by omega)
    have s4 : IntKind.i64.wrap (Int.ofNat (A.length + B.length + D.length) - 0) = Int.ofNat (A.length + B.length + D.length) := by rw [Int.sub_zero, wrap_nat (by omega)]
    have n1 : ∀ q : Nat, decide (Int.ofNat q < 0) = false := fun q => by simp
    have p1 : decide (Int.ofNat (A.length + B.length + D.length) > 0) = true := by simp; omega
    have p2 : decide ((0 : Int) < Int.ofNat (A.length + B.length + D.length)) = true := by simp; omega
    have p3 : decide (Int.ofNat (A.length + B.length + D.length) ≤ 274877906944) = true := by simp; omega
    simp only [s1, s2, s3, s4, n1, p1, p2, p3, cond_true, cond_false, Bool.and_self, toNat_ofNat', getD_some']
    have r1 : ∀ q, rowN ((0 : Int), (0 : Int), (0 : Int), (0 : Int), (0 : Int)) q = List.replicate q dC := fun _ => rfl
    simp only [r1, show Int.toNat 0 = 0 from rfl, Nat.sub_self, Nat.add_zero, Nat.zero_add, List.drop_zero]
    have c1 : A.length.ble (List.replicate (A.length + B.length + D.length) dC).length = true := Nat.ble_eq_true_of_le (by simp; omega)
    have l1 : (splice (List.replicate (A.length + B.length + D.length) dC) 0 A).length = A.length + B.length + D.length := by rw [spl_length (by simp; omega)]; simp
    have l2 : (splice (splice (List.replicate (A.length + B.length + D.length) dC) 0 A) A.length B).length = A.length + B.length + D.length := by rw [spl_length (by rw [l1]; omega), l1]
    rw [c1, l1, l2, splice_all, Nat.ble_eq_true_of_le (show A.length + B.length ≤ A.length + B.length + D.length by omega), Nat.ble_eq_true_of_le (Nat.le_refl _)]
    rw [List.take_of_length_le (by simp; omega)]
    simp only [cond_true]
    rw [turned_eq rfl hh hw hl hr (by simp; omega)]
    rfl
  · rw [at_no k, if_neg k]
    have e : (l.length.ble 274877906944) = true := Nat.ble_eq_true_of_le (by rw [hl]; omega)
    rw [e]; rfl
end Go.Proofs.YtpneolkfeihkhaaAbs

/- Plain laws: rows into which blanks are put, out of which cells are taken: what they are, and that they are right. -/
namespace Go.Proofs.YtpneolkfeihkhaaAbs
set_option linter.unusedVariables false
set_option linter.unusedSimpArgs false
open Go Go.Proofs
theorem semi_parted {row : List Cell} (h : Semi row) (c : Nat) : Semi (parted row c) := by
  unfold parted
  split
  · refine semi_mix (by simp) h fun i hi => ?_
    have hi' : i < row.length := by simpa using hi
    rw [getD_set, getD_set]
    split
    · rename_i e
      obtain ⟨e, _⟩ := e
      subst e
      exact .inr ⟨cellS_blank (h _ hi').1.1, rfl⟩
    · split
      · rename_i e
        obtain ⟨e, _⟩ := e
        subst e
        exact .inr ⟨cellS_blank (h _ hi').1.1, rfl⟩
      · exact .inl rfl
  · exact h
theorem kd_left {row : List Cell} (hR : rightR row) {c : Nat} (h0 : 0 < c) (hc : c < row.length) : kd (parted row c) (c - 1) ≠ 1 := by
  unfold parted
  split
  · rename_i e
    unfold kd
    rw [getD_set, if_neg (by omega), getD_set, if_pos ⟨rfl, by omega⟩]
    show (0 : Int) ≠ 1
    decide
  · rename_i e
    intro k
    have := (right_1 hR (i := c - 1) (by omega) k).2
    rw [show c - 1 + 1 = c by omega] at this
    exact e ⟨this, h0⟩
theorem semi_insRow {row : List Cell} (hS : Semi row) {c n : Nat} {p : Pen} (hp : rightPen p) : Semi (insRow row c n p) := by
  unfold insRow
  have hP := semi_parted hS c
  rcases Nat.eq_zero_or_pos n with k | k
  · subst k
    have e : (parted row c).take c ++ List.replicate 0 ((32, 0, p) : Cell) ++ ((parted row c).drop c).take (row.length - 0 - c) = parted row c := by
      rw [List.replicate_zero, List.append_nil, List.take_of_length_le (l := List.drop c (parted row c)) (by simp [parted_length]), List.take_append_drop]
    rw [e]; exact hP
  · refine semi_append (semi_append_rep (semi_take hP c) n hp) (semi_take (semi_drop hP c) _) fun h1 h2 => ?_
    intro k1
    rw [List.length_append, List.length_replicate, getD_append_r _ (by omega), getD_rep _ _ (by omega)] at k1
    exact absurd k1 (by show ¬ (0 : Int) = 1; decide)
theorem semi_delRow {row : List Cell} (hR : rightR row) (hS : Semi row) {c n : Nat} (hc : c < row.length) {p : Pen} (hp : rightPen p) : Semi (delRow row c n p) := by
  unfold delRow
  have hP := semi_parted hS c
  refine semi_append_rep (semi_append (semi_take hP c) (semi_drop hP _) fun h1 h2 => ?_) n hp
  intro k1
  have hlen : (List.take c (parted row c)).length = c := by simp [parted_length]; omega
  rw [hlen] at h1 k1
  rw [getD_take _ (by omega)] at k1
  exact absurd k1 (kd_left hR (by omega) hc)
theorem GG.ins {h w : Nat} {l : List Cell} (k : GG h w l) (r c n : Int) {p : Pen} (hp : rightPen p) : GG h w (insG h w l r c n p) := by
  unfold insG
  split
  · rename_i hn
    have hr : r.toNat < h := by omega
    have hl := rowOf_length k.1.1 hr
    have hnum := num_le w c.toNat (by omega) n
    exact k.inRow hr (by rw [mend_length, insRow_length (by omega), hl]) (right_mend _) (semi_mend (semi_insRow (k.2 _ hr) hp))
  · exact k
theorem GG.del {h w : Nat} {l : List Cell} (k : GG h w l) (r c n : Int) {p : Pen} (hp : rightPen p) : GG h w (delG h w l r c n p) := by
  unfold delG
  split
  · rename_i hn
    have hr : r.toNat < h := by omega
    have hl := rowOf_length k.1.1 hr
    have hnum := num_le w c.toNat (by omega) n
    exact k.inRow hr (by rw [mend_length, delRow_length (by omega), hl]) (right_mend _) (semi_mend (semi_delRow (k.1.2 _ hr) (k.2 _ hr) (by omega) hp))
  · exact k
end Go.Proofs.YtpneolkfeihkhaaAbs
