/- Texts of this session, joined (bundle2.py): D8, WEditParts, WEditPartsC, AbsOpen. -/
import Derived.ProofKit
import Derived.Deep.Slices
import Derived.WideShapes
import Derived.ChangeArms
import Derived.DataReads
import Derived.DataElems
import Derived.OpenShut
import Derived.Test.YtpneolkfeihkhaaBunA4
-- Written by a program of this session (dec.py); Lean checks it.
namespace Go.Proofs.YtpneolkfeihkhaaAbs
open Go Go.Proofs
set_option linter.unusedVariables false
set_option maxHeartbeats 2000000
set_option maxRecDepth 100000
noncomputable def linguistlaw8_EditParts_su : SumT := (16, sumH linguistkeep_Grid_Grid_A linguistkeep_Grid_Grid_B true linguistkeep_Grid_Grid_G) :: (17, sumH linguistkeep_Pen_Pen_A linguistkeep_Pen_Pen_B true linguistkeep_Pen_Pen_G) :: (18, sumH grid_At_A grid_At_B true grid_At_G) :: (10, sumH grid_Put_A grid_Put_B true grid_Put_G) :: (19, sumH linguistbook_Within_A linguistbook_Within_B true linguistbook_Within_G) :: (11, sumH edit_Up_A edit_Up_B false edit_Up_G) :: (20, sumH edit_Down_A edit_Down_B false edit_Down_G) :: (13, sumH edit_Insert_A edit_Insert_B false edit_Insert_G) :: (15, sumH edit_Delete_A edit_Delete_B false edit_Delete_G) :: (21, sumH edit_Line_A edit_Line_B false edit_Line_G) :: (22, sumH grid_Same_A grid_Same_B true grid_Same_G) :: (3, sumH linguistlaw8_EditRuns_A linguistlaw8_EditRuns_B true linguistlaw8_EditRuns_G) :: sums0
theorem linguistlaw8_EditParts_su_ok : AllSum Try.prog linguistlaw8_EditParts_su := ⟨sumH_ok rfl rfl linguistkeep_Grid_Grid_known, ⟨sumH_ok rfl rfl linguistkeep_Pen_Pen_known, ⟨sumH_ok rfl rfl grid_At_known, ⟨sumH_ok rfl rfl grid_Put_known, ⟨sumH_ok rfl rfl linguistbook_Within_known, ⟨sumH_ok rfl rfl edit_Up_known, ⟨sumH_ok rfl rfl edit_Down_known, ⟨sumH_ok rfl rfl edit_Insert_known, ⟨sumH_ok rfl rfl edit_Delete_known, ⟨sumH_ok rfl rfl edit_Line_known, ⟨sumH_ok rfl rfl grid_Same_known, ⟨sumH_ok rfl rfl linguistlaw8_EditRuns_known, sums0_ok⟩⟩⟩⟩⟩⟩⟩⟩⟩⟩⟩⟩
noncomputable def linguistlaw8_EditParts_c6 : Code := ((Try.f4.body.map fun b => loopsAt b 6).getD []).headD .skip
theorem linguistlaw8_EditParts_c6_is : (Try.f4.body.map fun b => loopsAt b 6) = some [linguistlaw8_EditParts_c6] := by kernel_rfl
noncomputable def linguistlaw8_EditParts_s6 : SkSt := ⟨(.gap 1 (.cons (.int .i64) (.cons (.int .i64) (.gap 6 (.cst (.ptr 0 0) (.cst (.ptr 1 0) (.cons (.int .i64) (.cons (.int .i64) (.gap 137 .nil))))))))), (.var 27 (.cons (.int .i64) (.cons (.int .i64) (.cons (.list (.cons (.int .i32) (.cons (.int .i64) (.cons (.int .i64) (.cons (.int .i64) (.one (.int .i64))))))) .nil))) (.var 23 (.cons (.int .i64) (.cons (.int .i64) (.cons (.int .i64) .nil))) .nil))⟩
noncomputable def linguistlaw8_EditParts_x6_0 : SkSt := ⟨(.gap 1 (.cons (.int .i64) (.cons (.int .i64) (.gap 6 (.cst (.ptr 0 0) (.cst (.ptr 1 0) (.cons (.int .i64) (.gap 138 .nil)))))))), (.var 27 (.cons (.int .i64) (.cons (.int .i64) (.cons (.list (.cons (.int .i32) (.cons (.int .i64) (.cons (.int .i64) (.cons (.int .i64) (.one (.int .i64))))))) .nil))) (.var 23 (.cons (.int .i64) (.cons (.int .i64) (.cons (.int .i64) .nil))) .nil))⟩
noncomputable def linguistlaw8_EditParts_xs6 : List (Ex × SkSt) := [(.exit 2, linguistlaw8_EditParts_x6_0)]
noncomputable def linguistlaw8_EditParts_L6 : Nat → Int → Int → Int → Int → Int → Int → List (Int × Int × Int × Int × Int) → Int → Int → Int → Option (Int × Int × Int × Int × Int × (List (Int × Int × Int × Int × Int)) × Int × Int × Int)
  | 0, _, _, _, _, _, _, _, _, _, _ => none
  | n + 1, a0, a1, a2, a3, a4, a5, a6, a7, a8, a9 => (bif (decide (a3 < a5)) then (optK ((hide grid_At_F a4 a5 a6 a2 a3)) fun y4 => (bif (y4.2.1 != (0 : Int)) then (optK ((hide grid_Put_F a4 a5 a6 a2 a3 (119 : Int) y4.2.2.1 y4.2.2.2.1 y4.2.2.2.2.1)) fun y5 => (linguistlaw8_EditParts_L6 n a0 a1 a2 (IntKind.i64.wrap (a3 + (1 : Int))) (y5.1) (y5.2.1) (y5.2.2) a7 a8 a9)) else (linguistlaw8_EditParts_L6 n a0 a1 a2 (IntKind.i64.wrap (a3 + (1 : Int))) a4 a5 a6 a7 a8 a9))) else (some (a0, a1, a2, a4, a5, a6, a7, a8, a9)))
noncomputable def linguistlaw8_EditParts_I6 {R : Type} (K : Ex → St → Option R) : Nat → St → Option R := iterN (exec (envL linguistlaw8_EditParts_su ll0 cs0 (fun _ _ => false)) 4 (acall (envL linguistlaw8_EditParts_su ll0 cs0 (fun _ _ => false)) 1000) 0 linguistlaw8_EditParts_c6) (normTo linguistlaw8_EditParts_s6 0) (exitK linguistlaw8_EditParts_xs6 0 K)
noncomputable def linguistlaw8_EditParts_m6 {R : Type} (K : Ex → St → Option R) (o : Option (Int × Int × Int × Int × Int × (List (Int × Int × Int × Int × Int)) × Int × Int × Int)) : Option R := optK o fun y => K (.exit 2) (linguistlaw8_EditParts_x6_0.enc ((y.1, (y.2.1, (y.2.2.1, ()))), ((y.2.2.2.1, (y.2.2.2.2.1, (y.2.2.2.2.2.1, ()))), ((y.2.2.2.2.2.2.1, (y.2.2.2.2.2.2.2.1, (y.2.2.2.2.2.2.2.2, ()))), ()))))
theorem linguistlaw8_EditParts_l6 {R : Type} (K : Ex → St → Option R) : ∀ (n : Nat), ∀ (a0 : Int) (a1 : Int) (a2 : Int) (a3 : Int) (a4 : Int) (a5 : Int) (a6 : List (Int × Int × Int × Int × Int)) (a7 : Int) (a8 : Int) (a9 : Int), linguistlaw8_EditParts_I6 K n (linguistlaw8_EditParts_s6.enc ((a0, (a1, (a2, (a3, ())))), ((a4, (a5, (a6, ()))), ((a7, (a8, (a9, ()))), ())))) = linguistlaw8_EditParts_m6 K (linguistlaw8_EditParts_L6 n a0 a1 a2 a3 a4 a5 a6 a7 a8 a9) := by
  intro n
  induction n with
  | zero => intros; rfl
  | succ n ih =>
    intro a0 a1 a2 a3 a4 a5 a6 a7 a8 a9
    rw [linguistlaw8_EditParts_L6]
    exact Eq.trans (by kernel_rfl) (cond_push (linguistlaw8_EditParts_m6 K) _ (optK_push (linguistlaw8_EditParts_m6 K) rfl _ fun y4 => (cond_push (linguistlaw8_EditParts_m6 K) _ (optK_push (linguistlaw8_EditParts_m6 K) rfl _ fun y5 => (ih a0 a1 a2 (IntKind.i64.wrap (a3 + (1 : Int))) (y5.1) (y5.2.1) (y5.2.2) a7 a8 a9)) (ih a0 a1 a2 (IntKind.i64.wrap (a3 + (1 : Int))) a4 a5 a6 a7 a8 a9))) rfl)
def linguistlaw8_EditParts_fu6 (a0 : Int) (a1 : Int) (a2 : Int) (a3 : Int) (a4 : Int) (a5 : Int) (a6 : List (Int × Int × Int × Int × Int)) (a7 : Int) (a8 : Int) (a9 : Int) : Nat := Int.natAbs a0 + Int.natAbs a1 + Int.natAbs a2 + Int.natAbs a3 + Int.natAbs a4 + Int.natAbs a5 + List.length a6 + Int.natAbs a7 + Int.natAbs a8 + Int.natAbs a9 + 5000
noncomputable def linguistlaw8_EditParts_G6 : GoL linguistlaw8_EditParts_s6 := fun R (x : ((Int × (Int × (Int × (Int × Unit)))) × ((Int × (Int × (List (Int × Int × Int × Int × Int) × Unit))) × ((Int × (Int × (Int × Unit))) × Unit)))) K => linguistlaw8_EditParts_m6 K (hide linguistlaw8_EditParts_L6 (linguistlaw8_EditParts_fu6 x.1.1 x.1.2.1 x.1.2.2.1 x.1.2.2.2.1 x.2.1.1 x.2.1.2.1 x.2.1.2.2.1 x.2.2.1.1 x.2.2.1.2.1 x.2.2.1.2.2.1) x.1.1 x.1.2.1 x.1.2.2.1 x.1.2.2.2.1 x.2.1.1 x.2.1.2.1 x.2.1.2.2.1 x.2.2.1.1 x.2.2.1.2.1 x.2.2.1.2.2.1)
theorem linguistlaw8_EditParts_H6 : LoopOk Try.prog 4 6 (loopH linguistlaw8_EditParts_s6 0 linguistlaw8_EditParts_G6) := loop_known (envL_ok linguistlaw8_EditParts_su_ok ll0_ok cs0_ok) Try.func4 rfl linguistlaw8_EditParts_c6_is (xs := linguistlaw8_EditParts_xs6) (fuel := fun (x : ((Int × (Int × (Int × (Int × Unit)))) × ((Int × (Int × (List (Int × Int × Int × Int × Int) × Unit))) × ((Int × (Int × (Int × Unit))) × Unit)))) => linguistlaw8_EditParts_fu6 x.1.1 x.1.2.1 x.1.2.2.1 x.1.2.2.2.1 x.2.1.1 x.2.1.2.1 x.2.1.2.2.1 x.2.2.1.1 x.2.2.1.2.1 x.2.2.1.2.2.1) fun R (x : ((Int × (Int × (Int × (Int × Unit)))) × ((Int × (Int × (List (Int × Int × Int × Int × Int) × Unit))) × ((Int × (Int × (Int × Unit))) × Unit)))) K => by
  show linguistlaw8_EditParts_m6 K (hide linguistlaw8_EditParts_L6 (linguistlaw8_EditParts_fu6 x.1.1 x.1.2.1 x.1.2.2.1 x.1.2.2.2.1 x.2.1.1 x.2.1.2.1 x.2.1.2.2.1 x.2.2.1.1 x.2.2.1.2.1 x.2.2.1.2.2.1) x.1.1 x.1.2.1 x.1.2.2.1 x.1.2.2.2.1 x.2.1.1 x.2.1.2.1 x.2.1.2.2.1 x.2.2.1.1 x.2.2.1.2.1 x.2.2.1.2.2.1) = _
  rw [hide_eq]
  exact (linguistlaw8_EditParts_l6 K (linguistlaw8_EditParts_fu6 x.1.1 x.1.2.1 x.1.2.2.1 x.1.2.2.2.1 x.2.1.1 x.2.1.2.1 x.2.1.2.2.1 x.2.2.1.1 x.2.2.1.2.1 x.2.2.1.2.2.1) x.1.1 x.1.2.1 x.1.2.2.1 x.1.2.2.2.1 x.2.1.1 x.2.1.2.1 x.2.1.2.2.1 x.2.2.1.1 x.2.2.1.2.1 x.2.2.1.2.2.1).symm
noncomputable def linguistlaw8_EditParts_h6 : LoopF := loopH linguistlaw8_EditParts_s6 0 linguistlaw8_EditParts_G6
noncomputable def linguistlaw8_EditParts_ll1 : LoopT := ((4, 6), linguistlaw8_EditParts_h6) :: ll0
theorem linguistlaw8_EditParts_ll1_ok : AllLoop Try.prog linguistlaw8_EditParts_ll1 := ⟨linguistlaw8_EditParts_H6, ll0_ok⟩
noncomputable def linguistlaw8_EditParts_c3 : Code := ((Try.f4.body.map fun b => loopsAt b 3).getD []).headD .skip
theorem linguistlaw8_EditParts_c3_is : (Try.f4.body.map fun b => loopsAt b 3) = some [linguistlaw8_EditParts_c3] := by kernel_rfl
noncomputable def linguistlaw8_EditParts_s3 : SkSt := ⟨(.gap 1 (.cons (.int .i64) (.cons (.int .i64) (.gap 6 (.cst (.ptr 0 0) (.cst (.ptr 1 0) (.cons (.int .i64) (.gap 138 .nil)))))))), (.var 27 (.cons (.int .i64) (.cons (.int .i64) (.cons (.list (.cons (.int .i32) (.cons (.int .i64) (.cons (.int .i64) (.cons (.int .i64) (.one (.int .i64))))))) .nil))) (.var 23 (.cons (.int .i64) (.cons (.int .i64) (.cons (.int .i64) .nil))) .nil))⟩
noncomputable def linguistlaw8_EditParts_x3_0 : SkSt := ⟨(.gap 1 (.cons (.int .i64) (.cons (.int .i64) (.gap 6 (.cst (.ptr 0 0) (.cst (.ptr 1 0) (.gap 139 .nil))))))), (.var 27 (.cons (.int .i64) (.cons (.int .i64) (.cons (.list (.cons (.int .i32) (.cons (.int .i64) (.cons (.int .i64) (.cons (.int .i64) (.one (.int .i64))))))) .nil))) (.var 23 (.cons (.int .i64) (.cons (.int .i64) (.cons (.int .i64) .nil))) .nil))⟩
noncomputable def linguistlaw8_EditParts_xs3 : List (Ex × SkSt) := [(.exit 0, linguistlaw8_EditParts_x3_0)]
noncomputable def linguistlaw8_EditParts_L3 : Nat → Int → Int → Int → Int → Int → List (Int × Int × Int × Int × Int) → Int → Int → Int → Option (Int × Int × Int × Int × (List (Int × Int × Int × Int × Int)) × Int × Int × Int)
  | 0, _, _, _, _, _, _, _, _, _ => none
  | n + 1, a0, a1, a2, a3, a4, a5, a6, a7, a8 => (bif (decide (a2 < a3)) then (optK (hide linguistlaw8_EditParts_L6 (linguistlaw8_EditParts_fu6 a0 a1 a2 (0 : Int) a3 a4 a5 a6 a7 a8) a0 a1 a2 (0 : Int) a3 a4 a5 a6 a7 a8) fun y7 => (linguistlaw8_EditParts_L3 n (y7.1) (y7.2.1) (IntKind.i64.wrap (y7.2.2.1 + (1 : Int))) (y7.2.2.2.1) (y7.2.2.2.2.1) (y7.2.2.2.2.2.1) (y7.2.2.2.2.2.2.1) (y7.2.2.2.2.2.2.2.1) (y7.2.2.2.2.2.2.2.2))) else (some (a0, a1, a3, a4, a5, a6, a7, a8)))
noncomputable def linguistlaw8_EditParts_I3 {R : Type} (K : Ex → St → Option R) : Nat → St → Option R := iterN (exec (envL linguistlaw8_EditParts_su linguistlaw8_EditParts_ll1 cs0 (fun _ _ => false)) 4 (acall (envL linguistlaw8_EditParts_su linguistlaw8_EditParts_ll1 cs0 (fun _ _ => false)) 1000) 0 linguistlaw8_EditParts_c3) (normTo linguistlaw8_EditParts_s3 0) (exitK linguistlaw8_EditParts_xs3 0 K)
noncomputable def linguistlaw8_EditParts_m3 {R : Type} (K : Ex → St → Option R) (o : Option (Int × Int × Int × Int × (List (Int × Int × Int × Int × Int)) × Int × Int × Int)) : Option R := optK o fun y => K (.exit 0) (linguistlaw8_EditParts_x3_0.enc ((y.1, (y.2.1, ())), ((y.2.2.1, (y.2.2.2.1, (y.2.2.2.2.1, ()))), ((y.2.2.2.2.2.1, (y.2.2.2.2.2.2.1, (y.2.2.2.2.2.2.2, ()))), ()))))
theorem linguistlaw8_EditParts_l3 {R : Type} (K : Ex → St → Option R) : ∀ (n : Nat), ∀ (a0 : Int) (a1 : Int) (a2 : Int) (a3 : Int) (a4 : Int) (a5 : List (Int × Int × Int × Int × Int)) (a6 : Int) (a7 : Int) (a8 : Int), linguistlaw8_EditParts_I3 K n (linguistlaw8_EditParts_s3.enc ((a0, (a1, (a2, ()))), ((a3, (a4, (a5, ()))), ((a6, (a7, (a8, ()))), ())))) = linguistlaw8_EditParts_m3 K (linguistlaw8_EditParts_L3 n a0 a1 a2 a3 a4 a5 a6 a7 a8) := by
  intro n
  induction n with
  | zero => intros; rfl
  | succ n ih =>
    intro a0 a1 a2 a3 a4 a5 a6 a7 a8
    rw [linguistlaw8_EditParts_L3]
    exact Eq.trans (by kernel_rfl) (cond_push (linguistlaw8_EditParts_m3 K) _ (optK_push (linguistlaw8_EditParts_m3 K) rfl _ fun y7 => (ih (y7.1) (y7.2.1) (IntKind.i64.wrap (y7.2.2.1 + (1 : Int))) (y7.2.2.2.1) (y7.2.2.2.2.1) (y7.2.2.2.2.2.1) (y7.2.2.2.2.2.2.1) (y7.2.2.2.2.2.2.2.1) (y7.2.2.2.2.2.2.2.2))) rfl)
def linguistlaw8_EditParts_fu3 (a0 : Int) (a1 : Int) (a2 : Int) (a3 : Int) (a4 : Int) (a5 : List (Int × Int × Int × Int × Int)) (a6 : Int) (a7 : Int) (a8 : Int) : Nat := Int.natAbs a0 + Int.natAbs a1 + Int.natAbs a2 + Int.natAbs a3 + Int.natAbs a4 + List.length a5 + Int.natAbs a6 + Int.natAbs a7 + Int.natAbs a8 + 5000
noncomputable def linguistlaw8_EditParts_G3 : GoL linguistlaw8_EditParts_s3 := fun R (x : ((Int × (Int × (Int × Unit))) × ((Int × (Int × (List (Int × Int × Int × Int × Int) × Unit))) × ((Int × (Int × (Int × Unit))) × Unit)))) K => linguistlaw8_EditParts_m3 K (hide linguistlaw8_EditParts_L3 (linguistlaw8_EditParts_fu3 x.1.1 x.1.2.1 x.1.2.2.1 x.2.1.1 x.2.1.2.1 x.2.1.2.2.1 x.2.2.1.1 x.2.2.1.2.1 x.2.2.1.2.2.1) x.1.1 x.1.2.1 x.1.2.2.1 x.2.1.1 x.2.1.2.1 x.2.1.2.2.1 x.2.2.1.1 x.2.2.1.2.1 x.2.2.1.2.2.1)
theorem linguistlaw8_EditParts_H3 : LoopOk Try.prog 4 3 (loopH linguistlaw8_EditParts_s3 0 linguistlaw8_EditParts_G3) := loop_known (envL_ok linguistlaw8_EditParts_su_ok linguistlaw8_EditParts_ll1_ok cs0_ok) Try.func4 rfl linguistlaw8_EditParts_c3_is (xs := linguistlaw8_EditParts_xs3) (fuel := fun (x : ((Int × (Int × (Int × Unit))) × ((Int × (Int × (List (Int × Int × Int × Int × Int) × Unit))) × ((Int × (Int × (Int × Unit))) × Unit)))) => linguistlaw8_EditParts_fu3 x.1.1 x.1.2.1 x.1.2.2.1 x.2.1.1 x.2.1.2.1 x.2.1.2.2.1 x.2.2.1.1 x.2.2.1.2.1 x.2.2.1.2.2.1) fun R (x : ((Int × (Int × (Int × Unit))) × ((Int × (Int × (List (Int × Int × Int × Int × Int) × Unit))) × ((Int × (Int × (Int × Unit))) × Unit)))) K => by
  show linguistlaw8_EditParts_m3 K (hide linguistlaw8_EditParts_L3 (linguistlaw8_EditParts_fu3 x.1.1 x.1.2.1 x.1.2.2.1 x.2.1.1 x.2.1.2.1 x.2.1.2.2.1 x.2.2.1.1 x.2.2.1.2.1 x.2.2.1.2.2.1) x.1.1 x.1.2.1 x.1.2.2.1 x.2.1.1 x.2.1.2.1 x.2.1.2.2.1 x.2.2.1.1 x.2.2.1.2.1 x.2.2.1.2.2.1) = _
  rw [hide_eq]
  exact (linguistlaw8_EditParts_l3 K (linguistlaw8_EditParts_fu3 x.1.1 x.1.2.1 x.1.2.2.1 x.2.1.1 x.2.1.2.1 x.2.1.2.2.1 x.2.2.1.1 x.2.2.1.2.1 x.2.2.1.2.2.1) x.1.1 x.1.2.1 x.1.2.2.1 x.2.1.1 x.2.1.2.1 x.2.1.2.2.1 x.2.2.1.1 x.2.2.1.2.1 x.2.2.1.2.2.1).symm
noncomputable def linguistlaw8_EditParts_h3 : LoopF := loopH linguistlaw8_EditParts_s3 0 linguistlaw8_EditParts_G3
noncomputable def linguistlaw8_EditParts_ll2 : LoopT := ((4, 3), linguistlaw8_EditParts_h3) :: linguistlaw8_EditParts_ll1
theorem linguistlaw8_EditParts_ll2_ok : AllLoop Try.prog linguistlaw8_EditParts_ll2 := ⟨linguistlaw8_EditParts_H3, linguistlaw8_EditParts_ll1_ok⟩
noncomputable def linguistlaw8_EditParts_c14 : Code := ((Try.f4.body.map fun b => loopsAt b 14).getD []).headD .skip
theorem linguistlaw8_EditParts_c14_is : (Try.f4.body.map fun b => loopsAt b 14) = some [linguistlaw8_EditParts_c14] := by kernel_rfl
noncomputable def linguistlaw8_EditParts_s14 : SkSt := ⟨(.gap 9 (.cst (.ptr 0 0) (.cst (.ptr 1 0) (.gap 4 (.cons (.int .i64) (.cons (.int .i64) (.cst (.ptr 2 0) (.cst (.ptr 3 0) (.cst (.ptr 4 0) (.cst (.ptr 5 0) (.gap 44 (.cons (.int .i64) (.cons (.int .i64) (.gap 83 .nil)))))))))))))), (.var 27 (.cons (.int .i64) (.cons (.int .i64) (.cons (.list (.cons (.int .i32) (.cons (.int .i64) (.cons (.int .i64) (.cons (.int .i64) (.one (.int .i64))))))) .nil))) (.var 23 (.cons (.int .i64) (.cons (.int .i64) (.cons (.int .i64) .nil))) (.var 27 (.cons (.int .i64) (.cons (.int .i64) (.cons (.list (.cons (.int .i32) (.cons (.int .i64) (.cons (.int .i64) (.cons (.int .i64) (.one (.int .i64))))))) .nil))) (.var 27 (.cons (.int .i64) (.cons (.int .i64) (.cons (.list (.cons (.int .i32) (.cons (.int .i64) (.cons (.int .i64) (.cons (.int .i64) (.one (.int .i64))))))) .nil))) (.var 27 (.cons (.int .i64) (.cons (.int .i64) (.cons (.list (.cons (.int .i32) (.cons (.int .i64) (.cons (.int .i64) (.cons (.int .i64) (.one (.int .i64))))))) .nil))) (.var 27 (.cons (.int .i64) (.cons (.int .i64) (.cons (.list (.cons (.int .i32) (.cons (.int .i64) (.cons (.int .i64) (.cons (.int .i64) (.one (.int .i64))))))) .nil))) .nil))))))⟩
noncomputable def linguistlaw8_EditParts_x14_0 : SkSt := ⟨(.gap 9 (.cst (.ptr 0 0) (.cst (.ptr 1 0) (.gap 4 (.cons (.int .i64) (.cons (.int .i64) (.cst (.ptr 2 0) (.cst (.ptr 3 0) (.cst (.ptr 4 0) (.cst (.ptr 5 0) (.gap 129 .nil))))))))))), (.var 27 (.cons (.int .i64) (.cons (.int .i64) (.cons (.list (.cons (.int .i32) (.cons (.int .i64) (.cons (.int .i64) (.cons (.int .i64) (.one (.int .i64))))))) .nil))) (.var 23 (.cons (.int .i64) (.cons (.int .i64) (.cons (.int .i64) .nil))) (.var 27 (.cons (.int .i64) (.cons (.int .i64) (.cons (.list (.cons (.int .i32) (.cons (.int .i64) (.cons (.int .i64) (.cons (.int .i64) (.one (.int .i64))))))) .nil))) (.var 27 (.cons (.int .i64) (.cons (.int .i64) (.cons (.list (.cons (.int .i32) (.cons (.int .i64) (.cons (.int .i64) (.cons (.int .i64) (.one (.int .i64))))))) .nil))) (.var 27 (.cons (.int .i64) (.cons (.int .i64) (.cons (.list (.cons (.int .i32) (.cons (.int .i64) (.cons (.int .i64) (.cons (.int .i64) (.one (.int .i64))))))) .nil))) (.var 27 (.cons (.int .i64) (.cons (.int .i64) (.cons (.list (.cons (.int .i32) (.cons (.int .i64) (.cons (.int .i64) (.cons (.int .i64) (.one (.int .i64))))))) .nil))) .nil))))))⟩
noncomputable def linguistlaw8_EditParts_xs14 : List (Ex × SkSt) := [(.exit 4, linguistlaw8_EditParts_x14_0)]
noncomputable def linguistlaw8_EditParts_L14 : Nat → Int → Int → Int → Int → Int → Int → List (Int × Int × Int × Int × Int) → Int → Int → Int → Int → Int → List (Int × Int × Int × Int × Int) → Int → Int → List (Int × Int × Int × Int × Int) → Int → Int → List (Int × Int × Int × Int × Int) → Int → Int → List (Int × Int × Int × Int × Int) → Option (Int × Int × Int × Int × (List (Int × Int × Int × Int × Int)) × Int × Int × Int × Int × Int × (List (Int × Int × Int × Int × Int)) × Int × Int × (List (Int × Int × Int × Int × Int)) × Int × Int × (List (Int × Int × Int × Int × Int)) × Int × Int × (List (Int × Int × Int × Int × Int)))
  | 0, _, _, _, _, _, _, _, _, _, _, _, _, _, _, _, _, _, _, _, _, _, _ => none
  | n + 1, a0, a1, a2, a3, a4, a5, a6, a7, a8, a9, a10, a11, a12, a13, a14, a15, a16, a17, a18, a19, a20, a21 => (bif (decide (a3 < a2)) then (optK ((hide edit_Up_F a10 a11 a12 (0 : Int) (IntKind.i64.wrap (a4 - (1 : Int))) (1 : Int) a7 a8 a9)) fun y15 => (optK ((hide edit_Down_F a13 a14 a15 (0 : Int) (IntKind.i64.wrap (a4 - (1 : Int))) (1 : Int) a7 a8 a9)) fun y16 => (optK ((hide edit_Insert_F a16 a17 a18 (0 : Int) a1 (1 : Int) a7 a8 a9)) fun y17 => (optK ((hide edit_Delete_F a19 a20 a21 (0 : Int) a1 (1 : Int) a7 a8 a9)) fun y18 => (linguistlaw8_EditParts_L14 n a0 a1 a2 (IntKind.i64.wrap (a3 + (1 : Int))) a4 a5 a6 a7 a8 a9 (y15.1) (y15.2.1) (y15.2.2) (y16.1) (y16.2.1) (y16.2.2) (y17.1) (y17.2.1) (y17.2.2) (y18.1) (y18.2.1) (y18.2.2)))))) else (some (a0, a1, a4, a5, a6, a7, a8, a9, a10, a11, a12, a13, a14, a15, a16, a17, a18, a19, a20, a21)))
noncomputable def linguistlaw8_EditParts_I14 {R : Type} (K : Ex → St → Option R) : Nat → St → Option R := iterN (exec (envL linguistlaw8_EditParts_su linguistlaw8_EditParts_ll2 cs0 (fun _ _ => false)) 4 (acall (envL linguistlaw8_EditParts_su linguistlaw8_EditParts_ll2 cs0 (fun _ _ => false)) 1000) 0 linguistlaw8_EditParts_c14) (normTo linguistlaw8_EditParts_s14 0) (exitK linguistlaw8_EditParts_xs14 0 K)
noncomputable def linguistlaw8_EditParts_m14 {R : Type} (K : Ex → St → Option R) (o : Option (Int × Int × Int × Int × (List (Int × Int × Int × Int × Int)) × Int × Int × Int × Int × Int × (List (Int × Int × Int × Int × Int)) × Int × Int × (List (Int × Int × Int × Int × Int)) × Int × Int × (List (Int × Int × Int × Int × Int)) × Int × Int × (List (Int × Int × Int × Int × Int)))) : Option R := optK o fun y => K (.exit 4) (linguistlaw8_EditParts_x14_0.enc ((y.1, (y.2.1, ())), ((y.2.2.1, (y.2.2.2.1, (y.2.2.2.2.1, ()))), ((y.2.2.2.2.2.1, (y.2.2.2.2.2.2.1, (y.2.2.2.2.2.2.2.1, ()))), ((y.2.2.2.2.2.2.2.2.1, (y.2.2.2.2.2.2.2.2.2.1, (y.2.2.2.2.2.2.2.2.2.2.1, ()))), ((y.2.2.2.2.2.2.2.2.2.2.2.1, (y.2.2.2.2.2.2.2.2.2.2.2.2.1, (y.2.2.2.2.2.2.2.2.2.2.2.2.2.1, ()))), ((y.2.2.2.2.2.2.2.2.2.2.2.2.2.2.1, (y.2.2.2.2.2.2.2.2.2.2.2.2.2.2.2.1, (y.2.2.2.2.2.2.2.2.2.2.2.2.2.2.2.2.1, ()))), ((y.2.2.2.2.2.2.2.2.2.2.2.2.2.2.2.2.2.1, (y.2.2.2.2.2.2.2.2.2.2.2.2.2.2.2.2.2.2.1, (y.2.2.2.2.2.2.2.2.2.2.2.2.2.2.2.2.2.2.2, ()))), ()))))))))
theorem linguistlaw8_EditParts_l14 {R : Type} (K : Ex → St → Option R) : ∀ (n : Nat), ∀ (a0 : Int) (a1 : Int) (a2 : Int) (a3 : Int) (a4 : Int) (a5 : Int) (a6 : List (Int × Int × Int × Int × Int)) (a7 : Int) (a8 : Int) (a9 : Int) (a10 : Int) (a11 : Int) (a12 : List (Int × Int × Int × Int × Int)) (a13 : Int) (a14 : Int) (a15 : List (Int × Int × Int × Int × Int)) (a16 : Int) (a17 : Int) (a18 : List (Int × Int × Int × Int × Int)) (a19 : Int) (a20 : Int) (a21 : List (Int × Int × Int × Int × Int)), linguistlaw8_EditParts_I14 K n (linguistlaw8_EditParts_s14.enc ((a0, (a1, (a2, (a3, ())))), ((a4, (a5, (a6, ()))), ((a7, (a8, (a9, ()))), ((a10, (a11, (a12, ()))), ((a13, (a14, (a15, ()))), ((a16, (a17, (a18, ()))), ((a19, (a20, (a21, ()))), ())))))))) = linguistlaw8_EditParts_m14 K (linguistlaw8_EditParts_L14 n a0 a1 a2 a3 a4 a5 a6 a7 a8 a9 a10 a11 a12 a13 a14 a15 a16 a17 a18 a19 a20 a21) := by
  intro n
  induction n with
  | zero => intros; rfl
  | succ n ih =>
    intro a0 a1 a2 a3 a4 a5 a6 a7 a8 a9 a10 a11 a12 a13 a14 a15 a16 a17 a18 a19 a20 a21
    rw [linguistlaw8_EditParts_L14]
    exact Eq.trans (by kernel_rfl) (cond_push (linguistlaw8_EditParts_m14 K) _ (optK_push (linguistlaw8_EditParts_m14 K) rfl _ fun y15 => (optK_push (linguistlaw8_EditParts_m14 K) rfl _ fun y16 => (optK_push (linguistlaw8_EditParts_m14 K) rfl _ fun y17 => (optK_push (linguistlaw8_EditParts_m14 K) rfl _ fun y18 => (ih a0 a1 a2 (IntKind.i64.wrap (a3 + (1 : Int))) a4 a5 a6 a7 a8 a9 (y15.1) (y15.2.1) (y15.2.2) (y16.1) (y16.2.1) (y16.2.2) (y17.1) (y17.2.1) (y17.2.2) (y18.1) (y18.2.1) (y18.2.2)))))) rfl)
def linguistlaw8_EditParts_fu14 (a0 : Int) (a1 : Int) (a2 : Int) (a3 : Int) (a4 : Int) (a5 : Int) (a6 : List (Int × Int × Int × Int × Int)) (a7 : Int) (a8 : Int) (a9 : Int) (a10 : Int) (a11 : Int) (a12 : List (Int × Int × Int × Int × Int)) (a13 : Int) (a14 : Int) (a15 : List (Int × Int × Int × Int × Int)) (a16 : Int) (a17 : Int) (a18 : List (Int × Int × Int × Int × Int)) (a19 : Int) (a20 : Int) (a21 : List (Int × Int × Int × Int × Int)) : Nat := Int.natAbs a0 + Int.natAbs a1 + Int.natAbs a2 + Int.natAbs a3 + Int.natAbs a4 + Int.natAbs a5 + List.length a6 + Int.natAbs a7 + Int.natAbs a8 + Int.natAbs a9 + Int.natAbs a10 + Int.natAbs a11 + List.length a12 + Int.natAbs a13 + Int.natAbs a14 + List.length a15 + Int.natAbs a16 + Int.natAbs a17 + List.length a18 + Int.natAbs a19 + Int.natAbs a20 + List.length a21 + 5000
noncomputable def linguistlaw8_EditParts_G14 : GoL linguistlaw8_EditParts_s14 := fun R (x : ((Int × (Int × (Int × (Int × Unit)))) × ((Int × (Int × (List (Int × Int × Int × Int × Int) × Unit))) × ((Int × (Int × (Int × Unit))) × ((Int × (Int × (List (Int × Int × Int × Int × Int) × Unit))) × ((Int × (Int × (List (Int × Int × Int × Int × Int) × Unit))) × ((Int × (Int × (List (Int × Int × Int × Int × Int) × Unit))) × ((Int × (Int × (List (Int × Int × Int × Int × Int) × Unit))) × Unit)))))))) K => linguistlaw8_EditParts_m14 K (hide linguistlaw8_EditParts_L14 (linguistlaw8_EditParts_fu14 x.1.1 x.1.2.1 x.1.2.2.1 x.1.2.2.2.1 x.2.1.1 x.2.1.2.1 x.2.1.2.2.1 x.2.2.1.1 x.2.2.1.2.1 x.2.2.1.2.2.1 x.2.2.2.1.1 x.2.2.2.1.2.1 x.2.2.2.1.2.2.1 x.2.2.2.2.1.1 x.2.2.2.2.1.2.1 x.2.2.2.2.1.2.2.1 x.2.2.2.2.2.1.1 x.2.2.2.2.2.1.2.1 x.2.2.2.2.2.1.2.2.1 x.2.2.2.2.2.2.1.1 x.2.2.2.2.2.2.1.2.1 x.2.2.2.2.2.2.1.2.2.1) x.1.1 x.1.2.1 x.1.2.2.1 x.1.2.2.2.1 x.2.1.1 x.2.1.2.1 x.2.1.2.2.1 x.2.2.1.1 x.2.2.1.2.1 x.2.2.1.2.2.1 x.2.2.2.1.1 x.2.2.2.1.2.1 x.2.2.2.1.2.2.1 x.2.2.2.2.1.1 x.2.2.2.2.1.2.1 x.2.2.2.2.1.2.2.1 x.2.2.2.2.2.1.1 x.2.2.2.2.2.1.2.1 x.2.2.2.2.2.1.2.2.1 x.2.2.2.2.2.2.1.1 x.2.2.2.2.2.2.1.2.1 x.2.2.2.2.2.2.1.2.2.1)
theorem linguistlaw8_EditParts_H14 : LoopOk Try.prog 4 14 (loopH linguistlaw8_EditParts_s14 0 linguistlaw8_EditParts_G14) := loop_known (envL_ok linguistlaw8_EditParts_su_ok linguistlaw8_EditParts_ll2_ok cs0_ok) Try.func4 rfl linguistlaw8_EditParts_c14_is (xs := linguistlaw8_EditParts_xs14) (fuel := fun (x : ((Int × (Int × (Int × (Int × Unit)))) × ((Int × (Int × (List (Int × Int × Int × Int × Int) × Unit))) × ((Int × (Int × (Int × Unit))) × ((Int × (Int × (List (Int × Int × Int × Int × Int) × Unit))) × ((Int × (Int × (List (Int × Int × Int × Int × Int) × Unit))) × ((Int × (Int × (List (Int × Int × Int × Int × Int) × Unit))) × ((Int × (Int × (List (Int × Int × Int × Int × Int) × Unit))) × Unit)))))))) => linguistlaw8_EditParts_fu14 x.1.1 x.1.2.1 x.1.2.2.1 x.1.2.2.2.1 x.2.1.1 x.2.1.2.1 x.2.1.2.2.1 x.2.2.1.1 x.2.2.1.2.1 x.2.2.1.2.2.1 x.2.2.2.1.1 x.2.2.2.1.2.1 x.2.2.2.1.2.2.1 x.2.2.2.2.1.1 x.2.2.2.2.1.2.1 x.2.2.2.2.1.2.2.1 x.2.2.2.2.2.1.1 x.2.2.2.2.2.1.2.1 x.2.2.2.2.2.1.2.2.1 x.2.2.2.2.2.2.1.1 x.2.2.2.2.2.2.1.2.1 x.2.2.2.2.2.2.1.2.2.1) fun R (x : ((Int × (Int × (Int × (Int × Unit)))) × ((Int × (Int × (List (Int × Int × Int × Int × Int) × Unit))) × ((Int × (Int × (Int × Unit))) × ((Int × (Int × (List (Int × Int × Int × Int × Int) × Unit))) × ((Int × (Int × (List (Int × Int × Int × Int × Int) × Unit))) × ((Int × (Int × (List (Int × Int × Int × Int × Int) × Unit))) × ((Int × (Int × (List (Int × Int × Int × Int × Int) × Unit))) × Unit)))))))) K => by
  show linguistlaw8_EditParts_m14 K (hide linguistlaw8_EditParts_L14 (linguistlaw8_EditParts_fu14 x.1.1 x.1.2.1 x.1.2.2.1 x.1.2.2.2.1 x.2.1.1 x.2.1.2.1 x.2.1.2.2.1 x.2.2.1.1 x.2.2.1.2.1 x.2.2.1.2.2.1 x.2.2.2.1.1 x.2.2.2.1.2.1 x.2.2.2.1.2.2.1 x.2.2.2.2.1.1 x.2.2.2.2.1.2.1 x.2.2.2.2.1.2.2.1 x.2.2.2.2.2.1.1 x.2.2.2.2.2.1.2.1 x.2.2.2.2.2.1.2.2.1 x.2.2.2.2.2.2.1.1 x.2.2.2.2.2.2.1.2.1 x.2.2.2.2.2.2.1.2.2.1) x.1.1 x.1.2.1 x.1.2.2.1 x.1.2.2.2.1 x.2.1.1 x.2.1.2.1 x.2.1.2.2.1 x.2.2.1.1 x.2.2.1.2.1 x.2.2.1.2.2.1 x.2.2.2.1.1 x.2.2.2.1.2.1 x.2.2.2.1.2.2.1 x.2.2.2.2.1.1 x.2.2.2.2.1.2.1 x.2.2.2.2.1.2.2.1 x.2.2.2.2.2.1.1 x.2.2.2.2.2.1.2.1 x.2.2.2.2.2.1.2.2.1 x.2.2.2.2.2.2.1.1 x.2.2.2.2.2.2.1.2.1 x.2.2.2.2.2.2.1.2.2.1) = _
  rw [hide_eq]
  exact (linguistlaw8_EditParts_l14 K (linguistlaw8_EditParts_fu14 x.1.1 x.1.2.1 x.1.2.2.1 x.1.2.2.2.1 x.2.1.1 x.2.1.2.1 x.2.1.2.2.1 x.2.2.1.1 x.2.2.1.2.1 x.2.2.1.2.2.1 x.2.2.2.1.1 x.2.2.2.1.2.1 x.2.2.2.1.2.2.1 x.2.2.2.2.1.1 x.2.2.2.2.1.2.1 x.2.2.2.2.1.2.2.1 x.2.2.2.2.2.1.1 x.2.2.2.2.2.1.2.1 x.2.2.2.2.2.1.2.2.1 x.2.2.2.2.2.2.1.1 x.2.2.2.2.2.2.1.2.1 x.2.2.2.2.2.2.1.2.2.1) x.1.1 x.1.2.1 x.1.2.2.1 x.1.2.2.2.1 x.2.1.1 x.2.1.2.1 x.2.1.2.2.1 x.2.2.1.1 x.2.2.1.2.1 x.2.2.1.2.2.1 x.2.2.2.1.1 x.2.2.2.1.2.1 x.2.2.2.1.2.2.1 x.2.2.2.2.1.1 x.2.2.2.2.1.2.1 x.2.2.2.2.1.2.2.1 x.2.2.2.2.2.1.1 x.2.2.2.2.2.1.2.1 x.2.2.2.2.2.1.2.2.1 x.2.2.2.2.2.2.1.1 x.2.2.2.2.2.2.1.2.1 x.2.2.2.2.2.2.1.2.2.1).symm
noncomputable def linguistlaw8_EditParts_h14 : LoopF := loopH linguistlaw8_EditParts_s14 0 linguistlaw8_EditParts_G14
noncomputable def linguistlaw8_EditParts_ll3 : LoopT := ((4, 14), linguistlaw8_EditParts_h14) :: linguistlaw8_EditParts_ll2
theorem linguistlaw8_EditParts_ll3_ok : AllLoop Try.prog linguistlaw8_EditParts_ll3 := ⟨linguistlaw8_EditParts_H14, linguistlaw8_EditParts_ll2_ok⟩
noncomputable def linguistlaw8_EditParts_F (x0 : Int) (x1 : Int) (x2 : List (Int)) (x3 : List (Int)) (x4 : Int) (x5 : Int) (x6 : Int) (x7 : Int) (x8 : Int) : Option (Bool) := (optK ((hide linguistkeep_Grid_Grid_F x0 x1 x2 x3)) fun y0 => (optK ((hide linguistkeep_Pen_Pen_F x6 x7 x8)) fun y1 => (optK (hide linguistlaw8_EditParts_L3 (linguistlaw8_EditParts_fu3 x4 x5 (0 : Int) (y0.1) (y0.2.1) (y0.2.2) (y1.1) (y1.2.1) (y1.2.2)) x4 x5 (0 : Int) (y0.1) (y0.2.1) (y0.2.2) (y1.1) (y1.2.1) (y1.2.2)) fun y8 => (optK ((hide linguistbook_Within_F y8.2.1 (0 : Int) (6 : Int))) fun y9 => (optK ((hide linguistbook_Within_F y8.1 (0 : Int) (IntKind.i64.wrap (y8.2.2.2.1 - (1 : Int))))) fun y10 => (optK (hide linguistlaw8_EditParts_L14 (linguistlaw8_EditParts_fu14 y9 y10 y9 (0 : Int) (y8.2.2.1) (y8.2.2.2.1) (y8.2.2.2.2.1) (y8.2.2.2.2.2.1) (y8.2.2.2.2.2.2.1) (y8.2.2.2.2.2.2.2) (y8.2.2.1) (y8.2.2.2.1) (y8.2.2.2.2.1) (y8.2.2.1) (y8.2.2.2.1) (y8.2.2.2.2.1) (y8.2.2.1) (y8.2.2.2.1) (y8.2.2.2.2.1) (y8.2.2.1) (y8.2.2.2.1) (y8.2.2.2.2.1)) y9 y10 y9 (0 : Int) (y8.2.2.1) (y8.2.2.2.1) (y8.2.2.2.2.1) (y8.2.2.2.2.2.1) (y8.2.2.2.2.2.2.1) (y8.2.2.2.2.2.2.2) (y8.2.2.1) (y8.2.2.2.1) (y8.2.2.2.2.1) (y8.2.2.1) (y8.2.2.2.1) (y8.2.2.2.2.1) (y8.2.2.1) (y8.2.2.2.1) (y8.2.2.2.2.1) (y8.2.2.1) (y8.2.2.2.1) (y8.2.2.2.2.1)) fun y19 => (optK ((hide edit_Line_F y19.2.2.1 y19.2.2.2.1 y19.2.2.2.2.1 (0 : Int) y19.2.1 (0 : Int) y19.2.2.2.2.2.1 y19.2.2.2.2.2.2.1 y19.2.2.2.2.2.2.2.1)) fun y20 => (optK ((hide edit_Up_F y19.2.2.1 y19.2.2.2.1 y19.2.2.2.2.1 (0 : Int) (IntKind.i64.wrap (y19.2.2.1 - (1 : Int))) y19.1 y19.2.2.2.2.2.1 y19.2.2.2.2.2.2.1 y19.2.2.2.2.2.2.2.1)) fun y21 => (optK ((hide grid_Same_F y19.2.2.2.2.2.2.2.2.1 y19.2.2.2.2.2.2.2.2.2.1 y19.2.2.2.2.2.2.2.2.2.2.1 y21.1 y21.2.1 y21.2.2)) fun y22 => (bif y22 then (optK ((hide edit_Down_F y19.2.2.1 y19.2.2.2.1 y19.2.2.2.2.1 (0 : Int) (IntKind.i64.wrap (y19.2.2.1 - (1 : Int))) y19.1 y19.2.2.2.2.2.1 y19.2.2.2.2.2.2.1 y19.2.2.2.2.2.2.2.1)) fun y23 => (optK ((hide grid_Same_F y19.2.2.2.2.2.2.2.2.2.2.2.1 y19.2.2.2.2.2.2.2.2.2.2.2.2.1 y19.2.2.2.2.2.2.2.2.2.2.2.2.2.1 y23.1 y23.2.1 y23.2.2)) fun y24 => (bif y24 then (optK ((hide edit_Insert_F y19.2.2.1 y19.2.2.2.1 y19.2.2.2.2.1 (0 : Int) y19.2.1 y19.1 y19.2.2.2.2.2.1 y19.2.2.2.2.2.2.1 y19.2.2.2.2.2.2.2.1)) fun y25 => (optK ((hide grid_Same_F y19.2.2.2.2.2.2.2.2.2.2.2.2.2.2.1 y19.2.2.2.2.2.2.2.2.2.2.2.2.2.2.2.1 y19.2.2.2.2.2.2.2.2.2.2.2.2.2.2.2.2.1 y25.1 y25.2.1 y25.2.2)) fun y26 => (bif y26 then (optK ((hide edit_Delete_F y19.2.2.1 y19.2.2.2.1 y19.2.2.2.2.1 (0 : Int) y19.2.1 y19.1 y19.2.2.2.2.2.1 y19.2.2.2.2.2.2.1 y19.2.2.2.2.2.2.2.1)) fun y27 => (optK ((hide grid_Same_F y19.2.2.2.2.2.2.2.2.2.2.2.2.2.2.2.2.2.1 y19.2.2.2.2.2.2.2.2.2.2.2.2.2.2.2.2.2.2.1 y19.2.2.2.2.2.2.2.2.2.2.2.2.2.2.2.2.2.2.2 y27.1 y27.2.1 y27.2.2)) fun y28 => (bif y28 then (optK ((hide edit_Insert_F y19.2.2.1 y19.2.2.2.1 y19.2.2.2.2.1 (0 : Int) y19.2.1 (65535 : Int) y19.2.2.2.2.2.1 y19.2.2.2.2.2.2.1 y19.2.2.2.2.2.2.2.1)) fun y29 => (optK ((hide grid_Same_F y29.1 y29.2.1 y29.2.2 y20.1 y20.2.1 y20.2.2)) fun y30 => (bif y30 then (optK ((hide edit_Delete_F y19.2.2.1 y19.2.2.2.1 y19.2.2.2.2.1 (0 : Int) y19.2.1 (99 : Int) y19.2.2.2.2.2.1 y19.2.2.2.2.2.2.1 y19.2.2.2.2.2.2.2.1)) fun y31 => (optK ((hide grid_Same_F y31.1 y31.2.1 y31.2.2 y20.1 y20.2.1 y20.2.2)) fun y32 => (bif y32 then (some (true)) else (some (false))))) else (some (false))))) else (some (false))))) else (some (false))))) else (some (false))))) else (some (false))))))))))))
noncomputable def linguistlaw8_EditParts_A : SkL := (.cons (.agg (.cons (.int .i64) (.cons (.int .i64) (.cons (.list (.one (.int .i64))) (.cons (.list (.one (.int .i64))) .nil))))) (.cons (.int .i64) (.cons (.int .i64) (.cons (.agg (.cons (.int .i64) (.cons (.int .i64) (.cons (.int .i64) .nil)))) .nil))))
noncomputable def linguistlaw8_EditParts_B : Sk := .bool
def linguistlaw8_EditParts_m {R : Type} (K : Bool → Option R) (o : Option (Bool)) : Option R := optK o fun y => K y
theorem linguistlaw8_EditParts_run {R : Type} (x0 : Int) (x1 : Int) (x2 : List (Int)) (x3 : List (Int)) (x4 : Int) (x5 : Int) (x6 : Int) (x7 : Int) (x8 : Int) (K : Bool → Option R) : acall (envL linguistlaw8_EditParts_su linguistlaw8_EditParts_ll3 cs0 (fun _ _ => false)) 1000 4 (linguistlaw8_EditParts_A.enc ((x0, (x1, (x2, (x3, ())))), (x4, (x5, ((x6, (x7, (x8, ()))), ()))))) [] (resK linguistlaw8_EditParts_B true K) = linguistlaw8_EditParts_m K (linguistlaw8_EditParts_F x0 x1 x2 x3 x4 x5 x6 x7 x8) := by
  unfold linguistlaw8_EditParts_F
  exact Eq.trans (by kernel_rfl) (optK_push (linguistlaw8_EditParts_m K) rfl _ fun y0 => (optK_push (linguistlaw8_EditParts_m K) rfl _ fun y1 => (optK_push (linguistlaw8_EditParts_m K) rfl _ fun y8 => (optK_push (linguistlaw8_EditParts_m K) rfl _ fun y9 => (optK_push (linguistlaw8_EditParts_m K) rfl _ fun y10 => (optK_push (linguistlaw8_EditParts_m K) rfl _ fun y19 => (optK_push (linguistlaw8_EditParts_m K) rfl _ fun y20 => (optK_push (linguistlaw8_EditParts_m K) rfl _ fun y21 => (optK_push (linguistlaw8_EditParts_m K) rfl _ fun y22 => (cond_push (linguistlaw8_EditParts_m K) _ (optK_push (linguistlaw8_EditParts_m K) rfl _ fun y23 => (optK_push (linguistlaw8_EditParts_m K) rfl _ fun y24 => (cond_push (linguistlaw8_EditParts_m K) _ (optK_push (linguistlaw8_EditParts_m K) rfl _ fun y25 => (optK_push (linguistlaw8_EditParts_m K) rfl _ fun y26 => (cond_push (linguistlaw8_EditParts_m K) _ (optK_push (linguistlaw8_EditParts_m K) rfl _ fun y27 => (optK_push (linguistlaw8_EditParts_m K) rfl _ fun y28 => (cond_push (linguistlaw8_EditParts_m K) _ (optK_push (linguistlaw8_EditParts_m K) rfl _ fun y29 => (optK_push (linguistlaw8_EditParts_m K) rfl _ fun y30 => (cond_push (linguistlaw8_EditParts_m K) _ (optK_push (linguistlaw8_EditParts_m K) rfl _ fun y31 => (optK_push (linguistlaw8_EditParts_m K) rfl _ fun y32 => (cond_push (linguistlaw8_EditParts_m K) _ rfl rfl))) rfl))) rfl))) rfl))) rfl))) rfl))))))))))
end Go.Proofs.YtpneolkfeihkhaaAbs

/- EditParts: what the law's own program computes is true. -/
namespace Go.Proofs.YtpneolkfeihkhaaAbs
set_option linter.unusedVariables false
set_option linter.unusedSimpArgs false
set_option maxHeartbeats 4000000
set_option maxRecDepth 100000
open Go Go.Proofs
theorem at_cell {R C : Int} {h w : Nat} (hR : R = Int.ofNat h) (hC : C = Int.ofNat w) (hh : h ≤ 40) (hw : w ≤ 60) {l : List Cell} (hl : l.length = h * w) {y x : Nat} (hy : y < h) (hx : x < w) :
    hide grid_At_F R C l (Int.ofNat y) (Int.ofNat x) = some (((rowOf w l y).getD x dC).1, ((rowOf w l y).getD x dC).2.1, ((rowOf w l y).getD x dC).2.2.1, ((rowOf w l y).getD x dC).2.2.2.1, ((rowOf w l y).getD x dC).2.2.2.2, true) := by
  rw [at_eq hR hC hh hw hl, rowOf_getD hx]
  unfold at_
  rw [if_pos ⟨by show (0 : Int) ≤ (y : Int); omega, by show (y : Int) < (h : Int); omega, by show (0 : Int) ≤ (x : Int); omega, by show (x : Int) < (w : Int); omega⟩]
  rfl
/-- So far all cells are single. -/
def sg (h w : Nat) (g : List Cell) (r x : Nat) : Prop := ∀ y i, y < h → i < w → (y < r ∨ (y = r ∧ i < x)) → kd (rowOf w g y) i = 0
theorem kd_put_w {h w : Nat} {g : List Cell} (hl : g.length = h * w) {r x : Nat} (hr : r < h) (hx : x < w) (p : Pen) {y i : Nat} (hy : y < h) (hi : i < w) :
    kd (rowOf w (put h w g (Int.ofNat r) (Int.ofNat x) 119 p) y) i = 0 ∨ (kd (rowOf w (put h w g (Int.ofNat r) (Int.ofNat x) 119 p) y) i = kd (rowOf w g y) i ∧ ¬ (y = r ∧ i = x)) := by
  have hw1 : widthP 119 = 1 := by decide
  unfold put
  have hc : ¬ (widthP 119 = 0 ∨ ¬ (0 ≤ Int.ofNat r ∧ Int.ofNat r < (h : Int) ∧ 0 ≤ Int.ofNat x ∧ Int.ofNat x < (w : Int)) ∨ (w : Int) < Int.ofNat x + widthP 119) := by
    rw [hw1]
    show ¬ ((1 : Int) = 0 ∨ ¬ (0 ≤ (r : Int) ∧ (r : Int) < (h : Int) ∧ 0 ≤ (x : Int) ∧ (x : Int) < (w : Int)) ∨ (w : Int) < (x : Int) + 1)
    omega
  rw [if_neg hc, toNat_ofNat', toNat_ofNat']
  have hrl := rowOf_length hl hr
  by_cases e : y = r
  · subst e
    rw [inRow_same hl hy (by rw [mend_length, putRow_length]; exact hrl), kd_mend _ _ (by rw [putRow_length, hrl]; exact hi)]
    split
    · exact .inl rfl
    · unfold putRow
      rw [if_neg (by rw [hw1]; decide)]
      unfold kd
      rw [getD_set]
      by_cases e2 : x = i
      · rw [if_pos ⟨e2, by omega⟩]; exact .inl rfl
      · rw [if_neg (fun q => e2 q.1)]; exact .inr ⟨rfl, fun q => e2 q.2.symm⟩
  · rw [inRow_other hl hr (by rw [mend_length, putRow_length]; exact hrl) hy e]
    exact .inr ⟨rfl, fun q => e q.1⟩
theorem parts_6 {a0 a1 p0 p1 p2 : Int} {h w r : Nat} (hh : h ≤ 5) (hw : w ≤ 9) (hr : r < h) : ∀ (n x : Nat) (g : List Cell), x ≤ w → w - x < n → GG h w g → sg h w g r x →
    ∃ g', GG h w g' ∧ sg h w g' r w ∧ linguistlaw8_EditParts_L6 n a0 a1 (Int.ofNat r) (Int.ofNat x) (Int.ofNat h) (Int.ofNat w) g p0 p1 p2 = some (a0, a1, Int.ofNat r, Int.ofNat h, Int.ofNat w, g', p0, p1, p2) := by
  intro n
  induction n with
  | zero => intro x g h1 h2; omega
  | succ n ih =>
    intro x g h1 h2 k s
    rw [linguistlaw8_EditParts_L6]
    by_cases hx : x < w
    · rw [ofNat_lt, decide_eq_true hx, at_cell rfl rfl (by omega) (by omega) k.1.1 hr hx]
      simp only [cond_true, optK_s]
      have hs := k.2 r hr
      have hrl := rowOf_length k.1.1 hr
      have hp := (hs x (by omega)).1.1
      show ∃ g', _ ∧ _ ∧ (bif (kd (rowOf w g r) x != 0) then _ else _) = _
      by_cases e : kd (rowOf w g r) x = 0
      · rw [show (kd (rowOf w g r) x != 0) = false by simp [e]]
        simp only [cond_false]
        rw [wrap_succ (by omega)]
        refine ih (x + 1) g (by omega) (by omega) k fun y i hy hi c => ?_
        by_cases c2 : y = r ∧ i = x
        · rw [c2.1, c2.2]; exact e
        · exact s y i hy hi (by omega)
      · rw [show (kd (rowOf w g r) x != 0) = true by simp [e]]
        simp only [cond_true]
        rw [put_eq rfl rfl (by omega) (by omega) k.1.1 (by show -1000 ≤ (r : Int) ∧ (r : Int) ≤ 1000; omega) (by show -1000 ≤ (x : Int) ∧ (x : Int) ≤ 1000; omega)]
        simp only [optK_s]
        rw [wrap_succ (by omega)]
        refine ih (x + 1) _ (by omega) (by omega) (k.put _ _ _ hp) fun y i hy hi c => ?_
        rcases kd_put_w k.1.1 hr hx _ hy hi with q | ⟨q, q2⟩
        · exact q
        · rw [q]; exact s y i hy hi (by omega)
    · have e : x = w := by omega
      subst e
      rw [ofNat_lt, decide_eq_false hx]
      exact ⟨g, k, s, rfl⟩
theorem parts_3 {a0 a1 p0 p1 p2 : Int} {h w : Nat} (hh : h ≤ 5) (hw : w ≤ 9) : ∀ (n r : Nat) (g : List Cell), r ≤ h → h - r < n → GG h w g → sg h w g r 0 →
    ∃ g', GG h w g' ∧ sg h w g' h 0 ∧ linguistlaw8_EditParts_L3 n a0 a1 (Int.ofNat r) (Int.ofNat h) (Int.ofNat w) g p0 p1 p2 = some (a0, a1, Int.ofNat h, Int.ofNat w, g', p0, p1, p2) := by
  intro n
  induction n with
  | zero => intro r g h1 h2; omega
  | succ n ih =>
    intro r g h1 h2 k s
    rw [linguistlaw8_EditParts_L3]
    by_cases hr : r < h
    · rw [ofNat_lt, decide_eq_true hr]
      simp only [cond_true, hide_eq linguistlaw8_EditParts_L6]
      obtain ⟨g', k', s', e⟩ := parts_6 (a0 := a0) (a1 := a1) (p0 := p0) (p1 := p1) (p2 := p2) hh hw hr (linguistlaw8_EditParts_fu6 a0 a1 (Int.ofNat r) 0 (Int.ofNat h) (Int.ofNat w) g p0 p1 p2) 0 g (Nat.zero_le _) (Nat.lt_of_lt_of_le (show w - 0 < 5000 by omega) (Nat.le_add_left 5000 _)) k s
      rw [show (0 : Int) = Int.ofNat 0 from rfl] at *
      rw [e]
      simp only [optK_s]
      rw [wrap_succ (by omega)]
      exact ih (r + 1) g' (by omega) (by omega) k' fun y i hy hi c => s' y i hy hi (by omega)
    · have e : r = h := by omega
      subst e
      rw [ofNat_lt, decide_eq_false hr]
      exact ⟨g, k, s, rfl⟩
theorem far_small {n : Int} (h0 : 0 ≤ n) (h1 : n ≤ 40) : farN n = n := by unfold farN; omega
theorem wrap_pred {h : Nat} (h1 : 1 ≤ h) (h2 : h ≤ 60) : IntKind.i64.wrap (Int.ofNat h - 1) = (h : Int) - 1 := w64 (by show _ ≤ (h : Int) - 1; omega) (by show (h : Int) - 1 < _; omega)
theorem parts_14 {a0 p0 p1 p2 : Int} {h w c m : Nat} {g : List Cell} (h1 : 1 ≤ h) (hh : h ≤ 5) (w1 : 1 ≤ w) (hw : w ≤ 9) (hm : m ≤ 6) (hc : c < w) (k : GG h w g) (hs : ∀ i, kd (rowOf w g 0) i = 0) : ∀ (n i : Nat), i ≤ m → m - i < n →
    linguistlaw8_EditParts_L14 n a0 (Int.ofNat c) (Int.ofNat m) (Int.ofNat i) (Int.ofNat h) (Int.ofNat w) g p0 p1 p2 (Int.ofNat h) (Int.ofNat w) (shiftG h w g 0 ((h : Int) - 1) (i : Int) (p0, p1, p2)) (Int.ofNat h) (Int.ofNat w) (shiftG h w g 0 ((h : Int) - 1) (-(i : Int)) (p0, p1, p2)) (Int.ofNat h) (Int.ofNat w) (insG h w g 0 c (i : Int) (p0, p1, p2)) (Int.ofNat h) (Int.ofNat w) (delG h w g 0 c (i : Int) (p0, p1, p2))
      = some (a0, Int.ofNat c, Int.ofNat h, Int.ofNat w, g, p0, p1, p2, Int.ofNat h, Int.ofNat w, shiftG h w g 0 ((h : Int) - 1) (m : Int) (p0, p1, p2), Int.ofNat h, Int.ofNat w, shiftG h w g 0 ((h : Int) - 1) (-(m : Int)) (p0, p1, p2), Int.ofNat h, Int.ofNat w, insG h w g 0 c (m : Int) (p0, p1, p2), Int.ofNat h, Int.ofNat w, delG h w g 0 c (m : Int) (p0, p1, p2)) := by
  intro n
  induction n with
  | zero => intro i h1 h2; omega
  | succ n ih =>
    intro i q1 q2
    rw [linguistlaw8_EditParts_L14]
    have hl := k.1.1
    by_cases hi : i < m
    · rw [ofNat_lt, decide_eq_true hi, wrap_pred h1 (by omega)]
      simp only [cond_true]
      rw [editUp_eq rfl rfl (by omega) w1 (by omega) (shiftG_length hl _ _ _ _), editDown_eq rfl rfl (by omega) w1 (by omega) (shiftG_length hl _ _ _ _), insert_eq rfl rfl (by omega) w1 (by omega) (insG_length hl _ _ _ _), delete_eq rfl rfl (by omega) w1 (by omega) (delG_length hl _ _ _ _)]
      simp only [optK_s]
      rw [far_small (n := 1) (by omega) (by omega), shift_shift hl h1 (.inl ⟨by omega, by omega⟩), shift_shift hl h1 (.inr ⟨by omega, by omega⟩)]
      rw [show (Int.ofNat c) = (c : Int) from rfl, insG_insG hl (by omega) hc hs (by omega), delG_delG hl (by omega) hc hs (by omega), wrap_succ (by omega)]
      have := ih (i + 1) (by omega) (by omega)
      rw [show ((i + 1 : Nat) : Int) = (i : Int) + 1 by omega, show -((i : Int) + 1) = -(i : Int) + -1 by omega] at this
      exact this
    · have e : i = m := by omega
      subst e
      rw [ofNat_lt, decide_eq_false hi]
      rfl
theorem editParts_true (x0 x1 : Int) (x2 x3 : List Int) (x4 x5 x6 x7 x8 : Int) (h0 : in64 x0) (h1 : in64 x1) (h2 : ∀ y, y ∈ x2 → in64 y) (h3 : ∀ y, y ∈ x3 → in64 y) (h4 : in64 x4) (h5 : in64 x5) (h6 : in64 x6) (h7 : in64 x7) (h8 : in64 x8) :
    linguistlaw8_EditParts_F x0 x1 x2 x3 x4 x5 x6 x7 x8 = some true := by
  unfold linguistlaw8_EditParts_F
  obtain ⟨h, w, g0, a1, a2, a3, a4, k0, hg⟩ := keepGrid_eq h0 h1 h2 h3
  obtain ⟨⟨p0, p1, p2⟩, hp, hpr⟩ := pen_eq x6 x7 x8 h6 h7 h8
  rw [hg, hp]
  simp only [optK_s, hide_eq linguistlaw8_EditParts_L3]
  obtain ⟨g, k, s, e⟩ := parts_3 (a0 := x4) (a1 := x5) (p0 := p0) (p1 := p1) (p2 := p2) a2 a4 (linguistlaw8_EditParts_fu3 x4 x5 0 (Int.ofNat h) (Int.ofNat w) g0 p0 p1 p2) 0 g0 (Nat.zero_le _) (Nat.lt_of_lt_of_le (show h - 0 < 5000 by omega) (Nat.le_add_left 5000 _)) k0 (fun y i hy hi c => by omega)
  rw [show Int.ofNat 0 = (0 : Int) from rfl] at e
  rw [e]
  simp only [optK_s]
  have hl := k.1.1
  have hs : ∀ i, kd (rowOf w g 0) i = 0 := fun i => by
    by_cases hi : i < w
    · exact s 0 i (by omega) hi (by omega)
    · exact kd_over (by rw [rowOf_length hl (by omega)]; omega)
  obtain ⟨m, hm, m0, m1⟩ := within_eq x5 0 6 h5.1 h5.2 (by omega) (by omega) (by omega)
  obtain ⟨c, hc, c0, c1⟩ := within_eq x4 0 ((w : Int) - 1) h4.1 h4.2 (by omega) (by omega) (by omega)
  rw [wrap_pred a3 (by omega), hm, hc]
  obtain ⟨m, rfl⟩ : ∃ n : Nat, m = Int.ofNat n := ⟨m.toNat, by show m = ((m.toNat : Nat) : Int); omega⟩
  obtain ⟨c, rfl⟩ : ∃ n : Nat, c = Int.ofNat n := ⟨c.toNat, by show c = ((c.toNat : Nat) : Int); omega⟩
  have m1' : (m : Int) ≤ 6 := m1
  have c1' : (c : Int) ≤ (w : Int) - 1 := c1
  simp only [optK_s, hide_eq linguistlaw8_EditParts_L14]
  have z1 : shiftG h w g 0 ((h : Int) - 1) ((0 : Nat) : Int) (p0, p1, p2) = g := shift_zero hl _ _ _
  have z2 : shiftG h w g 0 ((h : Int) - 1) (-((0 : Nat) : Int)) (p0, p1, p2) = g := shift_zero hl _ _ _
  have z3 : insG h w g 0 c ((0 : Nat) : Int) (p0, p1, p2) = g := ins_zero k.1 (r := 0) (by omega) (by omega) hs _
  have z4 : delG h w g 0 c ((0 : Nat) : Int) (p0, p1, p2) = g := del_zero k.1 (r := 0) (by omega) (by omega) hs _
  have L := parts_14 (a0 := Int.ofNat m) (p0 := p0) (p1 := p1) (p2 := p2) (c := c) (m := m) a1 a2 a3 a4 (by omega) (by omega) k hs (linguistlaw8_EditParts_fu14 (Int.ofNat m) (Int.ofNat c) (Int.ofNat m) 0 (Int.ofNat h) (Int.ofNat w) g p0 p1 p2 (Int.ofNat h) (Int.ofNat w) g (Int.ofNat h) (Int.ofNat w) g (Int.ofNat h) (Int.ofNat w) g (Int.ofNat h) (Int.ofNat w) g) 0 (Nat.zero_le _) (Nat.lt_of_lt_of_le (show m - 0 < 5000 by omega) (Nat.le_add_left 5000 _))
  rw [z1, z2, z3, z4, show Int.ofNat 0 = (0 : Int) from rfl] at L
  rw [L]
  simp only [optK_s]
  have hsm := small_mul (show h ≤ 64 by omega) (show w ≤ 64 by omega)
  have SR : ∀ l' : List Cell, l'.length = h * w → hide grid_Same_F (Int.ofNat h) (Int.ofNat w) l' (Int.ofNat h) (Int.ofNat w) l' = some true := fun l' q => by
    rw [same_eq _ _ _ _ _ _ (by omega)]; simp
  have lw : lineG h w g 0 (Int.ofNat c) 0 (p0, p1, p2) = wipe h w g 0 c w (p0, p1, p2) := by
    unfold lineG
    rw [if_pos ⟨by omega, by omega, by show (0 : Int) ≤ (c : Int); omega, by show (c : Int) < (w : Int); omega⟩, if_pos rfl]
    rfl
  have i1 : insG h w g 0 (Int.ofNat c) 65535 (p0, p1, p2) = wipe h w g 0 c w (p0, p1, p2) := ins_wipe (r := 0) hl (by omega) (by omega) hs (by omega) _
  have i2 : delG h w g 0 (Int.ofNat c) 99 (p0, p1, p2) = wipe h w g 0 c w (p0, p1, p2) := del_wipe (r := 0) hl (by omega) (by omega) hs (by omega) _
  have fm : farN (Int.ofNat m) = (m : Int) := far_small (by show (0 : Int) ≤ (m : Int); omega) (by show (m : Int) ≤ 40; omega)
  rw [line_eq rfl rfl (by omega) a3 (by omega) hl, lw]
  simp only [optK_s]
  rw [wrap_pred a1 (by omega), editUp_eq rfl rfl (by omega) a3 (by omega) hl, fm]
  simp only [optK_s]
  rw [SR _ (shiftG_length hl _ _ _ _)]
  simp only [optK_s, cond_true]
  rw [editDown_eq rfl rfl (by omega) a3 (by omega) hl, fm]
  simp only [optK_s]
  rw [SR _ (shiftG_length hl _ _ _ _)]
  simp only [optK_s, cond_true]
  rw [insert_eq rfl rfl (by omega) a3 (by omega) hl]
  simp only [optK_s]
  rw [show insG h w g 0 (Int.ofNat c) (Int.ofNat m) (p0, p1, p2) = insG h w g 0 (c : Int) (m : Int) (p0, p1, p2) from rfl, SR _ (insG_length hl _ _ _ _)]
  simp only [optK_s, cond_true]
  rw [delete_eq rfl rfl (by omega) a3 (by omega) hl]
  simp only [optK_s]
  rw [show delG h w g 0 (Int.ofNat c) (Int.ofNat m) (p0, p1, p2) = delG h w g 0 (c : Int) (m : Int) (p0, p1, p2) from rfl, SR _ (delG_length hl _ _ _ _)]
  simp only [optK_s, cond_true]
  rw [insert_eq rfl rfl (by omega) a3 (by omega) hl, i1]
  simp only [optK_s]
  rw [SR _ (wipe_length hl _ _ _ _)]
  simp only [optK_s, cond_true]
  rw [delete_eq rfl rfl (by omega) a3 (by omega) hl, i2]
  simp only [optK_s]
  rw [SR _ (wipe_length hl _ _ _ _)]
  rfl
end Go.Proofs.YtpneolkfeihkhaaAbs

/- EditParts, called. -/
namespace Go.Proofs.YtpneolkfeihkhaaAbs
set_option linter.unusedVariables false
set_option maxRecDepth 100000
open Go Go.Proofs Go.RowKit
theorem editParts_run (x0 : Int) (x1 : Int) (x2 : List (Int)) (x3 : List (Int)) (x4 : Int) (x5 : Int) (x6 : Int) (x7 : Int) (x8 : Int) (w0 : (Lit.int .i64 x0).wf = true) (w1 : (Lit.int .i64 x1).wf = true) (w2 : (List.length (α := Int) x2 ≤ 9223372036854775807 ∧ ∀ y : Int, List.Mem y x2 → ((Lit.int .i64 y).wf = true))) (w3 : (List.length (α := Int) x3 ≤ 9223372036854775807 ∧ ∀ y : Int, List.Mem y x3 → ((Lit.int .i64 y).wf = true))) (w4 : (Lit.int .i64 x4).wf = true) (w5 : (Lit.int .i64 x5).wf = true) (w6 : (Lit.int .i64 x6).wf = true) (w7 : (Lit.int .i64 x7).wf = true) (w8 : (Lit.int .i64 x8).wf = true) :
    acall (R := Bool) (envL linguistlaw8_EditParts_su linguistlaw8_EditParts_ll3 cs0 (fun _ _ => false)) 1000 4 [.agg [.int .i64 x0, .int .i64 x1, .list (.one (.int .i64)) x2 false, .list (.one (.int .i64)) x3 false], .int .i64 x4, .int .i64 x5, .agg [.int .i64 x6, .int .i64 x7, .int .i64 x8]] [] (resK .bool true (fun b => some b)) = some true := by
  have h := linguistlaw8_EditParts_run x0 x1 x2 x3 x4 x5 x6 x7 x8 (fun b => some b)
  rw [editParts_true x0 x1 x2 x3 x4 x5 x6 x7 x8 (wf_in64 w0) (wf_in64 w1) (wf_list64 w2) (wf_list64 w3) (wf_in64 w4) (wf_in64 w5) (wf_in64 w6) (wf_in64 w7) (wf_in64 w8)] at h
  exact h
end Go.Proofs.YtpneolkfeihkhaaAbs

/- Whatever reads as data is what the interpreter takes: rows of letters as arguments. -/
namespace Go.Proofs.YtpneolkfeihkhaaAbs
set_option linter.unusedVariables false
open Go Go.Proofs Go.RowKit Go.ChangeShapes Go.WideShapes Go.Deep
abbrev gd (w : World) : Nat → Prop := fun B => B < w.heap.size
def OpC (P : Program) (w : World) (c : CTy) (t : TypeId) (WF : c.den → Prop) : Prop :=
  ∀ {H : Type} {enc : TypeId × Value → H} {spare : Nat → Bool} {held : Bool} {fuel : Nat} {cs : List Value} {x : DataW H × List MemPlace}, DataW.trod enc P w 0 spare held fuel t cs = some x → ∃ (a : c.den) (v : Value), cs = [v] ∧ c.rep w (gd w) a v ∧ WF a
def OpR (P : Program) (w : World) (r : Row) (t : TypeId) (WF : r.den → Prop) : Prop :=
  ∀ {H : Type} {enc : TypeId × Value → H} {spare : Nat → Bool} {held : Bool} {fuel : Nat} {cs : List Value} {x : DataW H × List MemPlace}, DataW.trod enc P w 0 spare held fuel t cs = some x → ∃ a : r.den, r.rep w (gd w) a cs ∧ WF a
section
variable {P : Program} {w : World} {t e : TypeId}
theorem OpC.int {k : IntKind} (ht : P.underlying t = some (.int k)) : OpC P w (.int k) t (fun a => (Lit.int k a).wf = true) := by
  intro H enc spare held fuel cs x h
  obtain ⟨a, rfl, _, hw⟩ := DataW.trod_int ht h
  refine ⟨a, _, rfl, ⟨rfl, ?_⟩, hw⟩
  cases k <;> first | rfl | (simp [Lit.wf, IntKind.min, IntKind.max, IntKind.bits, IntKind.signed] at hw; simp [u8ok, kindEq]; omega)
theorem OpC.bool (ht : P.underlying t = some .bool) : OpC P w .bool t (fun _ => True) := by
  intro H enc spare held fuel cs x h
  obtain ⟨a, rfl, _⟩ := DataW.trod_bool ht h
  exact ⟨a, _, rfl, rfl, trivial⟩
theorem OpC.str (ht : P.underlying t = some .string) : OpC P w .str t (fun s => ∃ b : ByteArray, bytesOf b = s ∧ b.size ≤ 9223372036854775807) := by
  intro H enc spare held fuel cs x h
  obtain ⟨a, rfl, _, hl⟩ := DataW.trod_string ht h
  refine ⟨bytesOf a, _, rfl, ⟨a, rfl, rfl⟩, a, rfl, ?_⟩
  unfold maxLen at hl
  omega
theorem cells_eq {a : Addr} {n : Nat} {cs : List Value} {c : Array Value} (h : w.cells? 0 a n = some cs) (hb : ∃ e fr, w.heap[a.block]? = some (.cells c e fr)) (hs : a.spot = none) : cs = (c.toList.drop a.off).take n := by
  obtain ⟨_, hl, hc⟩ := World.cells?_some h
  obtain ⟨e, fr, hb⟩ := hb
  apply List.ext_getElem?
  intro i
  by_cases hi : i < n
  · have h1 : w.cell? (a.add i) = c[a.off + i]? := by
      unfold World.cell? Addr.add
      by_cases h0 : i = 0
      · subst h0; simp [hb, hs]
      · simp [h0, hb]
    rw [← hc i hi, h1, List.getElem?_take_of_lt hi, List.getElem?_drop, Array.getElem?_toList]
  · rw [List.getElem?_eq_none (by omega), List.getElem?_eq_none (by simp; omega)]
theorem rows_lie {r : Row} {WF : r.den → Prop} {a : Addr} {len : Nat} (hr : 0 < r.size) (hp : 0 < len) (hx : ∀ i, i < len → ∃ (b : r.den) (cs : List Value), w.cells? 0 (a.add (i * r.size)) r.size = some cs ∧ r.rep w (gd w) b cs ∧ WF b) :
    a.spot = none ∧ a.block < w.heap.size ∧ ∃ l : List r.den, l.length = len ∧ (∀ x ∈ l, WF x) ∧ ∃ vs, RepAll (fun x cs => r.rep w (gd w) x cs) l vs ∧ Lies w a.block a.off vs := by
  obtain ⟨b0, cs0, h0, _, _⟩ := hx 0 hp
  obtain ⟨_, hl0, hc0⟩ := World.cells?_some h0
  have h00 := hc0 0 hr
  have hlt : 0 < cs0.length := by omega
  rw [List.getElem?_eq_getElem hlt] at h00
  have hbk : (∃ c e fr, w.heap[a.block]? = some (.cells c e fr)) ∧ a.spot = none := by
    have hz : (a.add (0 * r.size)).add 0 = a := by simp [Addr.add]
    rw [hz] at h00
    unfold World.cell? at h00
    split at h00
    · rename_i c e fr hb
      refine ⟨⟨c, e, fr, hb⟩, ?_⟩
      split at h00
      · cases h00
      · rename_i hn; simpa using hn
    · cases h00
  obtain ⟨⟨c, e, fr, hb⟩, hs⟩ := hbk
  have hbl : a.block < w.heap.size := (Array.getElem?_eq_some_iff.1 hb).1
  refine ⟨hs, hbl, ?_⟩
  have key : ∀ k, k ≤ len → ∃ l : List r.den, l.length = k ∧ (∀ x ∈ l, WF x) ∧ RepAll (fun x cs => r.rep w (gd w) x cs) l ((c.toList.drop a.off).take (k * r.size)) := by
    intro k
    induction k with
    | zero => intro _; exact ⟨[], rfl, (fun x hx => by cases hx), by simp [RepAll]⟩
    | succ k ih =>
      intro hk
      obtain ⟨l, hl, hw, hR⟩ := ih (by omega)
      obtain ⟨b, cs, h1, h2, h3⟩ := hx k (by omega)
      have hcs : cs = ((c.toList.drop a.off).drop (k * r.size)).take r.size := by
        have := cells_eq (c := c) h1 ⟨e, fr, by unfold Addr.add; split <;> exact hb⟩ (by unfold Addr.add; split <;> first | exact hs | rfl)
        rw [this, List.drop_drop]
        congr 2
        unfold Addr.add; split <;> simp_all
      refine ⟨l ++ [b], by simp [hl], ?_, ?_⟩
      · intro x hx'
        rcases List.mem_append.1 hx' with h | h
        · exact hw x h
        · rw [List.mem_singleton] at h; subst h; exact h3
      · have : (k + 1) * r.size = k * r.size + r.size := by rw [Nat.add_mul, Nat.one_mul]
        rw [this, List.take_add, ← hcs]
        exact RepAll.append hR ⟨cs, [], by simp, h2, rfl⟩
  obtain ⟨l, hl, hw, hR⟩ := key len (Nat.le_refl _)
  exact ⟨l, hl, hw, _, hR, c, e, fr, _, hb, (List.take_append_drop (len * r.size) _).symm⟩
theorem OpC.slice {r : Row} {WF : r.den → Prop} (ht : P.underlying t = some (.slice e)) (hr : 0 < r.size) (hc : P.cellsOf e = r.size) (he : OpR P w r e WF) : OpC P w (.slice r) t (fun l => List.length (α := r.den) l ≤ 9223372036854775807 ∧ ∀ x : r.den, List.Mem x l → WF x) := by
  intro H enc spare held fuel cs x h
  rcases open_slice ht h with ⟨rfl, _⟩ | ⟨a, len, cap, m, n, D, Pl, rfl, _, hl, hm, hmm, _, hx⟩
  · exact ⟨([] : List r.den), _, rfl, ⟨none, 0, 0, rfl, rfl, Nat.le_refl _, fun _ => rfl, Or.inl rfl⟩, by simp, fun x hx => by cases hx⟩
  · have hmle : len ≤ m := by rw [hmm]; split <;> omega
    have hmax : len ≤ 9223372036854775807 := by unfold maxLen at hm; omega
    by_cases hp : 0 < len
    · obtain ⟨hs, hb, l, hll, hw, vs, hR, hL⟩ := rows_lie (w := w) (a := a) (len := len) (WF := WF) hr hp (fun i hi => by
        obtain ⟨c, h1, h2⟩ := hx i (by omega)
        obtain ⟨b, h3, h4⟩ := he h2
        rw [hc] at h1
        exact ⟨b, c, h1, h3, h4⟩)
      refine ⟨l, _, rfl, ⟨some a, len, cap, rfl, hll.symm, hl, (fun k => by cases k), Or.inr ⟨a.block, a.off, vs, ?_, hb, hR, hL⟩⟩, by rw [hll]; exact hmax, hw⟩
      obtain ⟨B, o, s⟩ := a
      simp only at hs
      rw [hs]
    · have h0 : len = 0 := by omega
      subst h0
      exact ⟨([] : List r.den), _, rfl, ⟨some a, 0, cap, rfl, rfl, hl, (fun k => by cases k), Or.inl rfl⟩, by simp, fun x hx => by cases hx⟩
theorem OpR.one {c : CTy} {WF : c.den → Prop} (h : OpC P w c t WF) : OpR P w (.one c) t WF := by
  intro H enc spare held fuel cs x k
  obtain ⟨a, v, rfl, h1, h2⟩ := h k
  exact ⟨a, ⟨v, rfl, h1⟩, h2⟩
/-- A struct's field, out of the whole's reading. -/
theorem trod_field {H : Type} {enc : TypeId × Value → H} {spare : Nat → Bool} {held : Bool} {fuel : Nat} {cs : List Value} {x : DataW H × List MemPlace} {fs : Array Field} (ht : P.underlying t = some (.struct fs)) (h : DataW.trod enc P w 0 spare held fuel t cs = some x) :
    cs.length = P.cellsOf t ∧ ∃ n, ∀ (i : Nat) (f : Field), fs[i]? = some f → ∃ y, DataW.trod enc P w 0 spare held n f.type ((cs.drop f.offset).take (P.cellsOf f.type)) = some y := by
  obtain ⟨xs, n, _, _, hn, hl, hf⟩ := DataW.trod_struct ht h
  refine ⟨hn, n, fun i f hi => ?_⟩
  have h1 := hf i f hi
  have hlt : i < xs.length := by rw [hl]; exact (Array.getElem?_eq_some_iff.1 hi).1
  rw [List.getElem?_eq_getElem hlt] at h1
  exact ⟨_, h1⟩
end
end Go.Proofs.YtpneolkfeihkhaaAbs
