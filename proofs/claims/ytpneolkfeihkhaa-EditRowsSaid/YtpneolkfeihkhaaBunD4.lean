/- Texts of this session, joined (bundle2.py): D6, D7, GM1, GM2, GM3, GM4, GM5, GM6, GM7, GM8, GM9, GM10, GM11, GN1, GN2, GN3, GN4, GN5, GC, GE1, GE2, GE3, GE4, GE5, GE6, GE7, D8. -/
import Derived.Test.YtpneolkfeihkhaaBunD3
-- Written by a program of this session (dec.py); Lean checks it.
namespace Go.Proofs.YtpneolkfeihkhaaAbs
open Go Go.Proofs
set_option linter.unusedVariables false
set_option maxHeartbeats 2000000
set_option maxRecDepth 100000
noncomputable def edit_Insert_su : SumT := (18, sumH grid_At_A grid_At_B true grid_At_G) :: (57, sumW slices_Clone_api_Cell_A slices_Clone_api_Cell_B slices_Clone_api_Cell_G) :: (41, sumH edit_parted_A edit_parted_B true edit_parted_G) :: (44, sumH edit_blanks_A edit_blanks_B true edit_blanks_G) :: (42, sumH edit_turned_A edit_turned_B true edit_turned_G) :: sums0
theorem edit_Insert_su_ok : AllSum Try.prog edit_Insert_su := ⟨sumH_ok rfl rfl grid_At_known, ⟨sumW_ok rfl rfl rfl slices_Clone_api_Cell_known, ⟨sumH_ok rfl rfl edit_parted_known, ⟨sumH_ok rfl rfl edit_blanks_known, ⟨sumH_ok rfl rfl edit_turned_known, sums0_ok⟩⟩⟩⟩⟩
noncomputable def edit_Insert_F (x0 : Int) (x1 : Int) (x2 : List (Int × Int × Int × Int × Int)) (x3 : Int) (x4 : Int) (x5 : Int) (x6 : Int) (x7 : Int) (x8 : Int) : Option (Int × Int × (List (Int × Int × Int × Int × Int))) := (optK ((hide grid_At_F x0 x1 x2 x3 x4)) fun y0 => (bif (!y0.2.2.2.2.2) then (bif (x2.length.ble (274877906944 : Nat)) then (some (x0, x1, x2)) else none) else (optK ((hide edit_parted_F x0 x1 x2 x3 x4)) fun y1 => (bif (bnds none (some x4) y1.length && true) then (optK ((hide edit_blanks_F (if (if IntKind.i64.wrap (x1 - x4) < x5 then IntKind.i64.wrap (x1 - x4) else x5) > (0 : Int) then if IntKind.i64.wrap (x1 - x4) < x5 then IntKind.i64.wrap (x1 - x4) else x5 else (0 : Int)) x6 x7 x8)) fun y2 => (bif (bnds (some x4) (some (IntKind.i64.wrap (x1 - if (if IntKind.i64.wrap (x1 - x4) < x5 then IntKind.i64.wrap (x1 - x4) else x5) > (0 : Int) then if IntKind.i64.wrap (x1 - x4) < x5 then IntKind.i64.wrap (x1 - x4) else x5 else (0 : Int)))) y1.length && true) then (bif (decide (IntKind.i64.wrap ((0 : Int) + Int.ofNat (List.length ([cutList y1 none (some x4), y2, cutList y1 (some x4) (some (IntKind.i64.wrap (x1 - if (if IntKind.i64.wrap (x1 - x4) < x5 then IntKind.i64.wrap (x1 - x4) else x5) > (0 : Int) then if IntKind.i64.wrap (x1 - x4) < x5 then IntKind.i64.wrap (x1 - x4) else x5 else (0 : Int))))].getD (0 : Nat) (Row.one (CTy.slice (Row.cons (CTy.int IntKind.i32) (Row.cons (CTy.int IntKind.i64) (Row.cons (CTy.int IntKind.i64) (Row.cons (CTy.int IntKind.i64) (Row.one (CTy.int IntKind.i64)))))))).dflt))) < (0 : Int))) then none else (bif (decide (IntKind.i64.wrap (IntKind.i64.wrap ((0 : Int) + Int.ofNat (List.length ([cutList y1 none (some x4), y2, cutList y1 (some x4) (some (IntKind.i64.wrap (x1 - if (if IntKind.i64.wrap (x1 - x4) < x5 then IntKind.i64.wrap (x1 - x4) else x5) > (0 : Int) then if IntKind.i64.wrap (x1 - x4) < x5 then IntKind.i64.wrap (x1 - x4) else x5 else (0 : Int))))].getD (0 : Nat) (Row.one (CTy.slice (Row.cons (CTy.int IntKind.i32) (Row.cons (CTy.int IntKind.i64) (Row.cons (CTy.int IntKind.i64) (Row.cons (CTy.int IntKind.i64) (Row.one (CTy.int IntKind.i64)))))))).dflt))) + Int.ofNat (List.length ([cutList y1 none (some x4), y2, cutList y1 (some x4) (some (IntKind.i64.wrap (x1 - if (if IntKind.i64.wrap (x1 - x4) < x5 then IntKind.i64.wrap (x1 - x4) else x5) > (0 : Int) then if IntKind.i64.wrap (x1 - x4) < x5 then IntKind.i64.wrap (x1 - x4) else x5 else (0 : Int))))].getD (1 : Nat) (Row.one (CTy.slice (Row.cons (CTy.int IntKind.i32) (Row.cons (CTy.int IntKind.i64) (Row.cons (CTy.int IntKind.i64) (Row.cons (CTy.int IntKind.i64) (Row.one (CTy.int IntKind.i64)))))))).dflt))) < (0 : Int))) then none else (bif (decide (IntKind.i64.wrap (IntKind.i64.wrap (IntKind.i64.wrap ((0 : Int) + Int.ofNat (List.length ([cutList y1 none (some x4), y2, cutList y1 (some x4) (some (IntKind.i64.wrap (x1 - if (if IntKind.i64.wrap (x1 - x4) < x5 then IntKind.i64.wrap (x1 - x4) else x5) > (0 : Int) then if IntKind.i64.wrap (x1 - x4) < x5 then IntKind.i64.wrap (x1 - x4) else x5 else (0 : Int))))].getD (0 : Nat) (Row.one (CTy.slice (Row.cons (CTy.int IntKind.i32) (Row.cons (CTy.int IntKind.i64) (Row.cons (CTy.int IntKind.i64) (Row.cons (CTy.int IntKind.i64) (Row.one (CTy.int IntKind.i64)))))))).dflt))) + Int.ofNat (List.length ([cutList y1 none (some x4), y2, cutList y1 (some x4) (some (IntKind.i64.wrap (x1 - if (if IntKind.i64.wrap (x1 - x4) < x5 then IntKind.i64.wrap (x1 - x4) else x5) > (0 : Int) then if IntKind.i64.wrap (x1 - x4) < x5 then IntKind.i64.wrap (x1 - x4) else x5 else (0 : Int))))].getD (1 : Nat) (Row.one (CTy.slice (Row.cons (CTy.int IntKind.i32) (Row.cons (CTy.int IntKind.i64) (Row.cons (CTy.int IntKind.i64) (Row.cons (CTy.int IntKind.i64) (Row.one (CTy.int IntKind.i64)))))))).dflt))) + Int.ofNat (List.length ([cutList y1 none (some x4), y2, cutList y1 (some x4) (some (IntKind.i64.wrap (x1 - if (if IntKind.i64.wrap (x1 - x4) < x5 then IntKind.i64.wrap (x1 - x4) else x5) > (0 : Int) then if IntKind.i64.wrap (x1 - x4) < x5 then IntKind.i64.wrap (x1 - x4) else x5 else (0 : Int))))].getD (2 : Nat) (Row.one (CTy.slice (Row.cons (CTy.int IntKind.i32) (Row.cons (CTy.int IntKind.i64) (Row.cons (CTy.int IntKind.i64) (Row.cons (CTy.int IntKind.i64) (Row.one (CTy.int IntKind.i64)))))))).dflt))) < (0 : Int))) then none else (bif (decide (IntKind.i64.wrap (IntKind.i64.wrap (IntKind.i64.wrap ((0 : Int) + Int.ofNat (List.length ([cutList y1 none (some x4), y2, cutList y1 (some x4) (some (IntKind.i64.wrap (x1 - if (if IntKind.i64.wrap (x1 - x4) < x5 then IntKind.i64.wrap (x1 - x4) else x5) > (0 : Int) then if IntKind.i64.wrap (x1 - x4) < x5 then IntKind.i64.wrap (x1 - x4) else x5 else (0 : Int))))].getD (0 : Nat) (Row.one (CTy.slice (Row.cons (CTy.int IntKind.i32) (Row.cons (CTy.int IntKind.i64) (Row.cons (CTy.int IntKind.i64) (Row.cons (CTy.int IntKind.i64) (Row.one (CTy.int IntKind.i64)))))))).dflt))) + Int.ofNat (List.length ([cutList y1 none (some x4), y2, cutList y1 (some x4) (some (IntKind.i64.wrap (x1 - if (if IntKind.i64.wrap (x1 - x4) < x5 then IntKind.i64.wrap (x1 - x4) else x5) > (0 : Int) then if IntKind.i64.wrap (x1 - x4) < x5 then IntKind.i64.wrap (x1 - x4) else x5 else (0 : Int))))].getD (1 : Nat) (Row.one (CTy.slice (Row.cons (CTy.int IntKind.i32) (Row.cons (CTy.int IntKind.i64) (Row.cons (CTy.int IntKind.i64) (Row.cons (CTy.int IntKind.i64) (Row.one (CTy.int IntKind.i64)))))))).dflt))) + Int.ofNat (List.length ([cutList y1 none (some x4), y2, cutList y1 (some x4) (some (IntKind.i64.wrap (x1 - if (if IntKind.i64.wrap (x1 - x4) < x5 then IntKind.i64.wrap (x1 - x4) else x5) > (0 : Int) then if IntKind.i64.wrap (x1 - x4) < x5 then IntKind.i64.wrap (x1 - x4) else x5 else (0 : Int))))].getD (2 : Nat) (Row.one (CTy.slice (Row.cons (CTy.int IntKind.i32) (Row.cons (CTy.int IntKind.i64) (Row.cons (CTy.int IntKind.i64) (Row.cons (CTy.int IntKind.i64) (Row.one (CTy.int IntKind.i64)))))))).dflt))) < (0 : Int))) then none else (bif (decide (IntKind.i64.wrap (IntKind.i64.wrap (IntKind.i64.wrap (IntKind.i64.wrap ((0 : Int) + Int.ofNat (List.length ([cutList y1 none (some x4), y2, cutList y1 (some x4) (some (IntKind.i64.wrap (x1 - if (if IntKind.i64.wrap (x1 - x4) < x5 then IntKind.i64.wrap (x1 - x4) else x5) > (0 : Int) then if IntKind.i64.wrap (x1 - x4) < x5 then IntKind.i64.wrap (x1 - x4) else x5 else (0 : Int))))].getD (0 : Nat) (Row.one (CTy.slice (Row.cons (CTy.int IntKind.i32) (Row.cons (CTy.int IntKind.i64) (Row.cons (CTy.int IntKind.i64) (Row.cons (CTy.int IntKind.i64) (Row.one (CTy.int IntKind.i64)))))))).dflt))) + Int.ofNat (List.length ([cutList y1 none (some x4), y2, cutList y1 (some x4) (some (IntKind.i64.wrap (x1 - if (if IntKind.i64.wrap (x1 - x4) < x5 then IntKind.i64.wrap (x1 - x4) else x5) > (0 : Int) then if IntKind.i64.wrap (x1 - x4) < x5 then IntKind.i64.wrap (x1 - x4) else x5 else (0 : Int))))].getD (1 : Nat) (Row.one (CTy.slice (Row.cons (CTy.int IntKind.i32) (Row.cons (CTy.int IntKind.i64) (Row.cons (CTy.int IntKind.i64) (Row.cons (CTy.int IntKind.i64) (Row.one (CTy.int IntKind.i64)))))))).dflt))) + Int.ofNat (List.length ([cutList y1 none (some x4), y2, cutList y1 (some x4) (some (IntKind.i64.wrap (x1 - if (if IntKind.i64.wrap (x1 - x4) < x5 then IntKind.i64.wrap (x1 - x4) else x5) > (0 : Int) then if IntKind.i64.wrap (x1 - x4) < x5 then IntKind.i64.wrap (x1 - x4) else x5 else (0 : Int))))].getD (2 : Nat) (Row.one (CTy.slice (Row.cons (CTy.int IntKind.i32) (Row.cons (CTy.int IntKind.i64) (Row.cons (CTy.int IntKind.i64) (Row.cons (CTy.int IntKind.i64) (Row.one (CTy.int IntKind.i64)))))))).dflt))) - (0 : Int)) > (0 : Int))) then (bif (decide ((0 : Int) < IntKind.i64.wrap (IntKind.i64.wrap (IntKind.i64.wrap (IntKind.i64.wrap ((0 : Int) + Int.ofNat (List.length ([cutList y1 none (some x4), y2, cutList y1 (some x4) (some (IntKind.i64.wrap (x1 - if (if IntKind.i64.wrap (x1 - x4) < x5 then IntKind.i64.wrap (x1 - x4) else x5) > (0 : Int) then if IntKind.i64.wrap (x1 - x4) < x5 then IntKind.i64.wrap (x1 - x4) else x5 else (0 : Int))))].getD (0 : Nat) (Row.one (CTy.slice (Row.cons (CTy.int IntKind.i32) (Row.cons (CTy.int IntKind.i64) (Row.cons (CTy.int IntKind.i64) (Row.cons (CTy.int IntKind.i64) (Row.one (CTy.int IntKind.i64)))))))).dflt))) + Int.ofNat (List.length ([cutList y1 none (some x4), y2, cutList y1 (some x4) (some (IntKind.i64.wrap (x1 - if (if IntKind.i64.wrap (x1 - x4) < x5 then IntKind.i64.wrap (x1 - x4) else x5) > (0 : Int) then if IntKind.i64.wrap (x1 - x4) < x5 then IntKind.i64.wrap (x1 - x4) else x5 else (0 : Int))))].getD (1 : Nat) (Row.one (CTy.slice (Row.cons (CTy.int IntKind.i32) (Row.cons (CTy.int IntKind.i64) (Row.cons (CTy.int IntKind.i64) (Row.cons (CTy.int IntKind.i64) (Row.one (CTy.int IntKind.i64)))))))).dflt))) + Int.ofNat (List.length ([cutList y1 none (some x4), y2, cutList y1 (some x4) (some (IntKind.i64.wrap (x1 - if (if IntKind.i64.wrap (x1 - x4) < x5 then IntKind.i64.wrap (x1 - x4) else x5) > (0 : Int) then if IntKind.i64.wrap (x1 - x4) < x5 then IntKind.i64.wrap (x1 - x4) else x5 else (0 : Int))))].getD (2 : Nat) (Row.one (CTy.slice (Row.cons (CTy.int IntKind.i32) (Row.cons (CTy.int IntKind.i64) (Row.cons (CTy.int IntKind.i64) (Row.cons (CTy.int IntKind.i64) (Row.one (CTy.int IntKind.i64)))))))).dflt))) - (0 : Int))) && decide (IntKind.i64.wrap (IntKind.i64.wrap (IntKind.i64.wrap (IntKind.i64.wrap ((0 : Int) + Int.ofNat (List.length ([cutList y1 none (some x4), y2, cutList y1 (some x4) (some (IntKind.i64.wrap (x1 - if (if IntKind.i64.wrap (x1 - x4) < x5 then IntKind.i64.wrap (x1 - x4) else x5) > (0 : Int) then if IntKind.i64.wrap (x1 - x4) < x5 then IntKind.i64.wrap (x1 - x4) else x5 else (0 : Int))))].getD (0 : Nat) (Row.one (CTy.slice (Row.cons (CTy.int IntKind.i32) (Row.cons (CTy.int IntKind.i64) (Row.cons (CTy.int IntKind.i64) (Row.cons (CTy.int IntKind.i64) (Row.one (CTy.int IntKind.i64)))))))).dflt))) + Int.ofNat (List.length ([cutList y1 none (some x4), y2, cutList y1 (some x4) (some (IntKind.i64.wrap (x1 - if (if IntKind.i64.wrap (x1 - x4) < x5 then IntKind.i64.wrap (x1 - x4) else x5) > (0 : Int) then if IntKind.i64.wrap (x1 - x4) < x5 then IntKind.i64.wrap (x1 - x4) else x5 else (0 : Int))))].getD (1 : Nat) (Row.one (CTy.slice (Row.cons (CTy.int IntKind.i32) (Row.cons (CTy.int IntKind.i64) (Row.cons (CTy.int IntKind.i64) (Row.cons (CTy.int IntKind.i64) (Row.one (CTy.int IntKind.i64)))))))).dflt))) + Int.ofNat (List.length ([cutList y1 none (some x4), y2, cutList y1 (some x4) (some (IntKind.i64.wrap (x1 - if (if IntKind.i64.wrap (x1 - x4) < x5 then IntKind.i64.wrap (x1 - x4) else x5) > (0 : Int) then if IntKind.i64.wrap (x1 - x4) < x5 then IntKind.i64.wrap (x1 - x4) else x5 else (0 : Int))))].getD (2 : Nat) (Row.one (CTy.slice (Row.cons (CTy.int IntKind.i32) (Row.cons (CTy.int IntKind.i64) (Row.cons (CTy.int IntKind.i64) (Row.cons (CTy.int IntKind.i64) (Row.one (CTy.int IntKind.i64)))))))).dflt))) - (0 : Int)) ≤ (274877906944 : Int)) && true) then (bif (((0 : Nat) + (((some (0 : Int)).getD (Int.ofNat (rowN ((0 : Int), (0 : Int), (0 : Int), (0 : Int), (0 : Int)) (IntKind.i64.wrap (IntKind.i64.wrap (IntKind.i64.wrap (IntKind.i64.wrap ((0 : Int) + Int.ofNat (List.length ([cutList y1 none (some x4), y2, cutList y1 (some x4) (some (IntKind.i64.wrap (x1 - if (if IntKind.i64.wrap (x1 - x4) < x5 then IntKind.i64.wrap (x1 - x4) else x5) > (0 : Int) then if IntKind.i64.wrap (x1 - x4) < x5 then IntKind.i64.wrap (x1 - x4) else x5 else (0 : Int))))].getD (0 : Nat) (Row.one (CTy.slice (Row.cons (CTy.int IntKind.i32) (Row.cons (CTy.int IntKind.i64) (Row.cons (CTy.int IntKind.i64) (Row.cons (CTy.int IntKind.i64) (Row.one (CTy.int IntKind.i64)))))))).dflt))) + Int.ofNat (List.length ([cutList y1 none (some x4), y2, cutList y1 (some x4) (some (IntKind.i64.wrap (x1 - if (if IntKind.i64.wrap (x1 - x4) < x5 then IntKind.i64.wrap (x1 - x4) else x5) > (0 : Int) then if IntKind.i64.wrap (x1 - x4) < x5 then IntKind.i64.wrap (x1 - x4) else x5 else (0 : Int))))].getD (1 : Nat) (Row.one (CTy.slice (Row.cons (CTy.int IntKind.i32) (Row.cons (CTy.int IntKind.i64) (Row.cons (CTy.int IntKind.i64) (Row.cons (CTy.int IntKind.i64) (Row.one (CTy.int IntKind.i64)))))))).dflt))) + Int.ofNat (List.length ([cutList y1 none (some x4), y2, cutList y1 (some x4) (some (IntKind.i64.wrap (x1 - if (if IntKind.i64.wrap (x1 - x4) < x5 then IntKind.i64.wrap (x1 - x4) else x5) > (0 : Int) then if IntKind.i64.wrap (x1 - x4) < x5 then IntKind.i64.wrap (x1 - x4) else x5 else (0 : Int))))].getD (2 : Nat) (Row.one (CTy.slice (Row.cons (CTy.int IntKind.i32) (Row.cons (CTy.int IntKind.i64) (Row.cons (CTy.int IntKind.i64) (Row.cons (CTy.int IntKind.i64) (Row.one (CTy.int IntKind.i64)))))))).dflt))) - (0 : Int))).toNat).length)).toNat - (0 : Nat)) + List.length ([cutList y1 none (some x4), y2, cutList y1 (some x4) (some (IntKind.i64.wrap (x1 - if (if IntKind.i64.wrap (x1 - x4) < x5 then IntKind.i64.wrap (x1 - x4) else x5) > (0 : Int) then if IntKind.i64.wrap (x1 - x4) < x5 then IntKind.i64.wrap (x1 - x4) else x5 else (0 : Int))))].getD (0 : Nat) (Row.one (CTy.slice (Row.cons (CTy.int IntKind.i32) (Row.cons (CTy.int IntKind.i64) (Row.cons (CTy.int IntKind.i64) (Row.cons (CTy.int IntKind.i64) (Row.one (CTy.int IntKind.i64)))))))).dflt)).ble (rowN ((0 : Int), (0 : Int), (0 : Int), (0 : Int), (0 : Int)) (IntKind.i64.wrap (IntKind.i64.wrap (IntKind.i64.wrap (IntKind.i64.wrap ((0 : Int) + Int.ofNat (List.length ([cutList y1 none (some x4), y2, cutList y1 (some x4) (some (IntKind.i64.wrap (x1 - if (if IntKind.i64.wrap (x1 - x4) < x5 then IntKind.i64.wrap (x1 - x4) else x5) > (0 : Int) then if IntKind.i64.wrap (x1 - x4) < x5 then IntKind.i64.wrap (x1 - x4) else x5 else (0 : Int))))].getD (0 : Nat) (Row.one (CTy.slice (Row.cons (CTy.int IntKind.i32) (Row.cons (CTy.int IntKind.i64) (Row.cons (CTy.int IntKind.i64) (Row.cons (CTy.int IntKind.i64) (Row.one (CTy.int IntKind.i64)))))))).dflt))) + Int.ofNat (List.length ([cutList y1 none (some x4), y2, cutList y1 (some x4) (some (IntKind.i64.wrap (x1 - if (if IntKind.i64.wrap (x1 - x4) < x5 then IntKind.i64.wrap (x1 - x4) else x5) > (0 : Int) then if IntKind.i64.wrap (x1 - x4) < x5 then IntKind.i64.wrap (x1 - x4) else x5 else (0 : Int))))].getD (1 : Nat) (Row.one (CTy.slice (Row.cons (CTy.int IntKind.i32) (Row.cons (CTy.int IntKind.i64) (Row.cons (CTy.int IntKind.i64) (Row.cons (CTy.int IntKind.i64) (Row.one (CTy.int IntKind.i64)))))))).dflt))) + Int.ofNat (List.length ([cutList y1 none (some x4), y2, cutList y1 (some x4) (some (IntKind.i64.wrap (x1 - if (if IntKind.i64.wrap (x1 - x4) < x5 then IntKind.i64.wrap (x1 - x4) else x5) > (0 : Int) then if IntKind.i64.wrap (x1 - x4) < x5 then IntKind.i64.wrap (x1 - x4) else x5 else (0 : Int))))].getD (2 : Nat) (Row.one (CTy.slice (Row.cons (CTy.int IntKind.i32) (Row.cons (CTy.int IntKind.i64) (Row.cons (CTy.int IntKind.i64) (Row.cons (CTy.int IntKind.i64) (Row.one (CTy.int IntKind.i64)))))))).dflt))) - (0 : Int))).toNat).length) then (bif (((0 : Nat) + (((some (0 : Int)).getD (Int.ofNat (rowN ((0 : Int), (0 : Int), (0 : Int), (0 : Int), (0 : Int)) (IntKind.i64.wrap (IntKind.i64.wrap (IntKind.i64.wrap (IntKind.i64.wrap ((0 : Int) + Int.ofNat (List.length ([cutList y1 none (some x4), y2, cutList y1 (some x4) (some (IntKind.i64.wrap (x1 - if (if IntKind.i64.wrap (x1 - x4) < x5 then IntKind.i64.wrap (x1 - x4) else x5) > (0 : Int) then if IntKind.i64.wrap (x1 - x4) < x5 then IntKind.i64.wrap (x1 - x4) else x5 else (0 : Int))))].getD (0 : Nat) (Row.one (CTy.slice (Row.cons (CTy.int IntKind.i32) (Row.cons (CTy.int IntKind.i64) (Row.cons (CTy.int IntKind.i64) (Row.cons (CTy.int IntKind.i64) (Row.one (CTy.int IntKind.i64)))))))).dflt))) + Int.ofNat (List.length ([cutList y1 none (some x4), y2, cutList y1 (some x4) (some (IntKind.i64.wrap (x1 - if (if IntKind.i64.wrap (x1 - x4) < x5 then IntKind.i64.wrap (x1 - x4) else x5) > (0 : Int) then if IntKind.i64.wrap (x1 - x4) < x5 then IntKind.i64.wrap (x1 - x4) else x5 else (0 : Int))))].getD (1 : Nat) (Row.one (CTy.slice (Row.cons (CTy.int IntKind.i32) (Row.cons (CTy.int IntKind.i64) (Row.cons (CTy.int IntKind.i64) (Row.cons (CTy.int IntKind.i64) (Row.one (CTy.int IntKind.i64)))))))).dflt))) + Int.ofNat (List.length ([cutList y1 none (some x4), y2, cutList y1 (some x4) (some (IntKind.i64.wrap (x1 - if (if IntKind.i64.wrap (x1 - x4) < x5 then IntKind.i64.wrap (x1 - x4) else x5) > (0 : Int) then if IntKind.i64.wrap (x1 - x4) < x5 then IntKind.i64.wrap (x1 - x4) else x5 else (0 : Int))))].getD (2 : Nat) (Row.one (CTy.slice (Row.cons (CTy.int IntKind.i32) (Row.cons (CTy.int IntKind.i64) (Row.cons (CTy.int IntKind.i64) (Row.cons (CTy.int IntKind.i64) (Row.one (CTy.int IntKind.i64)))))))).dflt))) - (0 : Int))).toNat).length)).toNat - (0 : Nat) + List.length ([cutList y1 none (some x4), y2, cutList y1 (some x4) (some (IntKind.i64.wrap (x1 - if (if IntKind.i64.wrap (x1 - x4) < x5 then IntKind.i64.wrap (x1 - x4) else x5) > (0 : Int) then if IntKind.i64.wrap (x1 - x4) < x5 then IntKind.i64.wrap (x1 - x4) else x5 else (0 : Int))))].getD (0 : Nat) (Row.one (CTy.slice (Row.cons (CTy.int IntKind.i32) (Row.cons (CTy.int IntKind.i64) (Row.cons (CTy.int IntKind.i64) (Row.cons (CTy.int IntKind.i64) (Row.one (CTy.int IntKind.i64)))))))).dflt)) + List.length ([cutList y1 none (some x4), y2, cutList y1 (some x4) (some (IntKind.i64.wrap (x1 - if (if IntKind.i64.wrap (x1 - x4) < x5 then IntKind.i64.wrap (x1 - x4) else x5) > (0 : Int) then if IntKind.i64.wrap (x1 - x4) < x5 then IntKind.i64.wrap (x1 - x4) else x5 else (0 : Int))))].getD (1 : Nat) (Row.one (CTy.slice (Row.cons (CTy.int IntKind.i32) (Row.cons (CTy.int IntKind.i64) (Row.cons (CTy.int IntKind.i64) (Row.cons (CTy.int IntKind.i64) (Row.one (CTy.int IntKind.i64)))))))).dflt)).ble (splice (rowN ((0 : Int), (0 : Int), (0 : Int), (0 : Int), (0 : Int)) (IntKind.i64.wrap (IntKind.i64.wrap (IntKind.i64.wrap (IntKind.i64.wrap ((0 : Int) + Int.ofNat (List.length ([cutList y1 none (some x4), y2, cutList y1 (some x4) (some (IntKind.i64.wrap (x1 - if (if IntKind.i64.wrap (x1 - x4) < x5 then IntKind.i64.wrap (x1 - x4) else x5) > (0 : Int) then if IntKind.i64.wrap (x1 - x4) < x5 then IntKind.i64.wrap (x1 - x4) else x5 else (0 : Int))))].getD (0 : Nat) (Row.one (CTy.slice (Row.cons (CTy.int IntKind.i32) (Row.cons (CTy.int IntKind.i64) (Row.cons (CTy.int IntKind.i64) (Row.cons (CTy.int IntKind.i64) (Row.one (CTy.int IntKind.i64)))))))).dflt))) + Int.ofNat (List.length ([cutList y1 none (some x4), y2, cutList y1 (some x4) (some (IntKind.i64.wrap (x1 - if (if IntKind.i64.wrap (x1 - x4) < x5 then IntKind.i64.wrap (x1 - x4) else x5) > (0 : Int) then if IntKind.i64.wrap (x1 - x4) < x5 then IntKind.i64.wrap (x1 - x4) else x5 else (0 : Int))))].getD (1 : Nat) (Row.one (CTy.slice (Row.cons (CTy.int IntKind.i32) (Row.cons (CTy.int IntKind.i64) (Row.cons (CTy.int IntKind.i64) (Row.cons (CTy.int IntKind.i64) (Row.one (CTy.int IntKind.i64)))))))).dflt))) + Int.ofNat (List.length ([cutList y1 none (some x4), y2, cutList y1 (some x4) (some (IntKind.i64.wrap (x1 - if (if IntKind.i64.wrap (x1 - x4) < x5 then IntKind.i64.wrap (x1 - x4) else x5) > (0 : Int) then if IntKind.i64.wrap (x1 - x4) < x5 then IntKind.i64.wrap (x1 - x4) else x5 else (0 : Int))))].getD (2 : Nat) (Row.one (CTy.slice (Row.cons (CTy.int IntKind.i32) (Row.cons (CTy.int IntKind.i64) (Row.cons (CTy.int IntKind.i64) (Row.cons (CTy.int IntKind.i64) (Row.one (CTy.int IntKind.i64)))))))).dflt))) - (0 : Int))).toNat) ((0 : Nat) + (((some (0 : Int)).getD (Int.ofNat (rowN ((0 : Int), (0 : Int), (0 : Int), (0 : Int), (0 : Int)) (IntKind.i64.wrap (IntKind.i64.wrap (IntKind.i64.wrap (IntKind.i64.wrap ((0 : Int) + Int.ofNat (List.length ([cutList y1 none (some x4), y2, cutList y1 (some x4) (some (IntKind.i64.wrap (x1 - if (if IntKind.i64.wrap (x1 - x4) < x5 then IntKind.i64.wrap (x1 - x4) else x5) > (0 : Int) then if IntKind.i64.wrap (x1 - x4) < x5 then IntKind.i64.wrap (x1 - x4) else x5 else (0 : Int))))].getD (0 : Nat) (Row.one (CTy.slice (Row.cons (CTy.int IntKind.i32) (Row.cons (CTy.int IntKind.i64) (Row.cons (CTy.int IntKind.i64) (Row.cons (CTy.int IntKind.i64) (Row.one (CTy.int IntKind.i64)))))))).dflt))) + Int.ofNat (List.length ([cutList y1 none (some x4), y2, cutList y1 (some x4) (some (IntKind.i64.wrap (x1 - if (if IntKind.i64.wrap (x1 - x4) < x5 then IntKind.i64.wrap (x1 - x4) else x5) > (0 : Int) then if IntKind.i64.wrap (x1 - x4) < x5 then IntKind.i64.wrap (x1 - x4) else x5 else (0 : Int))))].getD (1 : Nat) (Row.one (CTy.slice (Row.cons (CTy.int IntKind.i32) (Row.cons (CTy.int IntKind.i64) (Row.cons (CTy.int IntKind.i64) (Row.cons (CTy.int IntKind.i64) (Row.one (CTy.int IntKind.i64)))))))).dflt))) + Int.ofNat (List.length ([cutList y1 none (some x4), y2, cutList y1 (some x4) (some (IntKind.i64.wrap (x1 - if (if IntKind.i64.wrap (x1 - x4) < x5 then IntKind.i64.wrap (x1 - x4) else x5) > (0 : Int) then if IntKind.i64.wrap (x1 - x4) < x5 then IntKind.i64.wrap (x1 - x4) else x5 else (0 : Int))))].getD (2 : Nat) (Row.one (CTy.slice (Row.cons (CTy.int IntKind.i32) (Row.cons (CTy.int IntKind.i64) (Row.cons (CTy.int IntKind.i64) (Row.cons (CTy.int IntKind.i64) (Row.one (CTy.int IntKind.i64)))))))).dflt))) - (0 : Int))).toNat).length)).toNat - (0 : Nat))) ([cutList y1 none (some x4), y2, cutList y1 (some x4) (some (IntKind.i64.wrap (x1 - if (if IntKind.i64.wrap (x1 - x4) < x5 then IntKind.i64.wrap (x1 - x4) else x5) > (0 : Int) then if IntKind.i64.wrap (x1 - x4) < x5 then IntKind.i64.wrap (x1 - x4) else x5 else (0 : Int))))].getD (0 : Nat) (Row.one (CTy.slice (Row.cons (CTy.int IntKind.i32) (Row.cons (CTy.int IntKind.i64) (Row.cons (CTy.int IntKind.i64) (Row.cons (CTy.int IntKind.i64) (Row.one (CTy.int IntKind.i64)))))))).dflt)).length) then (bif (((0 : Nat) + (((some (0 : Int)).getD (Int.ofNat (rowN ((0 : Int), (0 : Int), (0 : Int), (0 : Int), (0 : Int)) (IntKind.i64.wrap (IntKind.i64.wrap (IntKind.i64.wrap (IntKind.i64.wrap ((0 : Int) + Int.ofNat (List.length ([cutList y1 none (some x4), y2, cutList y1 (some x4) (some (IntKind.i64.wrap (x1 - if (if IntKind.i64.wrap (x1 - x4) < x5 then IntKind.i64.wrap (x1 - x4) else x5) > (0 : Int) then if IntKind.i64.wrap (x1 - x4) < x5 then IntKind.i64.wrap (x1 - x4) else x5 else (0 : Int))))].getD (0 : Nat) (Row.one (CTy.slice (Row.cons (CTy.int IntKind.i32) (Row.cons (CTy.int IntKind.i64) (Row.cons (CTy.int IntKind.i64) (Row.cons (CTy.int IntKind.i64) (Row.one (CTy.int IntKind.i64)))))))).dflt))) + Int.ofNat (List.length ([cutList y1 none (some x4), y2, cutList y1 (some x4) (some (IntKind.i64.wrap (x1 - if (if IntKind.i64.wrap (x1 - x4) < x5 then IntKind.i64.wrap (x1 - x4) else x5) > (0 : Int) then if IntKind.i64.wrap (x1 - x4) < x5 then IntKind.i64.wrap (x1 - x4) else x5 else (0 : Int))))].getD (1 : Nat) (Row.one (CTy.slice (Row.cons (CTy.int IntKind.i32) (Row.cons (CTy.int IntKind.i64) (Row.cons (CTy.int IntKind.i64) (Row.cons (CTy.int IntKind.i64) (Row.one (CTy.int IntKind.i64)))))))).dflt))) + Int.ofNat (List.length ([cutList y1 none (some x4), y2, cutList y1 (some x4) (some (IntKind.i64.wrap (x1 - if (if IntKind.i64.wrap (x1 - x4) < x5 then IntKind.i64.wrap (x1 - x4) else x5) > (0 : Int) then if IntKind.i64.wrap (x1 - x4) < x5 then IntKind.i64.wrap (x1 - x4) else x5 else (0 : Int))))].getD (2 : Nat) (Row.one (CTy.slice (Row.cons (CTy.int IntKind.i32) (Row.cons (CTy.int IntKind.i64) (Row.cons (CTy.int IntKind.i64) (Row.cons (CTy.int IntKind.i64) (Row.one (CTy.int IntKind.i64)))))))).dflt))) - (0 : Int))).toNat).length)).toNat - (0 : Nat) + List.length ([cutList y1 none (some x4), y2, cutList y1 (some x4) (some (IntKind.i64.wrap (x1 - if (if IntKind.i64.wrap (x1 - x4) < x5 then IntKind.i64.wrap (x1 - x4) else x5) > (0 : Int) then if IntKind.i64.wrap (x1 - x4) < x5 then IntKind.i64.wrap (x1 - x4) else x5 else (0 : Int))))].getD (0 : Nat) (Row.one (CTy.slice (Row.cons (CTy.int IntKind.i32) (Row.cons (CTy.int IntKind.i64) (Row.cons (CTy.int IntKind.i64) (Row.cons (CTy.int IntKind.i64) (Row.one (CTy.int IntKind.i64)))))))).dflt) + List.length ([cutList y1 none (some x4), y2, cutList y1 (some x4) (some (IntKind.i64.wrap (x1 - if (if IntKind.i64.wrap (x1 - x4) < x5 then IntKind.i64.wrap (x1 - x4) else x5) > (0 : Int) then if IntKind.i64.wrap (x1 - x4) < x5 then IntKind.i64.wrap (x1 - x4) else x5 else (0 : Int))))].getD (1 : Nat) (Row.one (CTy.slice (Row.cons (CTy.int IntKind.i32) (Row.cons (CTy.int IntKind.i64) (Row.cons (CTy.int IntKind.i64) (Row.cons (CTy.int IntKind.i64) (Row.one (CTy.int IntKind.i64)))))))).dflt)) + List.length ([cutList y1 none (some x4), y2, cutList y1 (some x4) (some (IntKind.i64.wrap (x1 - if (if IntKind.i64.wrap (x1 - x4) < x5 then IntKind.i64.wrap (x1 - x4) else x5) > (0 : Int) then if IntKind.i64.wrap (x1 - x4) < x5 then IntKind.i64.wrap (x1 - x4) else x5 else (0 : Int))))].getD (2 : Nat) (Row.one (CTy.slice (Row.cons (CTy.int IntKind.i32) (Row.cons (CTy.int IntKind.i64) (Row.cons (CTy.int IntKind.i64) (Row.cons (CTy.int IntKind.i64) (Row.one (CTy.int IntKind.i64)))))))).dflt)).ble (splice (splice (rowN ((0 : Int), (0 : Int), (0 : Int), (0 : Int), (0 : Int)) (IntKind.i64.wrap (IntKind.i64.wrap (IntKind.i64.wrap (IntKind.i64.wrap ((0 : Int) + Int.ofNat (List.length ([cutList y1 none (some x4), y2, cutList y1 (some x4) (some (IntKind.i64.wrap (x1 - if (if IntKind.i64.wrap (x1 - x4) < x5 then IntKind.i64.wrap (x1 - x4) else x5) > (0 : Int) then if IntKind.i64.wrap (x1 - x4) < x5 then IntKind.i64.wrap (x1 - x4) else x5 else (0 : Int))))].getD (0 : Nat) (Row.one (CTy.slice (Row.cons (CTy.int IntKind.i32) (Row.cons (CTy.int IntKind.i64) (Row.cons (CTy.int IntKind.i64) (Row.cons (CTy.int IntKind.i64) (Row.one (CTy.int IntKind.i64)))))))).dflt))) + Int.ofNat (List.length ([cutList y1 none (some x4), y2, cutList y1 (some x4) (some (IntKind.i64.wrap (x1 - if (if IntKind.i64.wrap (x1 - x4) < x5 then IntKind.i64.wrap (x1 - x4) else x5) > (0 : Int) then if IntKind.i64.wrap (x1 - x4) < x5 then IntKind.i64.wrap (x1 - x4) else x5 else (0 : Int))))].getD (1 : Nat) (Row.one (CTy.slice (Row.cons (CTy.int IntKind.i32) (Row.cons (CTy.int IntKind.i64) (Row.cons (CTy.int IntKind.i64) (Row.cons (CTy.int IntKind.i64) (Row.one (CTy.int IntKind.i64)))))))).dflt))) + Int.ofNat (List.length ([cutList y1 none (some x4), y2, cutList y1 (some x4) (some (IntKind.i64.wrap (x1 - if (if IntKind.i64.wrap (x1 - x4) < x5 then IntKind.i64.wrap (x1 - x4) else x5) > (0 : Int) then if IntKind.i64.wrap (x1 - x4) < x5 then IntKind.i64.wrap (x1 - x4) else x5 else (0 : Int))))].getD (2 : Nat) (Row.one (CTy.slice (Row.cons (CTy.int IntKind.i32) (Row.cons (CTy.int IntKind.i64) (Row.cons (CTy.int IntKind.i64) (Row.cons (CTy.int IntKind.i64) (Row.one (CTy.int IntKind.i64)))))))).dflt))) - (0 : Int))).toNat) ((0 : Nat) + (((some (0 : Int)).getD (Int.ofNat (rowN ((0 : Int), (0 : Int), (0 : Int), (0 : Int), (0 : Int)) (IntKind.i64.wrap (IntKind.i64.wrap (IntKind.i64.wrap (IntKind.i64.wrap ((0 : Int) + Int.ofNat (List.length ([cutList y1 none (some x4), y2, cutList y1 (some x4) (some (IntKind.i64.wrap (x1 - if (if IntKind.i64.wrap (x1 - x4) < x5 then IntKind.i64.wrap (x1 - x4) else x5) > (0 : Int) then if IntKind.i64.wrap (x1 - x4) < x5 then IntKind.i64.wrap (x1 - x4) else x5 else (0 : Int))))].getD (0 : Nat) (Row.one (CTy.slice (Row.cons (CTy.int IntKind.i32) (Row.cons (CTy.int IntKind.i64) (Row.cons (CTy.int IntKind.i64) (Row.cons (CTy.int IntKind.i64) (Row.one (CTy.int IntKind.i64)))))))).dflt))) + Int.ofNat (List.length ([cutList y1 none (some x4), y2, cutList y1 (some x4) (some (IntKind.i64.wrap (x1 - if (if IntKind.i64.wrap (x1 - x4) < x5 then IntKind.i64.wrap (x1 - x4) else x5) > (0 : Int) then if IntKind.i64.wrap (x1 - x4) < x5 then IntKind.i64.wrap (x1 - x4) else x5 else (0 : Int))))].getD (1 : Nat) (Row.one (CTy.slice (Row.cons (CTy.int IntKind.i32) (Row.cons (CTy.int IntKind.i64) (Row.cons (CTy.int IntKind.i64) (Row.cons (CTy.int IntKind.i64) (Row.one (CTy.int IntKind.i64)))))))).dflt))) + Int.ofNat (List.length ([cutList y1 none (some x4), y2, cutList y1 (some x4) (some (IntKind.i64.wrap (x1 - if (if IntKind.i64.wrap (x1 - x4) < x5 then IntKind.i64.wrap (x1 - x4) else x5) > (0 : Int) then if IntKind.i64.wrap (x1 - x4) < x5 then IntKind.i64.wrap (x1 - x4) else x5 else (0 : Int))))].getD (2 : Nat) (Row.one (CTy.slice (Row.cons (CTy.int IntKind.i32) (Row.cons (CTy.int IntKind.i64) (Row.cons (CTy.int IntKind.i64) (Row.cons (CTy.int IntKind.i64) (Row.one (CTy.int IntKind.i64)))))))).dflt))) - (0 : Int))).toNat).length)).toNat - (0 : Nat))) ([cutList y1 none (some x4), y2, cutList y1 (some x4) (some (IntKind.i64.wrap (x1 - if (if IntKind.i64.wrap (x1 - x4) < x5 then IntKind.i64.wrap (x1 - x4) else x5) > (0 : Int) then if IntKind.i64.wrap (x1 - x4) < x5 then IntKind.i64.wrap (x1 - x4) else x5 else (0 : Int))))].getD (0 : Nat) (Row.one (CTy.slice (Row.cons (CTy.int IntKind.i32) (Row.cons (CTy.int IntKind.i64) (Row.cons (CTy.int IntKind.i64) (Row.cons (CTy.int IntKind.i64) (Row.one (CTy.int IntKind.i64)))))))).dflt)) ((0 : Nat) + (((some (0 : Int)).getD (Int.ofNat (rowN ((0 : Int), (0 : Int), (0 : Int), (0 : Int), (0 : Int)) (IntKind.i64.wrap (IntKind.i64.wrap (IntKind.i64.wrap (IntKind.i64.wrap ((0 : Int) + Int.ofNat (List.length ([cutList y1 none (some x4), y2, cutList y1 (some x4) (some (IntKind.i64.wrap (x1 - if (if IntKind.i64.wrap (x1 - x4) < x5 then IntKind.i64.wrap (x1 - x4) else x5) > (0 : Int) then if IntKind.i64.wrap (x1 - x4) < x5 then IntKind.i64.wrap (x1 - x4) else x5 else (0 : Int))))].getD (0 : Nat) (Row.one (CTy.slice (Row.cons (CTy.int IntKind.i32) (Row.cons (CTy.int IntKind.i64) (Row.cons (CTy.int IntKind.i64) (Row.cons (CTy.int IntKind.i64) (Row.one (CTy.int IntKind.i64)))))))).dflt))) + Int.ofNat (List.length ([cutList y1 none (some x4), y2, cutList y1 (some x4) (some (IntKind.i64.wrap (x1 - if (if IntKind.i64.wrap (x1 - x4) < x5 then IntKind.i64.wrap (x1 - x4) else x5) > (0 : Int) then if IntKind.i64.wrap (x1 - x4) < x5 then IntKind.i64.wrap (x1 - x4) else x5 else (0 : Int))))].getD (1 : Nat) (Row.one (CTy.slice (Row.cons (CTy.int IntKind.i32) (Row.cons (CTy.int IntKind.i64) (Row.cons (CTy.int IntKind.i64) (Row.cons (CTy.int IntKind.i64) (Row.one (CTy.int IntKind.i64)))))))).dflt))) + Int.ofNat (List.length ([cutList y1 none (some x4), y2, cutList y1 (some x4) (some (IntKind.i64.wrap (x1 - if (if IntKind.i64.wrap (x1 - x4) < x5 then IntKind.i64.wrap (x1 - x4) else x5) > (0 : Int) then if IntKind.i64.wrap (x1 - x4) < x5 then IntKind.i64.wrap (x1 - x4) else x5 else (0 : Int))))].getD (2 : Nat) (Row.one (CTy.slice (Row.cons (CTy.int IntKind.i32) (Row.cons (CTy.int IntKind.i64) (Row.cons (CTy.int IntKind.i64) (Row.cons (CTy.int IntKind.i64) (Row.one (CTy.int IntKind.i64)))))))).dflt))) - (0 : Int))).toNat).length)).toNat - (0 : Nat) + List.length ([cutList y1 none (some x4), y2, cutList y1 (some x4) (some (IntKind.i64.wrap (x1 - if (if IntKind.i64.wrap (x1 - x4) < x5 then IntKind.i64.wrap (x1 - x4) else x5) > (0 : Int) then if IntKind.i64.wrap (x1 - x4) < x5 then IntKind.i64.wrap (x1 - x4) else x5 else (0 : Int))))].getD (0 : Nat) (Row.one (CTy.slice (Row.cons (CTy.int IntKind.i32) (Row.cons (CTy.int IntKind.i64) (Row.cons (CTy.int IntKind.i64) (Row.cons (CTy.int IntKind.i64) (Row.one (CTy.int IntKind.i64)))))))).dflt))) ([cutList y1 none (some x4), y2, cutList y1 (some x4) (some (IntKind.i64.wrap (x1 - if (if IntKind.i64.wrap (x1 - x4) < x5 then IntKind.i64.wrap (x1 - x4) else x5) > (0 : Int) then if IntKind.i64.wrap (x1 - x4) < x5 then IntKind.i64.wrap (x1 - x4) else x5 else (0 : Int))))].getD (1 : Nat) (Row.one (CTy.slice (Row.cons (CTy.int IntKind.i32) (Row.cons (CTy.int IntKind.i64) (Row.cons (CTy.int IntKind.i64) (Row.cons (CTy.int IntKind.i64) (Row.one (CTy.int IntKind.i64)))))))).dflt)).length) then (optK ((hide edit_turned_F x0 x1 x2 x3 (List.take (((some (0 : Int)).getD (Int.ofNat (rowN ((0 : Int), (0 : Int), (0 : Int), (0 : Int), (0 : Int)) (IntKind.i64.wrap (IntKind.i64.wrap (IntKind.i64.wrap (IntKind.i64.wrap ((0 : Int) + Int.ofNat (List.length ([cutList y1 none (some x4), y2, cutList y1 (some x4) (some (IntKind.i64.wrap (x1 - if (if IntKind.i64.wrap (x1 - x4) < x5 then IntKind.i64.wrap (x1 - x4) else x5) > (0 : Int) then if IntKind.i64.wrap (x1 - x4) < x5 then IntKind.i64.wrap (x1 - x4) else x5 else (0 : Int))))].getD (0 : Nat) (Row.one (CTy.slice (Row.cons (CTy.int IntKind.i32) (Row.cons (CTy.int IntKind.i64) (Row.cons (CTy.int IntKind.i64) (Row.cons (CTy.int IntKind.i64) (Row.one (CTy.int IntKind.i64)))))))).dflt))) + Int.ofNat (List.length ([cutList y1 none (some x4), y2, cutList y1 (some x4) (some (IntKind.i64.wrap (x1 - if (if IntKind.i64.wrap (x1 - x4) < x5 then IntKind.i64.wrap (x1 - x4) else x5) > (0 : Int) then if IntKind.i64.wrap (x1 - x4) < x5 then IntKind.i64.wrap (x1 - x4) else x5 else (0 : Int))))].getD (1 : Nat) (Row.one (CTy.slice (Row.cons (CTy.int IntKind.i32) (Row.cons (CTy.int IntKind.i64) (Row.cons (CTy.int IntKind.i64) (Row.cons (CTy.int IntKind.i64) (Row.one (CTy.int IntKind.i64)))))))).dflt))) + Int.ofNat (List.length ([cutList y1 none (some x4), y2, cutList y1 (some x4) (some (IntKind.i64.wrap (x1 - if (if IntKind.i64.wrap (x1 - x4) < x5 then IntKind.i64.wrap (x1 - x4) else x5) > (0 : Int) then if IntKind.i64.wrap (x1 - x4) < x5 then IntKind.i64.wrap (x1 - x4) else x5 else (0 : Int))))].getD (2 : Nat) (Row.one (CTy.slice (Row.cons (CTy.int IntKind.i32) (Row.cons (CTy.int IntKind.i64) (Row.cons (CTy.int IntKind.i64) (Row.cons (CTy.int IntKind.i64) (Row.one (CTy.int IntKind.i64)))))))).dflt))) - (0 : Int))).toNat).length)).toNat - (0 : Nat) + List.length ([cutList y1 none (some x4), y2, cutList y1 (some x4) (some (IntKind.i64.wrap (x1 - if (if IntKind.i64.wrap (x1 - x4) < x5 then IntKind.i64.wrap (x1 - x4) else x5) > (0 : Int) then if IntKind.i64.wrap (x1 - x4) < x5 then IntKind.i64.wrap (x1 - x4) else x5 else (0 : Int))))].getD (0 : Nat) (Row.one (CTy.slice (Row.cons (CTy.int IntKind.i32) (Row.cons (CTy.int IntKind.i64) (Row.cons (CTy.int IntKind.i64) (Row.cons (CTy.int IntKind.i64) (Row.one (CTy.int IntKind.i64)))))))).dflt) + List.length ([cutList y1 none (some x4), y2, cutList y1 (some x4) (some (IntKind.i64.wrap (x1 - if (if IntKind.i64.wrap (x1 - x4) < x5 then IntKind.i64.wrap (x1 - x4) else x5) > (0 : Int) then if IntKind.i64.wrap (x1 - x4) < x5 then IntKind.i64.wrap (x1 - x4) else x5 else (0 : Int))))].getD (1 : Nat) (Row.one (CTy.slice (Row.cons (CTy.int IntKind.i32) (Row.cons (CTy.int IntKind.i64) (Row.cons (CTy.int IntKind.i64) (Row.cons (CTy.int IntKind.i64) (Row.one (CTy.int IntKind.i64)))))))).dflt) + List.length ([cutList y1 none (some x4), y2, cutList y1 (some x4) (some (IntKind.i64.wrap (x1 - if (if IntKind.i64.wrap (x1 - x4) < x5 then IntKind.i64.wrap (x1 - x4) else x5) > (0 : Int) then if IntKind.i64.wrap (x1 - x4) < x5 then IntKind.i64.wrap (x1 - x4) else x5 else (0 : Int))))].getD (2 : Nat) (Row.one (CTy.slice (Row.cons (CTy.int IntKind.i32) (Row.cons (CTy.int IntKind.i64) (Row.cons (CTy.int IntKind.i64) (Row.cons (CTy.int IntKind.i64) (Row.one (CTy.int IntKind.i64)))))))).dflt)) (List.drop (0 : Nat) (splice (splice (splice (rowN ((0 : Int), (0 : Int), (0 : Int), (0 : Int), (0 : Int)) (IntKind.i64.wrap (IntKind.i64.wrap (IntKind.i64.wrap (IntKind.i64.wrap ((0 : Int) + Int.ofNat (List.length ([cutList y1 none (some x4), y2, cutList y1 (some x4) (some (IntKind.i64.wrap (x1 - if (if IntKind.i64.wrap (x1 - x4) < x5 then IntKind.i64.wrap (x1 - x4) else x5) > (0 : Int) then if IntKind.i64.wrap (x1 - x4) < x5 then IntKind.i64.wrap (x1 - x4) else x5 else (0 : Int))))].getD (0 : Nat) (Row.one (CTy.slice (Row.cons (CTy.int IntKind.i32) (Row.cons (CTy.int IntKind.i64) (Row.cons (CTy.int IntKind.i64) (Row.cons (CTy.int IntKind.i64) (Row.one (CTy.int IntKind.i64)))))))).dflt))) + Int.ofNat (List.length ([cutList y1 none (some x4), y2, cutList y1 (some x4) (some (IntKind.i64.wrap (x1 - if (if IntKind.i64.wrap (x1 - x4) < x5 then IntKind.i64.wrap (x1 - x4) else x5) > (0 : Int) then if IntKind.i64.wrap (x1 - x4) < x5 then IntKind.i64.wrap (x1 - x4) else x5 else (0 : Int))))].getD (1 : Nat) (Row.one (CTy.slice (Row.cons (CTy.int IntKind.i32) (Row.cons (CTy.int IntKind.i64) (Row.cons (CTy.int IntKind.i64) (Row.cons (CTy.int IntKind.i64) (Row.one (CTy.int IntKind.i64)))))))).dflt))) + Int.ofNat (List.length ([cutList y1 none (some x4), y2, cutList y1 (some x4) (some (IntKind.i64.wrap (x1 - if (if IntKind.i64.wrap (x1 - x4) < x5 then IntKind.i64.wrap (x1 - x4) else x5) > (0 : Int) then if IntKind.i64.wrap (x1 - x4) < x5 then IntKind.i64.wrap (x1 - x4) else x5 else (0 : Int))))].getD (2 : Nat) (Row.one (CTy.slice (Row.cons (CTy.int IntKind.i32) (Row.cons (CTy.int IntKind.i64) (Row.cons (CTy.int IntKind.i64) (Row.cons (CTy.int IntKind.i64) (Row.one (CTy.int IntKind.i64)))))))).dflt))) - (0 : Int))).toNat) ((0 : Nat) + (((some (0 : Int)).getD (Int.ofNat (rowN ((0 : Int), (0 : Int), (0 : Int), (0 : Int), (0 : Int)) (IntKind.i64.wrap (IntKind.i64.wrap (IntKind.i64.wrap (IntKind.i64.wrap ((0 : Int) + Int.ofNat (List.length ([cutList y1 none (some x4), y2, cutList y1 (some x4) (some (IntKind.i64.wrap (x1 - if (if IntKind.i64.wrap (x1 - x4) < x5 then IntKind.i64.wrap (x1 - x4) else x5) > (0 : Int) then if IntKind.i64.wrap (x1 - x4) < x5 then IntKind.i64.wrap (x1 - x4) else x5 else (0 : Int))))].getD (0 : Nat) (Row.one (CTy.slice (Row.cons (CTy.int IntKind.i32) (Row.cons (CTy.int IntKind.i64) (Row.cons (CTy.int IntKind.i64) (Row.cons (CTy.int IntKind.i64) (Row.one (CTy.int IntKind.i64)))))))).dflt))) + Int.ofNat (List.length ([cutList y1 none (some x4), y2, cutList y1 (some x4) (some (IntKind.i64.wrap (x1 - if (if IntKind.i64.wrap (x1 - x4) < x5 then IntKind.i64.wrap (x1 - x4) else x5) > (0 : Int) then if IntKind.i64.wrap (x1 - x4) < x5 then IntKind.i64.wrap (x1 - x4) else x5 else (0 : Int))))].getD (1 : Nat) (Row.one (CTy.slice (Row.cons (CTy.int IntKind.i32) (Row.cons (CTy.int IntKind.i64) (Row.cons (CTy.int IntKind.i64) (Row.cons (CTy.int IntKind.i64) (Row.one (CTy.int IntKind.i64)))))))).dflt))) + Int.ofNat (List.length ([cutList y1 none (some x4), y2, cutList y1 (some x4) (some (IntKind.i64.wrap (x1 - if (if IntKind.i64.wrap (x1 - x4) < x5 then IntKind.i64.wrap (x1 - x4) else x5) > (0 : Int) then if IntKind.i64.wrap (x1 - x4) < x5 then IntKind.i64.wrap (x1 - x4) else x5 else (0 : Int))))].getD (2 : Nat) (Row.one (CTy.slice (Row.cons (CTy.int IntKind.i32) (Row.cons (CTy.int IntKind.i64) (Row.cons (CTy.int IntKind.i64) (Row.cons (CTy.int IntKind.i64) (Row.one (CTy.int IntKind.i64)))))))).dflt))) - (0 : Int))).toNat).length)).toNat - (0 : Nat))) ([cutList y1 none (some x4), y2, cutList y1 (some x4) (some (IntKind.i64.wrap (x1 - if (if IntKind.i64.wrap (x1 - x4) < x5 then IntKind.i64.wrap (x1 - x4) else x5) > (0 : Int) then if IntKind.i64.wrap (x1 - x4) < x5 then IntKind.i64.wrap (x1 - x4) else x5 else (0 : Int))))].getD (0 : Nat) (Row.one (CTy.slice (Row.cons (CTy.int IntKind.i32) (Row.cons (CTy.int IntKind.i64) (Row.cons (CTy.int IntKind.i64) (Row.cons (CTy.int IntKind.i64) (Row.one (CTy.int IntKind.i64)))))))).dflt)) ((0 : Nat) + (((some (0 : Int)).getD (Int.ofNat (rowN ((0 : Int), (0 : Int), (0 : Int), (0 : Int), (0 : Int)) (IntKind.i64.wrap (IntKind.i64.wrap (IntKind.i64.wrap (IntKind.i64.wrap ((0 : Int) + Int.ofNat (List.length ([cutList y1 none (some x4), y2, cutList y1 (some x4) (some (IntKind.i64.wrap (x1 - if (if IntKind.i64.wrap (x1 - x4) < x5 then IntKind.i64.wrap (x1 - x4) else x5) > (0 : Int) then if IntKind.i64.wrap (x1 - x4) < x5 then IntKind.i64.wrap (x1 - x4) else x5 else (0 : Int))))].getD (0 : Nat) (Row.one (CTy.slice (Row.cons (CTy.int IntKind.i32) (Row.cons (CTy.int IntKind.i64) (Row.cons (CTy.int IntKind.i64) (Row.cons (CTy.int IntKind.i64) (Row.one (CTy.int IntKind.i64)))))))).dflt))) + Int.ofNat (List.length ([cutList y1 none (some x4), y2, cutList y1 (some x4) (some (IntKind.i64.wrap (x1 - if (if IntKind.i64.wrap (x1 - x4) < x5 then IntKind.i64.wrap (x1 - x4) else x5) > (0 : Int) then if IntKind.i64.wrap (x1 - x4) < x5 then IntKind.i64.wrap (x1 - x4) else x5 else (0 : Int))))].getD (1 : Nat) (Row.one (CTy.slice (Row.cons (CTy.int IntKind.i32) (Row.cons (CTy.int IntKind.i64) (Row.cons (CTy.int IntKind.i64) (Row.cons (CTy.int IntKind.i64) (Row.one (CTy.int IntKind.i64)))))))).dflt))) + Int.ofNat (List.length ([cutList y1 none (some x4), y2, cutList y1 (some x4) (some (IntKind.i64.wrap (x1 - if (if IntKind.i64.wrap (x1 - x4) < x5 then IntKind.i64.wrap (x1 - x4) else x5) > (0 : Int) then if IntKind.i64.wrap (x1 - x4) < x5 then IntKind.i64.wrap (x1 - x4) else x5 else (0 : Int))))].getD (2 : Nat) (Row.one (CTy.slice (Row.cons (CTy.int IntKind.i32) (Row.cons (CTy.int IntKind.i64) (Row.cons (CTy.int IntKind.i64) (Row.cons (CTy.int IntKind.i64) (Row.one (CTy.int IntKind.i64)))))))).dflt))) - (0 : Int))).toNat).length)).toNat - (0 : Nat) + List.length ([cutList y1 none (some x4), y2, cutList y1 (some x4) (some (IntKind.i64.wrap (x1 - if (if IntKind.i64.wrap (x1 - x4) < x5 then IntKind.i64.wrap (x1 - x4) else x5) > (0 : Int) then if IntKind.i64.wrap (x1 - x4) < x5 then IntKind.i64.wrap (x1 - x4) else x5 else (0 : Int))))].getD (0 : Nat) (Row.one (CTy.slice (Row.cons (CTy.int IntKind.i32) (Row.cons (CTy.int IntKind.i64) (Row.cons (CTy.int IntKind.i64) (Row.cons (CTy.int IntKind.i64) (Row.one (CTy.int IntKind.i64)))))))).dflt))) ([cutList y1 none (some x4), y2, cutList y1 (some x4) (some (IntKind.i64.wrap (x1 - if (if IntKind.i64.wrap (x1 - x4) < x5 then IntKind.i64.wrap (x1 - x4) else x5) > (0 : Int) then if IntKind.i64.wrap (x1 - x4) < x5 then IntKind.i64.wrap (x1 - x4) else x5 else (0 : Int))))].getD (1 : Nat) (Row.one (CTy.slice (Row.cons (CTy.int IntKind.i32) (Row.cons (CTy.int IntKind.i64) (Row.cons (CTy.int IntKind.i64) (Row.cons (CTy.int IntKind.i64) (Row.one (CTy.int IntKind.i64)))))))).dflt)) ((0 : Nat) + (((some (0 : Int)).getD (Int.ofNat (rowN ((0 : Int), (0 : Int), (0 : Int), (0 : Int), (0 : Int)) (IntKind.i64.wrap (IntKind.i64.wrap (IntKind.i64.wrap (IntKind.i64.wrap ((0 : Int) + Int.ofNat (List.length ([cutList y1 none (some x4), y2, cutList y1 (some x4) (some (IntKind.i64.wrap (x1 - if (if IntKind.i64.wrap (x1 - x4) < x5 then IntKind.i64.wrap (x1 - x4) else x5) > (0 : Int) then if IntKind.i64.wrap (x1 - x4) < x5 then IntKind.i64.wrap (x1 - x4) else x5 else (0 : Int))))].getD (0 : Nat) (Row.one (CTy.slice (Row.cons (CTy.int IntKind.i32) (Row.cons (CTy.int IntKind.i64) (Row.cons (CTy.int IntKind.i64) (Row.cons (CTy.int IntKind.i64) (Row.one (CTy.int IntKind.i64)))))))).dflt))) + Int.ofNat (List.length ([cutList y1 none (some x4), y2, cutList y1 (some x4) (some (IntKind.i64.wrap (x1 - if (if IntKind.i64.wrap (x1 - x4) < x5 then IntKind.i64.wrap (x1 - x4) else x5) > (0 : Int) then if IntKind.i64.wrap (x1 - x4) < x5 then IntKind.i64.wrap (x1 - x4) else x5 else (0 : Int))))].getD (1 : Nat) (Row.one (CTy.slice (Row.cons (CTy.int IntKind.i32) (Row.cons (CTy.int IntKind.i64) (Row.cons (CTy.int IntKind.i64) (Row.cons (CTy.int IntKind.i64) (Row.one (CTy.int IntKind.i64)))))))).dflt))) + Int.ofNat (List.length ([cutList y1 none (some x4), y2, cutList y1 (some x4) (some (IntKind.i64.wrap (x1 - if (if IntKind.i64.wrap (x1 - x4) < x5 then IntKind.i64.wrap (x1 - x4) else x5) > (0 : Int) then if IntKind.i64.wrap (x1 - x4) < x5 then IntKind.i64.wrap (x1 - x4) else x5 else (0 : Int))))].getD (2 : Nat) (Row.one (CTy.slice (Row.cons (CTy.int IntKind.i32) (Row.cons (CTy.int IntKind.i64) (Row.cons (CTy.int IntKind.i64) (Row.cons (CTy.int IntKind.i64) (Row.one (CTy.int IntKind.i64)))))))).dflt))) - (0 : Int))).toNat).length)).toNat - (0 : Nat) + List.length ([cutList y1 none (some x4), y2, cutList y1 (some x4) (some (IntKind.i64.wrap (x1 - if (if IntKind.i64.wrap (x1 - x4) < x5 then IntKind.i64.wrap (x1 - x4) else x5) > (0 : Int) then if IntKind.i64.wrap (x1 - x4) < x5 then IntKind.i64.wrap (x1 - x4) else x5 else (0 : Int))))].getD (0 : Nat) (Row.one (CTy.slice (Row.cons (CTy.int IntKind.i32) (Row.cons (CTy.int IntKind.i64) (Row.cons (CTy.int IntKind.i64) (Row.cons (CTy.int IntKind.i64) (Row.one (CTy.int IntKind.i64)))))))).dflt) + List.length ([cutList y1 none (some x4), y2, cutList y1 (some x4) (some (IntKind.i64.wrap (x1 - if (if IntKind.i64.wrap (x1 - x4) < x5 then IntKind.i64.wrap (x1 - x4) else x5) > (0 : Int) then if IntKind.i64.wrap (x1 - x4) < x5 then IntKind.i64.wrap (x1 - x4) else x5 else (0 : Int))))].getD (1 : Nat) (Row.one (CTy.slice (Row.cons (CTy.int IntKind.i32) (Row.cons (CTy.int IntKind.i64) (Row.cons (CTy.int IntKind.i64) (Row.cons (CTy.int IntKind.i64) (Row.one (CTy.int IntKind.i64)))))))).dflt))) ([cutList y1 none (some x4), y2, cutList y1 (some x4) (some (IntKind.i64.wrap (x1 - if (if IntKind.i64.wrap (x1 - x4) < x5 then IntKind.i64.wrap (x1 - x4) else x5) > (0 : Int) then if IntKind.i64.wrap (x1 - x4) < x5 then IntKind.i64.wrap (x1 - x4) else x5 else (0 : Int))))].getD (2 : Nat) (Row.one (CTy.slice (Row.cons (CTy.int IntKind.i32) (Row.cons (CTy.int IntKind.i64) (Row.cons (CTy.int IntKind.i64) (Row.cons (CTy.int IntKind.i64) (Row.one (CTy.int IntKind.i64)))))))).dflt)))))) fun y3 => (some ((y3.1), (y3.2.1), (y3.2.2)))) else none) else none) else none) else none) else (bif ((List.length ([cutList y1 none (some x4), y2, cutList y1 (some x4) (some (IntKind.i64.wrap (x1 - if (if IntKind.i64.wrap (x1 - x4) < x5 then IntKind.i64.wrap (x1 - x4) else x5) > (0 : Int) then if IntKind.i64.wrap (x1 - x4) < x5 then IntKind.i64.wrap (x1 - x4) else x5 else (0 : Int))))].getD (0 : Nat) (Row.one (CTy.slice (Row.cons (CTy.int IntKind.i32) (Row.cons (CTy.int IntKind.i64) (Row.cons (CTy.int IntKind.i64) (Row.cons (CTy.int IntKind.i64) (Row.one (CTy.int IntKind.i64)))))))).dflt)).ble (274877906944 : Nat) && true) then (bif (true && ((List.length ([cutList y1 none (some x4), y2, cutList y1 (some x4) (some (IntKind.i64.wrap (x1 - if (if IntKind.i64.wrap (x1 - x4) < x5 then IntKind.i64.wrap (x1 - x4) else x5) > (0 : Int) then if IntKind.i64.wrap (x1 - x4) < x5 then IntKind.i64.wrap (x1 - x4) else x5 else (0 : Int))))].getD (0 : Nat) (Row.one (CTy.slice (Row.cons (CTy.int IntKind.i32) (Row.cons (CTy.int IntKind.i64) (Row.cons (CTy.int IntKind.i64) (Row.cons (CTy.int IntKind.i64) (Row.one (CTy.int IntKind.i64)))))))).dflt) + List.length ([cutList y1 none (some x4), y2, cutList y1 (some x4) (some (IntKind.i64.wrap (x1 - if (if IntKind.i64.wrap (x1 - x4) < x5 then IntKind.i64.wrap (x1 - x4) else x5) > (0 : Int) then if IntKind.i64.wrap (x1 - x4) < x5 then IntKind.i64.wrap (x1 - x4) else x5 else (0 : Int))))].getD (1 : Nat) (Row.one (CTy.slice (Row.cons (CTy.int IntKind.i32) (Row.cons (CTy.int IntKind.i64) (Row.cons (CTy.int IntKind.i64) (Row.cons (CTy.int IntKind.i64) (Row.one (CTy.int IntKind.i64)))))))).dflt)).ble (274877906944 : Nat) && true)) then (bif (true && ((([cutList y1 none (some x4), y2, cutList y1 (some x4) (some (IntKind.i64.wrap (x1 - if (if IntKind.i64.wrap (x1 - x4) < x5 then IntKind.i64.wrap (x1 - x4) else x5) > (0 : Int) then if IntKind.i64.wrap (x1 - x4) < x5 then IntKind.i64.wrap (x1 - x4) else x5 else (0 : Int))))].getD (0 : Nat) (Row.one (CTy.slice (Row.cons (CTy.int IntKind.i32) (Row.cons (CTy.int IntKind.i64) (Row.cons (CTy.int IntKind.i64) (Row.cons (CTy.int IntKind.i64) (Row.one (CTy.int IntKind.i64)))))))).dflt ++ [cutList y1 none (some x4), y2, cutList y1 (some x4) (some (IntKind.i64.wrap (x1 - if (if IntKind.i64.wrap (x1 - x4) < x5 then IntKind.i64.wrap (x1 - x4) else x5) > (0 : Int) then if IntKind.i64.wrap (x1 - x4) < x5 then IntKind.i64.wrap (x1 - x4) else x5 else (0 : Int))))].getD (1 : Nat) (Row.one (CTy.slice (Row.cons (CTy.int IntKind.i32) (Row.cons (CTy.int IntKind.i64) (Row.cons (CTy.int IntKind.i64) (Row.cons (CTy.int IntKind.i64) (Row.one (CTy.int IntKind.i64)))))))).dflt).length + List.length ([cutList y1 none (some x4), y2, cutList y1 (some x4) (some (IntKind.i64.wrap (x1 - if (if IntKind.i64.wrap (x1 - x4) < x5 then IntKind.i64.wrap (x1 - x4) else x5) > (0 : Int) then if IntKind.i64.wrap (x1 - x4) < x5 then IntKind.i64.wrap (x1 - x4) else x5 else (0 : Int))))].getD (2 : Nat) (Row.one (CTy.slice (Row.cons (CTy.int IntKind.i32) (Row.cons (CTy.int IntKind.i64) (Row.cons (CTy.int IntKind.i64) (Row.cons (CTy.int IntKind.i64) (Row.one (CTy.int IntKind.i64)))))))).dflt)).ble (274877906944 : Nat) && true)) then (optK ((hide edit_turned_F x0 x1 x2 x3 ([cutList y1 none (some x4), y2, cutList y1 (some x4) (some (IntKind.i64.wrap (x1 - if (if IntKind.i64.wrap (x1 - x4) < x5 then IntKind.i64.wrap (x1 - x4) else x5) > (0 : Int) then if IntKind.i64.wrap (x1 - x4) < x5 then IntKind.i64.wrap (x1 - x4) else x5 else (0 : Int))))].getD (0 : Nat) (Row.one (CTy.slice (Row.cons (CTy.int IntKind.i32) (Row.cons (CTy.int IntKind.i64) (Row.cons (CTy.int IntKind.i64) (Row.cons (CTy.int IntKind.i64) (Row.one (CTy.int IntKind.i64)))))))).dflt ++ [cutList y1 none (some x4), y2, cutList y1 (some x4) (some (IntKind.i64.wrap (x1 - if (if IntKind.i64.wrap (x1 - x4) < x5 then IntKind.i64.wrap (x1 - x4) else x5) > (0 : Int) then if IntKind.i64.wrap (x1 - x4) < x5 then IntKind.i64.wrap (x1 - x4) else x5 else (0 : Int))))].getD (1 : Nat) (Row.one (CTy.slice (Row.cons (CTy.int IntKind.i32) (Row.cons (CTy.int IntKind.i64) (Row.cons (CTy.int IntKind.i64) (Row.cons (CTy.int IntKind.i64) (Row.one (CTy.int IntKind.i64)))))))).dflt ++ [cutList y1 none (some x4), y2, cutList y1 (some x4) (some (IntKind.i64.wrap (x1 - if (if IntKind.i64.wrap (x1 - x4) < x5 then IntKind.i64.wrap (x1 - x4) else x5) > (0 : Int) then if IntKind.i64.wrap (x1 - x4) < x5 then IntKind.i64.wrap (x1 - x4) else x5 else (0 : Int))))].getD (2 : Nat) (Row.one (CTy.slice (Row.cons (CTy.int IntKind.i32) (Row.cons (CTy.int IntKind.i64) (Row.cons (CTy.int IntKind.i64) (Row.cons (CTy.int IntKind.i64) (Row.one (CTy.int IntKind.i64)))))))).dflt))) fun y4 => (some ((y4.1), (y4.2.1), (y4.2.2)))) else none) else none) else none)))))) else none)) else none))))
noncomputable def edit_Insert_A : SkL := (.cons (.agg (.cons (.int .i64) (.cons (.int .i64) (.cons (.list (.cons (.int .i32) (.cons (.int .i64) (.cons (.int .i64) (.cons (.int .i64) (.one (.int .i64))))))) .nil)))) (.cons (.int .i64) (.cons (.int .i64) (.cons (.int .i64) (.cons (.agg (.cons (.int .i64) (.cons (.int .i64) (.cons (.int .i64) .nil)))) .nil)))))
noncomputable def edit_Insert_B : Sk := (.agg (.cons (.int .i64) (.cons (.int .i64) (.cons (.list (.cons (.int .i32) (.cons (.int .i64) (.cons (.int .i64) (.cons (.int .i64) (.one (.int .i64))))))) .nil))))
def edit_Insert_m {R : Type} (K : (Int × (Int × (List (Int × Int × Int × Int × Int) × Unit))) → Option R) (o : Option (Int × Int × (List (Int × Int × Int × Int × Int)))) : Option R := optK o fun y => K (y.1, (y.2.1, (y.2.2, ())))
theorem edit_Insert_run {R : Type} (x0 : Int) (x1 : Int) (x2 : List (Int × Int × Int × Int × Int)) (x3 : Int) (x4 : Int) (x5 : Int) (x6 : Int) (x7 : Int) (x8 : Int) (K : (Int × (Int × (List (Int × Int × Int × Int × Int) × Unit))) → Option R) : acall (envL edit_Insert_su ll0 cs0 (fun _ _ => false)) 1000 13 (edit_Insert_A.enc ((x0, (x1, (x2, ()))), (x3, (x4, (x5, ((x6, (x7, (x8, ()))), ())))))) [] (resK edit_Insert_B false K) = edit_Insert_m K (edit_Insert_F x0 x1 x2 x3 x4 x5 x6 x7 x8) := by
  unfold edit_Insert_F
  exact Eq.trans (by kernel_rfl) (optK_push (edit_Insert_m K) rfl _ fun y0 => (cond_push (edit_Insert_m K) _ (cond_push (edit_Insert_m K) _ rfl rfl) (optK_push (edit_Insert_m K) rfl _ fun y1 => (cond_push (edit_Insert_m K) _ (optK_push (edit_Insert_m K) rfl _ fun y2 => (cond_push (edit_Insert_m K) _ (cond_push (edit_Insert_m K) _ rfl (cond_push (edit_Insert_m K) _ rfl (cond_push (edit_Insert_m K) _ rfl (cond_push (edit_Insert_m K) _ rfl (cond_push (edit_Insert_m K) _ (cond_push (edit_Insert_m K) _ (cond_push (edit_Insert_m K) _ (cond_push (edit_Insert_m K) _ (cond_push (edit_Insert_m K) _ (optK_push (edit_Insert_m K) rfl _ fun y3 => rfl) rfl) rfl) rfl) rfl) (cond_push (edit_Insert_m K) _ (cond_push (edit_Insert_m K) _ (cond_push (edit_Insert_m K) _ (optK_push (edit_Insert_m K) rfl _ fun y4 => rfl) rfl) rfl) rfl)))))) rfl)) rfl))))
noncomputable def edit_Insert_G : GoF edit_Insert_A edit_Insert_B := fun R (x : ((Int × (Int × (List (Int × Int × Int × Int × Int) × Unit))) × (Int × (Int × (Int × ((Int × (Int × (Int × Unit))) × Unit)))))) K => edit_Insert_m K (hide edit_Insert_F x.1.1 x.1.2.1 x.1.2.2.1 x.2.1 x.2.2.1 x.2.2.2.1 x.2.2.2.2.1.1 x.2.2.2.2.1.2.1 x.2.2.2.2.1.2.2.1)
theorem edit_Insert_known : Known Try.prog 13 edit_Insert_A edit_Insert_B false edit_Insert_G := known_of (envL_ok edit_Insert_su_ok ll0_ok cs0_ok) (n := 1000) rfl fun R (x : ((Int × (Int × (List (Int × Int × Int × Int × Int) × Unit))) × (Int × (Int × (Int × ((Int × (Int × (Int × Unit))) × Unit)))))) K => by
  show _ = edit_Insert_m K (hide edit_Insert_F x.1.1 x.1.2.1 x.1.2.2.1 x.2.1 x.2.2.1 x.2.2.2.1 x.2.2.2.2.1.1 x.2.2.2.2.1.2.1 x.2.2.2.2.1.2.2.1)
  rw [hide_eq]
  exact edit_Insert_run x.1.1 x.1.2.1 x.1.2.2.1 x.2.1 x.2.2.1 x.2.2.2.1 x.2.2.2.2.1.1 x.2.2.2.2.1.2.1 x.2.2.2.2.1.2.2.1 K

noncomputable def edit_Delete_su : SumT := (18, sumH grid_At_A grid_At_B true grid_At_G) :: (57, sumW slices_Clone_api_Cell_A slices_Clone_api_Cell_B slices_Clone_api_Cell_G) :: (41, sumH edit_parted_A edit_parted_B true edit_parted_G) :: (44, sumH edit_blanks_A edit_blanks_B true edit_blanks_G) :: (42, sumH edit_turned_A edit_turned_B true edit_turned_G) :: sums0
theorem edit_Delete_su_ok : AllSum Try.prog edit_Delete_su := ⟨sumH_ok rfl rfl grid_At_known, ⟨sumW_ok rfl rfl rfl slices_Clone_api_Cell_known, ⟨sumH_ok rfl rfl edit_parted_known, ⟨sumH_ok rfl rfl edit_blanks_known, ⟨sumH_ok rfl rfl edit_turned_known, sums0_ok⟩⟩⟩⟩⟩
noncomputable def edit_Delete_F (x0 : Int) (x1 : Int) (x2 : List (Int × Int × Int × Int × Int)) (x3 : Int) (x4 : Int) (x5 : Int) (x6 : Int) (x7 : Int) (x8 : Int) : Option (Int × Int × (List (Int × Int × Int × Int × Int))) := (optK ((hide grid_At_F x0 x1 x2 x3 x4)) fun y0 => (bif (!y0.2.2.2.2.2) then (bif (x2.length.ble (274877906944 : Nat)) then (some (x0, x1, x2)) else none) else (optK ((hide edit_parted_F x0 x1 x2 x3 x4)) fun y1 => (bif (bnds none (some x4) y1.length && true) then (bif (bnds (some (IntKind.i64.wrap (x4 + if (if IntKind.i64.wrap (x1 - x4) < x5 then IntKind.i64.wrap (x1 - x4) else x5) > (0 : Int) then if IntKind.i64.wrap (x1 - x4) < x5 then IntKind.i64.wrap (x1 - x4) else x5 else (0 : Int)))) none y1.length && true) then (optK ((hide edit_blanks_F (if (if IntKind.i64.wrap (x1 - x4) < x5 then IntKind.i64.wrap (x1 - x4) else x5) > (0 : Int) then if IntKind.i64.wrap (x1 - x4) < x5 then IntKind.i64.wrap (x1 - x4) else x5 else (0 : Int)) x6 x7 x8)) fun y2 => (bif (decide (IntKind.i64.wrap ((0 : Int) + Int.ofNat (List.length ([cutList y1 none (some x4), cutList y1 (some (IntKind.i64.wrap (x4 + if (if IntKind.i64.wrap (x1 - x4) < x5 then IntKind.i64.wrap (x1 - x4) else x5) > (0 : Int) then if IntKind.i64.wrap (x1 - x4) < x5 then IntKind.i64.wrap (x1 - x4) else x5 else (0 : Int)))) none, y2].getD (0 : Nat) (Row.one (CTy.slice (Row.cons (CTy.int IntKind.i32) (Row.cons (CTy.int IntKind.i64) (Row.cons (CTy.int IntKind.i64) (Row.cons (CTy.int IntKind.i64) (Row.one (CTy.int IntKind.i64)))))))).dflt))) < (0 : Int))) then none else (bif (decide (IntKind.i64.wrap (IntKind.i64.wrap ((0 : Int) + Int.ofNat (List.length ([cutList y1 none (some x4), cutList y1 (some (IntKind.i64.wrap (x4 + if (if IntKind.i64.wrap (x1 - x4) < x5 then IntKind.i64.wrap (x1 - x4) else x5) > (0 : Int) then if IntKind.i64.wrap (x1 - x4) < x5 then IntKind.i64.wrap (x1 - x4) else x5 else (0 : Int)))) none, y2].getD (0 : Nat) (Row.one (CTy.slice (Row.cons (CTy.int IntKind.i32) (Row.cons (CTy.int IntKind.i64) (Row.cons (CTy.int IntKind.i64) (Row.cons (CTy.int IntKind.i64) (Row.one (CTy.int IntKind.i64)))))))).dflt))) + Int.ofNat (List.length ([cutList y1 none (some x4), cutList y1 (some (IntKind.i64.wrap (x4 + if (if IntKind.i64.wrap (x1 - x4) < x5 then IntKind.i64.wrap (x1 - x4) else x5) > (0 : Int) then if IntKind.i64.wrap (x1 - x4) < x5 then IntKind.i64.wrap (x1 - x4) else x5 else (0 : Int)))) none, y2].getD (1 : Nat) (Row.one (CTy.slice (Row.cons (CTy.int IntKind.i32) (Row.cons (CTy.int IntKind.i64) (Row.cons (CTy.int IntKind.i64) (Row.cons (CTy.int IntKind.i64) (Row.one (CTy.int IntKind.i64)))))))).dflt))) < (0 : Int))) then none else (bif (decide (IntKind.i64.wrap (IntKind.i64.wrap (IntKind.i64.wrap ((0 : Int) + Int.ofNat (List.length ([cutList y1 none (some x4), cutList y1 (some (IntKind.i64.wrap (x4 + if (if IntKind.i64.wrap (x1 - x4) < x5 then IntKind.i64.wrap (x1 - x4) else x5) > (0 : Int) then if IntKind.i64.wrap (x1 - x4) < x5 then IntKind.i64.wrap (x1 - x4) else x5 else (0 : Int)))) none, y2].getD (0 : Nat) (Row.one (CTy.slice (Row.cons (CTy.int IntKind.i32) (Row.cons (CTy.int IntKind.i64) (Row.cons (CTy.int IntKind.i64) (Row.cons (CTy.int IntKind.i64) (Row.one (CTy.int IntKind.i64)))))))).dflt))) + Int.ofNat (List.length ([cutList y1 none (some x4), cutList y1 (some (IntKind.i64.wrap (x4 + if (if IntKind.i64.wrap (x1 - x4) < x5 then IntKind.i64.wrap (x1 - x4) else x5) > (0 : Int) then if IntKind.i64.wrap (x1 - x4) < x5 then IntKind.i64.wrap (x1 - x4) else x5 else (0 : Int)))) none, y2].getD (1 : Nat) (Row.one (CTy.slice (Row.cons (CTy.int IntKind.i32) (Row.cons (CTy.int IntKind.i64) (Row.cons (CTy.int IntKind.i64) (Row.cons (CTy.int IntKind.i64) (Row.one (CTy.int IntKind.i64)))))))).dflt))) + Int.ofNat (List.length ([cutList y1 none (some x4), cutList y1 (some (IntKind.i64.wrap (x4 + if (if IntKind.i64.wrap (x1 - x4) < x5 then IntKind.i64.wrap (x1 - x4) else x5) > (0 : Int) then if IntKind.i64.wrap (x1 - x4) < x5 then IntKind.i64.wrap (x1 - x4) else x5 else (0 : Int)))) none, y2].getD (2 : Nat) (Row.one (CTy.slice (Row.cons (CTy.int IntKind.i32) (Row.cons (CTy.int IntKind.i64) (Row.cons (CTy.int IntKind.i64) (Row.cons (CTy.int IntKind.i64) (Row.one (CTy.int IntKind.i64)))))))).dflt))) < (0 : Int))) then none else (bif (decide (IntKind.i64.wrap (IntKind.i64.wrap (IntKind.i64.wrap ((0 : Int) + Int.ofNat (List.length ([cutList y1 none (some x4), cutList y1 (some (IntKind.i64.wrap (x4 + if (if IntKind.i64.wrap (x1 - x4) < x5 then IntKind.i64.wrap (x1 - x4) else x5) > (0 : Int) then if IntKind.i64.wrap (x1 - x4) < x5 then IntKind.i64.wrap (x1 - x4) else x5 else (0 : Int)))) none, y2].getD (0 : Nat) (Row.one (CTy.slice (Row.cons (CTy.int IntKind.i32) (Row.cons (CTy.int IntKind.i64) (Row.cons (CTy.int IntKind.i64) (Row.cons (CTy.int IntKind.i64) (Row.one (CTy.int IntKind.i64)))))))).dflt))) + Int.ofNat (List.length ([cutList y1 none (some x4), cutList y1 (some (IntKind.i64.wrap (x4 + if (if IntKind.i64.wrap (x1 - x4) < x5 then IntKind.i64.wrap (x1 - x4) else x5) > (0 : Int) then if IntKind.i64.wrap (x1 - x4) < x5 then IntKind.i64.wrap (x1 - x4) else x5 else (0 : Int)))) none, y2].getD (1 : Nat) (Row.one (CTy.slice (Row.cons (CTy.int IntKind.i32) (Row.cons (CTy.int IntKind.i64) (Row.cons (CTy.int IntKind.i64) (Row.cons (CTy.int IntKind.i64) (Row.one (CTy.int IntKind.i64)))))))).dflt))) + Int.ofNat (List.length ([cutList y1 none (some x4), cutList y1 (some (IntKind.i64.wrap (x4 + if (if IntKind.i64.wrap (x1 - x4) < x5 then IntKind.i64.wrap (x1 - x4) else x5) > (0 : Int) then if IntKind.i64.wrap (x1 - x4) < x5 then IntKind.i64.wrap (x1 - x4) else x5 else (0 : Int)))) none, y2].getD (2 : Nat) (Row.one (CTy.slice (Row.cons (CTy.int IntKind.i32) (Row.cons (CTy.int IntKind.i64) (Row.cons (CTy.int IntKind.i64) (Row.cons (CTy.int IntKind.i64) (Row.one (CTy.int IntKind.i64)))))))).dflt))) < (0 : Int))) then none else (bif (decide (IntKind.i64.wrap (IntKind.i64.wrap (IntKind.i64.wrap (IntKind.i64.wrap ((0 : Int) + Int.ofNat (List.length ([cutList y1 none (some x4), cutList y1 (some (IntKind.i64.wrap (x4 + if (if IntKind.i64.wrap (x1 - x4) < x5 then IntKind.i64.wrap (x1 - x4) else x5) > (0 : Int) then if IntKind.i64.wrap (x1 - x4) < x5 then IntKind.i64.wrap (x1 - x4) else x5 else (0 : Int)))) none, y2].getD (0 : Nat) (Row.one (CTy.slice (Row.cons (CTy.int IntKind.i32) (Row.cons (CTy.int IntKind.i64) (Row.cons (CTy.int IntKind.i64) (Row.cons (CTy.int IntKind.i64) (Row.one (CTy.int IntKind.i64)))))))).dflt))) + Int.ofNat (List.length ([cutList y1 none (some x4), cutList y1 (some (IntKind.i64.wrap (x4 + if (if IntKind.i64.wrap (x1 - x4) < x5 then IntKind.i64.wrap (x1 - x4) else x5) > (0 : Int) then if IntKind.i64.wrap (x1 - x4) < x5 then IntKind.i64.wrap (x1 - x4) else x5 else (0 : Int)))) none, y2].getD (1 : Nat) (Row.one (CTy.slice (Row.cons (CTy.int IntKind.i32) (Row.cons (CTy.int IntKind.i64) (Row.cons (CTy.int IntKind.i64) (Row.cons (CTy.int IntKind.i64) (Row.one (CTy.int IntKind.i64)))))))).dflt))) + Int.ofNat (List.length ([cutList y1 none (some x4), cutList y1 (some (IntKind.i64.wrap (x4 + if (if IntKind.i64.wrap (x1 - x4) < x5 then IntKind.i64.wrap (x1 - x4) else x5) > (0 : Int) then if IntKind.i64.wrap (x1 - x4) < x5 then IntKind.i64.wrap (x1 - x4) else x5 else (0 : Int)))) none, y2].getD (2 : Nat) (Row.one (CTy.slice (Row.cons (CTy.int IntKind.i32) (Row.cons (CTy.int IntKind.i64) (Row.cons (CTy.int IntKind.i64) (Row.cons (CTy.int IntKind.i64) (Row.one (CTy.int IntKind.i64)))))))).dflt))) - (0 : Int)) > (0 : Int))) then (bif (decide ((0 : Int) < IntKind.i64.wrap (IntKind.i64.wrap (IntKind.i64.wrap (IntKind.i64.wrap ((0 : Int) + Int.ofNat (List.length ([cutList y1 none (some x4), cutList y1 (some (IntKind.i64.wrap (x4 + if (if IntKind.i64.wrap (x1 - x4) < x5 then IntKind.i64.wrap (x1 - x4) else x5) > (0 : Int) then if IntKind.i64.wrap (x1 - x4) < x5 then IntKind.i64.wrap (x1 - x4) else x5 else (0 : Int)))) none, y2].getD (0 : Nat) (Row.one (CTy.slice (Row.cons (CTy.int IntKind.i32) (Row.cons (CTy.int IntKind.i64) (Row.cons (CTy.int IntKind.i64) (Row.cons (CTy.int IntKind.i64) (Row.one (CTy.int IntKind.i64)))))))).dflt))) + Int.ofNat (List.length ([cutList y1 none (some x4), cutList y1 (some (IntKind.i64.wrap (x4 + if (if IntKind.i64.wrap (x1 - x4) < x5 then IntKind.i64.wrap (x1 - x4) else x5) > (0 : Int) then if IntKind.i64.wrap (x1 - x4) < x5 then IntKind.i64.wrap (x1 - x4) else x5 else (0 : Int)))) none, y2].getD (1 : Nat) (Row.one (CTy.slice (Row.cons (CTy.int IntKind.i32) (Row.cons (CTy.int IntKind.i64) (Row.cons (CTy.int IntKind.i64) (Row.cons (CTy.int IntKind.i64) (Row.one (CTy.int IntKind.i64)))))))).dflt))) + Int.ofNat (List.length ([cutList y1 none (some x4), cutList y1 (some (IntKind.i64.wrap (x4 + if (if IntKind.i64.wrap (x1 - x4) < x5 then IntKind.i64.wrap (x1 - x4) else x5) > (0 : Int) then if IntKind.i64.wrap (x1 - x4) < x5 then IntKind.i64.wrap (x1 - x4) else x5 else (0 : Int)))) none, y2].getD (2 : Nat) (Row.one (CTy.slice (Row.cons (CTy.int IntKind.i32) (Row.cons (CTy.int IntKind.i64) (Row.cons (CTy.int IntKind.i64) (Row.cons (CTy.int IntKind.i64) (Row.one (CTy.int IntKind.i64)))))))).dflt))) - (0 : Int))) && decide (IntKind.i64.wrap (IntKind.i64.wrap (IntKind.i64.wrap (IntKind.i64.wrap ((0 : Int) + Int.ofNat (List.length ([cutList y1 none (some x4), cutList y1 (some (IntKind.i64.wrap (x4 + if (if IntKind.i64.wrap (x1 - x4) < x5 then IntKind.i64.wrap (x1 - x4) else x5) > (0 : Int) then if IntKind.i64.wrap (x1 - x4) < x5 then IntKind.i64.wrap (x1 - x4) else x5 else (0 : Int)))) none, y2].getD (0 : Nat) (Row.one (CTy.slice (Row.cons (CTy.int IntKind.i32) (Row.cons (CTy.int IntKind.i64) (Row.cons (CTy.int IntKind.i64) (Row.cons (CTy.int IntKind.i64) (Row.one (CTy.int IntKind.i64)))))))).dflt))) + Int.ofNat (List.length ([cutList y1 none (some x4), cutList y1 (some (IntKind.i64.wrap (x4 + if (if IntKind.i64.wrap (x1 - x4) < x5 then IntKind.i64.wrap (x1 - x4) else x5) > (0 : Int) then if IntKind.i64.wrap (x1 - x4) < x5 then IntKind.i64.wrap (x1 - x4) else x5 else (0 : Int)))) none, y2].getD (1 : Nat) (Row.one (CTy.slice (Row.cons (CTy.int IntKind.i32) (Row.cons (CTy.int IntKind.i64) (Row.cons (CTy.int IntKind.i64) (Row.cons (CTy.int IntKind.i64) (Row.one (CTy.int IntKind.i64)))))))).dflt))) + Int.ofNat (List.length ([cutList y1 none (some x4), cutList y1 (some (IntKind.i64.wrap (x4 + if (if IntKind.i64.wrap (x1 - x4) < x5 then IntKind.i64.wrap (x1 - x4) else x5) > (0 : Int) then if IntKind.i64.wrap (x1 - x4) < x5 then IntKind.i64.wrap (x1 - x4) else x5 else (0 : Int)))) none, y2].getD (2 : Nat) (Row.one (CTy.slice (Row.cons (CTy.int IntKind.i32) (Row.cons (CTy.int IntKind.i64) (Row.cons (CTy.int IntKind.i64) (Row.cons (CTy.int IntKind.i64) (Row.one (CTy.int IntKind.i64)))))))).dflt))) - (0 : Int)) ≤ (274877906944 : Int)) && true) then (bif (((0 : Nat) + (((some (0 : Int)).getD (Int.ofNat (rowN ((0 : Int), (0 : Int), (0 : Int), (0 : Int), (0 : Int)) (IntKind.i64.wrap (IntKind.i64.wrap (IntKind.i64.wrap (IntKind.i64.wrap ((0 : Int) + Int.ofNat (List.length ([cutList y1 none (some x4), cutList y1 (some (IntKind.i64.wrap (x4 + if (if IntKind.i64.wrap (x1 - x4) < x5 then IntKind.i64.wrap (x1 - x4) else x5) > (0 : Int) then if IntKind.i64.wrap (x1 - x4) < x5 then IntKind.i64.wrap (x1 - x4) else x5 else (0 : Int)))) none, y2].getD (0 : Nat) (Row.one (CTy.slice (Row.cons (CTy.int IntKind.i32) (Row.cons (CTy.int IntKind.i64) (Row.cons (CTy.int IntKind.i64) (Row.cons (CTy.int IntKind.i64) (Row.one (CTy.int IntKind.i64)))))))).dflt))) + Int.ofNat (List.length ([cutList y1 none (some x4), cutList y1 (some (IntKind.i64.wrap (x4 + if (if IntKind.i64.wrap (x1 - x4) < x5 then IntKind.i64.wrap (x1 - x4) else x5) > (0 : Int) then if IntKind.i64.wrap (x1 - x4) < x5 then IntKind.i64.wrap (x1 - x4) else x5 else (0 : Int)))) none, y2].getD (1 : Nat) (Row.one (CTy.slice (Row.cons (CTy.int IntKind.i32) (Row.cons (CTy.int IntKind.i64) (Row.cons (CTy.int IntKind.i64) (Row.cons (CTy.int IntKind.i64) (Row.one (CTy.int IntKind.i64)))))))).dflt))) + Int.ofNat (List.length ([cutList y1 none (some x4), cutList y1 (some (IntKind.i64.wrap (x4 + if (if IntKind.i64.wrap (x1 - x4) < x5 then IntKind.i64.wrap (x1 - x4) else x5) > (0 : Int) then if IntKind.i64.wrap (x1 - x4) < x5 then IntKind.i64.wrap (x1 - x4) else x5 else (0 : Int)))) none, y2].getD (2 : Nat) (Row.one (CTy.slice (Row.cons (CTy.int IntKind.i32) (Row.cons (CTy.int IntKind.i64) (Row.cons (CTy.int IntKind.i64) (Row.cons (CTy.int IntKind.i64) (Row.one (CTy.int IntKind.i64)))))))).dflt))) - (0 : Int))).toNat).length)).toNat - (0 : Nat)) + List.length ([cutList y1 none (some x4), cutList y1 (some (IntKind.i64.wrap (x4 + if (if IntKind.i64.wrap (x1 - x4) < x5 then IntKind.i64.wrap (x1 - x4) else x5) > (0 : Int) then if IntKind.i64.wrap (x1 - x4) < x5 then IntKind.i64.wrap (x1 - x4) else x5 else (0 : Int)))) none, y2].getD (0 : Nat) (Row.one (CTy.slice (Row.cons (CTy.int IntKind.i32) (Row.cons (CTy.int IntKind.i64) (Row.cons (CTy.int IntKind.i64) (Row.cons (CTy.int IntKind.i64) (Row.one (CTy.int IntKind.i64)))))))).dflt)).ble (rowN ((0 : Int), (0 : Int), (0 : Int), (0 : Int), (0 : Int)) (IntKind.i64.wrap (IntKind.i64.wrap (IntKind.i64.wrap (IntKind.i64.wrap ((0 : Int) + Int.ofNat (List.length ([cutList y1 none (some x4), cutList y1 (some (IntKind.i64.wrap (x4 + if (if IntKind.i64.wrap (x1 - x4) < x5 then IntKind.i64.wrap (x1 - x4) else x5) > (0 : Int) then if IntKind.i64.wrap (x1 - x4) < x5 then IntKind.i64.wrap (x1 - x4) else x5 else (0 : Int)))) none, y2].getD (0 : Nat) (Row.one (CTy.slice (Row.cons (CTy.int IntKind.i32) (Row.cons (CTy.int IntKind.i64) (Row.cons (CTy.int IntKind.i64) (Row.cons (CTy.int IntKind.i64) (Row.one (CTy.int IntKind.i64)))))))).dflt))) + Int.ofNat (List.length ([cutList y1 none (some x4), cutList y1 (some (IntKind.i64.wrap (x4 + if (if IntKind.i64.wrap (x1 - x4) < x5 then IntKind.i64.wrap (x1 - x4) else x5) > (0 : Int) then if IntKind.i64.wrap (x1 - x4) < x5 then IntKind.i64.wrap (x1 - x4) else x5 else (0 : Int)))) none, y2].getD (1 : Nat) (Row.one (CTy.slice (Row.cons (CTy.int IntKind.i32) (Row.cons (CTy.int IntKind.i64) (Row.cons (CTy.int IntKind.i64) (Row.cons (CTy.int IntKind.i64) (Row.one (CTy.int IntKind.i64)))))))).dflt))) + Int.ofNat (List.length ([cutList y1 none (some x4), cutList y1 (some (IntKind.i64.wrap (x4 + if (if IntKind.i64.wrap (x1 - x4) < x5 then IntKind.i64.wrap (x1 - x4) else x5) > (0 : Int) then if IntKind.i64.wrap (x1 - x4) < x5 then IntKind.i64.wrap (x1 - x4) else x5 else (0 : Int)))) none, y2].getD (2 : Nat) (Row.one (CTy.slice (Row.cons (CTy.int IntKind.i32) (Row.cons (CTy.int IntKind.i64) (Row.cons (CTy.int IntKind.i64) (Row.cons (CTy.int IntKind.i64) (Row.one (CTy.int IntKind.i64)))))))).dflt))) - (0 : Int))).toNat).length) then (bif (((0 : Nat) + (((some (0 : Int)).getD (Int.ofNat (rowN ((0 : Int), (0 : Int), (0 : Int), (0 : Int), (0 : Int)) (IntKind.i64.wrap (IntKind.i64.wrap (IntKind.i64.wrap (IntKind.i64.wrap ((0 : Int) + Int.ofNat (List.length ([cutList y1 none (some x4), cutList y1 (some (IntKind.i64.wrap (x4 + if (if IntKind.i64.wrap (x1 - x4) < x5 then IntKind.i64.wrap (x1 - x4) else x5) > (0 : Int) then if IntKind.i64.wrap (x1 - x4) < x5 then IntKind.i64.wrap (x1 - x4) else x5 else (0 : Int)))) none, y2].getD (0 : Nat) (Row.one (CTy.slice (Row.cons (CTy.int IntKind.i32) (Row.cons (CTy.int IntKind.i64) (Row.cons (CTy.int IntKind.i64) (Row.cons (CTy.int IntKind.i64) (Row.one (CTy.int IntKind.i64)))))))).dflt))) + Int.ofNat (List.length ([cutList y1 none (some x4), cutList y1 (some (IntKind.i64.wrap (x4 + if (if IntKind.i64.wrap (x1 - x4) < x5 then IntKind.i64.wrap (x1 - x4) else x5) > (0 : Int) then if IntKind.i64.wrap (x1 - x4) < x5 then IntKind.i64.wrap (x1 - x4) else x5 else (0 : Int)))) none, y2].getD (1 : Nat) (Row.one (CTy.slice (Row.cons (CTy.int IntKind.i32) (Row.cons (CTy.int IntKind.i64) (Row.cons (CTy.int IntKind.i64) (Row.cons (CTy.int IntKind.i64) (Row.one (CTy.int IntKind.i64)))))))).dflt))) + Int.ofNat (List.length ([cutList y1 none (some x4), cutList y1 (some (IntKind.i64.wrap (x4 + if (if IntKind.i64.wrap (x1 - x4) < x5 then IntKind.i64.wrap (x1 - x4) else x5) > (0 : Int) then if IntKind.i64.wrap (x1 - x4) < x5 then IntKind.i64.wrap (x1 - x4) else x5 else (0 : Int)))) none, y2].getD (2 : Nat) (Row.one (CTy.slice (Row.cons (CTy.int IntKind.i32) (Row.cons (CTy.int IntKind.i64) (Row.cons (CTy.int IntKind.i64) (Row.cons (CTy.int IntKind.i64) (Row.one (CTy.int IntKind.i64)))))))).dflt))) - (0 : Int))).toNat).length)).toNat - (0 : Nat) + List.length ([cutList y1 none (some x4), cutList y1 (some (IntKind.i64.wrap (x4 + if (if IntKind.i64.wrap (x1 - x4) < x5 then IntKind.i64.wrap (x1 - x4) else x5) > (0 : Int) then if IntKind.i64.wrap (x1 - x4) < x5 then IntKind.i64.wrap (x1 - x4) else x5 else (0 : Int)))) none, y2].getD (0 : Nat) (Row.one (CTy.slice (Row.cons (CTy.int IntKind.i32) (Row.cons (CTy.int IntKind.i64) (Row.cons (CTy.int IntKind.i64) (Row.cons (CTy.int IntKind.i64) (Row.one (CTy.int IntKind.i64)))))))).dflt)) + List.length ([cutList y1 none (some x4), cutList y1 (some (IntKind.i64.wrap (x4 + if (if IntKind.i64.wrap (x1 - x4) < x5 then IntKind.i64.wrap (x1 - x4) else x5) > (0 : Int) then if IntKind.i64.wrap (x1 - x4) < x5 then IntKind.i64.wrap (x1 - x4) else x5 else (0 : Int)))) none, y2].getD (1 : Nat) (Row.one (CTy.slice (Row.cons (CTy.int IntKind.i32) (Row.cons (CTy.int IntKind.i64) (Row.cons (CTy.int IntKind.i64) (Row.cons (CTy.int IntKind.i64) (Row.one (CTy.int IntKind.i64)))))))).dflt)).ble (splice (rowN ((0 : Int), (0 : Int), (0 : Int), (0 : Int), (0 : Int)) (IntKind.i64.wrap (IntKind.i64.wrap (IntKind.i64.wrap (IntKind.i64.wrap ((0 : Int) + Int.ofNat (List.length ([cutList y1 none (some x4), cutList y1 (some (IntKind.i64.wrap (x4 + if (if IntKind.i64.wrap (x1 - x4) < x5 then IntKind.i64.wrap (x1 - x4) else x5) > (0 : Int) then if IntKind.i64.wrap (x1 - x4) < x5 then IntKind.i64.wrap (x1 - x4) else x5 else (0 : Int)))) none, y2].getD (0 : Nat) (Row.one (CTy.slice (Row.cons (CTy.int IntKind.i32) (Row.cons (CTy.int IntKind.i64) (Row.cons (CTy.int IntKind.i64) (Row.cons (CTy.int IntKind.i64) (Row.one (CTy.int IntKind.i64)))))))).dflt))) + Int.ofNat (List.length ([cutList y1 none (some x4), cutList y1 (some (IntKind.i64.wrap (x4 + if (if IntKind.i64.wrap (x1 - x4) < x5 then IntKind.i64.wrap (x1 - x4) else x5) > (0 : Int) then if IntKind.i64.wrap (x1 - x4) < x5 then IntKind.i64.wrap (x1 - x4) else x5 else (0 : Int)))) none, y2].getD (1 : Nat) (Row.one (CTy.slice (Row.cons (CTy.int IntKind.i32) (Row.cons (CTy.int IntKind.i64) (Row.cons (CTy.int IntKind.i64) (Row.cons (CTy.int IntKind.i64) (Row.one (CTy.int IntKind.i64)))))))).dflt))) + Int.ofNat (List.length ([cutList y1 none (some x4), cutList y1 (some (IntKind.i64.wrap (x4 + if (if IntKind.i64.wrap (x1 - x4) < x5 then IntKind.i64.wrap (x1 - x4) else x5) > (0 : Int) then if IntKind.i64.wrap (x1 - x4) < x5 then IntKind.i64.wrap (x1 - x4) else x5 else (0 : Int)))) none, y2].getD (2 : Nat) (Row.one (CTy.slice (Row.cons (CTy.int IntKind.i32) (Row.cons (CTy.int IntKind.i64) (Row.cons (CTy.int IntKind.i64) (Row.cons (CTy.int IntKind.i64) (Row.one (CTy.int IntKind.i64)))))))).dflt))) - (0 : Int))).toNat) ((0 : Nat) + (((some (0 : Int)).getD (Int.ofNat (rowN ((0 : Int), (0 : Int), (0 : Int), (0 : Int), (0 : Int)) (IntKind.i64.wrap (IntKind.i64.wrap (IntKind.i64.wrap (IntKind.i64.wrap ((0 : Int) + Int.ofNat (List.length ([cutList y1 none (some x4), cutList y1 (some (IntKind.i64.wrap (x4 + if (if IntKind.i64.wrap (x1 - x4) < x5 then IntKind.i64.wrap (x1 - x4) else x5) > (0 : Int) then if IntKind.i64.wrap (x1 - x4) < x5 then IntKind.i64.wrap (x1 - x4) else x5 else (0 : Int)))) none, y2].getD (0 : Nat) (Row.one (CTy.slice (Row.cons (CTy.int IntKind.i32) (Row.cons (CTy.int IntKind.i64) (Row.cons (CTy.int IntKind.i64) (Row.cons (CTy.int IntKind.i64) (Row.one (CTy.int IntKind.i64)))))))).dflt))) + Int.ofNat (List.length ([cutList y1 none (some x4), cutList y1 (some (IntKind.i64.wrap (x4 + if (if IntKind.i64.wrap (x1 - x4) < x5 then IntKind.i64.wrap (x1 - x4) else x5) > (0 : Int) then if IntKind.i64.wrap (x1 - x4) < x5 then IntKind.i64.wrap (x1 - x4) else x5 else (0 : Int)))) none, y2].getD (1 : Nat) (Row.one (CTy.slice (Row.cons (CTy.int IntKind.i32) (Row.cons (CTy.int IntKind.i64) (Row.cons (CTy.int IntKind.i64) (Row.cons (CTy.int IntKind.i64) (Row.one (CTy.int IntKind.i64)))))))).dflt))) + Int.ofNat (List.length ([cutList y1 none (some x4), cutList y1 (some (IntKind.i64.wrap (x4 + if (if IntKind.i64.wrap (x1 - x4) < x5 then IntKind.i64.wrap (x1 - x4) else x5) > (0 : Int) then if IntKind.i64.wrap (x1 - x4) < x5 then IntKind.i64.wrap (x1 - x4) else x5 else (0 : Int)))) none, y2].getD (2 : Nat) (Row.one (CTy.slice (Row.cons (CTy.int IntKind.i32) (Row.cons (CTy.int IntKind.i64) (Row.cons (CTy.int IntKind.i64) (Row.cons (CTy.int IntKind.i64) (Row.one (CTy.int IntKind.i64)))))))).dflt))) - (0 : Int))).toNat).length)).toNat - (0 : Nat))) ([cutList y1 none (some x4), cutList y1 (some (IntKind.i64.wrap (x4 + if (if IntKind.i64.wrap (x1 - x4) < x5 then IntKind.i64.wrap (x1 - x4) else x5) > (0 : Int) then if IntKind.i64.wrap (x1 - x4) < x5 then IntKind.i64.wrap (x1 - x4) else x5 else (0 : Int)))) none, y2].getD (0 : Nat) (Row.one (CTy.slice (Row.cons (CTy.int IntKind.i32) (Row.cons (CTy.int IntKind.i64) (Row.cons (CTy.int IntKind.i64) (Row.cons (CTy.int IntKind.i64) (Row.one (CTy.int IntKind.i64)))))))).dflt)).length) then (bif (((0 : Nat) + (((some (0 : Int)).getD (Int.ofNat (rowN ((0 : Int), (0 : Int), (0 : Int), (0 : Int), (0 : Int)) (IntKind.i64.wrap (IntKind.i64.wrap (IntKind.i64.wrap (IntKind.i64.wrap ((0 : Int) + Int.ofNat (List.length ([cutList y1 none (some x4), cutList y1 (some (IntKind.i64.wrap (x4 + if (if IntKind.i64.wrap (x1 - x4) < x5 then IntKind.i64.wrap (x1 - x4) else x5) > (0 : Int) then if IntKind.i64.wrap (x1 - x4) < x5 then IntKind.i64.wrap (x1 - x4) else x5 else (0 : Int)))) none, y2].getD (0 : Nat) (Row.one (CTy.slice (Row.cons (CTy.int IntKind.i32) (Row.cons (CTy.int IntKind.i64) (Row.cons (CTy.int IntKind.i64) (Row.cons (CTy.int IntKind.i64) (Row.one (CTy.int IntKind.i64)))))))).dflt))) + Int.ofNat (List.length ([cutList y1 none (some x4), cutList y1 (some (IntKind.i64.wrap (x4 + if (if IntKind.i64.wrap (x1 - x4) < x5 then IntKind.i64.wrap (x1 - x4) else x5) > (0 : Int) then if IntKind.i64.wrap (x1 - x4) < x5 then IntKind.i64.wrap (x1 - x4) else x5 else (0 : Int)))) none, y2].getD (1 : Nat) (Row.one (CTy.slice (Row.cons (CTy.int IntKind.i32) (Row.cons (CTy.int IntKind.i64) (Row.cons (CTy.int IntKind.i64) (Row.cons (CTy.int IntKind.i64) (Row.one (CTy.int IntKind.i64)))))))).dflt))) + Int.ofNat (List.length ([cutList y1 none (some x4), cutList y1 (some (IntKind.i64.wrap (x4 + if (if IntKind.i64.wrap (x1 - x4) < x5 then IntKind.i64.wrap (x1 - x4) else x5) > (0 : Int) then if IntKind.i64.wrap (x1 - x4) < x5 then IntKind.i64.wrap (x1 - x4) else x5 else (0 : Int)))) none, y2].getD (2 : Nat) (Row.one (CTy.slice (Row.cons (CTy.int IntKind.i32) (Row.cons (CTy.int IntKind.i64) (Row.cons (CTy.int IntKind.i64) (Row.cons (CTy.int IntKind.i64) (Row.one (CTy.int IntKind.i64)))))))).dflt))) - (0 : Int))).toNat).length)).toNat - (0 : Nat) + List.length ([cutList y1 none (some x4), cutList y1 (some (IntKind.i64.wrap (x4 + if (if IntKind.i64.wrap (x1 - x4) < x5 then IntKind.i64.wrap (x1 - x4) else x5) > (0 : Int) then if IntKind.i64.wrap (x1 - x4) < x5 then IntKind.i64.wrap (x1 - x4) else x5 else (0 : Int)))) none, y2].getD (0 : Nat) (Row.one (CTy.slice (Row.cons (CTy.int IntKind.i32) (Row.cons (CTy.int IntKind.i64) (Row.cons (CTy.int IntKind.i64) (Row.cons (CTy.int IntKind.i64) (Row.one (CTy.int IntKind.i64)))))))).dflt) + List.length ([cutList y1 none (some x4), cutList y1 (some (IntKind.i64.wrap (x4 + if (if IntKind.i64.wrap (x1 - x4) < x5 then IntKind.i64.wrap (x1 - x4) else x5) > (0 : Int) then if IntKind.i64.wrap (x1 - x4) < x5 then IntKind.i64.wrap (x1 - x4) else x5 else (0 : Int)))) none, y2].getD (1 : Nat) (Row.one (CTy.slice (Row.cons (CTy.int IntKind.i32) (Row.cons (CTy.int IntKind.i64) (Row.cons (CTy.int IntKind.i64) (Row.cons (CTy.int IntKind.i64) (Row.one (CTy.int IntKind.i64)))))))).dflt)) + List.length ([cutList y1 none (some x4), cutList y1 (some (IntKind.i64.wrap (x4 + if (if IntKind.i64.wrap (x1 - x4) < x5 then IntKind.i64.wrap (x1 - x4) else x5) > (0 : Int) then if IntKind.i64.wrap (x1 - x4) < x5 then IntKind.i64.wrap (x1 - x4) else x5 else (0 : Int)))) none, y2].getD (2 : Nat) (Row.one (CTy.slice (Row.cons (CTy.int IntKind.i32) (Row.cons (CTy.int IntKind.i64) (Row.cons (CTy.int IntKind.i64) (Row.cons (CTy.int IntKind.i64) (Row.one (CTy.int IntKind.i64)))))))).dflt)).ble (splice (splice (rowN ((0 : Int), (0 : Int), (0 : Int), (0 : Int), (0 : Int)) (IntKind.i64.wrap (IntKind.i64.wrap (IntKind.i64.wrap (IntKind.i64.wrap ((0 : Int) + Int.ofNat (List.length ([cutList y1 none (some x4), cutList y1 (some (IntKind.i64.wrap (x4 + if (if IntKind.i64.wrap (x1 - x4) < x5 then IntKind.i64.wrap (x1 - x4) else x5) > (0 : Int) then if IntKind.i64.wrap (x1 - x4) < x5 then IntKind.i64.wrap (x1 - x4) else x5 else (0 : Int)))) none, y2].getD (0 : Nat) (Row.one (CTy.slice (Row.cons (CTy.int IntKind.i32) (Row.cons (CTy.int IntKind.i64) (Row.cons (CTy.int IntKind.i64) (Row.cons (CTy.int IntKind.i64) (Row.one (CTy.int IntKind.i64)))))))).dflt))) + Int.ofNat (List.length ([cutList y1 none (some x4), cutList y1 (some (IntKind.i64.wrap (x4 + if (if IntKind.i64.wrap (x1 - x4) < x5 then IntKind.i64.wrap (x1 - x4) else x5) > (0 : Int) then if IntKind.i64.wrap (x1 - x4) < x5 then IntKind.i64.wrap (x1 - x4) else x5 else (0 : Int)))) none, y2].getD (1 : Nat) (Row.one (CTy.slice (Row.cons (CTy.int IntKind.i32) (Row.cons (CTy.int IntKind.i64) (Row.cons (CTy.int IntKind.i64) (Row.cons (CTy.int IntKind.i64) (Row.one (CTy.int IntKind.i64)))))))).dflt))) + Int.ofNat (List.length ([cutList y1 none (some x4), cutList y1 (some (IntKind.i64.wrap (x4 + if (if IntKind.i64.wrap (x1 - x4) < x5 then IntKind.i64.wrap (x1 - x4) else x5) > (0 : Int) then if IntKind.i64.wrap (x1 - x4) < x5 then IntKind.i64.wrap (x1 - x4) else x5 else (0 : Int)))) none, y2].getD (2 : Nat) (Row.one (CTy.slice (Row.cons (CTy.int IntKind.i32) (Row.cons (CTy.int IntKind.i64) (Row.cons (CTy.int IntKind.i64) (Row.cons (CTy.int IntKind.i64) (Row.one (CTy.int IntKind.i64)))))))).dflt))) - (0 : Int))).toNat) ((0 : Nat) + (((some (0 : Int)).getD (Int.ofNat (rowN ((0 : Int), (0 : Int), (0 : Int), (0 : Int), (0 : Int)) (IntKind.i64.wrap (IntKind.i64.wrap (IntKind.i64.wrap (IntKind.i64.wrap ((0 : Int) + Int.ofNat (List.length ([cutList y1 none (some x4), cutList y1 (some (IntKind.i64.wrap (x4 + if (if IntKind.i64.wrap (x1 - x4) < x5 then IntKind.i64.wrap (x1 - x4) else x5) > (0 : Int) then if IntKind.i64.wrap (x1 - x4) < x5 then IntKind.i64.wrap (x1 - x4) else x5 else (0 : Int)))) none, y2].getD (0 : Nat) (Row.one (CTy.slice (Row.cons (CTy.int IntKind.i32) (Row.cons (CTy.int IntKind.i64) (Row.cons (CTy.int IntKind.i64) (Row.cons (CTy.int IntKind.i64) (Row.one (CTy.int IntKind.i64)))))))).dflt))) + Int.ofNat (List.length ([cutList y1 none (some x4), cutList y1 (some (IntKind.i64.wrap (x4 + if (if IntKind.i64.wrap (x1 - x4) < x5 then IntKind.i64.wrap (x1 - x4) else x5) > (0 : Int) then if IntKind.i64.wrap (x1 - x4) < x5 then IntKind.i64.wrap (x1 - x4) else x5 else (0 : Int)))) none, y2].getD (1 : Nat) (Row.one (CTy.slice (Row.cons (CTy.int IntKind.i32) (Row.cons (CTy.int IntKind.i64) (Row.cons (CTy.int IntKind.i64) (Row.cons (CTy.int IntKind.i64) (Row.one (CTy.int IntKind.i64)))))))).dflt))) + Int.ofNat (List.length ([cutList y1 none (some x4), cutList y1 (some (IntKind.i64.wrap (x4 + if (if IntKind.i64.wrap (x1 - x4) < x5 then IntKind.i64.wrap (x1 - x4) else x5) > (0 : Int) then if IntKind.i64.wrap (x1 - x4) < x5 then IntKind.i64.wrap (x1 - x4) else x5 else (0 : Int)))) none, y2].getD (2 : Nat) (Row.one (CTy.slice (Row.cons (CTy.int IntKind.i32) (Row.cons (CTy.int IntKind.i64) (Row.cons (CTy.int IntKind.i64) (Row.cons (CTy.int IntKind.i64) (Row.one (CTy.int IntKind.i64)))))))).dflt))) - (0 : Int))).toNat).length)).toNat - (0 : Nat))) ([cutList y1 none (some x4), cutList y1 (some (IntKind.i64.wrap (x4 + if (if IntKind.i64.wrap (x1 - x4) < x5 then IntKind.i64.wrap (x1 - x4) else x5) > (0 : Int) then if IntKind.i64.wrap (x1 - x4) < x5 then IntKind.i64.wrap (x1 - x4) else x5 else (0 : Int)))) none, y2].getD (0 : Nat) (Row.one (CTy.slice (Row.cons (CTy.int IntKind.i32) (Row.cons (CTy.int IntKind.i64) (Row.cons (CTy.int IntKind.i64) (Row.cons (CTy.int IntKind.i64) (Row.one (CTy.int IntKind.i64)))))))).dflt)) ((0 : Nat) + (((some (0 : Int)).getD (Int.ofNat (rowN ((0 : Int), (0 : Int), (0 : Int), (0 : Int), (0 : Int)) (IntKind.i64.wrap (IntKind.i64.wrap (IntKind.i64.wrap (IntKind.i64.wrap ((0 : Int) + Int.ofNat (List.length ([cutList y1 none (some x4), cutList y1 (some (IntKind.i64.wrap (x4 + if (if IntKind.i64.wrap (x1 - x4) < x5 then IntKind.i64.wrap (x1 - x4) else x5) > (0 : Int) then if IntKind.i64.wrap (x1 - x4) < x5 then IntKind.i64.wrap (x1 - x4) else x5 else (0 : Int)))) none, y2].getD (0 : Nat) (Row.one (CTy.slice (Row.cons (CTy.int IntKind.i32) (Row.cons (CTy.int IntKind.i64) (Row.cons (CTy.int IntKind.i64) (Row.cons (CTy.int IntKind.i64) (Row.one (CTy.int IntKind.i64)))))))).dflt))) + Int.ofNat (List.length ([cutList y1 none (some x4), cutList y1 (some (IntKind.i64.wrap (x4 + if (if IntKind.i64.wrap (x1 - x4) < x5 then IntKind.i64.wrap (x1 - x4) else x5) > (0 : Int) then if IntKind.i64.wrap (x1 - x4) < x5 then IntKind.i64.wrap (x1 - x4) else x5 else (0 : Int)))) none, y2].getD (1 : Nat) (Row.one (CTy.slice (Row.cons (CTy.int IntKind.i32) (Row.cons (CTy.int IntKind.i64) (Row.cons (CTy.int IntKind.i64) (Row.cons (CTy.int IntKind.i64) (Row.one (CTy.int IntKind.i64)))))))).dflt))) + Int.ofNat (List.length ([cutList y1 none (some x4), cutList y1 (some (IntKind.i64.wrap (x4 + if (if IntKind.i64.wrap (x1 - x4) < x5 then IntKind.i64.wrap (x1 - x4) else x5) > (0 : Int) then if IntKind.i64.wrap (x1 - x4) < x5 then IntKind.i64.wrap (x1 - x4) else x5 else (0 : Int)))) none, y2].getD (2 : Nat) (Row.one (CTy.slice (Row.cons (CTy.int IntKind.i32) (Row.cons (CTy.int IntKind.i64) (Row.cons (CTy.int IntKind.i64) (Row.cons (CTy.int IntKind.i64) (Row.one (CTy.int IntKind.i64)))))))).dflt))) - (0 : Int))).toNat).length)).toNat - (0 : Nat) + List.length ([cutList y1 none (some x4), cutList y1 (some (IntKind.i64.wrap (x4 + if (if IntKind.i64.wrap (x1 - x4) < x5 then IntKind.i64.wrap (x1 - x4) else x5) > (0 : Int) then if IntKind.i64.wrap (x1 - x4) < x5 then IntKind.i64.wrap (x1 - x4) else x5 else (0 : Int)))) none, y2].getD (0 : Nat) (Row.one (CTy.slice (Row.cons (CTy.int IntKind.i32) (Row.cons (CTy.int IntKind.i64) (Row.cons (CTy.int IntKind.i64) (Row.cons (CTy.int IntKind.i64) (Row.one (CTy.int IntKind.i64)))))))).dflt))) ([cutList y1 none (some x4), cutList y1 (some (IntKind.i64.wrap (x4 + if (if IntKind.i64.wrap (x1 - x4) < x5 then IntKind.i64.wrap (x1 - x4) else x5) > (0 : Int) then if IntKind.i64.wrap (x1 - x4) < x5 then IntKind.i64.wrap (x1 - x4) else x5 else (0 : Int)))) none, y2].getD (1 : Nat) (Row.one (CTy.slice (Row.cons (CTy.int IntKind.i32) (Row.cons (CTy.int IntKind.i64) (Row.cons (CTy.int IntKind.i64) (Row.cons (CTy.int IntKind.i64) (Row.one (CTy.int IntKind.i64)))))))).dflt)).length) then (optK ((hide edit_turned_F x0 x1 x2 x3 (List.take (((some (0 : Int)).getD (Int.ofNat (rowN ((0 : Int), (0 : Int), (0 : Int), (0 : Int), (0 : Int)) (IntKind.i64.wrap (IntKind.i64.wrap (IntKind.i64.wrap (IntKind.i64.wrap ((0 : Int) + Int.ofNat (List.length ([cutList y1 none (some x4), cutList y1 (some (IntKind.i64.wrap (x4 + if (if IntKind.i64.wrap (x1 - x4) < x5 then IntKind.i64.wrap (x1 - x4) else x5) > (0 : Int) then if IntKind.i64.wrap (x1 - x4) < x5 then IntKind.i64.wrap (x1 - x4) else x5 else (0 : Int)))) none, y2].getD (0 : Nat) (Row.one (CTy.slice (Row.cons (CTy.int IntKind.i32) (Row.cons (CTy.int IntKind.i64) (Row.cons (CTy.int IntKind.i64) (Row.cons (CTy.int IntKind.i64) (Row.one (CTy.int IntKind.i64)))))))).dflt))) + Int.ofNat (List.length ([cutList y1 none (some x4), cutList y1 (some (IntKind.i64.wrap (x4 + if (if IntKind.i64.wrap (x1 - x4) < x5 then IntKind.i64.wrap (x1 - x4) else x5) > (0 : Int) then if IntKind.i64.wrap (x1 - x4) < x5 then IntKind.i64.wrap (x1 - x4) else x5 else (0 : Int)))) none, y2].getD (1 : Nat) (Row.one (CTy.slice (Row.cons (CTy.int IntKind.i32) (Row.cons (CTy.int IntKind.i64) (Row.cons (CTy.int IntKind.i64) (Row.cons (CTy.int IntKind.i64) (Row.one (CTy.int IntKind.i64)))))))).dflt))) + Int.ofNat (List.length ([cutList y1 none (some x4), cutList y1 (some (IntKind.i64.wrap (x4 + if (if IntKind.i64.wrap (x1 - x4) < x5 then IntKind.i64.wrap (x1 - x4) else x5) > (0 : Int) then if IntKind.i64.wrap (x1 - x4) < x5 then IntKind.i64.wrap (x1 - x4) else x5 else (0 : Int)))) none, y2].getD (2 : Nat) (Row.one (CTy.slice (Row.cons (CTy.int IntKind.i32) (Row.cons (CTy.int IntKind.i64) (Row.cons (CTy.int IntKind.i64) (Row.cons (CTy.int IntKind.i64) (Row.one (CTy.int IntKind.i64)))))))).dflt))) - (0 : Int))).toNat).length)).toNat - (0 : Nat) + List.length ([cutList y1 none (some x4), cutList y1 (some (IntKind.i64.wrap (x4 + if (if IntKind.i64.wrap (x1 - x4) < x5 then IntKind.i64.wrap (x1 - x4) else x5) > (0 : Int) then if IntKind.i64.wrap (x1 - x4) < x5 then IntKind.i64.wrap (x1 - x4) else x5 else (0 : Int)))) none, y2].getD (0 : Nat) (Row.one (CTy.slice (Row.cons (CTy.int IntKind.i32) (Row.cons (CTy.int IntKind.i64) (Row.cons (CTy.int IntKind.i64) (Row.cons (CTy.int IntKind.i64) (Row.one (CTy.int IntKind.i64)))))))).dflt) + List.length ([cutList y1 none (some x4), cutList y1 (some (IntKind.i64.wrap (x4 + if (if IntKind.i64.wrap (x1 - x4) < x5 then IntKind.i64.wrap (x1 - x4) else x5) > (0 : Int) then if IntKind.i64.wrap (x1 - x4) < x5 then IntKind.i64.wrap (x1 - x4) else x5 else (0 : Int)))) none, y2].getD (1 : Nat) (Row.one (CTy.slice (Row.cons (CTy.int IntKind.i32) (Row.cons (CTy.int IntKind.i64) (Row.cons (CTy.int IntKind.i64) (Row.cons (CTy.int IntKind.i64) (Row.one (CTy.int IntKind.i64)))))))).dflt) + List.length ([cutList y1 none (some x4), cutList y1 (some (IntKind.i64.wrap (x4 + if (if IntKind.i64.wrap (x1 - x4) < x5 then IntKind.i64.wrap (x1 - x4) else x5) > (0 : Int) then if IntKind.i64.wrap (x1 - x4) < x5 then IntKind.i64.wrap (x1 - x4) else x5 else (0 : Int)))) none, y2].getD (2 : Nat) (Row.one (CTy.slice (Row.cons (CTy.int IntKind.i32) (Row.cons (CTy.int IntKind.i64) (Row.cons (CTy.int IntKind.i64) (Row.cons (CTy.int IntKind.i64) (Row.one (CTy.int IntKind.i64)))))))).dflt)) (List.drop (0 : Nat) (splice (splice (splice (rowN ((0 : Int), (0 : Int), (0 : Int), (0 : Int), (0 : Int)) (IntKind.i64.wrap (IntKind.i64.wrap (IntKind.i64.wrap (IntKind.i64.wrap ((0 : Int) + Int.ofNat (List.length ([cutList y1 none (some x4), cutList y1 (some (IntKind.i64.wrap (x4 + if (if IntKind.i64.wrap (x1 - x4) < x5 then IntKind.i64.wrap (x1 - x4) else x5) > (0 : Int) then if IntKind.i64.wrap (x1 - x4) < x5 then IntKind.i64.wrap (x1 - x4) else x5 else (0 : Int)))) none, y2].getD (0 : Nat) (Row.one (CTy.slice (Row.cons (CTy.int IntKind.i32) (Row.cons (CTy.int IntKind.i64) (Row.cons (CTy.int IntKind.i64) (Row.cons (CTy.int IntKind.i64) (Row.one (CTy.int IntKind.i64)))))))).dflt))) + Int.ofNat (List.length ([cutList y1 none (some x4), cutList y1 (some (IntKind.i64.wrap (x4 + if (if IntKind.i64.wrap (x1 - x4) < x5 then IntKind.i64.wrap (x1 - x4) else x5) > (0 : Int) then if IntKind.i64.wrap (x1 - x4) < x5 then IntKind.i64.wrap (x1 - x4) else x5 else (0 : Int)))) none, y2].getD (1 : Nat) (Row.one (CTy.slice (Row.cons (CTy.int IntKind.i32) (Row.cons (CTy.int IntKind.i64) (Row.cons (CTy.int IntKind.i64) (Row.cons (CTy.int IntKind.i64) (Row.one (CTy.int IntKind.i64)))))))).dflt))) + Int.ofNat (List.length ([cutList y1 none (some x4), cutList y1 (some (IntKind.i64.wrap (x4 + if (if IntKind.i64.wrap (x1 - x4) < x5 then IntKind.i64.wrap (x1 - x4) else x5) > (0 : Int) then if IntKind.i64.wrap (x1 - x4) < x5 then IntKind.i64.wrap (x1 - x4) else x5 else (0 : Int)))) none, y2].getD (2 : Nat) (Row.one (CTy.slice (Row.cons (CTy.int IntKind.i32) (Row.cons (CTy.int IntKind.i64) (Row.cons (CTy.int IntKind.i64) (Row.cons (CTy.int IntKind.i64) (Row.one (CTy.int IntKind.i64)))))))).dflt))) - (0 : Int))).toNat) ((0 : Nat) + (((some (0 : Int)).getD (Int.ofNat (rowN ((0 : Int), (0 : Int), (0 : Int), (0 : Int), (0 : Int)) (IntKind.i64.wrap (IntKind.i64.wrap (IntKind.i64.wrap (IntKind.i64.wrap ((0 : Int) + Int.ofNat (List.length ([cutList y1 none (some x4), cutList y1 (some (IntKind.i64.wrap (x4 + if (if IntKind.i64.wrap (x1 - x4) < x5 then IntKind.i64.wrap (x1 - x4) else x5) > (0 : Int) then if IntKind.i64.wrap (x1 - x4) < x5 then IntKind.i64.wrap (x1 - x4) else x5 else (0 : Int)))) none, y2].getD (0 : Nat) (Row.one (CTy.slice (Row.cons (CTy.int IntKind.i32) (Row.cons (CTy.int IntKind.i64) (Row.cons (CTy.int IntKind.i64) (Row.cons (CTy.int IntKind.i64) (Row.one (CTy.int IntKind.i64)))))))).dflt))) + Int.ofNat (List.length ([cutList y1 none (some x4), cutList y1 (some (IntKind.i64.wrap (x4 + if (if IntKind.i64.wrap (x1 - x4) < x5 then IntKind.i64.wrap (x1 - x4) else x5) > (0 : Int) then if IntKind.i64.wrap (x1 - x4) < x5 then IntKind.i64.wrap (x1 - x4) else x5 else (0 : Int)))) none, y2].getD (1 : Nat) (Row.one (CTy.slice (Row.cons (CTy.int IntKind.i32) (Row.cons (CTy.int IntKind.i64) (Row.cons (CTy.int IntKind.i64) (Row.cons (CTy.int IntKind.i64) (Row.one (CTy.int IntKind.i64)))))))).dflt))) + Int.ofNat (List.length ([cutList y1 none (some x4), cutList y1 (some (IntKind.i64.wrap (x4 + if (if IntKind.i64.wrap (x1 - x4) < x5 then IntKind.i64.wrap (x1 - x4) else x5) > (0 : Int) then if IntKind.i64.wrap (x1 - x4) < x5 then IntKind.i64.wrap (x1 - x4) else x5 else (0 : Int)))) none, y2].getD (2 : Nat) (Row.one (CTy.slice (Row.cons (CTy.int IntKind.i32) (Row.cons (CTy.int IntKind.i64) (Row.cons (CTy.int IntKind.i64) (Row.cons (CTy.int IntKind.i64) (Row.one (CTy.int IntKind.i64)))))))).dflt))) - (0 : Int))).toNat).length)).toNat - (0 : Nat))) ([cutList y1 none (some x4), cutList y1 (some (IntKind.i64.wrap (x4 + if (if IntKind.i64.wrap (x1 - x4) < x5 then IntKind.i64.wrap (x1 - x4) else x5) > (0 : Int) then if IntKind.i64.wrap (x1 - x4) < x5 then IntKind.i64.wrap (x1 - x4) else x5 else (0 : Int)))) none, y2].getD (0 : Nat) (Row.one (CTy.slice (Row.cons (CTy.int IntKind.i32) (Row.cons (CTy.int IntKind.i64) (Row.cons (CTy.int IntKind.i64) (Row.cons (CTy.int IntKind.i64) (Row.one (CTy.int IntKind.i64)))))))).dflt)) ((0 : Nat) + (((some (0 : Int)).getD (Int.ofNat (rowN ((0 : Int), (0 : Int), (0 : Int), (0 : Int), (0 : Int)) (IntKind.i64.wrap (IntKind.i64.wrap (IntKind.i64.wrap (IntKind.i64.wrap ((0 : Int) + Int.ofNat (List.length ([cutList y1 none (some x4), cutList y1 (some (IntKind.i64.wrap (x4 + if (if IntKind.i64.wrap (x1 - x4) < x5 then IntKind.i64.wrap (x1 - x4) else x5) > (0 : Int) then if IntKind.i64.wrap (x1 - x4) < x5 then IntKind.i64.wrap (x1 - x4) else x5 else (0 : Int)))) none, y2].getD (0 : Nat) (Row.one (CTy.slice (Row.cons (CTy.int IntKind.i32) (Row.cons (CTy.int IntKind.i64) (Row.cons (CTy.int IntKind.i64) (Row.cons (CTy.int IntKind.i64) (Row.one (CTy.int IntKind.i64)))))))).dflt))) + Int.ofNat (List.length ([cutList y1 none (some x4), cutList y1 (some (IntKind.i64.wrap (x4 + if (if IntKind.i64.wrap (x1 - x4) < x5 then IntKind.i64.wrap (x1 - x4) else x5) > (0 : Int) then if IntKind.i64.wrap (x1 - x4) < x5 then IntKind.i64.wrap (x1 - x4) else x5 else (0 : Int)))) none, y2].getD (1 : Nat) (Row.one (CTy.slice (Row.cons (CTy.int IntKind.i32) (Row.cons (CTy.int IntKind.i64) (Row.cons (CTy.int IntKind.i64) (Row.cons (CTy.int IntKind.i64) (Row.one (CTy.int IntKind.i64)))))))).dflt))) + Int.ofNat (List.length ([cutList y1 none (some x4), cutList y1 (some (IntKind.i64.wrap (x4 + if (if IntKind.i64.wrap (x1 - x4) < x5 then IntKind.i64.wrap (x1 - x4) else x5) > (0 : Int) then if IntKind.i64.wrap (x1 - x4) < x5 then IntKind.i64.wrap (x1 - x4) else x5 else (0 : Int)))) none, y2].getD (2 : Nat) (Row.one (CTy.slice (Row.cons (CTy.int IntKind.i32) (Row.cons (CTy.int IntKind.i64) (Row.cons (CTy.int IntKind.i64) (Row.cons (CTy.int IntKind.i64) (Row.one (CTy.int IntKind.i64)))))))).dflt))) - (0 : Int))).toNat).length)).toNat - (0 : Nat) + List.length ([cutList y1 none (some x4), cutList y1 (some (IntKind.i64.wrap (x4 + if (if IntKind.i64.wrap (x1 - x4) < x5 then IntKind.i64.wrap (x1 - x4) else x5) > (0 : Int) then if IntKind.i64.wrap (x1 - x4) < x5 then IntKind.i64.wrap (x1 - x4) else x5 else (0 : Int)))) none, y2].getD (0 : Nat) (Row.one (CTy.slice (Row.cons (CTy.int IntKind.i32) (Row.cons (CTy.int IntKind.i64) (Row.cons (CTy.int IntKind.i64) (Row.cons (CTy.int IntKind.i64) (Row.one (CTy.int IntKind.i64)))))))).dflt))) ([cutList y1 none (some x4), cutList y1 (some (IntKind.i64.wrap (x4 + if (if IntKind.i64.wrap (x1 - x4) < x5 then IntKind.i64.wrap (x1 - x4) else x5) > (0 : Int) then if IntKind.i64.wrap (x1 - x4) < x5 then IntKind.i64.wrap (x1 - x4) else x5 else (0 : Int)))) none, y2].getD (1 : Nat) (Row.one (CTy.slice (Row.cons (CTy.int IntKind.i32) (Row.cons (CTy.int IntKind.i64) (Row.cons (CTy.int IntKind.i64) (Row.cons (CTy.int IntKind.i64) (Row.one (CTy.int IntKind.i64)))))))).dflt)) ((0 : Nat) + (((some (0 : Int)).getD (Int.ofNat (rowN ((0 : Int), (0 : Int), (0 : Int), (0 : Int), (0 : Int)) (IntKind.i64.wrap (IntKind.i64.wrap (IntKind.i64.wrap (IntKind.i64.wrap ((0 : Int) + Int.ofNat (List.length ([cutList y1 none (some x4), cutList y1 (some (IntKind.i64.wrap (x4 + if (if IntKind.i64.wrap (x1 - x4) < x5 then IntKind.i64.wrap (x1 - x4) else x5) > (0 : Int) then if IntKind.i64.wrap (x1 - x4) < x5 then IntKind.i64.wrap (x1 - x4) else x5 else (0 : Int)))) none, y2].getD (0 : Nat) (Row.one (CTy.slice (Row.cons (CTy.int IntKind.i32) (Row.cons (CTy.int IntKind.i64) (Row.cons (CTy.int IntKind.i64) (Row.cons (CTy.int IntKind.i64) (Row.one (CTy.int IntKind.i64)))))))).dflt))) + Int.ofNat (List.length ([cutList y1 none (some x4), cutList y1 (some (IntKind.i64.wrap (x4 + if (if IntKind.i64.wrap (x1 - x4) < x5 then IntKind.i64.wrap (x1 - x4) else x5) > (0 : Int) then if IntKind.i64.wrap (x1 - x4) < x5 then IntKind.i64.wrap (x1 - x4) else x5 else (0 : Int)))) none, y2].getD (1 : Nat) (Row.one (CTy.slice (Row.cons (CTy.int IntKind.i32) (Row.cons (CTy.int IntKind.i64) (Row.cons (CTy.int IntKind.i64) (Row.cons (CTy.int IntKind.i64) (Row.one (CTy.int IntKind.i64)))))))).dflt))) + Int.ofNat (List.length ([cutList y1 none (some x4), cutList y1 (some (IntKind.i64.wrap (x4 + if (if IntKind.i64.wrap (x1 - x4) < x5 then IntKind.i64.wrap (x1 - x4) else x5) > (0 : Int) then if IntKind.i64.wrap (x1 - x4) < x5 then IntKind.i64.wrap (x1 - x4) else x5 else (0 : Int)))) none, y2].getD (2 : Nat) (Row.one (CTy.slice (Row.cons (CTy.int IntKind.i32) (Row.cons (CTy.int IntKind.i64) (Row.cons (CTy.int IntKind.i64) (Row.cons (CTy.int IntKind.i64) (Row.one (CTy.int IntKind.i64)))))))).dflt))) - (0 : Int))).toNat).length)).toNat - (0 : Nat) + List.length ([cutList y1 none (some x4), cutList y1 (some (IntKind.i64.wrap (x4 + if (if IntKind.i64.wrap (x1 - x4) < x5 then IntKind.i64.wrap (x1 - x4) else x5) > (0 : Int) then if IntKind.i64.wrap (x1 - x4) < x5 then IntKind.i64.wrap (x1 - x4) else x5 else (0 : Int)))) none, y2].getD (0 : Nat) (Row.one (CTy.slice (Row.cons (CTy.int IntKind.i32) (Row.cons (CTy.int IntKind.i64) (Row.cons (CTy.int IntKind.i64) (Row.cons (CTy.int IntKind.i64) (Row.one (CTy.int IntKind.i64)))))))).dflt) + List.length ([cutList y1 none (some x4), cutList y1 (some (IntKind.i64.wrap (x4 + if (if IntKind.i64.wrap (x1 - x4) < x5 then IntKind.i64.wrap (x1 - x4) else x5) > (0 : Int) then if IntKind.i64.wrap (x1 - x4) < x5 then IntKind.i64.wrap (x1 - x4) else x5 else (0 : Int)))) none, y2].getD (1 : Nat) (Row.one (CTy.slice (Row.cons (CTy.int IntKind.i32) (Row.cons (CTy.int IntKind.i64) (Row.cons (CTy.int IntKind.i64) (Row.cons (CTy.int IntKind.i64) (Row.one (CTy.int IntKind.i64)))))))).dflt))) ([cutList y1 none (some x4), cutList y1 (some (IntKind.i64.wrap (x4 + if (if IntKind.i64.wrap (x1 - x4) < x5 then IntKind.i64.wrap (x1 - x4) else x5) > (0 : Int) then if IntKind.i64.wrap (x1 - x4) < x5 then IntKind.i64.wrap (x1 - x4) else x5 else (0 : Int)))) none, y2].getD (2 : Nat) (Row.one (CTy.slice (Row.cons (CTy.int IntKind.i32) (Row.cons (CTy.int IntKind.i64) (Row.cons (CTy.int IntKind.i64) (Row.cons (CTy.int IntKind.i64) (Row.one (CTy.int IntKind.i64)))))))).dflt)))))) fun y3 => (some ((y3.1), (y3.2.1), (y3.2.2)))) else none) else none) else none) else none) else (bif ((List.length ([cutList y1 none (some x4), cutList y1 (some (IntKind.i64.wrap (x4 + if (if IntKind.i64.wrap (x1 - x4) < x5 then IntKind.i64.wrap (x1 - x4) else x5) > (0 : Int) then if IntKind.i64.wrap (x1 - x4) < x5 then IntKind.i64.wrap (x1 - x4) else x5 else (0 : Int)))) none, y2].getD (0 : Nat) (Row.one (CTy.slice (Row.cons (CTy.int IntKind.i32) (Row.cons (CTy.int IntKind.i64) (Row.cons (CTy.int IntKind.i64) (Row.cons (CTy.int IntKind.i64) (Row.one (CTy.int IntKind.i64)))))))).dflt)).ble (274877906944 : Nat) && true) then (bif (true && ((List.length ([cutList y1 none (some x4), cutList y1 (some (IntKind.i64.wrap (x4 + if (if IntKind.i64.wrap (x1 - x4) < x5 then IntKind.i64.wrap (x1 - x4) else x5) > (0 : Int) then if IntKind.i64.wrap (x1 - x4) < x5 then IntKind.i64.wrap (x1 - x4) else x5 else (0 : Int)))) none, y2].getD (0 : Nat) (Row.one (CTy.slice (Row.cons (CTy.int IntKind.i32) (Row.cons (CTy.int IntKind.i64) (Row.cons (CTy.int IntKind.i64) (Row.cons (CTy.int IntKind.i64) (Row.one (CTy.int IntKind.i64)))))))).dflt) + List.length ([cutList y1 none (some x4), cutList y1 (some (IntKind.i64.wrap (x4 + if (if IntKind.i64.wrap (x1 - x4) < x5 then IntKind.i64.wrap (x1 - x4) else x5) > (0 : Int) then if IntKind.i64.wrap (x1 - x4) < x5 then IntKind.i64.wrap (x1 - x4) else x5 else (0 : Int)))) none, y2].getD (1 : Nat) (Row.one (CTy.slice (Row.cons (CTy.int IntKind.i32) (Row.cons (CTy.int IntKind.i64) (Row.cons (CTy.int IntKind.i64) (Row.cons (CTy.int IntKind.i64) (Row.one (CTy.int IntKind.i64)))))))).dflt)).ble (274877906944 : Nat) && true)) then (bif (true && ((([cutList y1 none (some x4), cutList y1 (some (IntKind.i64.wrap (x4 + if (if IntKind.i64.wrap (x1 - x4) < x5 then IntKind.i64.wrap (x1 - x4) else x5) > (0 : Int) then if IntKind.i64.wrap (x1 - x4) < x5 then IntKind.i64.wrap (x1 - x4) else x5 else (0 : Int)))) none, y2].getD (0 : Nat) (Row.one (CTy.slice (Row.cons (CTy.int IntKind.i32) (Row.cons (CTy.int IntKind.i64) (Row.cons (CTy.int IntKind.i64) (Row.cons (CTy.int IntKind.i64) (Row.one (CTy.int IntKind.i64)))))))).dflt ++ [cutList y1 none (some x4), cutList y1 (some (IntKind.i64.wrap (x4 + if (if IntKind.i64.wrap (x1 - x4) < x5 then IntKind.i64.wrap (x1 - x4) else x5) > (0 : Int) then if IntKind.i64.wrap (x1 - x4) < x5 then IntKind.i64.wrap (x1 - x4) else x5 else (0 : Int)))) none, y2].getD (1 : Nat) (Row.one (CTy.slice (Row.cons (CTy.int IntKind.i32) (Row.cons (CTy.int IntKind.i64) (Row.cons (CTy.int IntKind.i64) (Row.cons (CTy.int IntKind.i64) (Row.one (CTy.int IntKind.i64)))))))).dflt).length + List.length ([cutList y1 none (some x4), cutList y1 (some (IntKind.i64.wrap (x4 + if (if IntKind.i64.wrap (x1 - x4) < x5 then IntKind.i64.wrap (x1 - x4) else x5) > (0 : Int) then if IntKind.i64.wrap (x1 - x4) < x5 then IntKind.i64.wrap (x1 - x4) else x5 else (0 : Int)))) none, y2].getD (2 : Nat) (Row.one (CTy.slice (Row.cons (CTy.int IntKind.i32) (Row.cons (CTy.int IntKind.i64) (Row.cons (CTy.int IntKind.i64) (Row.cons (CTy.int IntKind.i64) (Row.one (CTy.int IntKind.i64)))))))).dflt)).ble (274877906944 : Nat) && true)) then (optK ((hide edit_turned_F x0 x1 x2 x3 ([cutList y1 none (some x4), cutList y1 (some (IntKind.i64.wrap (x4 + if (if IntKind.i64.wrap (x1 - x4) < x5 then IntKind.i64.wrap (x1 - x4) else x5) > (0 : Int) then if IntKind.i64.wrap (x1 - x4) < x5 then IntKind.i64.wrap (x1 - x4) else x5 else (0 : Int)))) none, y2].getD (0 : Nat) (Row.one (CTy.slice (Row.cons (CTy.int IntKind.i32) (Row.cons (CTy.int IntKind.i64) (Row.cons (CTy.int IntKind.i64) (Row.cons (CTy.int IntKind.i64) (Row.one (CTy.int IntKind.i64)))))))).dflt ++ [cutList y1 none (some x4), cutList y1 (some (IntKind.i64.wrap (x4 + if (if IntKind.i64.wrap (x1 - x4) < x5 then IntKind.i64.wrap (x1 - x4) else x5) > (0 : Int) then if IntKind.i64.wrap (x1 - x4) < x5 then IntKind.i64.wrap (x1 - x4) else x5 else (0 : Int)))) none, y2].getD (1 : Nat) (Row.one (CTy.slice (Row.cons (CTy.int IntKind.i32) (Row.cons (CTy.int IntKind.i64) (Row.cons (CTy.int IntKind.i64) (Row.cons (CTy.int IntKind.i64) (Row.one (CTy.int IntKind.i64)))))))).dflt ++ [cutList y1 none (some x4), cutList y1 (some (IntKind.i64.wrap (x4 + if (if IntKind.i64.wrap (x1 - x4) < x5 then IntKind.i64.wrap (x1 - x4) else x5) > (0 : Int) then if IntKind.i64.wrap (x1 - x4) < x5 then IntKind.i64.wrap (x1 - x4) else x5 else (0 : Int)))) none, y2].getD (2 : Nat) (Row.one (CTy.slice (Row.cons (CTy.int IntKind.i32) (Row.cons (CTy.int IntKind.i64) (Row.cons (CTy.int IntKind.i64) (Row.cons (CTy.int IntKind.i64) (Row.one (CTy.int IntKind.i64)))))))).dflt))) fun y4 => (some ((y4.1), (y4.2.1), (y4.2.2)))) else none) else none) else none))))))) else none) else none))))
noncomputable def edit_Delete_A : SkL := (.cons (.agg (.cons (.int .i64) (.cons (.int .i64) (.cons (.list (.cons (.int .i32) (.cons (.int .i64) (.cons (.int .i64) (.cons (.int .i64) (.one (.int .i64))))))) .nil)))) (.cons (.int .i64) (.cons (.int .i64) (.cons (.int .i64) (.cons (.agg (.cons (.int .i64) (.cons (.int .i64) (.cons (.int .i64) .nil)))) .nil)))))
noncomputable def edit_Delete_B : Sk := (.agg (.cons (.int .i64) (.cons (.int .i64) (.cons (.list (.cons (.int .i32) (.cons (.int .i64) (.cons (.int .i64) (.cons (.int .i64) (.one (.int .i64))))))) .nil))))
def edit_Delete_m {R : Type} (K : (Int × (Int × (List (Int × Int × Int × Int × Int) × Unit))) → Option R) (o : Option (Int × Int × (List (Int × Int × Int × Int × Int)))) : Option R := optK o fun y => K (y.1, (y.2.1, (y.2.2, ())))
theorem edit_Delete_run {R : Type} (x0 : Int) (x1 : Int) (x2 : List (Int × Int × Int × Int × Int)) (x3 : Int) (x4 : Int) (x5 : Int) (x6 : Int) (x7 : Int) (x8 : Int) (K : (Int × (Int × (List (Int × Int × Int × Int × Int) × Unit))) → Option R) : acall (envL edit_Delete_su ll0 cs0 (fun _ _ => false)) 1000 15 (edit_Delete_A.enc ((x0, (x1, (x2, ()))), (x3, (x4, (x5, ((x6, (x7, (x8, ()))), ())))))) [] (resK edit_Delete_B false K) = edit_Delete_m K (edit_Delete_F x0 x1 x2 x3 x4 x5 x6 x7 x8) := by
  unfold edit_Delete_F
  exact Eq.trans (by kernel_rfl) (optK_push (edit_Delete_m K) rfl _ fun y0 => (cond_push (edit_Delete_m K) _ (cond_push (edit_Delete_m K) _ rfl rfl) (optK_push (edit_Delete_m K) rfl _ fun y1 => (cond_push (edit_Delete_m K) _ (cond_push (edit_Delete_m K) _ (optK_push (edit_Delete_m K) rfl _ fun y2 => (cond_push (edit_Delete_m K) _ rfl (cond_push (edit_Delete_m K) _ rfl (cond_push (edit_Delete_m K) _ rfl (cond_push (edit_Delete_m K) _ rfl (cond_push (edit_Delete_m K) _ (cond_push (edit_Delete_m K) _ (cond_push (edit_Delete_m K) _ (cond_push (edit_Delete_m K) _ (cond_push (edit_Delete_m K) _ (optK_push (edit_Delete_m K) rfl _ fun y3 => rfl) rfl) rfl) rfl) rfl) (cond_push (edit_Delete_m K) _ (cond_push (edit_Delete_m K) _ (cond_push (edit_Delete_m K) _ (optK_push (edit_Delete_m K) rfl _ fun y4 => rfl) rfl) rfl) rfl))))))) rfl) rfl))))
noncomputable def edit_Delete_G : GoF edit_Delete_A edit_Delete_B := fun R (x : ((Int × (Int × (List (Int × Int × Int × Int × Int) × Unit))) × (Int × (Int × (Int × ((Int × (Int × (Int × Unit))) × Unit)))))) K => edit_Delete_m K (hide edit_Delete_F x.1.1 x.1.2.1 x.1.2.2.1 x.2.1 x.2.2.1 x.2.2.2.1 x.2.2.2.2.1.1 x.2.2.2.2.1.2.1 x.2.2.2.2.1.2.2.1)
theorem edit_Delete_known : Known Try.prog 15 edit_Delete_A edit_Delete_B false edit_Delete_G := known_of (envL_ok edit_Delete_su_ok ll0_ok cs0_ok) (n := 1000) rfl fun R (x : ((Int × (Int × (List (Int × Int × Int × Int × Int) × Unit))) × (Int × (Int × (Int × ((Int × (Int × (Int × Unit))) × Unit)))))) K => by
  show _ = edit_Delete_m K (hide edit_Delete_F x.1.1 x.1.2.1 x.1.2.2.1 x.2.1 x.2.2.1 x.2.2.2.1 x.2.2.2.2.1.1 x.2.2.2.2.1.2.1 x.2.2.2.2.1.2.2.1)
  rw [hide_eq]
  exact edit_Delete_run x.1.1 x.1.2.1 x.1.2.2.1 x.2.1 x.2.2.1 x.2.2.2.1 x.2.2.2.2.1.1 x.2.2.2.2.1.2.1 x.2.2.2.2.1.2.2.1 K

noncomputable def edit_Line_su : SumT := (18, sumH grid_At_A grid_At_B true grid_At_G) :: (57, sumW slices_Clone_api_Cell_A slices_Clone_api_Cell_B slices_Clone_api_Cell_G) :: (47, sumH grid_Wipe_A grid_Wipe_B true grid_Wipe_G) :: sums0
theorem edit_Line_su_ok : AllSum Try.prog edit_Line_su := ⟨sumH_ok rfl rfl grid_At_known, ⟨sumW_ok rfl rfl rfl slices_Clone_api_Cell_known, ⟨sumH_ok rfl rfl grid_Wipe_known, sums0_ok⟩⟩⟩
noncomputable def edit_Line_F (x0 : Int) (x1 : Int) (x2 : List (Int × Int × Int × Int × Int)) (x3 : Int) (x4 : Int) (x5 : Int) (x6 : Int) (x7 : Int) (x8 : Int) : Option (Int × Int × (List (Int × Int × Int × Int × Int))) := (optK ((hide grid_At_F x0 x1 x2 x3 x4)) fun y0 => (bif (!y0.2.2.2.2.2) then (bif (x2.length.ble (274877906944 : Nat)) then (some (x0, x1, x2)) else none) else (bif (x5 == (0 : Int)) then (optK ((hide grid_Wipe_F x0 x1 x2 x3 x4 x1 x6 x7 x8)) fun y1 => (some ((y1.1), (y1.2.1), (y1.2.2)))) else (bif (x5 == (1 : Int)) then (optK ((hide grid_Wipe_F x0 x1 x2 x3 (0 : Int) (IntKind.i64.wrap (x4 + (1 : Int))) x6 x7 x8)) fun y2 => (some ((y2.1), (y2.2.1), (y2.2.2)))) else (bif (x5 == (2 : Int)) then (optK ((hide grid_Wipe_F x0 x1 x2 x3 (0 : Int) x1 x6 x7 x8)) fun y3 => (some ((y3.1), (y3.2.1), (y3.2.2)))) else (bif (x2.length.ble (274877906944 : Nat)) then (some (x0, x1, x2)) else none))))))
noncomputable def edit_Line_A : SkL := (.cons (.agg (.cons (.int .i64) (.cons (.int .i64) (.cons (.list (.cons (.int .i32) (.cons (.int .i64) (.cons (.int .i64) (.cons (.int .i64) (.one (.int .i64))))))) .nil)))) (.cons (.int .i64) (.cons (.int .i64) (.cons (.int .i64) (.cons (.agg (.cons (.int .i64) (.cons (.int .i64) (.cons (.int .i64) .nil)))) .nil)))))
noncomputable def edit_Line_B : Sk := (.agg (.cons (.int .i64) (.cons (.int .i64) (.cons (.list (.cons (.int .i32) (.cons (.int .i64) (.cons (.int .i64) (.cons (.int .i64) (.one (.int .i64))))))) .nil))))
def edit_Line_m {R : Type} (K : (Int × (Int × (List (Int × Int × Int × Int × Int) × Unit))) → Option R) (o : Option (Int × Int × (List (Int × Int × Int × Int × Int)))) : Option R := optK o fun y => K (y.1, (y.2.1, (y.2.2, ())))
theorem edit_Line_run {R : Type} (x0 : Int) (x1 : Int) (x2 : List (Int × Int × Int × Int × Int)) (x3 : Int) (x4 : Int) (x5 : Int) (x6 : Int) (x7 : Int) (x8 : Int) (K : (Int × (Int × (List (Int × Int × Int × Int × Int) × Unit))) → Option R) : acall (envL edit_Line_su ll0 cs0 (fun _ _ => false)) 1000 21 (edit_Line_A.enc ((x0, (x1, (x2, ()))), (x3, (x4, (x5, ((x6, (x7, (x8, ()))), ())))))) [] (resK edit_Line_B false K) = edit_Line_m K (edit_Line_F x0 x1 x2 x3 x4 x5 x6 x7 x8) := by
  unfold edit_Line_F
  exact Eq.trans (by kernel_rfl) (optK_push (edit_Line_m K) rfl _ fun y0 => (cond_push (edit_Line_m K) _ (cond_push (edit_Line_m K) _ rfl rfl) (cond_push (edit_Line_m K) _ (optK_push (edit_Line_m K) rfl _ fun y1 => rfl) (cond_push (edit_Line_m K) _ (optK_push (edit_Line_m K) rfl _ fun y2 => rfl) (cond_push (edit_Line_m K) _ (optK_push (edit_Line_m K) rfl _ fun y3 => rfl) (cond_push (edit_Line_m K) _ rfl rfl))))))
noncomputable def edit_Line_G : GoF edit_Line_A edit_Line_B := fun R (x : ((Int × (Int × (List (Int × Int × Int × Int × Int) × Unit))) × (Int × (Int × (Int × ((Int × (Int × (Int × Unit))) × Unit)))))) K => edit_Line_m K (hide edit_Line_F x.1.1 x.1.2.1 x.1.2.2.1 x.2.1 x.2.2.1 x.2.2.2.1 x.2.2.2.2.1.1 x.2.2.2.2.1.2.1 x.2.2.2.2.1.2.2.1)
theorem edit_Line_known : Known Try.prog 21 edit_Line_A edit_Line_B false edit_Line_G := known_of (envL_ok edit_Line_su_ok ll0_ok cs0_ok) (n := 1000) rfl fun R (x : ((Int × (Int × (List (Int × Int × Int × Int × Int) × Unit))) × (Int × (Int × (Int × ((Int × (Int × (Int × Unit))) × Unit)))))) K => by
  show _ = edit_Line_m K (hide edit_Line_F x.1.1 x.1.2.1 x.1.2.2.1 x.2.1 x.2.2.1 x.2.2.2.1 x.2.2.2.2.1.1 x.2.2.2.2.1.2.1 x.2.2.2.2.1.2.2.1)
  rw [hide_eq]
  exact edit_Line_run x.1.1 x.1.2.1 x.1.2.2.1 x.2.1 x.2.2.1 x.2.2.2.1 x.2.2.2.2.1.1 x.2.2.2.2.1.2.1 x.2.2.2.2.1.2.2.1 K

end Go.Proofs.YtpneolkfeihkhaaAbs

-- Written by a program of this session (dec.py); Lean checks it.
namespace Go.Proofs.YtpneolkfeihkhaaAbs
open Go Go.Proofs
set_option linter.unusedVariables false
set_option maxHeartbeats 2000000
set_option maxRecDepth 100000
noncomputable def edit_Erase_su : SumT := (18, sumH grid_At_A grid_At_B true grid_At_G) :: (57, sumW slices_Clone_api_Cell_A slices_Clone_api_Cell_B slices_Clone_api_Cell_G) :: (21, sumH edit_Line_A edit_Line_B false edit_Line_G) :: (47, sumH grid_Wipe_A grid_Wipe_B true grid_Wipe_G) :: sums0
theorem edit_Erase_su_ok : AllSum Try.prog edit_Erase_su := ⟨sumH_ok rfl rfl grid_At_known, ⟨sumW_ok rfl rfl rfl slices_Clone_api_Cell_known, ⟨sumH_ok rfl rfl edit_Line_known, ⟨sumH_ok rfl rfl grid_Wipe_known, sums0_ok⟩⟩⟩⟩
noncomputable def edit_Erase_c6 : Code := ((Try.f23.body.map fun b => loopsAt b 6).getD []).headD .skip
theorem edit_Erase_c6_is : (Try.f23.body.map fun b => loopsAt b 6) = some [edit_Erase_c6] := by kernel_rfl
noncomputable def edit_Erase_s6 : SkSt := ⟨(.gap 1 (.cons (.int .i64) (.gap 1 (.cons (.int .i64) (.gap 1 (.cst (.ptr 0 0) (.gap 3 (.cst (.ptr 1 0) (.cst (.ptr 2 0) (.gap 2 (.cst (.ptr 3 0) (.gap 27 (.cons (.int .i64) (.cons (.int .i64) (.gap 26 .nil))))))))))))))), (.var 27 (.cons (.int .i64) (.cons (.int .i64) (.cons (.list (.cons (.int .i32) (.cons (.int .i64) (.cons (.int .i64) (.cons (.int .i64) (.one (.int .i64))))))) .nil))) (.var 23 (.cons (.int .i64) (.cons (.int .i64) (.cons (.int .i64) .nil))) (.var 27 (.cons (.int .i64) (.cons (.int .i64) (.cst (.own 4 40 (.cons (.int .i32) (.cons (.int .i64) (.cons (.int .i64) (.cons (.int .i64) (.one (.int .i64))))))) .nil))) (.var 27 (.cons (.int .i64) (.cons (.int .i64) (.cons (.list (.cons (.int .i32) (.cons (.int .i64) (.cons (.int .i64) (.cons (.int .i64) (.one (.int .i64))))))) .nil))) (.arr 40 (.cons (.int .i32) (.cons (.int .i64) (.cons (.int .i64) (.cons (.int .i64) (.one (.int .i64)))))) .nil)))))⟩
noncomputable def edit_Erase_x6_0 : SkSt := ⟨(.gap 10 (.cst (.ptr 0 0) (.gap 2 (.cst (.ptr 1 0) (.gap 55 .nil))))), (.var 27 (.cons (.int .i64) (.cons (.int .i64) (.cst (.own 2 40 (.cons (.int .i32) (.cons (.int .i64) (.cons (.int .i64) (.cons (.int .i64) (.one (.int .i64))))))) .nil))) (.var 27 (.cons (.int .i64) (.cons (.int .i64) (.cons (.list (.cons (.int .i32) (.cons (.int .i64) (.cons (.int .i64) (.cons (.int .i64) (.one (.int .i64))))))) .nil))) (.arr 40 (.cons (.int .i32) (.cons (.int .i64) (.cons (.int .i64) (.cons (.int .i64) (.one (.int .i64)))))) .nil)))⟩
noncomputable def edit_Erase_xs6 : List (Ex × SkSt) := [(.exit 0, edit_Erase_x6_0)]
noncomputable def edit_Erase_L6 : Nat → Int → Int → Int → Int → Int → Int → List (Int × Int × Int × Int × Int) → Int → Int → Int → Int → Int → Int → Int → List (Int × Int × Int × Int × Int) → List (Int × Int × Int × Int × Int) → Option (Int × Int × Int × Int × (List (Int × Int × Int × Int × Int)) × (List (Int × Int × Int × Int × Int)))
  | 0, _, _, _, _, _, _, _, _, _, _, _, _, _, _, _, _ => none
  | n + 1, a0, a1, a2, a3, a4, a5, a6, a7, a8, a9, a10, a11, a12, a13, a14, a15 => (bif (decide (a3 < a2)) then (bif (decide (a3 > a0)) then (bif (a1 != (1 : Int)) then (optK ((hide grid_Wipe_F a12 a13 a14 a3 (0 : Int) a5 a7 a8 a9)) fun y5 => (edit_Erase_L6 n a0 a1 a2 (IntKind.i64.wrap (a3 + (1 : Int))) a4 a5 a6 a7 a8 a9 a10 a11 (y5.1) (y5.2.1) (y5.2.2) a15)) else (bif (decide (a3 < a0)) then (bif (a1 != (0 : Int)) then (optK ((hide grid_Wipe_F a12 a13 a14 a3 (0 : Int) a5 a7 a8 a9)) fun y6 => (edit_Erase_L6 n a0 a1 a2 (IntKind.i64.wrap (a3 + (1 : Int))) a4 a5 a6 a7 a8 a9 a10 a11 (y6.1) (y6.2.1) (y6.2.2) a15)) else (edit_Erase_L6 n a0 a1 a2 (IntKind.i64.wrap (a3 + (1 : Int))) a4 a5 a6 a7 a8 a9 a10 a11 a12 a13 a14 a15)) else (edit_Erase_L6 n a0 a1 a2 (IntKind.i64.wrap (a3 + (1 : Int))) a4 a5 a6 a7 a8 a9 a10 a11 a12 a13 a14 a15))) else (bif (decide (a3 < a0)) then (bif (a1 != (0 : Int)) then (optK ((hide grid_Wipe_F a12 a13 a14 a3 (0 : Int) a5 a7 a8 a9)) fun y7 => (edit_Erase_L6 n a0 a1 a2 (IntKind.i64.wrap (a3 + (1 : Int))) a4 a5 a6 a7 a8 a9 a10 a11 (y7.1) (y7.2.1) (y7.2.2) a15)) else (edit_Erase_L6 n a0 a1 a2 (IntKind.i64.wrap (a3 + (1 : Int))) a4 a5 a6 a7 a8 a9 a10 a11 a12 a13 a14 a15)) else (edit_Erase_L6 n a0 a1 a2 (IntKind.i64.wrap (a3 + (1 : Int))) a4 a5 a6 a7 a8 a9 a10 a11 a12 a13 a14 a15))) else (some (a10, a11, a12, a13, a14, a15)))
noncomputable def edit_Erase_I6 {R : Type} (K : Ex → St → Option R) : Nat → St → Option R := iterN (exec (envL edit_Erase_su ll0 cs0 (fun _ _ => false)) 23 (acall (envL edit_Erase_su ll0 cs0 (fun _ _ => false)) 1000) 0 edit_Erase_c6) (normTo edit_Erase_s6 0) (exitK edit_Erase_xs6 0 K)
noncomputable def edit_Erase_m6 {R : Type} (K : Ex → St → Option R) (o : Option (Int × Int × Int × Int × (List (Int × Int × Int × Int × Int)) × (List (Int × Int × Int × Int × Int)))) : Option R := optK o fun y => K (.exit 0) (edit_Erase_x6_0.enc ((), ((y.1, (y.2.1, ())), ((y.2.2.1, (y.2.2.2.1, (y.2.2.2.2.1, ()))), (y.2.2.2.2.2, ())))))
theorem edit_Erase_l6 {R : Type} (K : Ex → St → Option R) : ∀ (n : Nat), ∀ (a0 : Int) (a1 : Int) (a2 : Int) (a3 : Int) (a4 : Int) (a5 : Int) (a6 : List (Int × Int × Int × Int × Int)) (a7 : Int) (a8 : Int) (a9 : Int) (a10 : Int) (a11 : Int) (a12 : Int) (a13 : Int) (a14 : List (Int × Int × Int × Int × Int)) (a15 : List (Int × Int × Int × Int × Int)), edit_Erase_I6 K n (edit_Erase_s6.enc ((a0, (a1, (a2, (a3, ())))), ((a4, (a5, (a6, ()))), ((a7, (a8, (a9, ()))), ((a10, (a11, ())), ((a12, (a13, (a14, ()))), (a15, ()))))))) = edit_Erase_m6 K (edit_Erase_L6 n a0 a1 a2 a3 a4 a5 a6 a7 a8 a9 a10 a11 a12 a13 a14 a15) := by
  intro n
  induction n with
  | zero => intros; rfl
  | succ n ih =>
    intro a0 a1 a2 a3 a4 a5 a6 a7 a8 a9 a10 a11 a12 a13 a14 a15
    rw [edit_Erase_L6]
    exact Eq.trans (by kernel_rfl) (cond_push (edit_Erase_m6 K) _ (cond_push (edit_Erase_m6 K) _ (cond_push (edit_Erase_m6 K) _ (optK_push (edit_Erase_m6 K) rfl _ fun y5 => (ih a0 a1 a2 (IntKind.i64.wrap (a3 + (1 : Int))) a4 a5 a6 a7 a8 a9 a10 a11 (y5.1) (y5.2.1) (y5.2.2) a15)) (cond_push (edit_Erase_m6 K) _ (cond_push (edit_Erase_m6 K) _ (optK_push (edit_Erase_m6 K) rfl _ fun y6 => (ih a0 a1 a2 (IntKind.i64.wrap (a3 + (1 : Int))) a4 a5 a6 a7 a8 a9 a10 a11 (y6.1) (y6.2.1) (y6.2.2) a15)) (ih a0 a1 a2 (IntKind.i64.wrap (a3 + (1 : Int))) a4 a5 a6 a7 a8 a9 a10 a11 a12 a13 a14 a15)) (ih a0 a1 a2 (IntKind.i64.wrap (a3 + (1 : Int))) a4 a5 a6 a7 a8 a9 a10 a11 a12 a13 a14 a15))) (cond_push (edit_Erase_m6 K) _ (cond_push (edit_Erase_m6 K) _ (optK_push (edit_Erase_m6 K) rfl _ fun y7 => (ih a0 a1 a2 (IntKind.i64.wrap (a3 + (1 : Int))) a4 a5 a6 a7 a8 a9 a10 a11 (y7.1) (y7.2.1) (y7.2.2) a15)) (ih a0 a1 a2 (IntKind.i64.wrap (a3 + (1 : Int))) a4 a5 a6 a7 a8 a9 a10 a11 a12 a13 a14 a15)) (ih a0 a1 a2 (IntKind.i64.wrap (a3 + (1 : Int))) a4 a5 a6 a7 a8 a9 a10 a11 a12 a13 a14 a15))) rfl)
def edit_Erase_fu6 (a0 : Int) (a1 : Int) (a2 : Int) (a3 : Int) (a4 : Int) (a5 : Int) (a6 : List (Int × Int × Int × Int × Int)) (a7 : Int) (a8 : Int) (a9 : Int) (a10 : Int) (a11 : Int) (a12 : Int) (a13 : Int) (a14 : List (Int × Int × Int × Int × Int)) (a15 : List (Int × Int × Int × Int × Int)) : Nat := Int.natAbs a0 + Int.natAbs a1 + Int.natAbs a2 + Int.natAbs a3 + Int.natAbs a4 + Int.natAbs a5 + List.length a6 + Int.natAbs a7 + Int.natAbs a8 + Int.natAbs a9 + Int.natAbs a10 + Int.natAbs a11 + Int.natAbs a12 + Int.natAbs a13 + List.length a14 + List.length a15 + 5000
noncomputable def edit_Erase_G6 : GoL edit_Erase_s6 := fun R (x : ((Int × (Int × (Int × (Int × Unit)))) × ((Int × (Int × (List (Int × Int × Int × Int × Int) × Unit))) × ((Int × (Int × (Int × Unit))) × ((Int × (Int × Unit)) × ((Int × (Int × (List (Int × Int × Int × Int × Int) × Unit))) × (List (Int × Int × Int × Int × Int) × Unit))))))) K => edit_Erase_m6 K (hide edit_Erase_L6 (edit_Erase_fu6 x.1.1 x.1.2.1 x.1.2.2.1 x.1.2.2.2.1 x.2.1.1 x.2.1.2.1 x.2.1.2.2.1 x.2.2.1.1 x.2.2.1.2.1 x.2.2.1.2.2.1 x.2.2.2.1.1 x.2.2.2.1.2.1 x.2.2.2.2.1.1 x.2.2.2.2.1.2.1 x.2.2.2.2.1.2.2.1 x.2.2.2.2.2.1) x.1.1 x.1.2.1 x.1.2.2.1 x.1.2.2.2.1 x.2.1.1 x.2.1.2.1 x.2.1.2.2.1 x.2.2.1.1 x.2.2.1.2.1 x.2.2.1.2.2.1 x.2.2.2.1.1 x.2.2.2.1.2.1 x.2.2.2.2.1.1 x.2.2.2.2.1.2.1 x.2.2.2.2.1.2.2.1 x.2.2.2.2.2.1)
theorem edit_Erase_H6 : LoopOk Try.prog 23 6 (loopH edit_Erase_s6 0 edit_Erase_G6) := loop_known (envL_ok edit_Erase_su_ok ll0_ok cs0_ok) Try.func23 rfl edit_Erase_c6_is (xs := edit_Erase_xs6) (fuel := fun (x : ((Int × (Int × (Int × (Int × Unit)))) × ((Int × (Int × (List (Int × Int × Int × Int × Int) × Unit))) × ((Int × (Int × (Int × Unit))) × ((Int × (Int × Unit)) × ((Int × (Int × (List (Int × Int × Int × Int × Int) × Unit))) × (List (Int × Int × Int × Int × Int) × Unit))))))) => edit_Erase_fu6 x.1.1 x.1.2.1 x.1.2.2.1 x.1.2.2.2.1 x.2.1.1 x.2.1.2.1 x.2.1.2.2.1 x.2.2.1.1 x.2.2.1.2.1 x.2.2.1.2.2.1 x.2.2.2.1.1 x.2.2.2.1.2.1 x.2.2.2.2.1.1 x.2.2.2.2.1.2.1 x.2.2.2.2.1.2.2.1 x.2.2.2.2.2.1) fun R (x : ((Int × (Int × (Int × (Int × Unit)))) × ((Int × (Int × (List (Int × Int × Int × Int × Int) × Unit))) × ((Int × (Int × (Int × Unit))) × ((Int × (Int × Unit)) × ((Int × (Int × (List (Int × Int × Int × Int × Int) × Unit))) × (List (Int × Int × Int × Int × Int) × Unit))))))) K => by
  show edit_Erase_m6 K (hide edit_Erase_L6 (edit_Erase_fu6 x.1.1 x.1.2.1 x.1.2.2.1 x.1.2.2.2.1 x.2.1.1 x.2.1.2.1 x.2.1.2.2.1 x.2.2.1.1 x.2.2.1.2.1 x.2.2.1.2.2.1 x.2.2.2.1.1 x.2.2.2.1.2.1 x.2.2.2.2.1.1 x.2.2.2.2.1.2.1 x.2.2.2.2.1.2.2.1 x.2.2.2.2.2.1) x.1.1 x.1.2.1 x.1.2.2.1 x.1.2.2.2.1 x.2.1.1 x.2.1.2.1 x.2.1.2.2.1 x.2.2.1.1 x.2.2.1.2.1 x.2.2.1.2.2.1 x.2.2.2.1.1 x.2.2.2.1.2.1 x.2.2.2.2.1.1 x.2.2.2.2.1.2.1 x.2.2.2.2.1.2.2.1 x.2.2.2.2.2.1) = _
  rw [hide_eq]
  exact (edit_Erase_l6 K (edit_Erase_fu6 x.1.1 x.1.2.1 x.1.2.2.1 x.1.2.2.2.1 x.2.1.1 x.2.1.2.1 x.2.1.2.2.1 x.2.2.1.1 x.2.2.1.2.1 x.2.2.1.2.2.1 x.2.2.2.1.1 x.2.2.2.1.2.1 x.2.2.2.2.1.1 x.2.2.2.2.1.2.1 x.2.2.2.2.1.2.2.1 x.2.2.2.2.2.1) x.1.1 x.1.2.1 x.1.2.2.1 x.1.2.2.2.1 x.2.1.1 x.2.1.2.1 x.2.1.2.2.1 x.2.2.1.1 x.2.2.1.2.1 x.2.2.1.2.2.1 x.2.2.2.1.1 x.2.2.2.1.2.1 x.2.2.2.2.1.1 x.2.2.2.2.1.2.1 x.2.2.2.2.1.2.2.1 x.2.2.2.2.2.1).symm
noncomputable def edit_Erase_h6 : LoopF := loopH edit_Erase_s6 0 edit_Erase_G6
noncomputable def edit_Erase_ll1 : LoopT := ((23, 6), edit_Erase_h6) :: ll0
theorem edit_Erase_ll1_ok : AllLoop Try.prog edit_Erase_ll1 := ⟨edit_Erase_H6, ll0_ok⟩
noncomputable def edit_Erase_F (x0 : Int) (x1 : Int) (x2 : List (Int × Int × Int × Int × Int)) (x3 : Int) (x4 : Int) (x5 : Int) (x6 : Int) (x7 : Int) (x8 : Int) : Option (Int × Int × (List (Int × Int × Int × Int × Int))) := (optK ((hide grid_At_F x0 x1 x2 x3 x4)) fun y0 => (bif (!y0.2.2.2.2.2) then (bif (x2.length.ble (274877906944 : Nat)) then (some (x0, x1, x2)) else none) else (bif (decide (x5 < (0 : Int))) then (bif (x2.length.ble (274877906944 : Nat)) then (some (x0, x1, x2)) else none) else (bif (decide (x5 > (2 : Int))) then (bif (x2.length.ble (274877906944 : Nat)) then (some (x0, x1, x2)) else none) else (optK ((hide edit_Line_F x0 x1 x2 x3 x4 x5 x6 x7 x8)) fun y1 => (optK (hide edit_Erase_L6 (edit_Erase_fu6 x3 x5 x0 (0 : Int) x0 x1 x2 x6 x7 x8 (0 : Int) (0 : Int) (y1.1) (y1.2.1) (y1.2.2) ([])) x3 x5 x0 (0 : Int) x0 x1 x2 x6 x7 x8 (0 : Int) (0 : Int) (y1.1) (y1.2.1) (y1.2.2) ([])) fun y8 => (some ((y8.2.2.1), (y8.2.2.2.1), (y8.2.2.2.2.1)))))))))
noncomputable def edit_Erase_A : SkL := (.cons (.agg (.cons (.int .i64) (.cons (.int .i64) (.cons (.list (.cons (.int .i32) (.cons (.int .i64) (.cons (.int .i64) (.cons (.int .i64) (.one (.int .i64))))))) .nil)))) (.cons (.int .i64) (.cons (.int .i64) (.cons (.int .i64) (.cons (.agg (.cons (.int .i64) (.cons (.int .i64) (.cons (.int .i64) .nil)))) .nil)))))
noncomputable def edit_Erase_B : Sk := (.agg (.cons (.int .i64) (.cons (.int .i64) (.cons (.list (.cons (.int .i32) (.cons (.int .i64) (.cons (.int .i64) (.cons (.int .i64) (.one (.int .i64))))))) .nil))))
def edit_Erase_m {R : Type} (K : (Int × (Int × (List (Int × Int × Int × Int × Int) × Unit))) → Option R) (o : Option (Int × Int × (List (Int × Int × Int × Int × Int)))) : Option R := optK o fun y => K (y.1, (y.2.1, (y.2.2, ())))
theorem edit_Erase_run {R : Type} (x0 : Int) (x1 : Int) (x2 : List (Int × Int × Int × Int × Int)) (x3 : Int) (x4 : Int) (x5 : Int) (x6 : Int) (x7 : Int) (x8 : Int) (K : (Int × (Int × (List (Int × Int × Int × Int × Int) × Unit))) → Option R) : acall (envL edit_Erase_su edit_Erase_ll1 cs0 (fun _ _ => false)) 1000 23 (edit_Erase_A.enc ((x0, (x1, (x2, ()))), (x3, (x4, (x5, ((x6, (x7, (x8, ()))), ())))))) [] (resK edit_Erase_B false K) = edit_Erase_m K (edit_Erase_F x0 x1 x2 x3 x4 x5 x6 x7 x8) := by
  unfold edit_Erase_F
  exact Eq.trans (by kernel_rfl) (optK_push (edit_Erase_m K) rfl _ fun y0 => (cond_push (edit_Erase_m K) _ (cond_push (edit_Erase_m K) _ rfl rfl) (cond_push (edit_Erase_m K) _ (cond_push (edit_Erase_m K) _ rfl rfl) (cond_push (edit_Erase_m K) _ (cond_push (edit_Erase_m K) _ rfl rfl) (optK_push (edit_Erase_m K) rfl _ fun y1 => (optK_push (edit_Erase_m K) rfl _ fun y8 => rfl))))))
noncomputable def edit_Erase_G : GoF edit_Erase_A edit_Erase_B := fun R (x : ((Int × (Int × (List (Int × Int × Int × Int × Int) × Unit))) × (Int × (Int × (Int × ((Int × (Int × (Int × Unit))) × Unit)))))) K => edit_Erase_m K (hide edit_Erase_F x.1.1 x.1.2.1 x.1.2.2.1 x.2.1 x.2.2.1 x.2.2.2.1 x.2.2.2.2.1.1 x.2.2.2.2.1.2.1 x.2.2.2.2.1.2.2.1)
theorem edit_Erase_known : Known Try.prog 23 edit_Erase_A edit_Erase_B false edit_Erase_G := known_of (envL_ok edit_Erase_su_ok edit_Erase_ll1_ok cs0_ok) (n := 1000) rfl fun R (x : ((Int × (Int × (List (Int × Int × Int × Int × Int) × Unit))) × (Int × (Int × (Int × ((Int × (Int × (Int × Unit))) × Unit)))))) K => by
  show _ = edit_Erase_m K (hide edit_Erase_F x.1.1 x.1.2.1 x.1.2.2.1 x.2.1 x.2.2.1 x.2.2.2.1 x.2.2.2.2.1.1 x.2.2.2.2.1.2.1 x.2.2.2.2.1.2.2.1)
  rw [hide_eq]
  exact edit_Erase_run x.1.1 x.1.2.1 x.1.2.2.1 x.2.1 x.2.2.1 x.2.2.2.1 x.2.2.2.2.1.1 x.2.2.2.2.1.2.1 x.2.2.2.2.1.2.2.1 K
end Go.Proofs.YtpneolkfeihkhaaAbs

/- Plain laws: numbers, widths of runes, halves of wide runes, rows mended. -/
namespace Go.Proofs.YtpneolkfeihkhaaAbs
set_option linter.unusedVariables false
set_option linter.unusedSimpArgs false
open Go Go.Proofs
abbrev Cell := Int × Int × Int × Int × Int
abbrev dC : Cell := (0, 0, 0, 0, 0)
theorem optK_s {α R : Type} (v : α) (K : α → Option R) : optK (some v) K = K v := rfl
theorem w64 {n : Int} (h0 : -9223372036854775808 ≤ n) (h1 : n < 9223372036854775808) : IntKind.i64.wrap n = n := by rw [IntKind.wrap_i64]; omega
theorem w32 {n : Int} (h0 : -2147483648 ≤ n) (h1 : n < 2147483648) : IntKind.i32.wrap n = n := by rw [IntKind.wrap_i32]; omega
theorem between_eq (a b c : Int) : hide cell_between_F a b c = some (decide (b ≤ a ∧ a ≤ c)) := by
  rw [hide_eq]; unfold cell_between_F
  by_cases h1 : b ≤ a <;> by_cases h2 : a ≤ c <;> simp [h1, h2]
def wideP (x : Int) : Bool := decide (4352 ≤ x ∧ x ≤ 4447) || decide (11904 ≤ x ∧ x ≤ 42191) || decide (44032 ≤ x ∧ x ≤ 55203) || decide (63744 ≤ x ∧ x ≤ 64255) || decide (65072 ≤ x ∧ x ≤ 65135) || decide (65280 ≤ x ∧ x ≤ 65376) || decide (65504 ≤ x ∧ x ≤ 65510) || decide (127744 ≤ x ∧ x ≤ 129791) || decide (131072 ≤ x ∧ x ≤ 262141)
def narrowP (x : Int) : Bool := decide (x < 32) || decide (127 ≤ x ∧ x ≤ 159) || decide (768 ≤ x ∧ x ≤ 879) || decide (55296 ≤ x ∧ x ≤ 57343) || decide (1114111 < x)
theorem narrow_eq (x : Int) : hide cell_narrow_F x = some (narrowP x) := by
  rw [hide_eq]; unfold cell_narrow_F
  simp only [between_eq, optK_s]
  unfold narrowP
  by_cases h1 : x < 32 <;> by_cases h2 : (127 ≤ x ∧ x ≤ 159) <;> by_cases h3 : (768 ≤ x ∧ x ≤ 879) <;> by_cases h4 : (55296 ≤ x ∧ x ≤ 57343) <;> simp [h1, h2, h3, h4]
theorem ofNat_lt {a b : Nat} : decide ((Int.ofNat a) < Int.ofNat b) = decide (a < b) := by
  by_cases h : a < b <;> simp [h]
theorem wrap_succ {i : Nat} (h : i < 4611686018427387904) : IntKind.i64.wrap (Int.ofNat i + 1) = Int.ofNat (i + 1) := by
  rw [w64 (by simp; omega) (by simp; omega)]; simp
theorem wide_loop (x : Int) (l : List (Int × Int)) (hl : l.length < 4611686018427387904) : ∀ (n i : Nat), i ≤ l.length → l.length - i < n →
    cell_wide_L2 n x l (Int.ofNat l.length) (Int.ofNat i) = some (if (l.drop i).any (fun p => decide (p.1 ≤ x ∧ x ≤ p.2)) then .inl true else .inr ()) := by
  intro n
  induction n with
  | zero => intro i h1 h2; omega
  | succ n ih =>
    intro i h1 h2
    rw [cell_wide_L2]
    by_cases hi : i < l.length
    · have e0 : decide ((0 : Int) ≤ Int.ofNat i) = true := by simp
      rw [ofNat_lt, e0]
      simp only [hi, decide_true, cond_true, Bool.and_self, between_eq, optK_s]
      rw [List.drop_eq_getElem_cons hi, List.any_cons]
      have e1 : l.getD (Int.ofNat i).toNat (0, 0) = l[i] := by simp [hi]
      rw [e1, wrap_succ (by omega), ih (i + 1) (by omega) (by omega)]
      cases hp : decide (l[i].1 ≤ x ∧ x ≤ l[i].2)
      · simp only [Bool.false_or, cond_false]
      · simp
    · have : i = l.length := by omega
      subst this
      simp
theorem wide_eq (x : Int) : hide cell_wide_F x = some (wideP x) := by
  rw [hide_eq]; unfold cell_wide_F
  simp only [hide_eq]
  have h := wide_loop x [((4352 : Int), (4447 : Int)), ((11904 : Int), (42191 : Int)), ((44032 : Int), (55203 : Int)), ((63744 : Int), (64255 : Int)), ((65072 : Int), (65135 : Int)), ((65280 : Int), (65376 : Int)), ((65504 : Int), (65510 : Int)), ((127744 : Int), (129791 : Int)), ((131072 : Int), (262141 : Int))] (by simp)
    (cell_wide_fu2 x [((4352 : Int), (4447 : Int)), ((11904 : Int), (42191 : Int)), ((44032 : Int), (55203 : Int)), ((63744 : Int), (64255 : Int)), ((65072 : Int), (65135 : Int)), ((65280 : Int), (65376 : Int)), ((65504 : Int), (65510 : Int)), ((127744 : Int), (129791 : Int)), ((131072 : Int), (262141 : Int))] 9 0) 0 (by simp) (by unfold cell_wide_fu2; first | (simp; done) | (simp; omega))
  have e9 : (Int.ofNat 9 : Int) = 9 := rfl
  have e0 : (Int.ofNat 0 : Int) = 0 := rfl
  simp only [List.length_cons, List.length_nil, e0, Nat.zero_add, Nat.reduceAdd, e9] at h
  rw [h]
  simp only [List.drop_zero, List.any_cons, List.any_nil, Bool.or_false, optK_s]
  have e : ∀ c : Bool, (sumK (if c = true then Sum.inl true else Sum.inr ()) (fun y2a => some y2a) fun y2b => some false : Option Bool) = some c := fun c => by cases c <;> rfl
  rw [e]
  congr 1
  unfold wideP
  simp only [Bool.or_assoc]
def widthP (x : Int) : Int := bif narrowP x then 0 else bif wideP x then 2 else 1
theorem width_eq (x : Int) : hide cell_Width_F x = some (widthP x) := by
  rw [hide_eq]; unfold cell_Width_F widthP
  simp only [narrow_eq, wide_eq, optK_s]
  cases narrowP x <;> cases wideP x <;> rfl

/-! ### halves -/
def halfB (l : List Cell) (i : Nat) : Bool :=
  bif (l.getD i dC).2.1 == 1 then (decide (i + 1 = l.length) || ((l.getD (i + 1) dC).2.1 != 2)) else
  bif (l.getD i dC).2.1 == 2 then (decide (i = 0) || ((l.getD (i - 1) dC).2.1 != 1)) else false
theorem half_eq (l : List Cell) (i : Nat) (hl : l.length < 4611686018427387904) (hi : i < l.length) : hide grid_half_F l (Int.ofNat i) = some (halfB l i) := by
  rw [hide_eq]; unfold grid_half_F halfB
  have e0 : decide ((0 : Int) ≤ Int.ofNat i) = true := by simp
  have e1 : (Int.ofNat i).toNat = i := by simp
  rw [ofNat_lt, e0, e1, wrap_succ (by omega)]
  simp only [hi, decide_true, Bool.and_self, cond_true]
  cases h1 : (l.getD i dC).2.1 == 1 with
  | true =>
    simp only [cond_true]
    by_cases h2 : i + 1 = l.length
    · have : (Int.ofNat (i + 1) == Int.ofNat l.length) = true := by rw [h2]; simp
      rw [this]; simp [h2]
    · have : (Int.ofNat (i + 1) == Int.ofNat l.length) = false := by
        exact beq_false_of_ne fun k => h2 (Int.ofNat.inj k)
      have e2 : decide ((0 : Int) ≤ Int.ofNat (i + 1)) = true := by simp; omega
      have e3 : (Int.ofNat (i + 1)).toNat = i + 1 := by simp
      rw [this, ofNat_lt, e2, e3]
      have : decide (i + 1 < l.length) = true := decide_eq_true (by omega)
      rw [this]; simp [h2]
  | false =>
    simp only [cond_false]
    cases h2 : (l.getD i dC).2.1 == 2 with
    | true =>
      simp only [cond_true]
      by_cases h3 : i = 0
      · subst h3; simp
      · have : (Int.ofNat i == (0 : Int)) = false := by
          exact beq_false_of_ne fun k => h3 (Int.ofNat.inj k)
        have e2 : IntKind.i64.wrap (Int.ofNat i - 1) = Int.ofNat (i - 1) := by
          rw [w64 (by simp; omega) (by simp; omega)]; simp; omega
        have e3 : (Int.ofNat (i - 1)).toNat = i - 1 := by simp
        have e4 : decide ((0 : Int) ≤ Int.ofNat (i - 1)) = true := by simp
        rw [this, e2, ofNat_lt, e3, e4]
        have : decide (i - 1 < l.length) = true := decide_eq_true (by omega)
        rw [this]; simp [h3]
    | false => rfl

/-! ### rows mended -/
def blankOf (x : Cell) : Cell := (32, 0, x.2.2)
def mendAt (l : List Cell) (i : Nat) : Cell := bif halfB l i then blankOf (l.getD i dC) else l.getD i dC
def mend (l : List Cell) : List Cell := (List.range l.length).map (mendAt l)
theorem mend_length (l : List Cell) : (mend l).length = l.length := by simp [mend]
theorem mend_getD (l : List Cell) (i : Nat) (h : i < l.length) : (mend l).getD i dC = mendAt l i := by simp [mend, h]
theorem mend_get (l : List Cell) (i : Nat) (h : i < l.length) : (mend l)[i]'(by rw [mend_length]; exact h) = mendAt l i := by simp [mend]
theorem take_set_drop {α : Type} (a b : List α) (i : Nat) (x : α) (h : i < b.length) (hab : a.length = b.length) (hx : a[i]'(by omega) = x) : (a.take i ++ b.drop i).set i x = a.take (i + 1) ++ b.drop (i + 1) := by
  have h1 : (a.take i).length = i := by simp; omega
  rw [List.set_append_right _ _ (by omega), h1, Nat.sub_self, List.drop_eq_getElem_cons h, List.set_cons_zero, ← List.take_append_getElem (l := a) (i := i) (by omega), hx, List.append_assoc]
  rfl
theorem take_keep_drop {α : Type} (a b : List α) (i : Nat) (h : i < b.length) (hab : a.length = b.length) (hx : a[i]'(by omega) = b[i]) : a.take i ++ b.drop i = a.take (i + 1) ++ b.drop (i + 1) := by
  rw [List.drop_eq_getElem_cons h, ← List.take_append_getElem (l := a) (i := i) (by omega), hx, List.append_assoc]
  rfl
theorem blank_eq (a b c : Int) : hide cell_Blank_F a b c = some (32, 0, a, b, c) := by rw [hide_eq]; rfl
theorem mend_loop (l : List Cell) (hl : l.length < 4611686018427387904) : ∀ (n i : Nat), i ≤ l.length → l.length - i < n →
    grid_Mend_L3 n l l (Int.ofNat l.length) (Int.ofNat i) ((mend l).take i ++ l.drop i) = some (mend l) := by
  intro n
  induction n with
  | zero => intro i h1 h2; omega
  | succ n ih =>
    intro i h1 h2
    rw [grid_Mend_L3]
    by_cases hi : i < l.length
    · have e0 : decide ((0 : Int) ≤ Int.ofNat i) = true := by simp
      have e1 : (Int.ofNat i).toNat = i := by simp
      have e2 : l.getD i dC = l[i] := by simp [hi]
      have e3 : ((mend l).take i ++ l.drop i).length = l.length := by simp [mend_length]; omega
      rw [ofNat_lt, ofNat_lt, e0, e1, e3, half_eq l i hl hi, wrap_succ (by omega)]
      simp only [hi, decide_true, cond_true, Bool.and_self, optK_s, blank_eq]
      have e4 := mend_get l i hi
      unfold mendAt at e4
      cases hh : halfB l i with
      | true =>
        rw [hh] at e4
        simp only [cond_true] at e4 ⊢
        have e5 := take_set_drop (mend l) l i _ hi (mend_length l) e4
        have : (32, 0, (l.getD i dC).2.2.1, (l.getD i dC).2.2.2.1, (l.getD i dC).2.2.2.2) = blankOf (l.getD i dC) := rfl
        rw [this, e5]
        exact ih (i + 1) (by omega) (by omega)
      | false =>
        rw [hh] at e4
        simp only [cond_false] at e4 ⊢
        rw [take_keep_drop (mend l) l i hi (mend_length l) (by rw [e4, e2])]
        exact ih (i + 1) (by omega) (by omega)
    · have : i = l.length := by omega
      subst this
      have e : decide (Int.ofNat l.length < Int.ofNat l.length) = false := by simp
      rw [e, List.drop_length, List.append_nil, List.take_of_length_le (by rw [mend_length]; exact Nat.le_refl _)]
      rfl
theorem mend_eq (l : List Cell) (hl : l.length ≤ 274877906944) : hide grid_Mend_F l = some (mend l) := by
  rw [hide_eq]; unfold grid_Mend_F
  have e : (l.length.ble 274877906944) = true := Nat.ble_eq_true_of_le hl
  rw [e]
  simp only [hide_eq, cond_true]
  have := mend_loop l (by omega) (grid_Mend_fu3 l l (Int.ofNat l.length) (Int.ofNat 0) l) 0 (by omega) (by unfold grid_Mend_fu3; omega)
  simp only [List.take_zero, List.drop_zero, List.nil_append] at this
  rw [show (0 : Int) = Int.ofNat 0 from rfl, this]
  rfl
end Go.Proofs.YtpneolkfeihkhaaAbs

/- Plain laws: what is put into a grid, what is there. -/
namespace Go.Proofs.YtpneolkfeihkhaaAbs
set_option linter.unusedVariables false
set_option linter.unusedSimpArgs false
open Go Go.Proofs
section
variable {α : Type}
theorem set3 {A R B : List α} (c : Nat) (y : α) (hc : c < R.length) : (A ++ R ++ B).set (A.length + c) y = A ++ R.set c y ++ B := by
  rw [List.append_assoc, List.set_append_right _ _ (by omega), Nat.add_sub_cancel_left, List.set_append_left _ _ hc, List.append_assoc]
theorem getD3 {A R B : List α} (c : Nat) (d : α) (hc : c < R.length) : (A ++ R ++ B).getD (A.length + c) d = R.getD c d := by
  simp [List.getD_eq_getElem?_getD, List.getElem?_append_right, List.getElem?_append_left hc]
theorem mid3 {A R B : List α} : ((A ++ R ++ B).drop A.length).take R.length = R := by simp
theorem splice3 {A R B X : List α} (h : X.length = R.length) : splice (A ++ R ++ B) A.length X = A ++ X ++ B := by
  unfold splice
  have e1 : (A ++ R ++ B).take A.length = A := by simp
  have e2 : (A ++ R ++ B).drop (A.length + X.length) = B := by
    rw [h, ← List.length_append, List.drop_left]
  rw [e1, e2]
theorem split3 (l : List α) (o w : Nat) (h : o + w ≤ l.length) : l = l.take o ++ (l.drop o).take w ++ l.drop (o + w) := by
  rw [List.append_assoc, ← List.drop_drop, List.take_append_drop, List.take_append_drop]
end
theorem bnds_ok {a b n : Nat} (h1 : a ≤ b) (h2 : b ≤ n) : bnds (some (Int.ofNat a)) (some (Int.ofNat b)) n = true := by
  simp [bnds]; omega
theorem cutList_ok {α : Type} {l : List α} {a b : Nat} (h1 : a ≤ b) : cutList l (some (Int.ofNat a)) (some (Int.ofNat b)) = (l.drop a).take (b - a) := by
  simp [cutList, List.drop_take]
theorem place_eq (R C : Int) (l : List Cell) (r c : Int) : hide grid_place_F R C l r c = some (decide (0 ≤ r ∧ r < R ∧ 0 ≤ c ∧ c < C)) := by
  rw [hide_eq]; unfold grid_place_F
  by_cases h1 : 0 ≤ r <;> by_cases h2 : r < R <;> by_cases h3 : 0 ≤ c <;> simp [h1, h2, h3]
theorem mul_bound {r w h : Nat} (hr : r < h) : r * w + w ≤ h * w := by
  have : (r + 1) * w ≤ h * w := Nat.mul_le_mul_right w hr
  rw [Nat.add_mul, Nat.one_mul] at this; exact this
theorem small_mul {h w : Nat} (h1 : h ≤ 64) (h2 : w ≤ 64) : h * w ≤ 4096 := Nat.mul_le_mul h1 h2
theorem row_lo (r w : Nat) (hr : r ≤ 64) (hw : w ≤ 64) : IntKind.i64.wrap (Int.ofNat r * Int.ofNat w) = Int.ofNat (r * w) := by
  have := small_mul hr hw
  have e : Int.ofNat r * Int.ofNat w = Int.ofNat (r * w) := by simp
  rw [e, w64 (by simp; omega) (by simp; omega)]
theorem row_hi (r w : Nat) (hr : r ≤ 63) (hw : w ≤ 64) : IntKind.i64.wrap (IntKind.i64.wrap (Int.ofNat r + 1) * Int.ofNat w) = Int.ofNat (r * w + w) := by
  rw [wrap_succ (by omega), row_lo (r + 1) w (by omega) hw, Nat.add_mul, Nat.one_mul]
theorem getD_some' {α : Type} (a d : α) : (some a).getD d = a := rfl
theorem toNat_ofNat' (n : Nat) : (Int.ofNat n).toNat = n := rfl
abbrev Pen := Int × Int × Int
def putRow (row : List Cell) (c : Nat) (x : Int) (p : Pen) : List Cell :=
  if widthP x = 2 then (row.set c (x, 1, p)).set (c + 1) (0, 2, p) else row.set c (x, 0, p)
theorem putRow_length (row : List Cell) (c : Nat) (x : Int) (p : Pen) : (putRow row c x p).length = row.length := by
  unfold putRow; split <;> simp
def inRow (w : Nat) (l : List Cell) (r : Nat) (f : List Cell → List Cell) : List Cell := l.take (r * w) ++ f ((l.drop (r * w)).take w) ++ l.drop (r * w + w)
def put (h w : Nat) (l : List Cell) (r c : Int) (x : Int) (p : Pen) : List Cell :=
  if widthP x = 0 ∨ ¬ (0 ≤ r ∧ r < h ∧ 0 ≤ c ∧ c < w) ∨ (w : Int) < c + widthP x then l else inRow w l r.toNat fun row => mend (putRow row c.toNat x p)
theorem width_cases (x : Int) : widthP x = 0 ∨ widthP x = 1 ∨ widthP x = 2 := by
  unfold widthP
  cases narrowP x <;> cases wideP x <;> simp
theorem put_eq {R C : Int} {h w : Nat} (hR : R = Int.ofNat h) (hC : C = Int.ofNat w) (hh : h ≤ 40) (hw : w ≤ 60) {l : List Cell} (hl : l.length = h * w) {r c x : Int} (hr : -1000 ≤ r ∧ r ≤ 1000) (hc : -1000 ≤ c ∧ c ≤ 1000) (p0 p1 p2 : Int) :
    hide grid_Put_F R C l r c x p0 p1 p2 = some (R, C, put h w l r c x (p0, p1, p2)) := by
  have hsm := small_mul (show h ≤ 64 by omega) (show w ≤ 64 by omega)
  rw [hide_eq]; unfold grid_Put_F
  have e : (l.length.ble 274877906944) = true := Nat.ble_eq_true_of_le (by rw [hl]; omega)
  rw [e, width_eq]
  simp only [cond_true, optK_s, place_eq]
  unfold put
  by_cases hx : widthP x = 0
  · simp [hx]
  · have e1 : (widthP x == 0) = false := beq_false_of_ne hx
    rw [e1]
    simp only [cond_false]
    by_cases hp : 0 ≤ r ∧ r < R ∧ 0 ≤ c ∧ c < C
    · have hp' : 0 ≤ r ∧ r < (h : Int) ∧ 0 ≤ c ∧ c < (w : Int) := by rw [hR, hC] at hp; exact hp
      have e2 : IntKind.i64.wrap (c + widthP x) = c + widthP x := w64 (by rcases width_cases x with k | k | k <;> omega) (by rcases width_cases x with k | k | k <;> omega)
      rw [e2]
      rw [decide_eq_true hp]
      simp only [Bool.not_true, cond_false]
      by_cases hcw : (w : Int) < c + widthP x
      · have : decide (c + widthP x > C) = true := decide_eq_true (by rw [hC]; exact hcw)
        rw [this, if_pos (.inr (.inr hcw))]; rfl
      · have : decide (c + widthP x > C) = false := decide_eq_false (by rw [hC]; simp at hcw ⊢; omega)
        rw [this, if_neg (fun k => k.elim hx fun k => k.elim (fun k => k hp') hcw)]
        obtain ⟨rn, rfl⟩ : ∃ n : Nat, r = Int.ofNat n := ⟨r.toNat, by simp; omega⟩
        obtain ⟨cn, rfl⟩ : ∃ n : Nat, c = Int.ofNat n := ⟨c.toNat, by simp; omega⟩
        have hrn : rn < h := by have := hp'.2.1; simpa using this
        have hcn : cn < w := by have := hp'.2.2.2; simpa using this
        have hb := mul_bound (w := w) hrn
        subst hC
        simp only [row_lo rn w (by omega) (by omega), row_hi rn w (by omega) (by omega), cond_false, getD_some', toNat_ofNat', List.length_set]
        rw [bnds_ok (by omega) (by omega)]
        have e3 : rn * w + w - rn * w = w := by omega
        have e4 : decide ((0 : Int) ≤ Int.ofNat cn) = true := by simp
        simp only [cond_true, e3, e4, ofNat_lt, hcn, decide_true, Bool.and_self]
        -- the grid in three parts
        have hs := split3 l (rn * w) w (by omega)
        have hA : (l.take (rn * w)).length = rn * w := by simp; omega
        have hM : ((l.drop (rn * w)).take w).length = w := by simp; omega
        unfold inRow
        generalize hAA : l.take (rn * w) = A at *
        generalize hMM : (l.drop (rn * w)).take w = M at *
        generalize hBB : l.drop (rn * w + w) = B at *
        subst hs
        clear hAA hMM hBB e
        rw [← hA]
        unfold putRow
        by_cases h2 : widthP x = 2
        · have e5 : (widthP x == 2) = true := by rw [h2]; rfl
          have hc1 : cn + 1 < w := by
            have : ¬ (w : Int) < Int.ofNat cn + 2 := by rw [← h2]; exact hcw
            simp at this; omega
          rw [e5, wrap_succ (by omega)]
          have e6 : decide ((0 : Int) ≤ Int.ofNat (cn + 1)) = true := by simp; omega
          simp only [cond_true, e6, ofNat_lt, hc1, decide_true, Bool.and_self, toNat_ofNat', h2, if_true]
          rw [set3 cn _ (by omega), getD3 cn _ (by simp; omega)]
          have e7 : (M.set cn (x, 0, p0, p1, p2)).getD cn (0, 0, 0, 0, 0) = (x, 0, p0, p1, p2) := by simp [hM, hcn]
          rw [e7, set3 cn _ (by simp; omega), set3 (cn + 1) _ (by simp; omega)]
          simp only [List.set_set]
          have e8 : List.take w (List.drop A.length (A ++ (M.set cn (x, 1, p0, p1, p2)).set (cn + 1) (0, 2, p0, p1, p2) ++ B)) = (M.set cn (x, 1, p0, p1, p2)).set (cn + 1) (0, 2, p0, p1, p2) := by
            have := @mid3 _ A ((M.set cn (x, 1, p0, p1, p2)).set (cn + 1) (0, 2, p0, p1, p2)) B
            rw [show ((M.set cn (x, 1, p0, p1, p2)).set (cn + 1) (0, 2, p0, p1, p2)).length = w by simp [hM]] at this
            exact this
          rw [e8, mend_eq _ (by simp; omega)]
          simp only [optK_s]
          rw [List.take_of_length_le (by rw [mend_length]; simp; omega), splice3 (by rw [mend_length])]
        · have e5 : (widthP x == 2) = false := beq_false_of_ne h2
          rw [e5]
          simp only [cond_false, h2, if_false]
          rw [set3 cn _ (by omega)]
          have e8 : List.take w (List.drop A.length (A ++ M.set cn (x, 0, p0, p1, p2) ++ B)) = M.set cn (x, 0, p0, p1, p2) := by
            have := @mid3 _ A (M.set cn (x, 0, p0, p1, p2)) B
            rw [show (M.set cn (x, 0, p0, p1, p2)).length = w by simp [hM]] at this
            exact this
          rw [e8, mend_eq _ (by simp; omega)]
          simp only [optK_s]
          rw [List.take_of_length_le (by rw [mend_length]; simp; omega), splice3 (by rw [mend_length])]
    · have hp' : ¬ (0 ≤ r ∧ r < (h : Int) ∧ 0 ≤ c ∧ c < (w : Int)) := by rw [hR, hC] at hp; exact hp
      rw [decide_eq_false hp, if_pos (.inr (.inl hp'))]; rfl
end Go.Proofs.YtpneolkfeihkhaaAbs

/- Plain laws: cells at places, new grids, grids held against each other, numbers brought into bounds. -/
namespace Go.Proofs.YtpneolkfeihkhaaAbs
set_option linter.unusedVariables false
set_option linter.unusedSimpArgs false
open Go Go.Proofs
def at_ (h w : Nat) (l : List Cell) (r c : Int) : Int × Int × Int × Int × Int × Bool :=
  if 0 ≤ r ∧ r < h ∧ 0 ≤ c ∧ c < w then (let x := l.getD (r.toNat * w + c.toNat) dC; (x.1, x.2.1, x.2.2.1, x.2.2.2.1, x.2.2.2.2, true)) else (0, 0, 0, 0, 0, false)
theorem at_eq {R C : Int} {h w : Nat} (hR : R = Int.ofNat h) (hC : C = Int.ofNat w) (hh : h ≤ 40) (hw : w ≤ 60) {l : List Cell} (hl : l.length = h * w) {r c : Int} :
    hide grid_At_F R C l r c = some (at_ h w l r c) := by
  rw [hide_eq]; unfold grid_At_F at_
  simp only [place_eq, optK_s]
  by_cases hp : 0 ≤ r ∧ r < R ∧ 0 ≤ c ∧ c < C
  · have hp' : 0 ≤ r ∧ r < (h : Int) ∧ 0 ≤ c ∧ c < (w : Int) := by rw [hR, hC] at hp; exact hp
    rw [decide_eq_true hp, if_pos hp']
    obtain ⟨rn, rfl⟩ : ∃ n : Nat, r = Int.ofNat n := ⟨r.toNat, by simp; omega⟩
    obtain ⟨cn, rfl⟩ : ∃ n : Nat, c = Int.ofNat n := ⟨c.toNat, by simp; omega⟩
    have hrn : rn < h := by have := hp'.2.1; simpa using this
    have hcn : cn < w := by have := hp'.2.2.2; simpa using this
    have hb := mul_bound (w := w) hrn
    subst hC
    simp only [row_lo rn w (by omega) (by omega), row_hi rn w (by omega) (by omega), toNat_ofNat', Bool.not_true, cond_false]
    rw [bnds_ok (by omega) (by omega), cutList_ok (by omega)]
    have e3 : rn * w + w - rn * w = w := by omega
    have hM : ((l.drop (rn * w)).take w).length = w := by simp; omega
    have e4 : decide ((0 : Int) ≤ Int.ofNat cn) = true := by simp
    rw [e3, hM, e4]
    simp only [ofNat_lt, hcn, decide_true, Bool.and_self, cond_true]
    have e5 : ((l.drop (rn * w)).take w).getD cn (0, 0, 0, 0, 0) = l.getD (rn * w + cn) dC := by
      simp only [List.getD_eq_getElem?_getD, List.getElem?_take, List.getElem?_drop, hcn, if_true]
    rw [e5]
  · have hp' : ¬ (0 ≤ r ∧ r < (h : Int) ∧ 0 ≤ c ∧ c < (w : Int)) := by rw [hR, hC] at hp; exact hp
    rw [decide_eq_false hp, if_neg hp']
    rfl

/-! ### repeated -/
theorem repeat_loop (b : Cell) (N : Nat) (hN : N < 4611686018427387904) : ∀ (n k : Nat) (l : List Cell), l.length = N → 1 ≤ k → k ≤ N → l.take k = List.replicate k b → N - k < n →
    slices_Repeat_api_Cell_L8 n (Int.ofNat k) l = some (List.replicate N b) := by
  intro n
  induction n with
  | zero => intro k l h1 h2 h3 h4 h5; omega
  | succ n ih =>
    intro k l h1 h2 h3 h4 h5
    rw [slices_Repeat_api_Cell_L8]
    rw [ofNat_lt, h1]
    by_cases hk : k < N
    · have b1 : bnds (some (Int.ofNat k)) none N = true := by simp [bnds]; omega
      have b2 : bnds none (some (Int.ofNat k)) N = true := by simp [bnds]; omega
      rw [decide_eq_true hk, b1, b2]
      have e0 : (none.getD (Int.ofNat N)).toNat = N := rfl
      simp only [cond_true, getD_some', toNat_ofNat', Nat.sub_zero, List.drop_zero, e0, h4, List.take_replicate, List.length_replicate]
      have hm : k.min (N - k) = min k (N - k) := rfl
      rw [hm, w64 (by simp; omega) (by simp; omega)]
      have e1 : Int.ofNat k + Int.ofNat (min k (N - k)) = Int.ofNat (k + min k (N - k)) := by simp
      rw [e1, Nat.min_comm (N - k) k]
      refine ih (k + min k (N - k)) _ ?_ (by omega) (by omega) ?_ (by omega)
      · unfold splice; simp; omega
      · unfold splice
        rw [h4, List.replicate_append_replicate, List.take_append_of_le_length (by simp), List.take_of_length_le (by simp)]
    · have : k = N := by omega
      subst this
      rw [decide_eq_false hk]
      rw [List.take_of_length_le (by omega)] at h4
      rw [h4]; rfl
theorem mul_hi_small (y : Int) (h0 : 0 ≤ y) (h1 : y ≤ 4096) : hide math_bits_Mul_F 1 y = some (0, y) := by
  rw [hide_eq]; unfold math_bits_Mul_F
  have a1 : bitsOp BinOp.and IntKind.u64 y 4294967295 = y := by
    have key : ∀ n : Nat, n ≤ 4096 → bitsOp BinOp.and IntKind.u64 (n : Int) 4294967295 = (n : Int) := by
      intro n hn
      have e1 : (BitVec.ofInt 64 (n : Int)) = BitVec.ofNat 64 n := by simp
      have e2 : (BitVec.ofNat 64 n &&& BitVec.ofNat 64 4294967295) = BitVec.ofNat 64 n := by
        apply BitVec.eq_of_toNat_eq
        simp only [BitVec.toNat_and, BitVec.toNat_ofNat]
        have : n % 2 ^ 64 = n := Nat.mod_eq_of_lt (by omega)
        rw [this, show (4294967295 % 2 ^ 64 : Nat) = 2 ^ 32 - 1 from rfl, Nat.and_two_pow_sub_one_eq_mod]
        exact Nat.mod_eq_of_lt (by omega)
      show IntKind.u64.wrap ((BitVec.ofInt 64 (n : Int) &&& BitVec.ofInt 64 4294967295).toNat : Int) = n
      have e3 : (BitVec.ofInt 64 4294967295) = BitVec.ofNat 64 4294967295 := rfl
      rw [e1, e3, e2, IntKind.wrap_u64]
      simp only [BitVec.toNat_ofNat]
      omega
    obtain ⟨n, rfl⟩ : ∃ n : Nat, y = (n : Int) := ⟨y.toNat, by omega⟩
    exact key n (by omega)
  have a2 : bitsOp BinOp.and IntKind.u64 1 4294967295 = 1 := by decide
  have a3 : (1 : Int).fdiv 4294967296 = 0 := by decide
  have a4 : y.fdiv 4294967296 = 0 := by
    rw [Int.fdiv_eq_ediv_of_nonneg _ (by omega)]; omega
  have a5 : IntKind.u64.wrap y = y := by rw [IntKind.wrap_u64]; omega
  have a6 : bitsOp BinOp.and IntKind.u64 0 4294967295 = 0 := by decide
  have a7 : IntKind.u64.wrap 0 = 0 := by decide
  have a8 : (0 : Int).fdiv 4294967296 = 0 := by decide
  simp only [a1, a2, a3, a4, a5, a6, a7, a8, Int.zero_mul, Int.mul_zero, Int.one_mul, Int.add_zero, Int.zero_add, Int.mul_one]
theorem repeat_eq (b : Cell) (n : Nat) (h1 : 1 ≤ n) (h2 : n ≤ 4096) : hide slices_Repeat_api_Cell_F [b] (Int.ofNat n) = some (List.replicate n b) := by
  rw [hide_eq]; unfold slices_Repeat_api_Cell_F
  have e0 : decide (Int.ofNat n < 0) = false := by simp
  rw [e0]
  simp only [cond_false, hide_eq]
  unfold slices_Repeat_api_Cell_J3
  have e1 : IntKind.u64.wrap (Int.ofNat [b].length) = 1 := by simp [IntKind.wrap_u64]
  have e2 : IntKind.u64.wrap (Int.ofNat n) = Int.ofNat n := by rw [IntKind.wrap_u64]; first | (simp; done) | (simp; omega) | (show (n : Int) % _ = n; omega)
  rw [e1, e2, mul_hi_small _ (by simp) (by first | (simp; done) | (simp; omega))]
  simp only [optK_s, hide_eq]
  have e3 : decide ((0 : Int) > 0) = false := by simp
  have e4 : decide (Int.ofNat n > 9223372036854775807) = false := by simp; omega
  rw [e3, e4]
  simp only [cond_false]
  unfold slices_Repeat_api_Cell_J6
  have e5 : IntKind.i64.wrap (Int.ofNat n) = Int.ofNat n := w64 (by first | (simp; done) | (simp; omega)) (by simp; omega)
  rw [e5]
  have e6 : decide ((0 : Int) ≤ Int.ofNat n) = true := by simp
  have e7 : decide (Int.ofNat n ≤ Int.ofNat n) = true := by simp
  have e8 : decide (Int.ofNat n ≤ 274877906944) = true := by simp; omega
  rw [e6, e7, e8]
  simp only [Bool.and_self, cond_true, hide_eq]
  have e9 : (rowN ((0 : Int), (0 : Int), (0 : Int), (0 : Int), (0 : Int)) (Int.ofNat n).toNat) = List.replicate n dC := rfl
  rw [e9]
  have e10 : [b].length.min (List.replicate n dC).length = 1 := by
    rw [List.length_replicate]; exact Nat.min_eq_left h1
  have e11 : splice (List.replicate n dC) 0 (List.take (List.replicate n dC).length [b]) = b :: List.replicate (n - 1) dC := by
    unfold splice
    simp only [List.length_replicate]
    have e12 : List.take n [b] = [b] := List.take_of_length_le (by simpa using h1)
    rw [e12]
    simp
  rw [e10, e11]
  have h := repeat_loop b n (by omega) (slices_Repeat_api_Cell_fu8 (Int.ofNat 1) (b :: List.replicate (n - 1) dC)) 1 (b :: List.replicate (n - 1) dC) (by simp; omega) (by omega) (by omega) (by simp) (by unfold slices_Repeat_api_Cell_fu8; simp; omega)
  rw [h]
  rfl
theorem new_eq {R C : Int} {h w : Nat} (hR : R = Int.ofNat h) (hC : C = Int.ofNat w) (h1 : 1 ≤ h) (hh : h ≤ 40) (w1 : 1 ≤ w) (hw : w ≤ 60) (p0 p1 p2 : Int) :
    hide grid_New_F R C p0 p1 p2 = some (R, C, List.replicate (h * w) (32, 0, p0, p1, p2)) := by
  have hsm := small_mul (show h ≤ 64 by omega) (show w ≤ 64 by omega)
  have hpos : 1 ≤ h * w := Nat.mul_le_mul h1 w1
  rw [hide_eq]; unfold grid_New_F
  simp only [blank_eq, optK_s]
  subst hR hC
  have i1 : ¬ (40 : Int) < Int.ofNat h := by simp; omega
  have i2 : ¬ (60 : Int) < Int.ofNat w := by simp; omega
  simp only [i1, i2, if_false]
  have i3 : (if Int.ofNat h > 1 then Int.ofNat h else 1) = Int.ofNat h := by
    split
    · rfl
    · rename_i k; simp at k ⊢; omega
  have i4 : (if Int.ofNat w > 1 then Int.ofNat w else 1) = Int.ofNat w := by
    split
    · rfl
    · rename_i k; simp at k ⊢; omega
  rw [i3, i4, row_lo h w (by omega) (by omega), repeat_eq _ _ hpos hsm]
  rfl

/-! ### held against each other -/
theorem cell_beq (a b : Cell) : (a.1 == b.1 && (a.2.1 == b.2.1 && (a.2.2.1 == b.2.2.1 && (a.2.2.2.1 == b.2.2.2.1 && (a.2.2.2.2 == b.2.2.2.2 && true))))) = decide (a = b) := by
  obtain ⟨a1, a2, a3, a4, a5⟩ := a
  obtain ⟨b1, b2, b3, b4, b5⟩ := b
  by_cases h : ((a1, a2, a3, a4, a5) : Cell) = (b1, b2, b3, b4, b5)
  · have k := h
    injection k with k1 k; injection k with k2 k; injection k with k3 k; injection k with k4 k5
    subst k1 k2 k3 k4 k5
    simp
  · rw [decide_eq_false h]
    simp only [Prod.mk.injEq] at h
    simp only [Bool.and_true, Bool.and_eq_false_iff, beq_eq_false_iff_ne, ne_eq]
    by_cases c1 : a1 = b1 <;> by_cases c2 : a2 = b2 <;> by_cases c3 : a3 = b3 <;> by_cases c4 : a4 = b4 <;> simp_all
theorem equal_loop (a b : List Cell) (hl : a.length = b.length) (hb : a.length < 4611686018427387904) : ∀ (n i : Nat), i ≤ a.length → a.length - i < n →
    slices_Equal_api_Cell_L4 n a b (Int.ofNat a.length) (Int.ofNat i) = some (if a.drop i = b.drop i then .inr () else .inl false) := by
  intro n
  induction n with
  | zero => intro i h1 h2; omega
  | succ n ih =>
    intro i h1 h2
    rw [slices_Equal_api_Cell_L4]
    by_cases hi : i < a.length
    · have e0 : decide ((0 : Int) ≤ Int.ofNat i) = true := by simp
      rw [ofNat_lt, ofNat_lt, e0, toNat_ofNat', cell_beq, wrap_succ (by omega), ih (i + 1) (by omega) (by omega)]
      have e2 : a.getD i dC = a[i] := by simp [hi]
      have e3 : b.getD i dC = b[i]'(by omega) := by simp [show i < b.length by omega]
      have hi2 : i < b.length := by omega
      simp only [hi, hi2, decide_true, Bool.and_self, cond_true, e2, e3]
      have hc : (a.drop i = b.drop i) ↔ (a[i] = b[i] ∧ a.drop (i + 1) = b.drop (i + 1)) := by
        rw [List.drop_eq_getElem_cons hi, List.drop_eq_getElem_cons hi2]
        exact ⟨fun k => by injection k with k1 k2; exact ⟨k1, k2⟩, fun k => by rw [k.1, k.2]⟩
      by_cases he : a[i] = b[i]
      · rw [decide_eq_true he]
        by_cases hd : a.drop (i + 1) = b.drop (i + 1)
        · rw [if_pos hd, if_pos (hc.2 ⟨he, hd⟩)]; rfl
        · rw [if_neg hd, if_neg (fun k => hd (hc.1 k).2)]; rfl
      · rw [decide_eq_false he, if_neg (fun k => he (hc.1 k).1)]; rfl
    · have : i = a.length := by omega
      subst this
      have e : decide (Int.ofNat a.length < Int.ofNat a.length) = false := by simp
      rw [e, List.drop_length, hl, List.drop_length]
      rfl
theorem equal_eq (a b : List Cell) (hb : a.length < 4611686018427387904) : hide slices_Equal_api_Cell_F a b = some (decide (a = b)) := by
  rw [hide_eq]; unfold slices_Equal_api_Cell_F
  by_cases hl : a.length = b.length
  · have : (Int.ofNat a.length != Int.ofNat b.length) = false := by rw [hl]; simp
    rw [this]
    simp only [cond_false, hide_eq]
    have h := equal_loop a b hl hb (slices_Equal_api_Cell_fu4 a b (Int.ofNat a.length) (Int.ofNat 0)) 0 (by omega) (by unfold slices_Equal_api_Cell_fu4; omega)
    rw [show (0 : Int) = Int.ofNat 0 from rfl, h]
    simp only [List.drop_zero, optK_s]
    by_cases he : a = b
    · simp [he, sumK]
    · simp [he, sumK]
  · have : (Int.ofNat a.length != Int.ofNat b.length) = true := by
      rw [bne_iff_ne]; intro k; exact hl (Int.ofNat.inj k)
    rw [this, decide_eq_false (fun k => hl (by rw [k]))]
    rfl
theorem same_eq (R C R' C' : Int) (a b : List Cell) (hb : a.length < 4611686018427387904) : hide grid_Same_F R C a R' C' b = some (decide (R = R' ∧ C = C' ∧ a = b)) := by
  rw [hide_eq]; unfold grid_Same_F
  rw [equal_eq a b hb]
  by_cases h1 : R = R'
  · by_cases h2 : C = C'
    · simp [h1, h2, optK_s]
    · have : decide (R = R' ∧ C = C' ∧ a = b) = false := decide_eq_false (fun k => h2 k.2.1)
      rw [this, show (C == C') = false from beq_false_of_ne h2, show (R == R') = true from by rw [h1]; simp]; rfl
  · have : decide (R = R' ∧ C = C' ∧ a = b) = false := decide_eq_false (fun k => h1 k.1)
    rw [this, show (R == R') = false from beq_false_of_ne h1]; rfl

/-! ### numbers brought into bounds -/
theorem within_eq (n lo hi : Int) (hn : -9223372036854775808 ≤ n) (hn2 : n < 9223372036854775808) (h0 : -1000000 ≤ lo) (h1 : lo ≤ hi) (h2 : hi < 4611686018427387904) :
    ∃ r, hide linguistbook_Within_F n lo hi = some r ∧ lo ≤ r ∧ r ≤ hi := by
  rw [hide_eq]; unfold linguistbook_Within_F
  rw [w64 (n := hi - lo) (by omega) (by omega), w64 (n := hi - lo + 1) (by omega) (by omega)]
  have e0 : (hi - lo + 1 == 0) = false := beq_false_of_ne (by omega)
  have b1 : n.tmod (hi - lo + 1) < hi - lo + 1 := Int.tmod_lt_of_pos _ (by omega)
  have b2 : -(hi - lo + 1) < n.tmod (hi - lo + 1) := by
    have := Int.lt_tmod_of_pos n (show 0 < hi - lo + 1 by omega); omega
  rw [e0]
  generalize n.tmod (hi - lo + 1) = m at *
  simp only [cond_false]
  by_cases hm : m < 0
  · rw [decide_eq_true hm]
    simp only [cond_true]
    rw [w64 (n := m + hi) (by omega) (by omega), w64 (n := m + hi - lo) (by omega) (by omega), w64 (n := m + hi - lo + 1) (by omega) (by omega), w64 (by omega) (by omega)]
    exact ⟨_, rfl, by omega, by omega⟩
  · rw [decide_eq_false hm]
    simp only [cond_false]
    rw [w64 (by omega) (by omega)]
    exact ⟨_, rfl, by omega, by omega⟩
end Go.Proofs.YtpneolkfeihkhaaAbs

/- Plain laws: cells wiped, grids cut to a size, pens out of numbers. -/
namespace Go.Proofs.YtpneolkfeihkhaaAbs
set_option linter.unusedVariables false
set_option linter.unusedSimpArgs false
open Go Go.Proofs
/-! ### places filled -/
def fillR {α : Type} (l : List α) (i : Nat) : Nat → α → List α
  | 0, _ => l
  | n + 1, y => fillR (l.set i y) (i + 1) n y
theorem fillR_length {α : Type} (y : α) : ∀ (n : Nat) (l : List α) (i : Nat), (fillR l i n y).length = l.length
  | 0, l, i => rfl
  | n + 1, l, i => by simp [fillR, fillR_length y n]
theorem fillR_get {α : Type} (y d : α) : ∀ (n : Nat) (l : List α) (i j : Nat), (fillR l i n y).getD j d = if i ≤ j ∧ j < i + n ∧ j < l.length then y else l.getD j d
  | 0, l, i, j => by simp [fillR]; intro h1 h2; omega
  | n + 1, l, i, j => by
    rw [fillR, fillR_get y d n]
    simp only [List.length_set]
    by_cases hj : j = i
    · subst hj
      rw [if_neg (by omega)]
      by_cases hl : j < l.length
      · rw [if_pos (by omega)]; simp [hl]
      · rw [if_neg (by omega)]; simp [List.getD_eq_getElem?_getD, hl]
    · have e : (l.set i y).getD j d = l.getD j d := by
        simp [List.getD_eq_getElem?_getD, List.getElem?_set, show ¬ i = j from fun k => hj k.symm]
      rw [e]
      by_cases h : i + 1 ≤ j ∧ j < i + 1 + n ∧ j < l.length
      · rw [if_pos h, if_pos (by omega)]
      · rw [if_neg h, if_neg (by omega)]
theorem fillR3 {α : Type} {A B : List α} (y : α) : ∀ (n c : Nat) (R : List α), c + n ≤ R.length → fillR (A ++ R ++ B) (A.length + c) n y = A ++ fillR R c n y ++ B
  | 0, c, R, h => rfl
  | n + 1, c, R, h => by
    rw [fillR, set3 c y (by omega), Nat.add_assoc, fillR3 y n (c + 1) (R.set c y) (by simp; omega)]
    rfl
def wipeN (w : Nat) (a b : Int) : Nat × Nat := ((max a 0).toNat, (min b w).toNat - (max a 0).toNat)
def wipe (h w : Nat) (l : List Cell) (r a b : Int) (p : Pen) : List Cell :=
  if 0 ≤ r ∧ r < h then inRow w l r.toNat fun row => mend (fillR row (wipeN w a b).1 (wipeN w a b).2 (32, 0, p)) else l
theorem wipe_loop {r t R C p0 p1 p2 x y : Int} {z : List Cell} {o len : Nat} (E : Int) (hE : (if C < t then C else t) = E) (hlen : E ≤ (len : Int)) (hl2 : len ≤ 4096) : ∀ (n c : Nat) (l : List Cell), E.toNat - c < n → c ≤ 4096 →
    grid_Wipe_L6 n r t o len (Int.ofNat c) R C p0 p1 p2 x y l z = some (r, R, C, x, y, fillR l (o + c) (E.toNat - c) (32, 0, p0, p1, p2), z) := by
  intro n
  induction n with
  | zero => intro c l h1 h2; omega
  | succ n ih =>
    intro c l h1 h2
    rw [grid_Wipe_L6, hE]
    by_cases hc : (Int.ofNat c) < E
    · have hc' : (c : Int) < E := hc
      have e0 : decide ((0 : Int) ≤ Int.ofNat c) = true := by simp
      have e1 : decide (Int.ofNat c < Int.ofNat len) = true := decide_eq_true (by show (c : Int) < (len : Int); omega)
      rw [decide_eq_true hc, e0, e1, blank_eq]
      simp only [cond_true, Bool.and_self, optK_s, toNat_ofNat']
      rw [wrap_succ (by omega), ih (c + 1) _ (by omega) (by omega)]
      have e2 : E.toNat - c = (E.toNat - (c + 1)) + 1 := by omega
      rw [e2, fillR]
      rfl
    · have hc' : ¬ (c : Int) < E := hc
      rw [decide_eq_false hc]
      have : E.toNat - c = 0 := by omega
      rw [this]; rfl
theorem wipe_eq {R C : Int} {h w : Nat} (hR : R = Int.ofNat h) (hC : C = Int.ofNat w) (hh : h ≤ 40) (w1 : 1 ≤ w) (hw : w ≤ 60) {l : List Cell} (hl : l.length = h * w) {r a b : Int} (ha : a ≤ 4000) (p0 p1 p2 : Int) :
    hide grid_Wipe_F R C l r a b p0 p1 p2 = some (R, C, wipe h w l r a b (p0, p1, p2)) := by
  have hsm := small_mul (show h ≤ 64 by omega) (show w ≤ 64 by omega)
  rw [hide_eq]; unfold grid_Wipe_F
  have e : (l.length.ble 274877906944) = true := Nat.ble_eq_true_of_le (by rw [hl]; omega)
  rw [e]
  simp only [cond_true, optK_s, place_eq]
  unfold wipe
  by_cases hp : 0 ≤ r ∧ r < (h : Int)
  · have hp2 : 0 ≤ r ∧ r < R ∧ (0 : Int) ≤ 0 ∧ 0 < C := by rw [hR, hC]; exact ⟨hp.1, hp.2, by omega, by show (0 : Int) < (w : Int); omega⟩
    rw [decide_eq_true hp2, if_pos hp]
    simp only [Bool.not_true, cond_false]
    obtain ⟨rn, rfl⟩ : ∃ n : Nat, r = Int.ofNat n := ⟨r.toNat, by simp; omega⟩
    have hrn : rn < h := by have := hp.2; simpa using this
    have hb := mul_bound (w := w) hrn
    subst hC
    simp only [row_lo rn w (by omega) (by omega), row_hi rn w (by omega) (by omega), getD_some', toNat_ofNat']
    rw [bnds_ok (by omega) (by omega)]
    have e3 : rn * w + w - rn * w = w := by omega
    simp only [cond_true, e3, hide_eq grid_Wipe_L6]
    have ea : (if (0 : Int) > a then 0 else a) = Int.ofNat (max a 0).toNat := by
      show _ = (((max a 0).toNat : Nat) : Int)
      split <;> omega
    have eE : (if Int.ofNat w < b then Int.ofNat w else b) = min b (w : Int) := by
      show (if (w : Int) < b then (w : Int) else b) = _
      split <;> omega
    rw [ea, wipe_loop (min b (w : Int)) eE (by omega) (by omega) _ _ _ (by unfold grid_Wipe_fu6; have : (min b (w : Int)).toNat ≤ w := (by omega); omega) (by omega)]
    simp only [optK_s, row_lo rn w (by omega) (by omega), row_hi rn w (by omega) (by omega), getD_some', toNat_ofNat', fillR_length]
    rw [bnds_ok (by omega) (by omega)]
    simp only [cond_true, e3]
    have hs := split3 l (rn * w) w (by omega)
    have hA : (l.take (rn * w)).length = rn * w := by simp; omega
    have hM : ((l.drop (rn * w)).take w).length = w := by simp; omega
    unfold inRow wipeN
    simp only [toNat_ofNat']
    generalize hAA : l.take (rn * w) = A at *
    generalize hMM : (l.drop (rn * w)).take w = M at *
    generalize hBB : l.drop (rn * w + w) = B at *
    generalize (max a 0).toNat = c at *
    subst hs
    clear hAA hMM hBB e
    rw [← hA]
    by_cases hcw : c ≤ w
    · rw [fillR3 _ _ c M (by omega)]
      generalize hX : fillR M c ((min b (w : Int)).toNat - c) (32, 0, p0, p1, p2) = X
      have hXl : X.length = w := by rw [← hX, fillR_length, hM]
      have e8 : List.take w (List.drop A.length (A ++ X ++ B)) = X := by
        have := @mid3 _ A X B
        rw [hXl] at this; exact this
      rw [e8, mend_eq _ (by omega)]
      simp only [optK_s]
      rw [List.take_of_length_le (by rw [mend_length]; omega), splice3 (by rw [mend_length])]
    · have : (min b (w : Int)).toNat - c = 0 := by omega
      rw [this]
      simp only [fillR]
      have e8 : List.take w (List.drop A.length (A ++ M ++ B)) = M := by
        have := @mid3 _ A M B
        rw [hM] at this; exact this
      rw [e8, mend_eq _ (by omega)]
      simp only [optK_s]
      rw [List.take_of_length_le (by rw [mend_length]; omega), splice3 (by rw [mend_length])]
  · have hp2 : ¬ (0 ≤ r ∧ r < R ∧ (0 : Int) ≤ 0 ∧ 0 < C) := by rw [hR]; exact fun k => hp ⟨k.1, k.2.1⟩
    rw [decide_eq_false hp2, if_neg hp]; rfl
end Go.Proofs.YtpneolkfeihkhaaAbs

/- Plain laws: texts of rows, pens out of numbers. -/
namespace Go.Proofs.YtpneolkfeihkhaaAbs
set_option linter.unusedVariables false
set_option linter.unusedSimpArgs false
open Go Go.Proofs
/-! ### texts -/
def encB (x : Int) : List Int := (bif (decide (IntKind.u32.wrap x ≤ (127 : Int))) then [IntKind.u8.wrap x] else (bif (decide (IntKind.u32.wrap x ≤ (2047 : Int))) then [bitsOp BinOp.or IntKind.u8 (192 : Int) (IntKind.u8.wrap (Int.fdiv x (64 : Int))), bitsOp BinOp.or IntKind.u8 (128 : Int) (bitsOp BinOp.and IntKind.u8 (IntKind.u8.wrap x) (63 : Int))] else (bif (decide (IntKind.u32.wrap x < (55296 : Int))) then [bitsOp BinOp.or IntKind.u8 (224 : Int) (IntKind.u8.wrap (Int.fdiv x (4096 : Int))), bitsOp BinOp.or IntKind.u8 (128 : Int) (bitsOp BinOp.and IntKind.u8 (IntKind.u8.wrap (Int.fdiv x (64 : Int))) (63 : Int)), bitsOp BinOp.or IntKind.u8 (128 : Int) (bitsOp BinOp.and IntKind.u8 (IntKind.u8.wrap x) (63 : Int))] else (bif (decide ((57343 : Int) < IntKind.u32.wrap x)) then (bif (decide (IntKind.u32.wrap x ≤ (65535 : Int))) then [bitsOp BinOp.or IntKind.u8 (224 : Int) (IntKind.u8.wrap (Int.fdiv x (4096 : Int))), bitsOp BinOp.or IntKind.u8 (128 : Int) (bitsOp BinOp.and IntKind.u8 (IntKind.u8.wrap (Int.fdiv x (64 : Int))) (63 : Int)), bitsOp BinOp.or IntKind.u8 (128 : Int) (bitsOp BinOp.and IntKind.u8 (IntKind.u8.wrap x) (63 : Int))] else (bif (decide (IntKind.u32.wrap x > (65535 : Int))) then (bif (decide (IntKind.u32.wrap x ≤ (1114111 : Int))) then [bitsOp BinOp.or IntKind.u8 (240 : Int) (IntKind.u8.wrap (Int.fdiv x (262144 : Int))), bitsOp BinOp.or IntKind.u8 (128 : Int) (bitsOp BinOp.and IntKind.u8 (IntKind.u8.wrap (Int.fdiv x (4096 : Int))) (63 : Int)), bitsOp BinOp.or IntKind.u8 (128 : Int) (bitsOp BinOp.and IntKind.u8 (IntKind.u8.wrap (Int.fdiv x (64 : Int))) (63 : Int)), bitsOp BinOp.or IntKind.u8 (128 : Int) (bitsOp BinOp.and IntKind.u8 (IntKind.u8.wrap x) (63 : Int))] else [(239 : Int), (191 : Int), (189 : Int)]) else [(239 : Int), (191 : Int), (189 : Int)])) else (bif (decide (IntKind.u32.wrap x > (65535 : Int))) then (bif (decide (IntKind.u32.wrap x ≤ (1114111 : Int))) then [bitsOp BinOp.or IntKind.u8 (240 : Int) (IntKind.u8.wrap (Int.fdiv x (262144 : Int))), bitsOp BinOp.or IntKind.u8 (128 : Int) (bitsOp BinOp.and IntKind.u8 (IntKind.u8.wrap (Int.fdiv x (4096 : Int))) (63 : Int)), bitsOp BinOp.or IntKind.u8 (128 : Int) (bitsOp BinOp.and IntKind.u8 (IntKind.u8.wrap (Int.fdiv x (64 : Int))) (63 : Int)), bitsOp BinOp.or IntKind.u8 (128 : Int) (bitsOp BinOp.and IntKind.u8 (IntKind.u8.wrap x) (63 : Int))] else [(239 : Int), (191 : Int), (189 : Int)]) else [(239 : Int), (191 : Int), (189 : Int)])))))
theorem condP {α β : Type} (M : α → β) (c : Bool) {A B : β} {a b : α} (h1 : A = M a) (h2 : B = M b) : (bif c then A else B) = M (bif c then a else b) := by
  cases c
  · exact h2
  · exact h1
theorem text_step (n : Nat) (l : List Cell) (i : Nat) (t : List Int) (hl : l.length < 1000000) (ht : t.length < 1000000) (hi : i < l.length) :
    grid_Text_L5 (n + 1) (.inr (l, Int.ofNat l.length, Int.ofNat i, t)) = (bif (l.getD i dC).2.1 != 2 then grid_Text_L5 n (.inr (l, Int.ofNat l.length, Int.ofNat (i + 1), t ++ encB (l.getD i dC).1)) else grid_Text_L5 n (.inr (l, Int.ofNat l.length, Int.ofNat (i + 1), t))) ∧
    grid_Text_L5 (n + 1) (.inl (l, Int.ofNat l.length, Int.ofNat i, t)) = (bif (l.getD i dC).2.1 != 2 then grid_Text_L5 n (.inr (l, Int.ofNat l.length, Int.ofNat (i + 1), t ++ encB (l.getD i dC).1)) else grid_Text_L5 n (.inl (l, Int.ofNat l.length, Int.ofNat (i + 1), t))) := by
  have e0 : decide ((0 : Int) ≤ Int.ofNat i) = true := by simp
  have b1 : ∀ k, k ≤ 4 → (t.length + k).ble 274877906944 = true := fun k hk => Nat.ble_eq_true_of_le (by omega)
  constructor
  · rw [grid_Text_L5]
    rw [ofNat_lt, e0, wrap_succ (by omega)]
    simp only [hi, decide_true, Bool.and_self, cond_true, Bool.true_and, Bool.and_true, toNat_ofNat', List.length_cons, List.length_nil, Nat.zero_add, Nat.reduceAdd]
    rw [b1 1 (by omega), b1 2 (by omega), b1 3 (by omega), b1 4 (by omega)]
    simp only [cond_true]
    congr 1
    unfold encB
    repeat' (first | rfl | refine condP (fun u => grid_Text_L5 n (.inr (l, Int.ofNat l.length, Int.ofNat (i + 1), t ++ u))) _ ?_ ?_)
  · rw [grid_Text_L5]
    rw [ofNat_lt, e0, wrap_succ (by omega)]
    simp only [hi, decide_true, Bool.and_self, cond_true, Bool.true_and, Bool.and_true, toNat_ofNat', List.length_cons, List.length_nil, Nat.zero_add, Nat.reduceAdd]
    rw [b1 1 (by omega), b1 2 (by omega), b1 3 (by omega), b1 4 (by omega)]
    simp only [cond_true]
    congr 1
    unfold encB
    repeat' (first | rfl | refine condP (fun u => grid_Text_L5 n (.inr (l, Int.ofNat l.length, Int.ofNat (i + 1), t ++ u))) _ ?_ ?_)
def textOf (l : List Cell) : List Int := l.flatMap fun x => if x.2.1 = 2 then [] else encB x.1
theorem textOf_cons (x : Cell) (l : List Cell) : textOf (x :: l) = (if x.2.1 = 2 then [] else encB x.1) ++ textOf l := by simp [textOf]
theorem encB_length (x : Int) : (encB x).length ≤ 4 := by
  unfold encB
  cases decide (IntKind.u32.wrap x ≤ 127) <;> cases decide (IntKind.u32.wrap x ≤ 2047) <;> cases decide (IntKind.u32.wrap x < 55296) <;> cases decide (57343 < IntKind.u32.wrap x) <;> cases decide (IntKind.u32.wrap x ≤ 65535) <;> cases decide (IntKind.u32.wrap x > 65535) <;> cases decide (IntKind.u32.wrap x ≤ 1114111) <;> simp
theorem text_loop (l : List Cell) (hl : l.length ≤ 100) : ∀ (n i : Nat) (t : List Int), i ≤ l.length → t.length ≤ 4 * i → l.length - i < n →
    grid_Text_L5 n (.inr (l, Int.ofNat l.length, Int.ofNat i, t)) = some (t ++ textOf (l.drop i)) ∧ grid_Text_L5 n (.inl (l, Int.ofNat l.length, Int.ofNat i, t)) = some (t ++ textOf (l.drop i)) := by
  intro n
  induction n with
  | zero => intro i t h1 h2 h3; omega
  | succ n ih =>
    intro i t h1 ht h2
    by_cases hi : i < l.length
    · obtain ⟨s1, s2⟩ := text_step n l i t (by omega) (by omega) hi
      have e2 : l.getD i dC = l[i] := by simp [hi]
      rw [s1, s2, e2, List.drop_eq_getElem_cons hi, textOf_cons]
      have hlen := encB_length l[i].1
      by_cases hk : l[i].2.1 = 2
      · rw [show (l[i].2.1 != 2) = false by rw [hk]; rfl]
        simp only [cond_false, hk, if_true, List.nil_append]
        exact ih (i + 1) t (by omega) (by omega) (by omega)
      · rw [show (l[i].2.1 != 2) = true by simpa using hk]
        simp only [cond_true, hk, if_false]
        have := ih (i + 1) (t ++ encB l[i].1) (by omega) (by simp; omega) (by omega)
        rw [List.append_assoc] at this
        exact ⟨this.1, this.1⟩
    · have : i = l.length := by omega
      subst this
      rw [grid_Text_L5, grid_Text_L5]
      have e : decide (Int.ofNat l.length < Int.ofNat l.length) = false := by simp
      rw [e, List.drop_length]
      simp [textOf]
theorem encB_pos (x : Int) : 1 ≤ (encB x).length := by
  unfold encB
  cases decide (IntKind.u32.wrap x ≤ 127) <;> cases decide (IntKind.u32.wrap x ≤ 2047) <;> cases decide (IntKind.u32.wrap x < 55296) <;> cases decide (57343 < IntKind.u32.wrap x) <;> cases decide (IntKind.u32.wrap x ≤ 65535) <;> cases decide (IntKind.u32.wrap x > 65535) <;> cases decide (IntKind.u32.wrap x ≤ 1114111) <;> simp
theorem textOf_length (l : List Cell) : (textOf l).length ≤ 4 * l.length := by
  induction l with
  | nil => simp [textOf]
  | cons x l ih =>
    rw [textOf_cons]
    have := encB_length x.1
    split <;> simp <;> omega
/-- A row's text: of rows that don't begin with a wide rune's other half. -/
theorem text_eq {R C : Int} {h w : Nat} (hR : R = Int.ofNat h) (hC : C = Int.ofNat w) (hh : h ≤ 40) (w1 : 1 ≤ w) (hw : w ≤ 60) {l : List Cell} (hl : l.length = h * w) {r : Nat} (hr : r < h) (hne : textOf ((l.drop (r * w)).take w) ≠ []) :
    hide grid_Text_F R C l (Int.ofNat r) = some (textOf ((l.drop (r * w)).take w)) := by
  rw [hide_eq]; unfold grid_Text_F
  have hp2 : 0 ≤ Int.ofNat r ∧ Int.ofNat r < R ∧ (0 : Int) ≤ 0 ∧ 0 < C := by rw [hR, hC]; exact ⟨by simp, by simp; omega, by omega, by show (0 : Int) < (w : Int); omega⟩
  simp only [place_eq, optK_s]
  rw [decide_eq_true hp2]
  have hb := mul_bound (w := w) hr
  subst hC
  simp only [row_lo r w (by omega) (by omega), row_hi r w (by omega) (by omega), Bool.not_true, cond_false]
  rw [bnds_ok (by omega) (by omega), cutList_ok (by omega)]
  have e3 : r * w + w - r * w = w := by omega
  have hM : ((l.drop (r * w)).take w).length = w := by simp; omega
  rw [e3]
  generalize (l.drop (r * w)).take w = M at *
  simp only [Bool.and_self, cond_true, hide_eq]
  have h := (text_loop M (by omega) (grid_Text_fu5 (.inl (M, Int.ofNat M.length, Int.ofNat 0, []))) 0 [] (by omega) (by simp) (by simp only [grid_Text_fu5]; omega)).2
  rw [show (0 : Int) = Int.ofNat 0 from rfl, h]
  simp only [List.drop_zero, List.nil_append, optK_s]
  have h2 := textOf_length M
  cases ht : textOf M with
  | nil => exact absurd ht hne
  | cons x t =>
    have e1 : neL (x :: t) = true := rfl
    rw [ht] at h2
    have e2 : (x :: t).length.ble 274877906944 = true := Nat.ble_eq_true_of_le (by omega)
    have e4 : Nat.blt 0 (x :: t).length = true := by simp
    have e5 : decide (Int.ofNat (x :: t).length = Int.ofNat (x :: t).length) = true := by simp
    rw [e1, e2, e4]
    simp

/-! ### pens -/
def rightColour (v : Int) : Prop := (-1 ≤ v ∧ v ≤ 255) ∨ (16777216 ≤ v ∧ v < 33554432)
def rightPen (p : Pen) : Prop := rightColour p.1 ∧ rightColour p.2.1 ∧ 0 ≤ p.2.2 ∧ p.2.2 ≤ 255
def in64 (n : Int) : Prop := -9223372036854775808 ≤ n ∧ n < 9223372036854775808
end Go.Proofs.YtpneolkfeihkhaaAbs

/- Plain laws: grids cut to a size. -/
namespace Go.Proofs.YtpneolkfeihkhaaAbs
set_option linter.unusedVariables false
set_option linter.unusedSimpArgs false
open Go Go.Proofs
def rowOf (w : Nat) (l : List Cell) (r : Nat) : List Cell := (l.drop (r * w)).take w
theorem rowOf_length {h w : Nat} {l : List Cell} (hl : l.length = h * w) {r : Nat} (hr : r < h) : (rowOf w l r).length = w := by
  have := mul_bound (w := w) hr
  unfold rowOf; simp; omega
end Go.Proofs.YtpneolkfeihkhaaAbs

/- Plain laws: right rows. -/
namespace Go.Proofs.YtpneolkfeihkhaaAbs
set_option linter.unusedVariables false
set_option linter.unusedSimpArgs false
open Go Go.Proofs
def kd (l : List Cell) (i : Nat) : Int := (l.getD i dC).2.1
theorem half_iff (l : List Cell) (i : Nat) : halfB l i = true ↔ (kd l i = 1 ∧ (i + 1 = l.length ∨ kd l (i + 1) ≠ 2)) ∨ (kd l i = 2 ∧ (i = 0 ∨ kd l (i - 1) ≠ 1)) := by
  unfold halfB
  show (bif kd l i == 1 then (decide (i + 1 = l.length) || (kd l (i + 1) != 2)) else bif kd l i == 2 then (decide (i = 0) || (kd l (i - 1) != 1)) else false) = true ↔ _
  by_cases h1 : kd l i = 1
  · simp [h1]
  · by_cases h2 : kd l i = 2 <;> simp [h1, h2]
def rightR (l : List Cell) : Prop := ∀ i, i < l.length → halfB l i = false
theorem mend_right {l : List Cell} (h : rightR l) : mend l = l := by
  apply List.ext_getElem (mend_length l)
  intro i h1 h2
  rw [mend_get l i h2]
  unfold mendAt
  rw [h i h2]
  simp [h2]
theorem kd_mend (l : List Cell) (i : Nat) (h : i < l.length) : kd (mend l) i = if halfB l i = true then 0 else kd l i := by
  unfold kd
  rw [mend_getD l i h]
  unfold mendAt
  cases hh : halfB l i
  · simp
  · simp [blankOf]
theorem right_mend (l : List Cell) : rightR (mend l) := by
  intro i hi
  rw [mend_length] at hi
  cases hb : halfB (mend l) i
  · rfl
  · rw [half_iff, mend_length] at hb
    exfalso
    have k0 := kd_mend l i hi
    have n0 : halfB l i = true → False := by
      intro h
      rw [if_pos h] at k0
      rcases hb with ⟨h1, _⟩ | ⟨h1, _⟩ <;> omega
    rw [if_neg n0] at k0
    rw [half_iff] at n0
    rcases hb with ⟨h1, h2⟩ | ⟨h1, h2⟩
    · rw [k0] at h1
      have a1 : i + 1 ≠ l.length := fun h => n0 (Or.inl ⟨h1, Or.inl h⟩)
      have a2 : kd l (i + 1) = 2 := by
        apply Decidable.byContradiction
        intro h
        exact n0 (Or.inl ⟨h1, Or.inr h⟩)
      rcases h2 with h2 | h2
      · exact a1 h2
      · apply h2
        rw [kd_mend l (i + 1) (by omega), if_neg, a2]
        rw [half_iff]
        rintro (⟨h3, _⟩ | ⟨_, h3 | h3⟩)
        · omega
        · omega
        · exact h3 (by simpa using h1)
    · rw [k0] at h1
      have a1 : i ≠ 0 := fun h => n0 (Or.inr ⟨h1, Or.inl h⟩)
      have a2 : kd l (i - 1) = 1 := by
        apply Decidable.byContradiction
        intro h
        exact n0 (Or.inr ⟨h1, Or.inr h⟩)
      rcases h2 with h2 | h2
      · exact a1 h2
      · apply h2
        rw [kd_mend l (i - 1) (by omega), if_neg, a2]
        rw [half_iff]
        have e : i - 1 + 1 = i := by omega
        rw [e]
        rintro (⟨_, h3 | h3⟩ | ⟨h3, _⟩)
        · omega
        · exact h3 h1
        · omega
theorem right_singles {l : List Cell} (h : ∀ x ∈ l, x.2.1 = 0) : rightR l := by
  intro i hi
  cases hb : halfB l i
  · rfl
  · rw [half_iff] at hb
    have : kd l i = 0 := by unfold kd; rw [List.getD_eq_getElem?_getD, List.getElem?_eq_getElem hi]; exact h _ (List.getElem_mem hi)
    omega
end Go.Proofs.YtpneolkfeihkhaaAbs

/- Plain laws: the document's width of a rune. -/
namespace Go.Proofs.YtpneolkfeihkhaaAbs
set_option linter.unusedVariables false
set_option linter.unusedSimpArgs false
open Go Go.Proofs
end Go.Proofs.YtpneolkfeihkhaaAbs

/- Plain laws: what put leaves as it was. -/
namespace Go.Proofs.YtpneolkfeihkhaaAbs
set_option linter.unusedVariables false
set_option linter.unusedSimpArgs false
open Go Go.Proofs
end Go.Proofs.YtpneolkfeihkhaaAbs

/- Plain laws: right grids, row by row. -/
namespace Go.Proofs.YtpneolkfeihkhaaAbs
set_option linter.unusedVariables false
set_option linter.unusedSimpArgs false
open Go Go.Proofs
section
variable {h w : Nat} {l : List Cell} {r : Nat} {f : List Cell → List Cell}
theorem inRow_length (hl : l.length = h * w) (hr : r < h) (hf : (f (rowOf w l r)).length = w) : (inRow w l r f).length = h * w := by
  have := mul_bound (w := w) hr
  unfold inRow
  have hf' : (f ((l.drop (r * w)).take w)).length = w := hf
  simp only [List.length_append, List.length_take, List.length_drop, hf']
  omega
theorem inRow_same (hl : l.length = h * w) (hr : r < h) (hf : (f (rowOf w l r)).length = w) : rowOf w (inRow w l r f) r = f (rowOf w l r) := by
  have hb := mul_bound (w := w) hr
  have hA : (l.take (r * w)).length = r * w := by simp; omega
  show ((l.take (r * w) ++ f (rowOf w l r) ++ l.drop (r * w + w)).drop (r * w)).take w = _
  rw [List.append_assoc, List.drop_append_of_le_length (by omega), List.drop_of_length_le (by omega), List.nil_append, List.take_append_of_le_length (by omega), List.take_of_length_le (by omega)]
theorem inRow_other (hl : l.length = h * w) (hr : r < h) (hf : (f (rowOf w l r)).length = w) {r' : Nat} (hr' : r' < h) (hne : r' ≠ r) : rowOf w (inRow w l r f) r' = rowOf w l r' := by
  have hb := mul_bound (w := w) hr
  have hb' := mul_bound (w := w) hr'
  have hA : (l.take (r * w)).length = r * w := by simp; omega
  show ((l.take (r * w) ++ f (rowOf w l r) ++ l.drop (r * w + w)).drop (r' * w)).take w = (l.drop (r' * w)).take w
  by_cases hlt : r' < r
  · have hb2 := mul_bound (w := w) hlt
    rw [List.append_assoc, List.drop_append_of_le_length (by omega), List.take_append_of_le_length (by rw [List.length_drop]; omega), List.drop_take, List.take_take]
    congr 1
    omega
  · have hb2 := mul_bound (w := w) (show r < r' by omega)
    have hX : (l.take (r * w) ++ f (rowOf w l r)).length = r * w + w := by rw [List.length_append, hA, hf]
    rw [List.drop_append, List.drop_of_length_le (by omega), List.nil_append, List.drop_drop, hX]
    congr 2
    omega
end
def RG (h w : Nat) (l : List Cell) : Prop := l.length = h * w ∧ ∀ r, r < h → rightR (rowOf w l r)
theorem RG.inRow {h w : Nat} {l : List Cell} {r : Nat} {f : List Cell → List Cell} (k : RG h w l) (hr : r < h) (hf : (f (rowOf w l r)).length = w) (hR : rightR (f (rowOf w l r))) : RG h w (inRow w l r f) := by
  refine ⟨inRow_length k.1 hr hf, fun r' hr' => ?_⟩
  by_cases e : r' = r
  · subst e; rw [inRow_same k.1 hr hf]; exact hR
  · rw [inRow_other k.1 hr hf hr' e]; exact k.2 r' hr'
theorem RG.put {h w : Nat} {l : List Cell} (k : RG h w l) (r c x : Int) (p : Pen) : RG h w (put h w l r c x p) := by
  unfold Go.Proofs.YtpneolkfeihkhaaAbs.put
  split
  · exact k
  · rename_i hn
    have hr : r.toNat < h := by omega
    exact k.inRow hr (by rw [mend_length, putRow_length, rowOf_length k.1 hr]) (right_mend _)
theorem RG.wipe {h w : Nat} {l : List Cell} (k : RG h w l) (r a b : Int) (p : Pen) : RG h w (wipe h w l r a b p) := by
  unfold Go.Proofs.YtpneolkfeihkhaaAbs.wipe
  split
  · rename_i hn
    have hr : r.toNat < h := by omega
    exact k.inRow hr (by rw [mend_length, fillR_length, rowOf_length k.1 hr]) (right_mend _)
  · exact k
end Go.Proofs.YtpneolkfeihkhaaAbs

/- Plain laws: wiped, resized there and back. -/
namespace Go.Proofs.YtpneolkfeihkhaaAbs
set_option linter.unusedVariables false
set_option linter.unusedSimpArgs false
open Go Go.Proofs
end Go.Proofs.YtpneolkfeihkhaaAbs

/- Plain laws: rows whose cells may be. -/
namespace Go.Proofs.YtpneolkfeihkhaaAbs
set_option linter.unusedVariables false
set_option linter.unusedSimpArgs false
open Go Go.Proofs
theorem getD_set {α : Type} (l : List α) (i j : Nat) (y d : α) : (l.set i y).getD j d = if i = j ∧ j < l.length then y else l.getD j d := by
  by_cases h : i = j
  · subst h
    by_cases hl : i < l.length
    · simp [hl]
    · simp [List.getD_eq_getElem?_getD, hl]
  · rw [if_neg (fun k => h k.1)]
    simp [List.getD_eq_getElem?_getD, List.getElem?_set_ne h]
theorem getD_append_l {α : Type} {a b : List α} {i : Nat} (d : α) (h : i < a.length) : (a ++ b).getD i d = a.getD i d := by
  simp [List.getD_eq_getElem?_getD, List.getElem?_append_left h]
theorem getD_append_r {α : Type} {a b : List α} {i : Nat} (d : α) (h : a.length ≤ i) : (a ++ b).getD i d = b.getD (i - a.length) d := by
  simp [List.getD_eq_getElem?_getD, List.getElem?_append_right h]
theorem getD_take {α : Type} {a : List α} {i n : Nat} (d : α) (h : i < n) : (a.take n).getD i d = a.getD i d := by
  simp [List.getD_eq_getElem?_getD, List.getElem?_take_of_lt h]
theorem getD_drop {α : Type} {a : List α} {i n : Nat} (d : α) : (a.drop n).getD i d = a.getD (n + i) d := by
  simp [List.getD_eq_getElem?_getD, List.getElem?_drop]
theorem getD_rep {α : Type} {i n : Nat} (y d : α) (h : i < n) : (List.replicate n y).getD i d = y := by
  simp [List.getD_eq_getElem?_getD, List.getElem?_replicate, h]
theorem ext_getD {α : Type} {a b : List α} (d : α) (hl : a.length = b.length) (h : ∀ i, i < a.length → a.getD i d = b.getD i d) : a = b := by
  apply List.ext_getElem hl
  intro i h1 h2
  have := h i h1
  simpa [List.getD_eq_getElem?_getD, h1, h2] using this
def cellS (x : Cell) : Prop := rightPen x.2.2 ∧ ((x.2.1 = 0 ∧ widthP x.1 = 1) ∨ (x.2.1 = 1 ∧ widthP x.1 = 2) ∨ (x.2.1 = 2 ∧ x.1 = 0))
def lk (x y : Cell) : Prop := x.2.1 = 1 → y.2.1 = 2 → y.2.2 = x.2.2
def Semi (l : List Cell) : Prop := ∀ i, i < l.length → cellS (l.getD i dC) ∧ (i + 1 < l.length → lk (l.getD i dC) (l.getD (i + 1) dC))
theorem cellS_single {x : Int} {p : Pen} (hw : widthP x = 1) (hp : rightPen p) : cellS (x, 0, p) := ⟨hp, .inl ⟨rfl, hw⟩⟩
theorem width_blank : widthP 32 = 1 := by decide
theorem cellS_blank {p : Pen} (hp : rightPen p) : cellS (32, 0, p) := cellS_single width_blank hp
/-- Single cells may stand in place of others. -/
theorem semi_mix {l m : List Cell} (hl : m.length = l.length) (h : Semi l) (hm : ∀ i, i < m.length → m.getD i dC = l.getD i dC ∨ (cellS (m.getD i dC) ∧ (m.getD i dC).2.1 = 0)) : Semi m := by
  intro i hi
  have a := hm i hi
  refine ⟨?_, fun hi1 => ?_⟩
  · rcases a with a | a
    · rw [a]; exact (h i (by omega)).1
    · exact a.1
  · have b := hm (i + 1) hi1
    intro k1 k2
    rcases a with a | a
    · rcases b with b | b
      · rw [a] at k1 ⊢; rw [b] at k2 ⊢
        exact (h i (by omega)).2 (by omega) k1 k2
      · rw [b.2] at k2; cases k2
    · rw [a.2] at k1; cases k1
theorem semi_mend {l : List Cell} (h : Semi l) : Semi (mend l) := by
  refine semi_mix (mend_length l) h fun i hi => ?_
  rw [mend_length] at hi
  rw [mend_getD l i hi]
  unfold mendAt
  cases halfB l i
  · exact .inl rfl
  · exact .inr ⟨cellS_blank (h i hi).1.1, rfl⟩
theorem semi_set {l : List Cell} (h : Semi l) (c : Nat) {x : Int} {p : Pen} (hw : widthP x = 1) (hp : rightPen p) : Semi (l.set c (x, 0, p)) := by
  refine semi_mix (by simp) h fun i hi => ?_
  rw [getD_set]
  split
  · exact .inr ⟨cellS_single hw hp, rfl⟩
  · exact .inl rfl
theorem semi_fill {l : List Cell} (h : Semi l) (i n : Nat) {p : Pen} (hp : rightPen p) : Semi (fillR l i n (32, 0, p)) := by
  refine semi_mix (by rw [fillR_length]) h fun j hj => ?_
  rw [fillR_get]
  split
  · exact .inr ⟨cellS_blank hp, rfl⟩
  · exact .inl rfl
theorem semi_put {l : List Cell} (h : Semi l) (c : Nat) {x : Int} {p : Pen} (hw : widthP x = 1 ∨ widthP x = 2) (hp : rightPen p) : Semi (putRow l c x p) := by
  unfold putRow
  rcases hw with hw | hw
  · rw [if_neg (by rw [hw]; decide)]
    exact semi_set h c hw hp
  · rw [if_pos hw]
    intro i hi
    simp only [List.length_set] at hi
    have g : ∀ j, ((l.set c (x, 1, p)).set (c + 1) (0, 2, p)).getD j dC = if c + 1 = j ∧ j < l.length then (0, 2, p) else if c = j ∧ j < l.length then (x, 1, p) else l.getD j dC := fun j => by
      rw [getD_set, getD_set, List.length_set]
    simp only [List.length_set]
    refine ⟨?_, fun hi1 => ?_⟩
    · rw [g]
      split
      · exact ⟨hp, .inr (.inr ⟨rfl, rfl⟩)⟩
      · split
        · exact ⟨hp, .inr (.inl ⟨rfl, hw⟩)⟩
        · exact (h i hi).1
    · rw [g, g]
      by_cases a1 : c + 1 = i
      · rw [if_pos ⟨a1, hi⟩]; intro k; cases k
      · rw [if_neg (fun k => a1 k.1)]
        by_cases a2 : c = i
        · subst a2
          rw [if_pos ⟨rfl, hi⟩, if_pos ⟨rfl, hi1⟩]; intro _ _; rfl
        · rw [if_neg (fun k => a2 k.1), if_neg (fun k => a2 (by omega))]
          by_cases a3 : c = i + 1
          · rw [if_pos ⟨a3, hi1⟩]; intro _ k; cases k
          · rw [if_neg (fun k => a3 k.1)]; exact (h i hi).2 hi1
/-! ### grids that may be -/
def GG (h w : Nat) (l : List Cell) : Prop := RG h w l ∧ ∀ r, r < h → Semi (rowOf w l r)
theorem GG.inRow {h w : Nat} {l : List Cell} {r : Nat} {f : List Cell → List Cell} (k : GG h w l) (hr : r < h) (hf : (f (rowOf w l r)).length = w) (hR : rightR (f (rowOf w l r))) (hS : Semi (f (rowOf w l r))) : GG h w (inRow w l r f) := by
  refine ⟨k.1.inRow hr hf hR, fun r' hr' => ?_⟩
  by_cases e : r' = r
  · subst e; rw [inRow_same k.1.1 hr hf]; exact hS
  · rw [inRow_other k.1.1 hr hf hr' e]; exact k.2 r' hr'
theorem GG.put {h w : Nat} {l : List Cell} (k : GG h w l) (r c x : Int) {p : Pen} (hp : rightPen p) : GG h w (put h w l r c x p) := by
  unfold Go.Proofs.YtpneolkfeihkhaaAbs.put
  split
  · exact k
  · rename_i hn
    have hr : r.toNat < h := by omega
    have hw : widthP x = 1 ∨ widthP x = 2 := by have := width_cases x; omega
    exact k.inRow hr (by rw [mend_length, putRow_length, rowOf_length k.1.1 hr]) (right_mend _) (semi_mend (semi_put (k.2 _ hr) _ hw hp))
theorem GG.wipe {h w : Nat} {l : List Cell} (k : GG h w l) (r a b : Int) {p : Pen} (hp : rightPen p) : GG h w (wipe h w l r a b p) := by
  unfold Go.Proofs.YtpneolkfeihkhaaAbs.wipe
  split
  · rename_i hn
    have hr : r.toNat < h := by omega
    exact k.inRow hr (by rw [mend_length, fillR_length, rowOf_length k.1.1 hr]) (right_mend _) (semi_mend (semi_fill (k.2 _ hr) _ _ hp))
  · exact k
end Go.Proofs.YtpneolkfeihkhaaAbs

/- Plain laws: grids held right; grids made of numbers. -/
namespace Go.Proofs.YtpneolkfeihkhaaAbs
set_option linter.unusedVariables false
set_option linter.unusedSimpArgs false
open Go Go.Proofs
theorem wrap_nat {q : Nat} (h : q < 4611686018427387904) : IntKind.i64.wrap (Int.ofNat q) = Int.ofNat q := w64 (by show _ ≤ (q : Int); omega) (by show (q : Int) < _; omega)
/-! ### books -/
/-! ### grids out of numbers -/
theorem wide_no {x : Int} (h : x < 4352) : wideP x = false := by
  unfold wideP
  simp only [Bool.or_eq_false_iff, decide_eq_false_iff_not]
  omega
theorem width_ascii {x : Int} (h0 : 32 ≤ x) (h1 : x ≤ 126) : widthP x = 1 := by
  unfold widthP
  have a : narrowP x = false := by
    unfold narrowP
    simp only [Bool.or_eq_false_iff, decide_eq_false_iff_not]
    omega
  rw [a, wide_no (by omega)]; rfl
end Go.Proofs.YtpneolkfeihkhaaAbs

/- Plain laws: the document's own grids: made, mended, set, wiped. -/
namespace Go.Proofs.YtpneolkfeihkhaaAbs
set_option linter.unusedVariables false
set_option linter.unusedSimpArgs false
open Go Go.Proofs
end Go.Proofs.YtpneolkfeihkhaaAbs

/- Plain laws: the document's own grids: what is put, cut to a size. -/
namespace Go.Proofs.YtpneolkfeihkhaaAbs
set_option linter.unusedVariables false
set_option linter.unusedSimpArgs false
open Go Go.Proofs
theorem right_2 {l : List Cell} (h : rightR l) {i : Nat} (hi : i < l.length) (k : kd l i = 2) : 1 ≤ i ∧ kd l (i - 1) = 1 := by
  have : ¬ halfB l i = true := by rw [h i hi]; simp
  rw [half_iff] at this
  refine ⟨?_, Decidable.byContradiction fun q => this (.inr ⟨k, .inr q⟩)⟩
  rcases Nat.eq_zero_or_pos i with a | a
  · exact absurd (.inr ⟨k, .inl a⟩) this
  · exact a
end Go.Proofs.YtpneolkfeihkhaaAbs

/- Plain laws: the document's own put and resize, called. -/
namespace Go.Proofs.YtpneolkfeihkhaaAbs
set_option linter.unusedVariables false
set_option linter.unusedSimpArgs false
open Go Go.Proofs
theorem inRow_congr {w : Nat} {l : List Cell} {r : Nat} {f g : List Cell → List Cell} (e : f (rowOf w l r) = g (rowOf w l r)) : inRow w l r f = inRow w l r g := by
  show l.take (r * w) ++ f (rowOf w l r) ++ _ = l.take (r * w) ++ g (rowOf w l r) ++ _
  rw [e]
end Go.Proofs.YtpneolkfeihkhaaAbs

/- What is known of letters. -/
namespace Go.Proofs.YtpneolkfeihkhaaAbs
set_option linter.unusedVariables false
open Go Go.Proofs Go.RowKit
theorem isTrue_res : (isTrue : AV → Heap → Option Bool) = resK .bool true (fun b => some b) := by
  funext v h
  cases v <;> rfl
theorem law_res {P : Program} {E : Env} (hE : EnvOk P E) {n f : Nat} {args : List AV} {us : List Value} (e : acall (R := Bool) E n f args [] (resK .bool true (fun b => some b)) = some true) (W : World)
    (q : RelL ⟨W, fun _ => none, fun B => B < W.heap.size⟩ [] false args us) : Calls P f us.toArray W fun e W' => e = .returned (.bool true) ∧ Below W.heap.size W W' :=
  law_rows hE (by rw [isTrue_res]; exact e) W q
theorem wf_in64 {x : Int} (h : (Lit.int .i64 x).wf = true) : in64 x := by
  simp [Lit.wf, IntKind.min, IntKind.max, IntKind.bits, IntKind.signed] at h
  unfold in64; omega
theorem wf_inu8 {x : Int} (h : (Lit.int .u8 x).wf = true) : 0 ≤ x ∧ x < 256 := by
  simp [Lit.wf, IntKind.min, IntKind.max, IntKind.bits, IntKind.signed] at h
  omega
end Go.Proofs.YtpneolkfeihkhaaAbs

/- Plain laws: rows of a grid shifted. -/
namespace Go.Proofs.YtpneolkfeihkhaaAbs
set_option linter.unusedVariables false
set_option linter.unusedSimpArgs false
open Go Go.Proofs
/-- A row of a grid of which rows are shifted. -/
def shX (w : Nat) (l : List Cell) (t b : Nat) (sh : Int) (p : Pen) (r : Nat) : List Cell :=
  if (t : Int) ≤ r + sh ∧ r + sh ≤ b then rowOf w l (r + sh).toNat else List.replicate w (32, 0, p)
section
variable {h w : Nat} {l : List Cell} {t b : Nat} {sh : Int} {p : Pen}
theorem shX_length (hl : l.length = h * w) (hb : b < h) (r : Nat) : (shX w l t b sh p r).length = w := by
  unfold shX
  split
  · exact rowOf_length hl (by omega)
  · simp
end
/-- So far shifted. -/
def ShTo (h w : Nat) (l : List Cell) (t b : Nat) (sh : Int) (p : Pen) (k : Nat) (out : List Cell) : Prop :=
  out.length = h * w ∧ ∀ r, r < h → rowOf w out r = if t ≤ r ∧ r < k then shX w l t b sh p r else rowOf w l r
theorem ShTo.step {h w : Nat} {l : List Cell} {t b : Nat} {sh : Int} {p : Pen} {k : Nat} {out : List Cell} (hl : l.length = h * w) (hb : b < h) (ht : t ≤ k) (hk : k ≤ b) (S : ShTo h w l t b sh p k out) : ShTo h w l t b sh p (k + 1) (inRow w out k fun _ => shX w l t b sh p k) := by
  have hX := shX_length (t := t) (sh := sh) (p := p) hl hb k
  refine ⟨inRow_length S.1 (by omega) hX, fun r hr => ?_⟩
  by_cases e : r = k
  · subst e
    rw [inRow_same S.1 hr hX, if_pos (by omega)]
  · rw [inRow_other S.1 (by omega) hX hr e, S.2 r hr]
    by_cases c : t ≤ r ∧ r < k
    · rw [if_pos c, if_pos (by omega)]
    · rw [if_neg c, if_neg (by omega)]
end Go.Proofs.YtpneolkfeihkhaaAbs

/- Plain laws: edit.Up, edit.Down. -/
namespace Go.Proofs.YtpneolkfeihkhaaAbs
set_option linter.unusedVariables false
set_option linter.unusedSimpArgs false
open Go Go.Proofs
end Go.Proofs.YtpneolkfeihkhaaAbs

/- Plain laws: edit's Insert, Delete, Line. -/
namespace Go.Proofs.YtpneolkfeihkhaaAbs
set_option linter.unusedVariables false
set_option linter.unusedSimpArgs false
open Go Go.Proofs
theorem repeat_zero (b : Cell) : hide slices_Repeat_api_Cell_F [b] 0 = some [] := by
  rw [hide_eq]; unfold slices_Repeat_api_Cell_F
  rw [show decide ((0 : Int) < 0) = false from rfl]
  simp only [cond_false, hide_eq]
  unfold slices_Repeat_api_Cell_J3
  have e1 : IntKind.u64.wrap (Int.ofNat [b].length) = 1 := by simp [IntKind.wrap_u64]
  have e2 : IntKind.u64.wrap 0 = 0 := by rw [IntKind.wrap_u64]; rfl
  rw [e1, e2, mul_hi_small _ (by omega) (by omega)]
  simp only [optK_s, hide_eq]
  rw [show decide ((0 : Int) > 0) = false from rfl, show decide ((0 : Int) > 9223372036854775807) = false from rfl]
  simp only [cond_false]
  unfold slices_Repeat_api_Cell_J6
  rw [w64 (n := 0) (by omega) (by omega)]
  simp only [hide_eq]
  have e9 : (rowN ((0 : Int), (0 : Int), (0 : Int), (0 : Int), (0 : Int)) (Int.toNat 0)) = [] := rfl
  rw [e9]
  have e10 : (Int.ofNat ([b].length.min ([] : List Cell).length)) = 0 := rfl
  have e11 : splice ([] : List Cell) 0 (List.take ([] : List Cell).length [b]) = [] := rfl
  rw [e10, e11]
  obtain ⟨m, hm⟩ : ∃ m, slices_Repeat_api_Cell_fu8 0 [] = m + 1 := Nat.exists_eq_succ_of_ne_zero (by unfold slices_Repeat_api_Cell_fu8; omega)
  rw [hm]
  rfl
theorem blanks_any {n : Nat} (hn : n ≤ 4096) (p0 p1 p2 : Int) : hide edit_blanks_F (Int.ofNat n) p0 p1 p2 = some (List.replicate n (32, 0, p0, p1, p2)) := by
  rw [hide_eq]; unfold edit_blanks_F
  rw [blank_eq]
  simp only [optK_s]
  rcases Nat.eq_zero_or_pos n with k | k
  · subst k
    have := repeat_zero (32, 0, p0, p1, p2)
    rw [show (Int.ofNat 0) = 0 from rfl, this]; rfl
  · rw [repeat_eq _ _ k hn]; rfl
theorem turned_eq {R C : Int} {h w : Nat} (hC : C = Int.ofNat w) (hh : h ≤ 40) (hw : w ≤ 60) {l : List Cell} (hl : l.length = h * w) {r : Nat} (hr : r < h) {row : List Cell} (hrow : row.length = w) :
    hide edit_turned_F R C l (Int.ofNat r) row = some (R, C, inRow w l r fun _ => mend row) := by
  subst hC
  have hsm := small_mul (show h ≤ 64 by omega) (show w ≤ 64 by omega)
  have hb := mul_bound (w := w) hr
  rw [hide_eq]; unfold edit_turned_F
  have e : (l.length.ble 274877906944) = true := Nat.ble_eq_true_of_le (by rw [hl]; omega)
  rw [e, row_lo r w (by omega) (by omega)]
  have b1 : bnds (some (Int.ofNat (r * w))) none l.length = true := by simp [bnds]; omega
  rw [b1, mend_eq row (by omega)]
  simp only [cond_true, getD_some', toNat_ofNat', optK_s]
  have e0 : (none.getD (Int.ofNat l.length)).toNat = l.length := rfl
  rw [e0, List.take_of_length_le (by rw [mend_length]; omega)]
  unfold splice inRow
  rw [mend_length, hrow]
def parted (row : List Cell) (c : Nat) : List Cell :=
  if kd row c = 2 ∧ 0 < c then (row.set (c - 1) (blankOf (row.getD (c - 1) dC))).set c (blankOf (row.getD c dC)) else row
theorem parted_length (row : List Cell) (c : Nat) : (parted row c).length = row.length := by
  unfold parted; split <;> simp
theorem parted_eq {R C : Int} {h w : Nat} (hC : C = Int.ofNat w) (hh : h ≤ 40) (hw : w ≤ 60) {l : List Cell} (hl : l.length = h * w) {r : Nat} (hr : r < h) {c : Nat} (hc : c < w) :
    hide edit_parted_F R C l (Int.ofNat r) (Int.ofNat c) = some (parted (rowOf w l r) c) := by
  subst hC
  have hb := mul_bound (w := w) hr
  have hsm := small_mul (show h ≤ 64 by omega) (show w ≤ 64 by omega)
  rw [hide_eq]; unfold edit_parted_F
  rw [row_lo r w (by omega) (by omega), row_hi r w (by omega) (by omega), bnds_ok (by omega) (by omega), cutList_ok (by omega), show r * w + w - r * w = w by omega]
  rw [show (l.drop (r * w)).take w = rowOf w l r from rfl]
  have hrl : (rowOf w l r).length = w := rowOf_length hl hr
  generalize rowOf w l r = row at hrl ⊢
  have e : (row.length.ble 274877906944) = true := Nat.ble_eq_true_of_le (by omega)
  have e1 : (decide ((0 : Int) ≤ Int.ofNat c) && decide (Int.ofNat c < Int.ofNat row.length) && true) = true := by simp; omega
  rw [e, e1]
  simp only [cond_true, Bool.and_true, toNat_ofNat']
  unfold parted
  show (bif (kd row c == 2) then _ else _) = _
  by_cases k : kd row c = 2
  · rw [show (kd row c == 2) = true by rw [k]; rfl]
    simp only [cond_true]
    by_cases k0 : 0 < c
    · have e2 : decide (Int.ofNat c > 0) = true := by simp; omega
      have e3 : IntKind.i64.wrap (Int.ofNat c - 1) = Int.ofNat (c - 1) := by rw [w64 (by simp; omega) (by simp; omega)]; simp; omega
      have e4 : (decide ((0 : Int) ≤ Int.ofNat (c - 1)) && decide (Int.ofNat (c - 1) < Int.ofNat row.length)) = true := by simp; omega
      rw [e2, e3]
      simp only [cond_true, toNat_ofNat', List.length_set]
      have e5 : (decide ((0 : Int) ≤ Int.ofNat c) && decide (Int.ofNat c < Int.ofNat row.length)) = true := by simp; omega
      simp only [e4, e5, cond_true, blank_eq, optK_s]
      rw [if_pos ⟨k, k0⟩]
      rfl
    · have e2 : decide (Int.ofNat c > 0) = false := by simp; omega
      rw [e2, if_neg (fun q => k0 q.2)]; rfl
  · rw [show (kd row c == 2) = false by simp [k], if_neg (fun q => k q.1)]; rfl
/-- How many cells a call may move. -/
def num (w c : Nat) (n : Int) : Nat := (max 0 (min n ((w : Int) - c))).toNat
theorem num_le (w c : Nat) (hc : c ≤ w) (n : Int) : c + num w c n ≤ w := by unfold num; omega
theorem num_eq {w c : Nat} (hw : w ≤ 60) (hc : c < w) (n : Int) :
    (if (if IntKind.i64.wrap (Int.ofNat w - Int.ofNat c) < n then IntKind.i64.wrap (Int.ofNat w - Int.ofNat c) else n) > (0 : Int) then (if IntKind.i64.wrap (Int.ofNat w - Int.ofNat c) < n then IntKind.i64.wrap (Int.ofNat w - Int.ofNat c) else n) else (0 : Int)) = Int.ofNat (num w c n) := by
  have e : IntKind.i64.wrap (Int.ofNat w - Int.ofNat c) = (w : Int) - c := w64 (by show _ ≤ (w : Int) - c; omega) (by show (w : Int) - c < _; omega)
  rw [e]; unfold num
  show _ = ((max 0 (min n ((w : Int) - c))).toNat : Int)
  split <;> split <;> omega
def insRow (row : List Cell) (c n : Nat) (p : Pen) : List Cell :=
  (parted row c).take c ++ List.replicate n (32, 0, p) ++ ((parted row c).drop c).take (row.length - n - c)
def delRow (row : List Cell) (c n : Nat) (p : Pen) : List Cell :=
  (parted row c).take c ++ (parted row c).drop (c + n) ++ List.replicate n (32, 0, p)
def insG (h w : Nat) (l : List Cell) (r c n : Int) (p : Pen) : List Cell :=
  if 0 ≤ r ∧ r < h ∧ 0 ≤ c ∧ c < w then inRow w l r.toNat fun row => mend (insRow row c.toNat (num w c.toNat n) p) else l
def delG (h w : Nat) (l : List Cell) (r c n : Int) (p : Pen) : List Cell :=
  if 0 ≤ r ∧ r < h ∧ 0 ≤ c ∧ c < w then inRow w l r.toNat fun row => mend (delRow row c.toNat (num w c.toNat n) p) else l
theorem insRow_length {row : List Cell} {c n : Nat} {p : Pen} (h : c + n ≤ row.length) : (insRow row c n p).length = row.length := by
  unfold insRow; simp [parted_length]; omega
theorem delRow_length {row : List Cell} {c n : Nat} {p : Pen} (h : c + n ≤ row.length) : (delRow row c n p).length = row.length := by
  unfold delRow; simp [parted_length]; omega
theorem at_no {h w : Nat} {l : List Cell} {r c : Int} (k : ¬ (0 ≤ r ∧ r < h ∧ 0 ≤ c ∧ c < w)) : at_ h w l r c = (0, 0, 0, 0, 0, false) := if_neg k
theorem at_yes {h w : Nat} {l : List Cell} {r c : Int} (k : 0 ≤ r ∧ r < h ∧ 0 ≤ c ∧ c < w) : (at_ h w l r c).2.2.2.2.2 = true := by unfold at_; rw [if_pos k]
theorem cutTo {α : Type} (l : List α) (c : Nat) : cutList l none (some (Int.ofNat c)) = l.take c := by simp [cutList]
theorem cutFrom {α : Type} (l : List α) (c : Nat) : cutList l (some (Int.ofNat c)) none = l.drop c := by simp [cutList]
end Go.Proofs.YtpneolkfeihkhaaAbs

/- Plain laws: edit.Insert, edit.Delete, edit.Line as list functions. -/
namespace Go.Proofs.YtpneolkfeihkhaaAbs
set_option linter.unusedVariables false
set_option linter.unusedSimpArgs false
set_option maxHeartbeats 4000000
open Go Go.Proofs
theorem wrap_add {a b : Nat} (h : a + b < 4611686018427387904) : IntKind.i64.wrap (Int.ofNat a + Int.ofNat b) = Int.ofNat (a + b) := by
  rw [show Int.ofNat a + Int.ofNat b = Int.ofNat (a + b) from rfl, wrap_nat (by omega)]
theorem spl_length {A X : List Cell} {i : Nat} (h : i + X.length ≤ A.length) : (splice A i X).length = A.length := by
  unfold splice; simp; omega
theorem splice_all {A B D : List Cell} : splice (splice (splice (List.replicate (A.length + B.length + D.length) dC) 0 A) A.length B) (A.length + B.length) D = A ++ B ++ D := by
  have h1 : splice (List.replicate (A.length + B.length + D.length) dC) 0 A = A ++ List.replicate (B.length + D.length) dC := by
    unfold splice; simp [Nat.add_assoc]
  have h2 : splice (A ++ List.replicate (B.length + D.length) dC) A.length B = A ++ B ++ List.replicate D.length dC := by
    unfold splice; simp [List.drop_append]
  have h3 : splice (A ++ B ++ List.replicate D.length dC) (A.length + B.length) D = A ++ B ++ D := by
    unfold splice
    rw [show A.length + B.length = (A ++ B).length by simp, List.take_left' rfl, show (A ++ B).length + D.length = (A ++ B ++ List.replicate D.length dC).length by simp [Nat.add_assoc], List.drop_length, List.append_nil]
  rw [h1, h2, h3]
abbrev rowC : Row := .cons (.int .i32) (.cons (.int .i64) (.cons (.int .i64) (.cons (.int .i64) (.one (.int .i64)))))
theorem insert_eq {R C : Int} {h w : Nat} (hR : R = Int.ofNat h) (hC : C = Int.ofNat w) (hh : h ≤ 40) (w1 : 1 ≤ w) (hw : w ≤ 60) {l : List Cell} (hl : l.length = h * w) (r c n : Int) (p0 p1 p2 : Int) :
    hide edit_Insert_F R C l r c n p0 p1 p2 = some (R, C, insG h w l r c n (p0, p1, p2)) := by
  have hsm := small_mul (show h ≤ 64 by omega) (show w ≤ 64 by omega)
  rw [hide_eq]; unfold edit_Insert_F insG
  rw [at_eq hR hC hh hw hl]
  simp only [optK_s]
  by_cases k : 0 ≤ r ∧ r < h ∧ 0 ≤ c ∧ c < w
  · rw [at_yes k, if_pos k]
    obtain ⟨k1, k2, k3, k4⟩ := k
    obtain ⟨r, rfl⟩ : ∃ q : Nat, r = Int.ofNat q := ⟨r.toNat, (Int.toNat_of_nonneg k1).symm⟩
    obtain ⟨c, rfl⟩ : ∃ q : Nat, c = Int.ofNat q := ⟨c.toNat, (Int.toNat_of_nonneg k3).symm⟩
    have hr : r < h := by have : (r : Int) < h := k2; omega
    have hc : c < w := by have : (c : Int) < w := k4; omega
    subst hC
    simp only [Bool.not_true, cond_false]
    rw [parted_eq (R := R) rfl hh hw hl hr hc]
    simp only [optK_s, num_eq hw hc, toNat_ofNat']
    have hn := num_le w c (by omega) n
    generalize num w c n = m at hn ⊢
    rw [blanks_any (by omega)]
    simp only [optK_s, cutTo]
    have hrl : (rowOf w l r).length = w := rowOf_length hl hr
    have hpl : (parted (rowOf w l r) c).length = w := by rw [parted_length, hrl]
    have e2 : IntKind.i64.wrap (Int.ofNat w - Int.ofNat m) = Int.ofNat (w - m) := by
      rw [show Int.ofNat w - Int.ofNat m = Int.ofNat (w - m) by simp; omega, wrap_nat (by omega)]
    simp only [e2]
    rw [cutList_ok (show c ≤ w - m by omega)]
    have b1 : bnds none (some (Int.ofNat c)) (parted (rowOf w l r) c).length = true := by rw [hpl]; simp [bnds]; omega
    have b2 : bnds (some (Int.ofNat c)) (some (Int.ofNat (w - m))) (parted (rowOf w l r) c).length = true := by rw [hpl]; exact bnds_ok (by omega) (by omega)
    rw [b1, b2]
    rw [inRow_congr (f := fun row => mend (insRow row c m (p0, p1, p2))) (g := fun _ => mend (insRow (rowOf w l r) c m (p0, p1, p2))) rfl]
    unfold insRow
    rw [hrl]
    have la : ((parted (rowOf w l r) c).take c).length = c := by simp [hpl]; omega
    have lb : (List.replicate m ((32, 0, p0, p1, p2) : Cell)).length = m := by simp
    have lc : (((parted (rowOf w l r) c).drop c).take (w - m - c)).length = w - m - c := by simp [hpl]; omega
    generalize (parted (rowOf w l r) c).take c = A at la ⊢
    generalize List.replicate m ((32, 0, p0, p1, p2) : Cell) = B at lb ⊢
    generalize ((parted (rowOf w l r) c).drop c).take (w - m - c) = D at lc ⊢
    have g0 : ∀ (d : (Row.one (CTy.slice rowC)).den), @List.getD (List Cell) [A, B, D] 0 d = A := fun _ => rfl
    have g1 : ∀ (d : (Row.one (CTy.slice rowC)).den), @List.getD (List Cell) [A, B, D] 1 d = B := fun _ => rfl
    have g2 : ∀ (d : (Row.one (CTy.slice rowC)).den), @List.getD (List Cell) [A, B, D] 2 d = D := fun _ => rfl
    simp only [g0, g1, g2, cond_true, Bool.and_true]
    have s1 : IntKind.i64.wrap (0 + Int.ofNat A.length) = Int.ofNat A.length := by rw [Int.zero_add, wrap_nat (by omega)]
    have s2 : IntKind.i64.wrap (Int.ofNat A.length + Int.ofNat B.length) = Int.ofNat (A.length + B.length) := wrap_add (by omega)
    have s3 : IntKind.i64.wrap (Int.ofNat (A.length + B.length) + Int.ofNat D.length) = Int.ofNat (A.length + B.length + D.length) := wrap_add (by omega)
    have s4 : IntKind.i64.wrap (Int.ofNat (A.length + B.length + D.length) - 0) = Int.ofNat (A.length + B.length + D.length) := by rw [Int.sub_zero, wrap_nat (by omega)]
    have n1 : ∀ q : Nat, decide (Int.ofNat q < 0) = false := fun q => by simp
    have p1 : decide (Int.ofNat (A.length + B.length + D.length) > 0) = true := by simp; omega
    have p2 : decide ((0 : Int) < Int.ofNat (A.length + B.length + D.length)) = true := by simp; omega
    have p3 : decide (Int.ofNat (A.length + B.length + D.length) ≤ 274877906944) = true := by simp; omega
    simp only [s1, s2, s3, s4, n1, p1, p2, p3, cond_true, cond_false, Bool.and_self, toNat_ofNat', getD_some']
    have r1 : ∀ q, rowN ((0 : Int), (0 : Int), (0 : Int), (0 : Int), (0 : Int)) q = List.replicate q dC := fun _ => rfl
    simp only [r1, show Int.toNat 0 = 0 from rfl, Nat.sub_self, Nat.add_zero, Nat.zero_add, List.drop_zero]
    have c1 : A.length.ble (List.replicate (A.length + B.length + D.length) dC).length = true := Nat.ble_eq_true_of_le (by simp; omega)
    have l1 : (splice (List.replicate (A.length + B.length + D.length) dC) 0 A).length = A.length + B.length + D.length := by rw [spl_length (by simp; omega)]; simp
    have l2 : (splice (splice (List.replicate (A.length + B.length + D.length) dC) 0 A) A.length B).length = A.length + B.length + D.length := by rw [spl_length (by rw [l1]; omega), l1]
    rw [c1, l1, l2, splice_all, Nat.ble_eq_true_of_le (show A.length + B.length ≤ A.length + B.length + D.length by omega), Nat.ble_eq_true_of_le (Nat.le_refl _)]
    rw [List.take_of_length_le (by simp; omega)]
    simp only [cond_true]
    rw [turned_eq rfl hh hw hl hr (by simp; omega)]
    rfl
  · rw [at_no k, if_neg k]
    have e : (l.length.ble 274877906944) = true := Nat.ble_eq_true_of_le (by rw [hl]; omega)
    rw [e]; rfl
theorem delete_eq {R C : Int} {h w : Nat} (hR : R = Int.ofNat h) (hC : C = Int.ofNat w) (hh : h ≤ 40) (w1 : 1 ≤ w) (hw : w ≤ 60) {l : List Cell} (hl : l.length = h * w) (r c n : Int) (p0 p1 p2 : Int) :
    hide edit_Delete_F R C l r c n p0 p1 p2 = some (R, C, delG h w l r c n (p0, p1, p2)) := by
  have hsm := small_mul (show h ≤ 64 by omega) (show w ≤ 64 by omega)
  rw [hide_eq]; unfold edit_Delete_F delG
  rw [at_eq hR hC hh hw hl]
  simp only [optK_s]
  by_cases k : 0 ≤ r ∧ r < h ∧ 0 ≤ c ∧ c < w
  · rw [at_yes k, if_pos k]
    obtain ⟨k1, k2, k3, k4⟩ := k
    obtain ⟨r, rfl⟩ : ∃ q : Nat, r = Int.ofNat q := ⟨r.toNat, (Int.toNat_of_nonneg k1).symm⟩
    obtain ⟨c, rfl⟩ : ∃ q : Nat, c = Int.ofNat q := ⟨c.toNat, (Int.toNat_of_nonneg k3).symm⟩
    have hr : r < h := by have : (r : Int) < h := k2; omega
    have hc : c < w := by have : (c : Int) < w := k4; omega
    subst hC
    simp only [Bool.not_true, cond_false]
    rw [parted_eq (R := R) rfl hh hw hl hr hc]
    simp only [optK_s, num_eq hw hc, toNat_ofNat']
    have hn := num_le w c (by omega) n
    generalize num w c n = m at hn ⊢
    simp only [optK_s, cutTo]
    have hrl : (rowOf w l r).length = w := rowOf_length hl hr
    have hpl : (parted (rowOf w l r) c).length = w := by rw [parted_length, hrl]
    have e2 : IntKind.i64.wrap (Int.ofNat c + Int.ofNat m) = Int.ofNat (c + m) := wrap_add (by omega)
    simp only [e2, cutFrom]
    have b1 : bnds none (some (Int.ofNat c)) (parted (rowOf w l r) c).length = true := by rw [hpl]; simp [bnds]; omega
    have b2 : bnds (some (Int.ofNat (c + m))) none (parted (rowOf w l r) c).length = true := by rw [hpl]; simp [bnds]; omega
    rw [b1, b2, blanks_any (by omega)]
    simp only [optK_s]
    rw [inRow_congr (f := fun row => mend (delRow row c m (p0, p1, p2))) (g := fun _ => mend (delRow (rowOf w l r) c m (p0, p1, p2))) rfl]
    unfold delRow
    have la : ((parted (rowOf w l r) c).take c).length = c := by simp [hpl]; omega
    have lb : ((parted (rowOf w l r) c).drop (c + m)).length = w - m - c := by simp [hpl]; omega
    have lc : (List.replicate m ((32, 0, p0, p1, p2) : Cell)).length = m := by simp
    generalize (parted (rowOf w l r) c).take c = A at la ⊢
    generalize (parted (rowOf w l r) c).drop (c + m) = B at lb ⊢
    generalize List.replicate m ((32, 0, p0, p1, p2) : Cell) = D at lc ⊢
    have g0 : ∀ (d : (Row.one (CTy.slice rowC)).den), @List.getD (List Cell) [A, B, D] 0 d = A := fun _ => rfl
    have g1 : ∀ (d : (Row.one (CTy.slice rowC)).den), @List.getD (List Cell) [A, B, D] 1 d = B := fun _ => rfl
    have g2 : ∀ (d : (Row.one (CTy.slice rowC)).den), @List.getD (List Cell) [A, B, D] 2 d = D := fun _ => rfl
    simp only [g0, g1, g2, cond_true, Bool.and_true]
    have s1 : IntKind.i64.wrap (0 + Int.ofNat A.length) = Int.ofNat A.length := by rw [Int.zero_add, wrap_nat (by omega)]
    have s2 : IntKind.i64.wrap (Int.ofNat A.length + Int.ofNat B.length) = Int.ofNat (A.length + B.length) := wrap_add (by omega)
    have s3 : IntKind.i64.wrap (Int.ofNat (A.length + B.length) + Int.ofNat D.length) = Int.ofNat (A.length + B.length + D.length) := wrap_add (by omega)
    have s4 : IntKind.i64.wrap (Int.ofNat (A.length + B.length + D.length) - 0) = Int.ofNat (A.length + B.length + D.length) := by rw [Int.sub_zero, wrap_nat (by omega)]
    have n1 : ∀ q : Nat, decide (Int.ofNat q < 0) = false := fun q => by simp
    have p1 : decide (Int.ofNat (A.length + B.length + D.length) > 0) = true := by simp; omega
    have p2 : decide ((0 : Int) < Int.ofNat (A.length + B.length + D.length)) = true := by simp; omega
    have p3 : decide (Int.ofNat (A.length + B.length + D.length) ≤ 274877906944) = true := by simp; omega
    simp only [s1, s2, s3, s4, n1, p1, p2, p3, cond_true, cond_false, Bool.and_self, toNat_ofNat', getD_some']
    have r1 : ∀ q, rowN ((0 : Int), (0 : Int), (0 : Int), (0 : Int), (0 : Int)) q = List.replicate q dC := fun _ => rfl
    simp only [r1, show Int.toNat 0 = 0 from rfl, Nat.sub_self, Nat.add_zero, Nat.zero_add, List.drop_zero]
    have c1 : A.length.ble (List.replicate (A.length + B.length + D.length) dC).length = true := Nat.ble_eq_true_of_le (by simp; omega)
    have l1 : (splice (List.replicate (A.length + B.length + D.length) dC) 0 A).length = A.length + B.length + D.length := by rw [spl_length (by simp; omega)]; simp
    have l2 : (splice (splice (List.replicate (A.length + B.length + D.length) dC) 0 A) A.length B).length = A.length + B.length + D.length := by rw [spl_length (by rw [l1]; omega), l1]
    rw [c1, l1, l2, splice_all, Nat.ble_eq_true_of_le (show A.length + B.length ≤ A.length + B.length + D.length by omega), Nat.ble_eq_true_of_le (Nat.le_refl _)]
    rw [List.take_of_length_le (by simp; omega)]
    simp only [cond_true]
    rw [turned_eq rfl hh hw hl hr (by simp; omega)]
    rfl
  · rw [at_no k, if_neg k]
    have e : (l.length.ble 274877906944) = true := Nat.ble_eq_true_of_le (by rw [hl]; omega)
    rw [e]; rfl
end Go.Proofs.YtpneolkfeihkhaaAbs

/- Plain laws: rows into which blanks are put, out of which cells are taken: what they are, and that they are right. -/
namespace Go.Proofs.YtpneolkfeihkhaaAbs
set_option linter.unusedVariables false
set_option linter.unusedSimpArgs false
open Go Go.Proofs
theorem insRow_getD {row : List Cell} {c n : Nat} {p : Pen} {j : Nat} (hc : c + n ≤ row.length) (hj : j < row.length) :
    (insRow row c n p).getD j dC = if j < c then (parted row c).getD j dC else if j < c + n then (32, 0, p) else (parted row c).getD (j - n) dC := by
  unfold insRow
  have la : (List.take c (parted row c)).length = c := by simp [parted_length]; omega
  have hlen : (parted row c).length = row.length := parted_length ..
  by_cases h1 : j < c
  · rw [if_pos h1, List.append_assoc, getD_append_l _ (by omega), getD_take _ h1]
  · rw [if_neg h1]
    by_cases h2 : j < c + n
    · rw [if_pos h2, getD_append_l _ (by rw [List.length_append, la, List.length_replicate]; omega), getD_append_r _ (by omega), la, getD_rep _ _ (by omega)]
    · rw [if_neg h2, getD_append_r _ (by rw [List.length_append, la, List.length_replicate]; omega), List.length_append, la, List.length_replicate, getD_take _ (by omega), getD_drop, show c + (j - (c + n)) = j - n by omega]
theorem delRow_getD {row : List Cell} {c n : Nat} {p : Pen} {j : Nat} (hc : c + n ≤ row.length) (hj : j < row.length) :
    (delRow row c n p).getD j dC = if j < c then (parted row c).getD j dC else if j + n < row.length then (parted row c).getD (j + n) dC else (32, 0, p) := by
  unfold delRow
  have la : (List.take c (parted row c)).length = c := by simp [parted_length]; omega
  have hlen : (parted row c).length = row.length := parted_length ..
  have lb : (List.drop (c + n) (parted row c)).length = row.length - (c + n) := by simp [parted_length]
  by_cases h1 : j < c
  · rw [if_pos h1, List.append_assoc, getD_append_l _ (by omega), getD_take _ h1]
  · rw [if_neg h1]
    by_cases h2 : j + n < row.length
    · rw [if_pos h2, getD_append_l _ (by rw [List.length_append, la, lb]; omega), getD_append_r _ (by omega), la, getD_drop, show c + n + (j - c) = j + n by omega]
    · rw [if_neg h2, getD_append_r _ (by rw [List.length_append, la, lb]; omega), List.length_append, la, lb, getD_rep _ _ (by omega)]
end Go.Proofs.YtpneolkfeihkhaaAbs

/- Plain laws: what edit does, done twice. -/
namespace Go.Proofs.YtpneolkfeihkhaaAbs
set_option linter.unusedVariables false
set_option linter.unusedSimpArgs false
open Go Go.Proofs
theorem parted_single {row : List Cell} (hs : ∀ i, kd row i = 0) (c : Nat) : parted row c = row := by
  unfold parted; rw [if_neg (by rw [hs]; simp)]
theorem single_mem {row : List Cell} (hs : ∀ i, kd row i = 0) : ∀ x ∈ row, x.2.1 = 0 := by
  intro x hx
  obtain ⟨i, hi, e⟩ := List.getElem_of_mem hx
  have := hs i
  unfold kd at this
  rw [List.getD_eq_getElem?_getD, List.getElem?_eq_getElem hi] at this
  rw [← e]; exact this
theorem mend_single {row : List Cell} (hs : ∀ i, kd row i = 0) : mend row = row := mend_right (right_singles (single_mem hs))
theorem kd_over {row : List Cell} {i : Nat} (h : row.length ≤ i) : kd row i = 0 := by
  unfold kd; rw [List.getD_eq_getElem?_getD, List.getElem?_eq_none h]; rfl
theorem ins_single {row : List Cell} (hs : ∀ i, kd row i = 0) {c n : Nat} {p : Pen} (hc : c + n ≤ row.length) : ∀ i, kd (insRow row c n p) i = 0 := by
  intro i
  by_cases hi : i < row.length
  · unfold kd
    rw [insRow_getD hc hi, parted_single hs]
    split
    · exact hs _
    · split
      · rfl
      · exact hs _
  · exact kd_over (by rw [insRow_length hc]; omega)
theorem del_single {row : List Cell} (hs : ∀ i, kd row i = 0) {c n : Nat} {p : Pen} (hc : c + n ≤ row.length) : ∀ i, kd (delRow row c n p) i = 0 := by
  intro i
  by_cases hi : i < row.length
  · unfold kd
    rw [delRow_getD hc hi, parted_single hs]
    split
    · exact hs _
    · split
      · exact hs _
      · rfl
  · exact kd_over (by rw [delRow_length hc]; omega)
theorem insG_row {h w : Nat} {l : List Cell} (hl : l.length = h * w) {r c : Nat} (hr : r < h) (hc : c < w) (n : Int) (p : Pen) {r' : Nat} (hr' : r' < h) :
    rowOf w (insG h w l r c n p) r' = if r' = r then mend (insRow (rowOf w l r) c (num w c n) p) else rowOf w l r' := by
  have hrl := rowOf_length hl hr
  have hn := num_le w c (by omega) n
  unfold insG
  rw [if_pos (by omega)]
  by_cases e : r' = r
  · subst e
    rw [if_pos rfl]
    exact inRow_same hl (by omega) (by rw [mend_length, insRow_length (by rw [show ((r' : Int)).toNat = r' from rfl, hrl]; exact hn)]; exact hrl)
  · rw [if_neg e]
    exact inRow_other hl (by omega) (by rw [mend_length, insRow_length (by rw [show ((r : Int)).toNat = r from rfl, hrl]; exact hn)]; exact hrl) hr' e
theorem delG_row {h w : Nat} {l : List Cell} (hl : l.length = h * w) {r c : Nat} (hr : r < h) (hc : c < w) (n : Int) (p : Pen) {r' : Nat} (hr' : r' < h) :
    rowOf w (delG h w l r c n p) r' = if r' = r then mend (delRow (rowOf w l r) c (num w c n) p) else rowOf w l r' := by
  have hrl := rowOf_length hl hr
  have hn := num_le w c (by omega) n
  unfold delG
  rw [if_pos (by omega)]
  by_cases e : r' = r
  · subst e
    rw [if_pos rfl]
    exact inRow_same hl (by omega) (by rw [mend_length, delRow_length (by rw [show ((r' : Int)).toNat = r' from rfl, hrl]; exact hn)]; exact hrl)
  · rw [if_neg e]
    exact inRow_other hl (by omega) (by rw [mend_length, delRow_length (by rw [show ((r : Int)).toNat = r from rfl, hrl]; exact hn)]; exact hrl) hr' e
theorem insG_length {h w : Nat} {l : List Cell} (hl : l.length = h * w) (r c n : Int) (p : Pen) : (insG h w l r c n p).length = h * w := by
  unfold insG
  split
  · rename_i k
    have hn := num_le w c.toNat (by omega) n
    exact inRow_length hl (by omega) (by rw [mend_length, insRow_length (by rw [rowOf_length hl (by omega)]; exact hn), rowOf_length hl (by omega)])
  · exact hl
theorem delG_length {h w : Nat} {l : List Cell} (hl : l.length = h * w) (r c n : Int) (p : Pen) : (delG h w l r c n p).length = h * w := by
  unfold delG
  split
  · rename_i k
    have hn := num_le w c.toNat (by omega) n
    exact inRow_length hl (by omega) (by rw [mend_length, delRow_length (by rw [rowOf_length hl (by omega)]; exact hn), rowOf_length hl (by omega)])
  · exact hl
end Go.Proofs.YtpneolkfeihkhaaAbs

/- Plain laws: edit.Line, edit.Erase, the document's Shift. -/
namespace Go.Proofs.YtpneolkfeihkhaaAbs
set_option linter.unusedVariables false
set_option linter.unusedSimpArgs false
set_option maxHeartbeats 2000000
open Go Go.Proofs
def wipeX (w : Nat) (row : List Cell) (a b : Int) (p : Pen) : List Cell := mend (fillR row (wipeN w a b).1 (wipeN w a b).2 (32, 0, p))
theorem wipe_length {h w : Nat} {l : List Cell} (hl : l.length = h * w) (r a b : Int) (p : Pen) : (wipe h w l r a b p).length = h * w := by
  unfold wipe
  split
  · rename_i k
    exact inRow_length hl (by omega) (by rw [mend_length, fillR_length, rowOf_length hl (by omega)])
  · exact hl
theorem wipe_row {h w : Nat} {l : List Cell} (hl : l.length = h * w) {r : Nat} (hr : r < h) (a b : Int) (p : Pen) {r' : Nat} (hr' : r' < h) :
    rowOf w (wipe h w l r a b p) r' = if r' = r then wipeX w (rowOf w l r) a b p else rowOf w l r' := by
  have hrl := rowOf_length hl hr
  unfold wipe
  rw [if_pos (by omega)]
  by_cases e : r' = r
  · subst e
    rw [if_pos rfl]
    exact inRow_same hl (by omega) (by rw [mend_length, fillR_length]; exact hrl)
  · rw [if_neg e]
    exact inRow_other hl (by omega) (by rw [mend_length, fillR_length]; exact hrl) hr' e
def lineG (h w : Nat) (l : List Cell) (r c what : Int) (p : Pen) : List Cell :=
  if 0 ≤ r ∧ r < h ∧ 0 ≤ c ∧ c < w then (if what = 0 then wipe h w l r c w p else if what = 1 then wipe h w l r 0 (c + 1) p else if what = 2 then wipe h w l r 0 w p else l) else l
theorem lineG_length {h w : Nat} {l : List Cell} (hl : l.length = h * w) (r c what : Int) (p : Pen) : (lineG h w l r c what p).length = h * w := by
  unfold lineG
  split
  · split
    · exact wipe_length hl _ _ _ _
    · split
      · exact wipe_length hl _ _ _ _
      · split
        · exact wipe_length hl _ _ _ _
        · exact hl
  · exact hl
theorem line_eq {R C : Int} {h w : Nat} (hR : R = Int.ofNat h) (hC : C = Int.ofNat w) (hh : h ≤ 40) (w1 : 1 ≤ w) (hw : w ≤ 60) {l : List Cell} (hl : l.length = h * w) (r c what : Int) (p0 p1 p2 : Int) :
    hide edit_Line_F R C l r c what p0 p1 p2 = some (R, C, lineG h w l r c what (p0, p1, p2)) := by
  have hsm := small_mul (show h ≤ 64 by omega) (show w ≤ 64 by omega)
  have e : (l.length.ble 274877906944) = true := Nat.ble_eq_true_of_le (by rw [hl]; omega)
  rw [hide_eq]; unfold edit_Line_F lineG
  rw [at_eq hR hC hh hw hl]
  simp only [optK_s]
  by_cases k : 0 ≤ r ∧ r < h ∧ 0 ≤ c ∧ c < w
  · rw [at_yes k, if_pos k]
    obtain ⟨k1, k2, k3, k4⟩ := k
    have ew : IntKind.i64.wrap (c + 1) = c + 1 := w64 (by omega) (by omega)
    simp only [Bool.not_true, cond_false, ew]
    by_cases q0 : what = 0
    · subst q0
      rw [wipe_eq hR hC hh w1 hw hl (by omega), hC]
      rfl
    · rw [if_neg q0, show (what == 0) = false by simpa using q0]
      by_cases q1 : what = 1
      · subst q1
        rw [show ((1 : Int) == 1) = true from rfl, if_pos rfl]
        simp only [cond_true, cond_false]
        rw [wipe_eq hR hC hh w1 hw hl (by omega)]
        rfl
      · rw [if_neg q1, show (what == 1) = false by simpa using q1]
        by_cases q2 : what = 2
        · subst q2
          rw [show ((2 : Int) == 2) = true from rfl, if_pos rfl]
          simp only [cond_true, cond_false]
          rw [wipe_eq hR hC hh w1 hw hl (by omega), hC]
          rfl
        · rw [if_neg q2, show (what == 2) = false by simpa using q2, e]
          rfl
  · rw [at_no k, if_neg k, e]; rfl
/-- So many rows are done. -/
def eraseTo (h w : Nat) (l : List Cell) (r what : Int) (p : Pen) : Nat → List Cell
  | 0 => l
  | k + 1 => if ((k : Int) > r ∧ what ≠ 1) ∨ ((k : Int) < r ∧ what ≠ 0) then wipe h w (eraseTo h w l r what p k) k 0 w p else eraseTo h w l r what p k
theorem eraseTo_length {h w : Nat} {l : List Cell} (hl : l.length = h * w) (r what : Int) (p : Pen) : ∀ k, (eraseTo h w l r what p k).length = h * w
  | 0 => hl
  | k + 1 => by
    rw [eraseTo]
    split
    · exact wipe_length (eraseTo_length hl r what p k) _ _ _ _
    · exact eraseTo_length hl r what p k
theorem GG.eraseTo {h w : Nat} {l : List Cell} (g : GG h w l) (r what : Int) {p : Pen} (hp : rightPen p) : ∀ k, GG h w (Go.Proofs.YtpneolkfeihkhaaAbs.eraseTo h w l r what p k)
  | 0 => g
  | k + 1 => by
    rw [Go.Proofs.YtpneolkfeihkhaaAbs.eraseTo]
    split
    · exact (GG.eraseTo g r what hp k).wipe _ _ _ hp
    · exact GG.eraseTo g r what hp k
theorem erase_loop {r what p0 p1 p2 z0 z1 : Int} {h w : Nat} {l0 l z : List Cell} (hl : l.length = h * w) (hh : h ≤ 40) (w1 : 1 ≤ w) (hw : w ≤ 60) : ∀ (n k : Nat), k ≤ h → h - k < n →
    edit_Erase_L6 n r what (Int.ofNat h) (Int.ofNat k) (Int.ofNat h) (Int.ofNat w) l0 p0 p1 p2 z0 z1 (Int.ofNat h) (Int.ofNat w) (eraseTo h w l r what (p0, p1, p2) k) z = some (z0, z1, Int.ofNat h, Int.ofNat w, eraseTo h w l r what (p0, p1, p2) h, z) := by
  intro n
  induction n with
  | zero => intro k h1 h2; omega
  | succ n ih =>
    intro k h1 h2
    rw [edit_Erase_L6]
    by_cases hk : k < h
    · have e0 : decide (Int.ofNat k < Int.ofNat h) = true := decide_eq_true (by show (k : Int) < (h : Int); omega)
      have step := ih (k + 1) (by omega) (by omega)
      rw [e0, wrap_succ (by omega)]
      simp only [cond_true]
      rw [wipe_eq rfl rfl hh w1 hw (eraseTo_length hl r what _ k) (show (0 : Int) ≤ 4000 by omega)]
      simp only [optK_s]
      rw [eraseTo] at step
      by_cases a1 : (k : Int) > r
      · have a2 : ¬ (k : Int) < r := by omega
        rw [show decide (Int.ofNat k > r) = true from decide_eq_true a1, show decide (Int.ofNat k < r) = false from decide_eq_false a2]
        simp only [cond_true, cond_false]
        by_cases q1 : what = 1
        · rw [if_neg (by omega)] at step
          rw [show (what != 1) = false by simp [q1]]
          exact step
        · rw [if_pos (by omega)] at step
          rw [show (what != 1) = true by simp [q1]]
          exact step
      · rw [show decide (Int.ofNat k > r) = false from decide_eq_false a1]
        simp only [cond_false]
        by_cases a2 : (k : Int) < r
        · rw [show decide (Int.ofNat k < r) = true from decide_eq_true a2]
          simp only [cond_true]
          by_cases q1 : what = 0
          · rw [if_neg (by omega)] at step
            rw [show (what != 0) = false by simp [q1]]
            exact step
          · rw [if_pos (by omega)] at step
            rw [show (what != 0) = true by simp [q1]]
            exact step
        · rw [if_neg (by omega)] at step
          rw [show decide (Int.ofNat k < r) = false from decide_eq_false a2]
          exact step
    · have e : k = h := by omega
      subst e
      rw [show decide (Int.ofNat k < Int.ofNat k) = false from decide_eq_false (by show ¬ (k : Int) < (k : Int); omega)]
      rfl
def eraseG (h w : Nat) (l : List Cell) (r c what : Int) (p : Pen) : List Cell :=
  if 0 ≤ r ∧ r < h ∧ 0 ≤ c ∧ c < w ∧ 0 ≤ what ∧ what ≤ 2 then eraseTo h w (lineG h w l r c what p) r what p h else l
theorem erase_eq {R C : Int} {h w : Nat} (hR : R = Int.ofNat h) (hC : C = Int.ofNat w) (hh : h ≤ 40) (w1 : 1 ≤ w) (hw : w ≤ 60) {l : List Cell} (hl : l.length = h * w) (r c what : Int) (p0 p1 p2 : Int) :
    hide edit_Erase_F R C l r c what p0 p1 p2 = some (R, C, eraseG h w l r c what (p0, p1, p2)) := by
  have hsm := small_mul (show h ≤ 64 by omega) (show w ≤ 64 by omega)
  have e : (l.length.ble 274877906944) = true := Nat.ble_eq_true_of_le (by rw [hl]; omega)
  rw [hide_eq]; unfold edit_Erase_F eraseG
  rw [at_eq hR hC hh hw hl]
  simp only [optK_s]
  by_cases k : 0 ≤ r ∧ r < h ∧ 0 ≤ c ∧ c < w
  · rw [at_yes k]
    simp only [Bool.not_true, cond_false]
    by_cases q0 : what < 0
    · rw [if_neg (by omega), decide_eq_true q0, e]; rfl
    · rw [decide_eq_false q0]
      simp only [cond_false]
      by_cases q2 : what > 2
      · rw [if_neg (by omega), decide_eq_true q2, e]; rfl
      · rw [if_pos (by omega), decide_eq_false q2]
        simp only [cond_false]
        rw [line_eq hR hC hh w1 hw hl]
        simp only [optK_s, hide_eq edit_Erase_L6]
        subst hR hC
        have L := erase_loop (r := r) (what := what) (p0 := p0) (p1 := p1) (p2 := p2) (z0 := 0) (z1 := 0) (l0 := l) (z := []) (lineG_length hl r c what (p0, p1, p2)) hh w1 hw (edit_Erase_fu6 r what (Int.ofNat h) 0 (Int.ofNat h) (Int.ofNat w) l p0 p1 p2 0 0 (Int.ofNat h) (Int.ofNat w) (lineG h w l r c what (p0, p1, p2)) []) 0 (Nat.zero_le _) (Nat.lt_of_lt_of_le (show h - 0 < 5000 by omega) (Nat.le_add_left 5000 _))
        rw [show Int.ofNat 0 = (0 : Int) from rfl, show eraseTo h w (lineG h w l r c what (p0, p1, p2)) r what (p0, p1, p2) 0 = lineG h w l r c what (p0, p1, p2) from rfl] at L
        rw [L]
        rfl
  · rw [at_no k, if_neg (fun q => k ⟨q.1, q.2.1, q.2.2.1, q.2.2.2.1⟩), e]; rfl
end Go.Proofs.YtpneolkfeihkhaaAbs

-- Written by a program of this session (dec.py); Lean checks it.
namespace Go.Proofs.YtpneolkfeihkhaaAbs
open Go Go.Proofs
set_option linter.unusedVariables false
set_option maxHeartbeats 2000000
set_option maxRecDepth 100000
noncomputable def linguistlaw8_EditRows_su : SumT := (19, sumH linguistbook_Within_A linguistbook_Within_B true linguistbook_Within_G) :: (3, sumH linguistlaw8_EditRuns_A linguistlaw8_EditRuns_B true linguistlaw8_EditRuns_G) :: (9, sumH grid_New_A grid_New_B true grid_New_G) :: (10, sumH grid_Put_A grid_Put_B true grid_Put_G) :: (21, sumH edit_Line_A edit_Line_B false edit_Line_G) :: (13, sumH edit_Insert_A edit_Insert_B false edit_Insert_G) :: (12, sumH grid_Text_A grid_Text_B true grid_Text_G) :: (15, sumH edit_Delete_A edit_Delete_B false edit_Delete_G) :: (22, sumH grid_Same_A grid_Same_B true grid_Same_G) :: (23, sumH edit_Erase_A edit_Erase_B false edit_Erase_G) :: sums0
theorem linguistlaw8_EditRows_su_ok : AllSum Try.prog linguistlaw8_EditRows_su := ⟨sumH_ok rfl rfl linguistbook_Within_known, ⟨sumH_ok rfl rfl linguistlaw8_EditRuns_known, ⟨sumH_ok rfl rfl grid_New_known, ⟨sumH_ok rfl rfl grid_Put_known, ⟨sumH_ok rfl rfl edit_Line_known, ⟨sumH_ok rfl rfl edit_Insert_known, ⟨sumH_ok rfl rfl grid_Text_known, ⟨sumH_ok rfl rfl edit_Delete_known, ⟨sumH_ok rfl rfl grid_Same_known, ⟨sumH_ok rfl rfl edit_Erase_known, sums0_ok⟩⟩⟩⟩⟩⟩⟩⟩⟩⟩
noncomputable def linguistlaw8_EditRows_c3 : Code := ((Try.f5.body.map fun b => loopsAt b 3).getD []).headD .skip
theorem linguistlaw8_EditRows_c3_is : (Try.f5.body.map fun b => loopsAt b 3) = some [linguistlaw8_EditRows_c3] := by kernel_rfl
noncomputable def linguistlaw8_EditRows_s3 : SkSt := ⟨(.cons (.list (.one (.int .u8))) (.cons (.int .i64) (.cons (.int .i64) (.gap 4 (.cst (.own 0 5 (.one (.int .u8))) (.cons (.int .i64) (.gap 168 .nil))))))), (.arr 5 (.one (.int .u8)) .nil)⟩
noncomputable def linguistlaw8_EditRows_x3_0 : SkSt := ⟨(.gap 1 (.cons (.int .i64) (.cons (.int .i64) (.gap 4 (.cst (.own 0 5 (.one (.int .u8))) (.gap 169 .nil)))))), (.arr 5 (.one (.int .u8)) .nil)⟩
noncomputable def linguistlaw8_EditRows_xs3 : List (Ex × SkSt) := [(.exit 0, linguistlaw8_EditRows_x3_0)]
noncomputable def linguistlaw8_EditRows_L3 : Nat → List (Int) → Int → Int → Int → List (Int) → Option (Int × Int × (List (Int)))
  | 0, _, _, _, _, _ => none
  | n + 1, a0, a1, a2, a3, a4 => (bif (decide (a3 < Int.ofNat a0.length)) then (bif (decide (a3 < (9 : Int))) then (bif (decide ((0 : Int) ≤ a3) && decide (a3 < Int.ofNat a0.length) && true) then (optK ((hide linguistbook_Within_F (IntKind.i64.wrap (a0.getD a3.toNat (0 : Int))) (33 : Int) (126 : Int))) fun y1 => (bif (true && ((a4.length + [IntKind.u8.wrap y1].length).ble (274877906944 : Nat) && true)) then (linguistlaw8_EditRows_L3 n a0 a1 a2 (IntKind.i64.wrap (a3 + (1 : Int))) (a4 ++ [IntKind.u8.wrap y1])) else none)) else none) else (some (a1, a2, a4))) else (some (a1, a2, a4)))
noncomputable def linguistlaw8_EditRows_I3 {R : Type} (K : Ex → St → Option R) : Nat → St → Option R := iterN (exec (envL linguistlaw8_EditRows_su ll0 cs0 (fun _ _ => false)) 5 (acall (envL linguistlaw8_EditRows_su ll0 cs0 (fun _ _ => false)) 1000) 0 linguistlaw8_EditRows_c3) (normTo linguistlaw8_EditRows_s3 0) (exitK linguistlaw8_EditRows_xs3 0 K)
noncomputable def linguistlaw8_EditRows_m3 {R : Type} (K : Ex → St → Option R) (o : Option (Int × Int × (List (Int)))) : Option R := optK o fun y => K (.exit 0) (linguistlaw8_EditRows_x3_0.enc ((y.1, (y.2.1, ())), (y.2.2, ())))
theorem linguistlaw8_EditRows_l3 {R : Type} (K : Ex → St → Option R) : ∀ (n : Nat), ∀ (a0 : List (Int)) (a1 : Int) (a2 : Int) (a3 : Int) (a4 : List (Int)), linguistlaw8_EditRows_I3 K n (linguistlaw8_EditRows_s3.enc ((a0, (a1, (a2, (a3, ())))), (a4, ()))) = linguistlaw8_EditRows_m3 K (linguistlaw8_EditRows_L3 n a0 a1 a2 a3 a4) := by
  intro n
  induction n with
  | zero => intros; rfl
  | succ n ih =>
    intro a0 a1 a2 a3 a4
    rw [linguistlaw8_EditRows_L3]
    exact Eq.trans (by kernel_rfl) (cond_push (linguistlaw8_EditRows_m3 K) _ (cond_push (linguistlaw8_EditRows_m3 K) _ (cond_push (linguistlaw8_EditRows_m3 K) _ (optK_push (linguistlaw8_EditRows_m3 K) rfl _ fun y1 => (cond_push (linguistlaw8_EditRows_m3 K) _ (ih a0 a1 a2 (IntKind.i64.wrap (a3 + (1 : Int))) (a4 ++ [IntKind.u8.wrap y1])) rfl)) rfl) rfl) rfl)
def linguistlaw8_EditRows_fu3 (a0 : List (Int)) (a1 : Int) (a2 : Int) (a3 : Int) (a4 : List (Int)) : Nat := List.length a0 + Int.natAbs a1 + Int.natAbs a2 + Int.natAbs a3 + List.length a4 + 5000
noncomputable def linguistlaw8_EditRows_G3 : GoL linguistlaw8_EditRows_s3 := fun R (x : ((List (Int) × (Int × (Int × (Int × Unit)))) × (List (Int) × Unit))) K => linguistlaw8_EditRows_m3 K (hide linguistlaw8_EditRows_L3 (linguistlaw8_EditRows_fu3 x.1.1 x.1.2.1 x.1.2.2.1 x.1.2.2.2.1 x.2.1) x.1.1 x.1.2.1 x.1.2.2.1 x.1.2.2.2.1 x.2.1)
theorem linguistlaw8_EditRows_H3 : LoopOk Try.prog 5 3 (loopH linguistlaw8_EditRows_s3 0 linguistlaw8_EditRows_G3) := loop_known (envL_ok linguistlaw8_EditRows_su_ok ll0_ok cs0_ok) Try.func5 rfl linguistlaw8_EditRows_c3_is (xs := linguistlaw8_EditRows_xs3) (fuel := fun (x : ((List (Int) × (Int × (Int × (Int × Unit)))) × (List (Int) × Unit))) => linguistlaw8_EditRows_fu3 x.1.1 x.1.2.1 x.1.2.2.1 x.1.2.2.2.1 x.2.1) fun R (x : ((List (Int) × (Int × (Int × (Int × Unit)))) × (List (Int) × Unit))) K => by
  show linguistlaw8_EditRows_m3 K (hide linguistlaw8_EditRows_L3 (linguistlaw8_EditRows_fu3 x.1.1 x.1.2.1 x.1.2.2.1 x.1.2.2.2.1 x.2.1) x.1.1 x.1.2.1 x.1.2.2.1 x.1.2.2.2.1 x.2.1) = _
  rw [hide_eq]
  exact (linguistlaw8_EditRows_l3 K (linguistlaw8_EditRows_fu3 x.1.1 x.1.2.1 x.1.2.2.1 x.1.2.2.2.1 x.2.1) x.1.1 x.1.2.1 x.1.2.2.1 x.1.2.2.2.1 x.2.1).symm
noncomputable def linguistlaw8_EditRows_h3 : LoopF := loopH linguistlaw8_EditRows_s3 0 linguistlaw8_EditRows_G3
noncomputable def linguistlaw8_EditRows_ll1 : LoopT := ((5, 3), linguistlaw8_EditRows_h3) :: ll0
theorem linguistlaw8_EditRows_ll1_ok : AllLoop Try.prog linguistlaw8_EditRows_ll1 := ⟨linguistlaw8_EditRows_H3, ll0_ok⟩
noncomputable def linguistlaw8_EditRows_c11 : Code := ((Try.f5.body.map fun b => loopsAt b 11).getD []).headD .skip
theorem linguistlaw8_EditRows_c11_is : (Try.f5.body.map fun b => loopsAt b 11) = some [linguistlaw8_EditRows_c11] := by kernel_rfl
noncomputable def linguistlaw8_EditRows_s11 : SkSt := ⟨(.gap 1 (.cons (.int .i64) (.cons (.int .i64) (.gap 4 (.cst (.own 0 5 (.one (.int .u8))) (.gap 1 (.cst (.ptr 1 0) (.cst (.ptr 2 0) (.gap 37 (.cst (.own 0 5 (.one (.int .u8))) (.cons (.int .i64) (.cons (.int .i64) (.gap 126 .nil))))))))))))), (.arr 5 (.one (.int .u8)) (.var 23 (.cons (.int .i64) (.cons (.int .i64) (.cons (.int .i64) .nil))) (.var 27 (.cons (.int .i64) (.cons (.int .i64) (.cons (.list (.cons (.int .i32) (.cons (.int .i64) (.cons (.int .i64) (.cons (.int .i64) (.one (.int .i64))))))) .nil))) .nil)))⟩
noncomputable def linguistlaw8_EditRows_x11_0 : SkSt := ⟨(.gap 1 (.cons (.int .i64) (.cons (.int .i64) (.gap 4 (.cst (.own 0 5 (.one (.int .u8))) (.gap 1 (.cst (.ptr 1 0) (.cst (.ptr 2 0) (.gap 166 .nil))))))))), (.arr 5 (.one (.int .u8)) (.var 23 (.cons (.int .i64) (.cons (.int .i64) (.cons (.int .i64) .nil))) (.var 27 (.cons (.int .i64) (.cons (.int .i64) (.cons (.list (.cons (.int .i32) (.cons (.int .i64) (.cons (.int .i64) (.cons (.int .i64) (.one (.int .i64))))))) .nil))) .nil)))⟩
noncomputable def linguistlaw8_EditRows_xs11 : List (Ex × SkSt) := [(.exit 2, linguistlaw8_EditRows_x11_0)]
noncomputable def linguistlaw8_EditRows_L11 : Nat → Int → Int → Int → Int → List (Int) → Int → Int → Int → Int → Int → List (Int × Int × Int × Int × Int) → Option (Int × Int × (List (Int)) × Int × Int × Int × Int × Int × (List (Int × Int × Int × Int × Int)))
  | 0, _, _, _, _, _, _, _, _, _, _, _ => none
  | n + 1, a0, a1, a2, a3, a4, a5, a6, a7, a8, a9, a10 => (bif (decide (a3 < a2)) then (bif (decide ((0 : Int) ≤ a3) && decide (a3 < Int.ofNat a4.length) && true) then (optK ((hide grid_Put_F a8 a9 a10 (0 : Int) a3 (IntKind.i32.wrap (a4.getD a3.toNat (0 : Int))) a5 a6 a7)) fun y5 => (linguistlaw8_EditRows_L11 n a0 a1 a2 (IntKind.i64.wrap (a3 + (1 : Int))) a4 a5 a6 a7 (y5.1) (y5.2.1) (y5.2.2))) else none) else (some (a0, a1, a4, a5, a6, a7, a8, a9, a10)))
noncomputable def linguistlaw8_EditRows_I11 {R : Type} (K : Ex → St → Option R) : Nat → St → Option R := iterN (exec (envL linguistlaw8_EditRows_su linguistlaw8_EditRows_ll1 cs0 (fun _ _ => false)) 5 (acall (envL linguistlaw8_EditRows_su linguistlaw8_EditRows_ll1 cs0 (fun _ _ => false)) 1000) 0 linguistlaw8_EditRows_c11) (normTo linguistlaw8_EditRows_s11 0) (exitK linguistlaw8_EditRows_xs11 0 K)
noncomputable def linguistlaw8_EditRows_m11 {R : Type} (K : Ex → St → Option R) (o : Option (Int × Int × (List (Int)) × Int × Int × Int × Int × Int × (List (Int × Int × Int × Int × Int)))) : Option R := optK o fun y => K (.exit 2) (linguistlaw8_EditRows_x11_0.enc ((y.1, (y.2.1, ())), (y.2.2.1, ((y.2.2.2.1, (y.2.2.2.2.1, (y.2.2.2.2.2.1, ()))), ((y.2.2.2.2.2.2.1, (y.2.2.2.2.2.2.2.1, (y.2.2.2.2.2.2.2.2, ()))), ())))))
theorem linguistlaw8_EditRows_l11 {R : Type} (K : Ex → St → Option R) : ∀ (n : Nat), ∀ (a0 : Int) (a1 : Int) (a2 : Int) (a3 : Int) (a4 : List (Int)) (a5 : Int) (a6 : Int) (a7 : Int) (a8 : Int) (a9 : Int) (a10 : List (Int × Int × Int × Int × Int)), linguistlaw8_EditRows_I11 K n (linguistlaw8_EditRows_s11.enc ((a0, (a1, (a2, (a3, ())))), (a4, ((a5, (a6, (a7, ()))), ((a8, (a9, (a10, ()))), ()))))) = linguistlaw8_EditRows_m11 K (linguistlaw8_EditRows_L11 n a0 a1 a2 a3 a4 a5 a6 a7 a8 a9 a10) := by
  intro n
  induction n with
  | zero => intros; rfl
  | succ n ih =>
    intro a0 a1 a2 a3 a4 a5 a6 a7 a8 a9 a10
    rw [linguistlaw8_EditRows_L11]
    exact Eq.trans (by kernel_rfl) (cond_push (linguistlaw8_EditRows_m11 K) _ (cond_push (linguistlaw8_EditRows_m11 K) _ (optK_push (linguistlaw8_EditRows_m11 K) rfl _ fun y5 => (ih a0 a1 a2 (IntKind.i64.wrap (a3 + (1 : Int))) a4 a5 a6 a7 (y5.1) (y5.2.1) (y5.2.2))) rfl) rfl)
def linguistlaw8_EditRows_fu11 (a0 : Int) (a1 : Int) (a2 : Int) (a3 : Int) (a4 : List (Int)) (a5 : Int) (a6 : Int) (a7 : Int) (a8 : Int) (a9 : Int) (a10 : List (Int × Int × Int × Int × Int)) : Nat := Int.natAbs a0 + Int.natAbs a1 + Int.natAbs a2 + Int.natAbs a3 + List.length a4 + Int.natAbs a5 + Int.natAbs a6 + Int.natAbs a7 + Int.natAbs a8 + Int.natAbs a9 + List.length a10 + 5000
noncomputable def linguistlaw8_EditRows_G11 : GoL linguistlaw8_EditRows_s11 := fun R (x : ((Int × (Int × (Int × (Int × Unit)))) × (List (Int) × ((Int × (Int × (Int × Unit))) × ((Int × (Int × (List (Int × Int × Int × Int × Int) × Unit))) × Unit))))) K => linguistlaw8_EditRows_m11 K (hide linguistlaw8_EditRows_L11 (linguistlaw8_EditRows_fu11 x.1.1 x.1.2.1 x.1.2.2.1 x.1.2.2.2.1 x.2.1 x.2.2.1.1 x.2.2.1.2.1 x.2.2.1.2.2.1 x.2.2.2.1.1 x.2.2.2.1.2.1 x.2.2.2.1.2.2.1) x.1.1 x.1.2.1 x.1.2.2.1 x.1.2.2.2.1 x.2.1 x.2.2.1.1 x.2.2.1.2.1 x.2.2.1.2.2.1 x.2.2.2.1.1 x.2.2.2.1.2.1 x.2.2.2.1.2.2.1)
theorem linguistlaw8_EditRows_H11 : LoopOk Try.prog 5 11 (loopH linguistlaw8_EditRows_s11 0 linguistlaw8_EditRows_G11) := loop_known (envL_ok linguistlaw8_EditRows_su_ok linguistlaw8_EditRows_ll1_ok cs0_ok) Try.func5 rfl linguistlaw8_EditRows_c11_is (xs := linguistlaw8_EditRows_xs11) (fuel := fun (x : ((Int × (Int × (Int × (Int × Unit)))) × (List (Int) × ((Int × (Int × (Int × Unit))) × ((Int × (Int × (List (Int × Int × Int × Int × Int) × Unit))) × Unit))))) => linguistlaw8_EditRows_fu11 x.1.1 x.1.2.1 x.1.2.2.1 x.1.2.2.2.1 x.2.1 x.2.2.1.1 x.2.2.1.2.1 x.2.2.1.2.2.1 x.2.2.2.1.1 x.2.2.2.1.2.1 x.2.2.2.1.2.2.1) fun R (x : ((Int × (Int × (Int × (Int × Unit)))) × (List (Int) × ((Int × (Int × (Int × Unit))) × ((Int × (Int × (List (Int × Int × Int × Int × Int) × Unit))) × Unit))))) K => by
  show linguistlaw8_EditRows_m11 K (hide linguistlaw8_EditRows_L11 (linguistlaw8_EditRows_fu11 x.1.1 x.1.2.1 x.1.2.2.1 x.1.2.2.2.1 x.2.1 x.2.2.1.1 x.2.2.1.2.1 x.2.2.1.2.2.1 x.2.2.2.1.1 x.2.2.2.1.2.1 x.2.2.2.1.2.2.1) x.1.1 x.1.2.1 x.1.2.2.1 x.1.2.2.2.1 x.2.1 x.2.2.1.1 x.2.2.1.2.1 x.2.2.1.2.2.1 x.2.2.2.1.1 x.2.2.2.1.2.1 x.2.2.2.1.2.2.1) = _
  rw [hide_eq]
  exact (linguistlaw8_EditRows_l11 K (linguistlaw8_EditRows_fu11 x.1.1 x.1.2.1 x.1.2.2.1 x.1.2.2.2.1 x.2.1 x.2.2.1.1 x.2.2.1.2.1 x.2.2.1.2.2.1 x.2.2.2.1.1 x.2.2.2.1.2.1 x.2.2.2.1.2.2.1) x.1.1 x.1.2.1 x.1.2.2.1 x.1.2.2.2.1 x.2.1 x.2.2.1.1 x.2.2.1.2.1 x.2.2.1.2.2.1 x.2.2.2.1.1 x.2.2.2.1.2.1 x.2.2.2.1.2.2.1).symm
noncomputable def linguistlaw8_EditRows_h11 : LoopF := loopH linguistlaw8_EditRows_s11 0 linguistlaw8_EditRows_G11
noncomputable def linguistlaw8_EditRows_ll2 : LoopT := ((5, 11), linguistlaw8_EditRows_h11) :: linguistlaw8_EditRows_ll1
theorem linguistlaw8_EditRows_ll2_ok : AllLoop Try.prog linguistlaw8_EditRows_ll2 := ⟨linguistlaw8_EditRows_H11, linguistlaw8_EditRows_ll1_ok⟩
noncomputable def linguistlaw8_EditRows_c18 : Code := ((Try.f5.body.map fun b => loopsAt b 18).getD []).headD .skip
theorem linguistlaw8_EditRows_c18_is : (Try.f5.body.map fun b => loopsAt b 18) = some [linguistlaw8_EditRows_c18] := by kernel_rfl
noncomputable def linguistlaw8_EditRows_s18 : SkSt := ⟨(.gap 7 (.cst (.own 0 5 (.one (.int .u8))) (.gap 1 (.cst (.ptr 1 0) (.cst (.ptr 2 0) (.gap 2 (.cons (.int .i64) (.cons (.int .i64) (.cst (.own 3 5 (.one (.int .u8))) (.gap 56 (.cons (.int .i64) (.cons (.int .i64) (.gap 103 .nil))))))))))))), (.arr 5 (.one (.int .u8)) (.var 23 (.cons (.int .i64) (.cons (.int .i64) (.cons (.int .i64) .nil))) (.var 27 (.cons (.int .i64) (.cons (.int .i64) (.cons (.list (.cons (.int .i32) (.cons (.int .i64) (.cons (.int .i64) (.cons (.int .i64) (.one (.int .i64))))))) .nil))) (.arr 5 (.one (.int .u8)) .nil))))⟩
noncomputable def linguistlaw8_EditRows_x18_0 : SkSt := ⟨(.gap 7 (.cst (.own 0 5 (.one (.int .u8))) (.gap 1 (.cst (.ptr 1 0) (.cst (.ptr 2 0) (.gap 2 (.cons (.int .i64) (.cons (.int .i64) (.cst (.own 3 5 (.one (.int .u8))) (.gap 161 .nil)))))))))), (.arr 5 (.one (.int .u8)) (.var 23 (.cons (.int .i64) (.cons (.int .i64) (.cons (.int .i64) .nil))) (.var 27 (.cons (.int .i64) (.cons (.int .i64) (.cons (.list (.cons (.int .i32) (.cons (.int .i64) (.cons (.int .i64) (.cons (.int .i64) (.one (.int .i64))))))) .nil))) (.arr 5 (.one (.int .u8)) .nil))))⟩
noncomputable def linguistlaw8_EditRows_xs18 : List (Ex × SkSt) := [(.exit 4, linguistlaw8_EditRows_x18_0)]
noncomputable def linguistlaw8_EditRows_L18 : Nat → Int → Int → Int → Int → List (Int) → Int → Int → Int → Int → Int → List (Int × Int × Int × Int × Int) → List (Int) → Option (Int × Int × (List (Int)) × Int × Int × Int × Int × Int × (List (Int × Int × Int × Int × Int)) × (List (Int)))
  | 0, _, _, _, _, _, _, _, _, _, _, _, _ => none
  | n + 1, a0, a1, a2, a3, a4, a5, a6, a7, a8, a9, a10, a11 => (bif (decide (a3 < a2)) then (bif (true && ((a11.length + (1 : Nat)).ble (274877906944 : Nat) && true)) then (linguistlaw8_EditRows_L18 n a0 a1 a2 (IntKind.i64.wrap (a3 + (1 : Int))) a4 a5 a6 a7 a8 a9 a10 (a11 ++ [(32 : Int)])) else none) else (some (a0, a1, a4, a5, a6, a7, a8, a9, a10, a11)))
noncomputable def linguistlaw8_EditRows_I18 {R : Type} (K : Ex → St → Option R) : Nat → St → Option R := iterN (exec (envL linguistlaw8_EditRows_su linguistlaw8_EditRows_ll2 cs0 (fun _ _ => false)) 5 (acall (envL linguistlaw8_EditRows_su linguistlaw8_EditRows_ll2 cs0 (fun _ _ => false)) 1000) 0 linguistlaw8_EditRows_c18) (normTo linguistlaw8_EditRows_s18 0) (exitK linguistlaw8_EditRows_xs18 0 K)
noncomputable def linguistlaw8_EditRows_m18 {R : Type} (K : Ex → St → Option R) (o : Option (Int × Int × (List (Int)) × Int × Int × Int × Int × Int × (List (Int × Int × Int × Int × Int)) × (List (Int)))) : Option R := optK o fun y => K (.exit 4) (linguistlaw8_EditRows_x18_0.enc ((y.1, (y.2.1, ())), (y.2.2.1, ((y.2.2.2.1, (y.2.2.2.2.1, (y.2.2.2.2.2.1, ()))), ((y.2.2.2.2.2.2.1, (y.2.2.2.2.2.2.2.1, (y.2.2.2.2.2.2.2.2.1, ()))), (y.2.2.2.2.2.2.2.2.2, ()))))))
theorem linguistlaw8_EditRows_l18 {R : Type} (K : Ex → St → Option R) : ∀ (n : Nat), ∀ (a0 : Int) (a1 : Int) (a2 : Int) (a3 : Int) (a4 : List (Int)) (a5 : Int) (a6 : Int) (a7 : Int) (a8 : Int) (a9 : Int) (a10 : List (Int × Int × Int × Int × Int)) (a11 : List (Int)), linguistlaw8_EditRows_I18 K n (linguistlaw8_EditRows_s18.enc ((a0, (a1, (a2, (a3, ())))), (a4, ((a5, (a6, (a7, ()))), ((a8, (a9, (a10, ()))), (a11, ())))))) = linguistlaw8_EditRows_m18 K (linguistlaw8_EditRows_L18 n a0 a1 a2 a3 a4 a5 a6 a7 a8 a9 a10 a11) := by
  intro n
  induction n with
  | zero => intros; rfl
  | succ n ih =>
    intro a0 a1 a2 a3 a4 a5 a6 a7 a8 a9 a10 a11
    rw [linguistlaw8_EditRows_L18]
    exact Eq.trans (by kernel_rfl) (cond_push (linguistlaw8_EditRows_m18 K) _ (cond_push (linguistlaw8_EditRows_m18 K) _ (ih a0 a1 a2 (IntKind.i64.wrap (a3 + (1 : Int))) a4 a5 a6 a7 a8 a9 a10 (a11 ++ [(32 : Int)])) rfl) rfl)
def linguistlaw8_EditRows_fu18 (a0 : Int) (a1 : Int) (a2 : Int) (a3 : Int) (a4 : List (Int)) (a5 : Int) (a6 : Int) (a7 : Int) (a8 : Int) (a9 : Int) (a10 : List (Int × Int × Int × Int × Int)) (a11 : List (Int)) : Nat := Int.natAbs a0 + Int.natAbs a1 + Int.natAbs a2 + Int.natAbs a3 + List.length a4 + Int.natAbs a5 + Int.natAbs a6 + Int.natAbs a7 + Int.natAbs a8 + Int.natAbs a9 + List.length a10 + List.length a11 + 5000
noncomputable def linguistlaw8_EditRows_G18 : GoL linguistlaw8_EditRows_s18 := fun R (x : ((Int × (Int × (Int × (Int × Unit)))) × (List (Int) × ((Int × (Int × (Int × Unit))) × ((Int × (Int × (List (Int × Int × Int × Int × Int) × Unit))) × (List (Int) × Unit)))))) K => linguistlaw8_EditRows_m18 K (hide linguistlaw8_EditRows_L18 (linguistlaw8_EditRows_fu18 x.1.1 x.1.2.1 x.1.2.2.1 x.1.2.2.2.1 x.2.1 x.2.2.1.1 x.2.2.1.2.1 x.2.2.1.2.2.1 x.2.2.2.1.1 x.2.2.2.1.2.1 x.2.2.2.1.2.2.1 x.2.2.2.2.1) x.1.1 x.1.2.1 x.1.2.2.1 x.1.2.2.2.1 x.2.1 x.2.2.1.1 x.2.2.1.2.1 x.2.2.1.2.2.1 x.2.2.2.1.1 x.2.2.2.1.2.1 x.2.2.2.1.2.2.1 x.2.2.2.2.1)
theorem linguistlaw8_EditRows_H18 : LoopOk Try.prog 5 18 (loopH linguistlaw8_EditRows_s18 0 linguistlaw8_EditRows_G18) := loop_known (envL_ok linguistlaw8_EditRows_su_ok linguistlaw8_EditRows_ll2_ok cs0_ok) Try.func5 rfl linguistlaw8_EditRows_c18_is (xs := linguistlaw8_EditRows_xs18) (fuel := fun (x : ((Int × (Int × (Int × (Int × Unit)))) × (List (Int) × ((Int × (Int × (Int × Unit))) × ((Int × (Int × (List (Int × Int × Int × Int × Int) × Unit))) × (List (Int) × Unit)))))) => linguistlaw8_EditRows_fu18 x.1.1 x.1.2.1 x.1.2.2.1 x.1.2.2.2.1 x.2.1 x.2.2.1.1 x.2.2.1.2.1 x.2.2.1.2.2.1 x.2.2.2.1.1 x.2.2.2.1.2.1 x.2.2.2.1.2.2.1 x.2.2.2.2.1) fun R (x : ((Int × (Int × (Int × (Int × Unit)))) × (List (Int) × ((Int × (Int × (Int × Unit))) × ((Int × (Int × (List (Int × Int × Int × Int × Int) × Unit))) × (List (Int) × Unit)))))) K => by
  show linguistlaw8_EditRows_m18 K (hide linguistlaw8_EditRows_L18 (linguistlaw8_EditRows_fu18 x.1.1 x.1.2.1 x.1.2.2.1 x.1.2.2.2.1 x.2.1 x.2.2.1.1 x.2.2.1.2.1 x.2.2.1.2.2.1 x.2.2.2.1.1 x.2.2.2.1.2.1 x.2.2.2.1.2.2.1 x.2.2.2.2.1) x.1.1 x.1.2.1 x.1.2.2.1 x.1.2.2.2.1 x.2.1 x.2.2.1.1 x.2.2.1.2.1 x.2.2.1.2.2.1 x.2.2.2.1.1 x.2.2.2.1.2.1 x.2.2.2.1.2.2.1 x.2.2.2.2.1) = _
  rw [hide_eq]
  exact (linguistlaw8_EditRows_l18 K (linguistlaw8_EditRows_fu18 x.1.1 x.1.2.1 x.1.2.2.1 x.1.2.2.2.1 x.2.1 x.2.2.1.1 x.2.2.1.2.1 x.2.2.1.2.2.1 x.2.2.2.1.1 x.2.2.2.1.2.1 x.2.2.2.1.2.2.1 x.2.2.2.2.1) x.1.1 x.1.2.1 x.1.2.2.1 x.1.2.2.2.1 x.2.1 x.2.2.1.1 x.2.2.1.2.1 x.2.2.1.2.2.1 x.2.2.2.1.1 x.2.2.2.1.2.1 x.2.2.2.1.2.2.1 x.2.2.2.2.1).symm
noncomputable def linguistlaw8_EditRows_h18 : LoopF := loopH linguistlaw8_EditRows_s18 0 linguistlaw8_EditRows_G18
noncomputable def linguistlaw8_EditRows_ll3 : LoopT := ((5, 18), linguistlaw8_EditRows_h18) :: linguistlaw8_EditRows_ll2
theorem linguistlaw8_EditRows_ll3_ok : AllLoop Try.prog linguistlaw8_EditRows_ll3 := ⟨linguistlaw8_EditRows_H18, linguistlaw8_EditRows_ll2_ok⟩
noncomputable def linguistlaw8_EditRows_F (x0 : List (Int)) (x1 : Int) (x2 : Int) : Option (Bool) := (optK (hide linguistlaw8_EditRows_L3 (linguistlaw8_EditRows_fu3 x0 x1 x2 (0 : Int) ([])) x0 x1 x2 (0 : Int) ([])) fun y2 => (bif (Int.ofNat y2.2.2.length == (0 : Int)) then (some (true)) else (optK ((hide grid_New_F (1 : Int) (Int.ofNat y2.2.2.length) (-1 : Int) (-1 : Int) (0 : Int))) fun y3 => (optK (hide linguistlaw8_EditRows_L11 (linguistlaw8_EditRows_fu11 (y2.1) (y2.2.1) (Int.ofNat y2.2.2.length) (0 : Int) (y2.2.2) ((-1 : Int)) ((-1 : Int)) (0 : Int) (y3.1) (y3.2.1) (y3.2.2)) (y2.1) (y2.2.1) (Int.ofNat y2.2.2.length) (0 : Int) (y2.2.2) ((-1 : Int)) ((-1 : Int)) (0 : Int) (y3.1) (y3.2.1) (y3.2.2)) fun y6 => (optK ((hide linguistbook_Within_F y6.1 (0 : Int) (IntKind.i64.wrap (Int.ofNat y6.2.2.1.length - (1 : Int))))) fun y7 => (optK ((hide linguistbook_Within_F y6.2.1 (0 : Int) (IntKind.i64.wrap (Int.ofNat y6.2.2.1.length - (1 : Int))))) fun y8 => (optK (hide linguistlaw8_EditRows_L18 (linguistlaw8_EditRows_fu18 y7 y8 y8 (0 : Int) (y6.2.2.1) (y6.2.2.2.1) (y6.2.2.2.2.1) (y6.2.2.2.2.2.1) (y6.2.2.2.2.2.2.1) (y6.2.2.2.2.2.2.2.1) (y6.2.2.2.2.2.2.2.2) ([])) y7 y8 y8 (0 : Int) (y6.2.2.1) (y6.2.2.2.1) (y6.2.2.2.2.1) (y6.2.2.2.2.2.1) (y6.2.2.2.2.2.2.1) (y6.2.2.2.2.2.2.2.1) (y6.2.2.2.2.2.2.2.2) ([])) fun y9 => (bif (bnds none (some y9.1) y9.2.2.1.length) then (bif ((List.take (((some y9.1).getD (Int.ofNat y9.2.2.1.length)).toNat - (0 : Nat)) (List.drop (0 : Nat) y9.2.2.1)).length.ble (274877906944 : Nat) && true) then (bif (true && (((List.take (((some y9.1).getD (Int.ofNat y9.2.2.1.length)).toNat - (0 : Nat)) (List.drop (0 : Nat) y9.2.2.1)).length + y9.2.2.2.2.2.2.2.2.2.length).ble (274877906944 : Nat) && true)) then (bif (bnds (some y9.1) none y9.2.2.1.length) then (bif (true && (((List.take (((some y9.1).getD (Int.ofNat y9.2.2.1.length)).toNat - (0 : Nat)) (List.drop (0 : Nat) y9.2.2.1) ++ y9.2.2.2.2.2.2.2.2.2).length + (List.take ((none.getD (Int.ofNat y9.2.2.1.length)).toNat - ((some y9.1).getD (0 : Int)).toNat) (List.drop ((some y9.1).getD (0 : Int)).toNat y9.2.2.1)).length).ble (274877906944 : Nat) && true)) then (bif (bnds none (some (Int.ofNat y9.2.2.1.length)) (List.take (((some y9.1).getD (Int.ofNat y9.2.2.1.length)).toNat - (0 : Nat)) (List.drop (0 : Nat) y9.2.2.1) ++ y9.2.2.2.2.2.2.2.2.2 ++ List.take ((none.getD (Int.ofNat y9.2.2.1.length)).toNat - ((some y9.1).getD (0 : Int)).toNat) (List.drop ((some y9.1).getD (0 : Int)).toNat y9.2.2.1)).length) then (bif (bnds none (some y9.1) y9.2.2.1.length) then (bif ((List.take (((some y9.1).getD (Int.ofNat y9.2.2.1.length)).toNat - (0 : Nat)) (List.drop (0 : Nat) y9.2.2.1)).length.ble (274877906944 : Nat) && true) then (bif (bnds (some (if Int.ofNat y9.2.2.1.length < IntKind.i64.wrap (y9.1 + y9.2.1) then Int.ofNat y9.2.2.1.length else IntKind.i64.wrap (y9.1 + y9.2.1))) none y9.2.2.1.length) then (bif (true && (((List.take (((some y9.1).getD (Int.ofNat y9.2.2.1.length)).toNat - (0 : Nat)) (List.drop (0 : Nat) y9.2.2.1)).length + (List.take ((none.getD (Int.ofNat y9.2.2.1.length)).toNat - ((some (if Int.ofNat y9.2.2.1.length < IntKind.i64.wrap (y9.1 + y9.2.1) then Int.ofNat y9.2.2.1.length else IntKind.i64.wrap (y9.1 + y9.2.1))).getD (0 : Int)).toNat) (List.drop ((some (if Int.ofNat y9.2.2.1.length < IntKind.i64.wrap (y9.1 + y9.2.1) then Int.ofNat y9.2.2.1.length else IntKind.i64.wrap (y9.1 + y9.2.1))).getD (0 : Int)).toNat y9.2.2.1)).length).ble (274877906944 : Nat) && true)) then (bif (true && (((List.take (((some y9.1).getD (Int.ofNat y9.2.2.1.length)).toNat - (0 : Nat)) (List.drop (0 : Nat) y9.2.2.1) ++ List.take ((none.getD (Int.ofNat y9.2.2.1.length)).toNat - ((some (if Int.ofNat y9.2.2.1.length < IntKind.i64.wrap (y9.1 + y9.2.1) then Int.ofNat y9.2.2.1.length else IntKind.i64.wrap (y9.1 + y9.2.1))).getD (0 : Int)).toNat) (List.drop ((some (if Int.ofNat y9.2.2.1.length < IntKind.i64.wrap (y9.1 + y9.2.1) then Int.ofNat y9.2.2.1.length else IntKind.i64.wrap (y9.1 + y9.2.1))).getD (0 : Int)).toNat y9.2.2.1)).length + y9.2.2.2.2.2.2.2.2.2.length).ble (274877906944 : Nat) && true)) then (bif (bnds none (some (Int.ofNat y9.2.2.1.length)) (List.take (((some y9.1).getD (Int.ofNat y9.2.2.1.length)).toNat - (0 : Nat)) (List.drop (0 : Nat) y9.2.2.1) ++ List.take ((none.getD (Int.ofNat y9.2.2.1.length)).toNat - ((some (if Int.ofNat y9.2.2.1.length < IntKind.i64.wrap (y9.1 + y9.2.1) then Int.ofNat y9.2.2.1.length else IntKind.i64.wrap (y9.1 + y9.2.1))).getD (0 : Int)).toNat) (List.drop ((some (if Int.ofNat y9.2.2.1.length < IntKind.i64.wrap (y9.1 + y9.2.1) then Int.ofNat y9.2.2.1.length else IntKind.i64.wrap (y9.1 + y9.2.1))).getD (0 : Int)).toNat y9.2.2.1) ++ y9.2.2.2.2.2.2.2.2.2).length) then (optK ((hide edit_Line_F y9.2.2.2.2.2.2.1 y9.2.2.2.2.2.2.2.1 y9.2.2.2.2.2.2.2.2.1 (0 : Int) y9.1 (0 : Int) y9.2.2.2.1 y9.2.2.2.2.1 y9.2.2.2.2.2.1)) fun y10 => (optK ((hide edit_Line_F y10.1 y10.2.1 y10.2.2 (0 : Int) y9.1 (1 : Int) y9.2.2.2.1 y9.2.2.2.2.1 y9.2.2.2.2.2.1)) fun y11 => (optK ((hide edit_Insert_F y9.2.2.2.2.2.2.1 y9.2.2.2.2.2.2.2.1 y9.2.2.2.2.2.2.2.2.1 (0 : Int) y9.1 y9.2.1 y9.2.2.2.1 y9.2.2.2.2.1 y9.2.2.2.2.2.1)) fun y12 => (optK ((hide grid_Text_F y12.1 y12.2.1 y12.2.2 (0 : Int))) fun y13 => (bif (y13 == List.take (((some (Int.ofNat y9.2.2.1.length)).getD (Int.ofNat (List.take (((some y9.1).getD (Int.ofNat y9.2.2.1.length)).toNat - (0 : Nat)) (List.drop (0 : Nat) y9.2.2.1) ++ y9.2.2.2.2.2.2.2.2.2 ++ List.take ((none.getD (Int.ofNat y9.2.2.1.length)).toNat - ((some y9.1).getD (0 : Int)).toNat) (List.drop ((some y9.1).getD (0 : Int)).toNat y9.2.2.1)).length)).toNat - (0 : Nat)) (List.drop (0 : Nat) (List.take (((some y9.1).getD (Int.ofNat y9.2.2.1.length)).toNat - (0 : Nat)) (List.drop (0 : Nat) y9.2.2.1) ++ y9.2.2.2.2.2.2.2.2.2 ++ List.take ((none.getD (Int.ofNat y9.2.2.1.length)).toNat - ((some y9.1).getD (0 : Int)).toNat) (List.drop ((some y9.1).getD (0 : Int)).toNat y9.2.2.1)))) then (bif (decide (IntKind.i64.wrap (y9.1 + y9.2.1) > Int.ofNat y9.2.2.1.length)) then (optK ((hide edit_Line_F y9.2.2.2.2.2.2.1 y9.2.2.2.2.2.2.2.1 y9.2.2.2.2.2.2.2.2.1 (0 : Int) y9.1 (2 : Int) y9.2.2.2.1 y9.2.2.2.2.1 y9.2.2.2.2.2.1)) fun y14 => (optK ((hide grid_Same_F y11.1 y11.2.1 y11.2.2 y14.1 y14.2.1 y14.2.2)) fun y15 => (bif y15 then (optK ((hide edit_Line_F y9.2.2.2.2.2.2.1 y9.2.2.2.2.2.2.2.1 y9.2.2.2.2.2.2.2.2.1 (0 : Int) y9.1 (3 : Int) y9.2.2.2.1 y9.2.2.2.2.1 y9.2.2.2.2.2.1)) fun y16 => (optK ((hide grid_Same_F y16.1 y16.2.1 y16.2.2 y9.2.2.2.2.2.2.1 y9.2.2.2.2.2.2.2.1 y9.2.2.2.2.2.2.2.2.1)) fun y17 => (bif y17 then (optK ((hide edit_Erase_F y9.2.2.2.2.2.2.1 y9.2.2.2.2.2.2.2.1 y9.2.2.2.2.2.2.2.2.1 (0 : Int) y9.1 (0 : Int) y9.2.2.2.1 y9.2.2.2.2.1 y9.2.2.2.2.2.1)) fun y18 => (optK ((hide edit_Line_F y9.2.2.2.2.2.2.1 y9.2.2.2.2.2.2.2.1 y9.2.2.2.2.2.2.2.2.1 (0 : Int) y9.1 (0 : Int) y9.2.2.2.1 y9.2.2.2.2.1 y9.2.2.2.2.2.1)) fun y19 => (optK ((hide grid_Same_F y18.1 y18.2.1 y18.2.2 y19.1 y19.2.1 y19.2.2)) fun y20 => (bif y20 then (some (true)) else (some (false)))))) else (some (false))))) else (some (false))))) else (optK ((hide edit_Delete_F y9.2.2.2.2.2.2.1 y9.2.2.2.2.2.2.2.1 y9.2.2.2.2.2.2.2.2.1 (0 : Int) y9.1 y9.2.1 y9.2.2.2.1 y9.2.2.2.2.1 y9.2.2.2.2.2.1)) fun y21 => (optK ((hide grid_Text_F y21.1 y21.2.1 y21.2.2 (0 : Int))) fun y22 => (bif (y22 == List.take (((some (Int.ofNat y9.2.2.1.length)).getD (Int.ofNat (List.take (((some y9.1).getD (Int.ofNat y9.2.2.1.length)).toNat - (0 : Nat)) (List.drop (0 : Nat) y9.2.2.1) ++ List.take ((none.getD (Int.ofNat y9.2.2.1.length)).toNat - ((some (if Int.ofNat y9.2.2.1.length < IntKind.i64.wrap (y9.1 + y9.2.1) then Int.ofNat y9.2.2.1.length else IntKind.i64.wrap (y9.1 + y9.2.1))).getD (0 : Int)).toNat) (List.drop ((some (if Int.ofNat y9.2.2.1.length < IntKind.i64.wrap (y9.1 + y9.2.1) then Int.ofNat y9.2.2.1.length else IntKind.i64.wrap (y9.1 + y9.2.1))).getD (0 : Int)).toNat y9.2.2.1) ++ y9.2.2.2.2.2.2.2.2.2).length)).toNat - (0 : Nat)) (List.drop (0 : Nat) (List.take (((some y9.1).getD (Int.ofNat y9.2.2.1.length)).toNat - (0 : Nat)) (List.drop (0 : Nat) y9.2.2.1) ++ List.take ((none.getD (Int.ofNat y9.2.2.1.length)).toNat - ((some (if Int.ofNat y9.2.2.1.length < IntKind.i64.wrap (y9.1 + y9.2.1) then Int.ofNat y9.2.2.1.length else IntKind.i64.wrap (y9.1 + y9.2.1))).getD (0 : Int)).toNat) (List.drop ((some (if Int.ofNat y9.2.2.1.length < IntKind.i64.wrap (y9.1 + y9.2.1) then Int.ofNat y9.2.2.1.length else IntKind.i64.wrap (y9.1 + y9.2.1))).getD (0 : Int)).toNat y9.2.2.1) ++ y9.2.2.2.2.2.2.2.2.2))) then (optK ((hide edit_Line_F y9.2.2.2.2.2.2.1 y9.2.2.2.2.2.2.2.1 y9.2.2.2.2.2.2.2.2.1 (0 : Int) y9.1 (2 : Int) y9.2.2.2.1 y9.2.2.2.2.1 y9.2.2.2.2.2.1)) fun y23 => (optK ((hide grid_Same_F y11.1 y11.2.1 y11.2.2 y23.1 y23.2.1 y23.2.2)) fun y24 => (bif y24 then (optK ((hide edit_Line_F y9.2.2.2.2.2.2.1 y9.2.2.2.2.2.2.2.1 y9.2.2.2.2.2.2.2.2.1 (0 : Int) y9.1 (3 : Int) y9.2.2.2.1 y9.2.2.2.2.1 y9.2.2.2.2.2.1)) fun y25 => (optK ((hide grid_Same_F y25.1 y25.2.1 y25.2.2 y9.2.2.2.2.2.2.1 y9.2.2.2.2.2.2.2.1 y9.2.2.2.2.2.2.2.2.1)) fun y26 => (bif y26 then (optK ((hide edit_Erase_F y9.2.2.2.2.2.2.1 y9.2.2.2.2.2.2.2.1 y9.2.2.2.2.2.2.2.2.1 (0 : Int) y9.1 (0 : Int) y9.2.2.2.1 y9.2.2.2.2.1 y9.2.2.2.2.2.1)) fun y27 => (optK ((hide edit_Line_F y9.2.2.2.2.2.2.1 y9.2.2.2.2.2.2.2.1 y9.2.2.2.2.2.2.2.2.1 (0 : Int) y9.1 (0 : Int) y9.2.2.2.1 y9.2.2.2.2.1 y9.2.2.2.2.2.1)) fun y28 => (optK ((hide grid_Same_F y27.1 y27.2.1 y27.2.2 y28.1 y28.2.1 y28.2.2)) fun y29 => (bif y29 then (some (true)) else (some (false)))))) else (some (false))))) else (some (false))))) else (some (false)))))) else (some (false))))))) else none) else none) else none) else none) else none) else none) else none) else none) else none) else none) else none) else none))))))))
noncomputable def linguistlaw8_EditRows_A : SkL := (.cons (.list (.one (.int .u8))) (.cons (.int .i64) (.cons (.int .i64) .nil)))
noncomputable def linguistlaw8_EditRows_B : Sk := .bool
def linguistlaw8_EditRows_m {R : Type} (K : Bool → Option R) (o : Option (Bool)) : Option R := optK o fun y => K y
theorem linguistlaw8_EditRows_run {R : Type} (x0 : List (Int)) (x1 : Int) (x2 : Int) (K : Bool → Option R) : acall (envL linguistlaw8_EditRows_su linguistlaw8_EditRows_ll3 cs0 (fun _ _ => false)) 1000 5 (linguistlaw8_EditRows_A.enc (x0, (x1, (x2, ())))) [] (resK linguistlaw8_EditRows_B true K) = linguistlaw8_EditRows_m K (linguistlaw8_EditRows_F x0 x1 x2) := by
  unfold linguistlaw8_EditRows_F
  exact Eq.trans (by kernel_rfl) (optK_push (linguistlaw8_EditRows_m K) rfl _ fun y2 => (cond_push (linguistlaw8_EditRows_m K) _ rfl (optK_push (linguistlaw8_EditRows_m K) rfl _ fun y3 => (optK_push (linguistlaw8_EditRows_m K) rfl _ fun y6 => (optK_push (linguistlaw8_EditRows_m K) rfl _ fun y7 => (optK_push (linguistlaw8_EditRows_m K) rfl _ fun y8 => (optK_push (linguistlaw8_EditRows_m K) rfl _ fun y9 => (cond_push (linguistlaw8_EditRows_m K) _ (cond_push (linguistlaw8_EditRows_m K) _ (cond_push (linguistlaw8_EditRows_m K) _ (cond_push (linguistlaw8_EditRows_m K) _ (cond_push (linguistlaw8_EditRows_m K) _ (cond_push (linguistlaw8_EditRows_m K) _ (cond_push (linguistlaw8_EditRows_m K) _ (cond_push (linguistlaw8_EditRows_m K) _ (cond_push (linguistlaw8_EditRows_m K) _ (cond_push (linguistlaw8_EditRows_m K) _ (cond_push (linguistlaw8_EditRows_m K) _ (cond_push (linguistlaw8_EditRows_m K) _ (optK_push (linguistlaw8_EditRows_m K) rfl _ fun y10 => (optK_push (linguistlaw8_EditRows_m K) rfl _ fun y11 => (optK_push (linguistlaw8_EditRows_m K) rfl _ fun y12 => (optK_push (linguistlaw8_EditRows_m K) rfl _ fun y13 => (cond_push (linguistlaw8_EditRows_m K) _ (cond_push (linguistlaw8_EditRows_m K) _ (optK_push (linguistlaw8_EditRows_m K) rfl _ fun y14 => (optK_push (linguistlaw8_EditRows_m K) rfl _ fun y15 => (cond_push (linguistlaw8_EditRows_m K) _ (optK_push (linguistlaw8_EditRows_m K) rfl _ fun y16 => (optK_push (linguistlaw8_EditRows_m K) rfl _ fun y17 => (cond_push (linguistlaw8_EditRows_m K) _ (optK_push (linguistlaw8_EditRows_m K) rfl _ fun y18 => (optK_push (linguistlaw8_EditRows_m K) rfl _ fun y19 => (optK_push (linguistlaw8_EditRows_m K) rfl _ fun y20 => (cond_push (linguistlaw8_EditRows_m K) _ rfl rfl)))) rfl))) rfl))) (optK_push (linguistlaw8_EditRows_m K) rfl _ fun y21 => (optK_push (linguistlaw8_EditRows_m K) rfl _ fun y22 => (cond_push (linguistlaw8_EditRows_m K) _ (optK_push (linguistlaw8_EditRows_m K) rfl _ fun y23 => (optK_push (linguistlaw8_EditRows_m K) rfl _ fun y24 => (cond_push (linguistlaw8_EditRows_m K) _ (optK_push (linguistlaw8_EditRows_m K) rfl _ fun y25 => (optK_push (linguistlaw8_EditRows_m K) rfl _ fun y26 => (cond_push (linguistlaw8_EditRows_m K) _ (optK_push (linguistlaw8_EditRows_m K) rfl _ fun y27 => (optK_push (linguistlaw8_EditRows_m K) rfl _ fun y28 => (optK_push (linguistlaw8_EditRows_m K) rfl _ fun y29 => (cond_push (linguistlaw8_EditRows_m K) _ rfl rfl)))) rfl))) rfl))) rfl)))) rfl))))) rfl) rfl) rfl) rfl) rfl) rfl) rfl) rfl) rfl) rfl) rfl) rfl))))))))
end Go.Proofs.YtpneolkfeihkhaaAbs
