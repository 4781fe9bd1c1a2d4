/- Texts of this session, joined (bundle2.py): D1, D2, R1, R2, D3, GB1, D4, GK1, WKeysRuns, GC, WKeysRunsC, AbsOpen. -/
import Derived.ProofKit
import Derived.Deep.Slices
import Derived.WideShapes
import Derived.ChangeArms
import Derived.DataReads
import Derived.DataElems
import Derived.OpenShut
import Derived.Test.YtohlmkcljoakfaaDoorBunA3
-- Written by a program of this session (dec.py); Lean checks it.
namespace Go.Proofs.YtohlmkcljoakfaaDoorAbs
open Go Go.Proofs
set_option linter.unusedVariables false
set_option maxHeartbeats 2000000
set_option maxRecDepth 100000
noncomputable def sums0 : SumT := []
theorem sums0_ok : AllSum Tryd.prog sums0 := trivial
noncomputable def ll0 : LoopT := []
theorem ll0_ok : AllLoop Tryd.prog ll0 := trivial
noncomputable def cs0 : LoopT := []
theorem cs0_ok : AllCut Tryd.prog cs0 := trivial
noncomputable def dialect_Right_F (x0 : Int) : Option (Bool) := (bif (decide (x0 ≥ (1 : Int))) then (some (decide (x0 ≤ (3 : Int)))) else (some (false)))
noncomputable def dialect_Right_A : SkL := (.cons (.int .i64) .nil)
noncomputable def dialect_Right_B : Sk := .bool
def dialect_Right_m {R : Type} (K : (Bool → Option R)) (o : Option (Bool)) : Option R := optK o fun y => K y
theorem dialect_Right_run {R : Type} (x0 : Int) (K : (Bool → Option R)) : acall (envL sums0 ll0 cs0 (fun _ _ => false)) 1000 14 (dialect_Right_A.enc (x0, ())) [] (resK dialect_Right_B true K) = dialect_Right_m K (dialect_Right_F x0) := by
  unfold dialect_Right_F
  exact Eq.trans (by kernel_rfl) (cond_push (dialect_Right_m K) _ rfl rfl)
noncomputable def dialect_Right_G : GoF dialect_Right_A dialect_Right_B := fun R (x : (Int × Unit)) K => dialect_Right_m K (hide dialect_Right_F x.1)
theorem dialect_Right_known : Known Tryd.prog 14 dialect_Right_A dialect_Right_B true dialect_Right_G := known_of (envL_ok sums0_ok ll0_ok cs0_ok) (n := 1000) rfl fun R (x : (Int × Unit)) K => by
  show _ = dialect_Right_m K (hide dialect_Right_F x.1)
  rw [hide_eq]
  exact dialect_Right_run x.1 K

noncomputable def keys_Say_b4 : Code := ((Tryd.f9.body.map fun b => tailsAt b 4).getD []).headD .skip
theorem keys_Say_b4_is : (Tryd.f9.body.map fun b => tailsAt b 4) = some [keys_Say_b4] := by kernel_rfl
noncomputable def keys_Say_t4 : SkSt := ⟨(.cons (.int .i64) (.gap 4 (.cons .str (.gap 48 .nil)))), .nil⟩
noncomputable def keys_Say_y4_0 : SkSt := ⟨(.gap 4 (.cons .str (.gap 49 .nil))), .nil⟩
noncomputable def keys_Say_ys4 : List (Ex × SkSt) := [(.ret, keys_Say_y4_0)]
noncomputable def keys_Say_J4 (a0 : Int) (a1 : List Int) : Option ((List Int)) := (bif (decide (a0 ≥ (1 : Int))) then (bif (decide (a0 ≤ (6 : Int))) then (bif (bnds (some (IntKind.i64.wrap (a0 - (1 : Int)))) (some (IntKind.i64.wrap (IntKind.i64.wrap (a0 - (1 : Int)) + (1 : Int)))) (6 : Nat)) then (bif ((a1.length + (cutList [(65 : Int), (66 : Int), (67 : Int), (68 : Int), (72 : Int), (70 : Int)] (some (IntKind.i64.wrap (a0 - (1 : Int)))) (some (IntKind.i64.wrap (IntKind.i64.wrap (a0 - (1 : Int)) + (1 : Int))))).length).ble (274877906944 : Nat)) then (some (a1 ++ cutList [(65 : Int), (66 : Int), (67 : Int), (68 : Int), (72 : Int), (70 : Int)] (some (IntKind.i64.wrap (a0 - (1 : Int)))) (some (IntKind.i64.wrap (IntKind.i64.wrap (a0 - (1 : Int)) + (1 : Int)))))) else none) else none) else (bif (decide (a0 ≥ (7 : Int))) then (bif (decide (a0 ≤ (10 : Int))) then (bif (bnds (some (IntKind.i64.wrap (a0 - (7 : Int)))) (some (IntKind.i64.wrap (IntKind.i64.wrap (a0 - (7 : Int)) + (1 : Int)))) (4 : Nat)) then (bif (((2 : Nat) + (cutList [(50 : Int), (51 : Int), (53 : Int), (54 : Int)] (some (IntKind.i64.wrap (a0 - (7 : Int)))) (some (IntKind.i64.wrap (IntKind.i64.wrap (a0 - (7 : Int)) + (1 : Int))))).length).ble (274877906944 : Nat)) then (bif ((([(27 : Int), (91 : Int)] ++ cutList [(50 : Int), (51 : Int), (53 : Int), (54 : Int)] (some (IntKind.i64.wrap (a0 - (7 : Int)))) (some (IntKind.i64.wrap (IntKind.i64.wrap (a0 - (7 : Int)) + (1 : Int))))).length + (1 : Nat)).ble (274877906944 : Nat)) then (some ([(27 : Int), (91 : Int)] ++ cutList [(50 : Int), (51 : Int), (53 : Int), (54 : Int)] (some (IntKind.i64.wrap (a0 - (7 : Int)))) (some (IntKind.i64.wrap (IntKind.i64.wrap (a0 - (7 : Int)) + (1 : Int)))) ++ [(126 : Int)])) else none) else none) else none) else (bif (decide (a0 ≥ (11 : Int))) then (bif (decide (a0 ≤ (14 : Int))) then (bif (bnds (some (IntKind.i64.wrap (a0 - (11 : Int)))) (some (IntKind.i64.wrap (IntKind.i64.wrap (a0 - (11 : Int)) + (1 : Int)))) (4 : Nat)) then (bif (((2 : Nat) + (cutList [(80 : Int), (81 : Int), (82 : Int), (83 : Int)] (some (IntKind.i64.wrap (a0 - (11 : Int)))) (some (IntKind.i64.wrap (IntKind.i64.wrap (a0 - (11 : Int)) + (1 : Int))))).length).ble (274877906944 : Nat)) then (some ([(27 : Int), (79 : Int)] ++ cutList [(80 : Int), (81 : Int), (82 : Int), (83 : Int)] (some (IntKind.i64.wrap (a0 - (11 : Int)))) (some (IntKind.i64.wrap (IntKind.i64.wrap (a0 - (11 : Int)) + (1 : Int)))))) else none) else none) else (bif (a0 == (15 : Int)) then (some ([(27 : Int), (91 : Int), (49 : Int), (53 : Int), (126 : Int)])) else (some ([])))) else (bif (a0 == (15 : Int)) then (some ([(27 : Int), (91 : Int), (49 : Int), (53 : Int), (126 : Int)])) else (some ([]))))) else (bif (decide (a0 ≥ (11 : Int))) then (bif (decide (a0 ≤ (14 : Int))) then (bif (bnds (some (IntKind.i64.wrap (a0 - (11 : Int)))) (some (IntKind.i64.wrap (IntKind.i64.wrap (a0 - (11 : Int)) + (1 : Int)))) (4 : Nat)) then (bif (((2 : Nat) + (cutList [(80 : Int), (81 : Int), (82 : Int), (83 : Int)] (some (IntKind.i64.wrap (a0 - (11 : Int)))) (some (IntKind.i64.wrap (IntKind.i64.wrap (a0 - (11 : Int)) + (1 : Int))))).length).ble (274877906944 : Nat)) then (some ([(27 : Int), (79 : Int)] ++ cutList [(80 : Int), (81 : Int), (82 : Int), (83 : Int)] (some (IntKind.i64.wrap (a0 - (11 : Int)))) (some (IntKind.i64.wrap (IntKind.i64.wrap (a0 - (11 : Int)) + (1 : Int)))))) else none) else none) else (bif (a0 == (15 : Int)) then (some ([(27 : Int), (91 : Int), (49 : Int), (53 : Int), (126 : Int)])) else (some ([])))) else (bif (a0 == (15 : Int)) then (some ([(27 : Int), (91 : Int), (49 : Int), (53 : Int), (126 : Int)])) else (some ([])))))) else (bif (decide (a0 ≥ (7 : Int))) then (bif (decide (a0 ≤ (10 : Int))) then (bif (bnds (some (IntKind.i64.wrap (a0 - (7 : Int)))) (some (IntKind.i64.wrap (IntKind.i64.wrap (a0 - (7 : Int)) + (1 : Int)))) (4 : Nat)) then (bif (((2 : Nat) + (cutList [(50 : Int), (51 : Int), (53 : Int), (54 : Int)] (some (IntKind.i64.wrap (a0 - (7 : Int)))) (some (IntKind.i64.wrap (IntKind.i64.wrap (a0 - (7 : Int)) + (1 : Int))))).length).ble (274877906944 : Nat)) then (bif ((([(27 : Int), (91 : Int)] ++ cutList [(50 : Int), (51 : Int), (53 : Int), (54 : Int)] (some (IntKind.i64.wrap (a0 - (7 : Int)))) (some (IntKind.i64.wrap (IntKind.i64.wrap (a0 - (7 : Int)) + (1 : Int))))).length + (1 : Nat)).ble (274877906944 : Nat)) then (some ([(27 : Int), (91 : Int)] ++ cutList [(50 : Int), (51 : Int), (53 : Int), (54 : Int)] (some (IntKind.i64.wrap (a0 - (7 : Int)))) (some (IntKind.i64.wrap (IntKind.i64.wrap (a0 - (7 : Int)) + (1 : Int)))) ++ [(126 : Int)])) else none) else none) else none) else (bif (decide (a0 ≥ (11 : Int))) then (bif (decide (a0 ≤ (14 : Int))) then (bif (bnds (some (IntKind.i64.wrap (a0 - (11 : Int)))) (some (IntKind.i64.wrap (IntKind.i64.wrap (a0 - (11 : Int)) + (1 : Int)))) (4 : Nat)) then (bif (((2 : Nat) + (cutList [(80 : Int), (81 : Int), (82 : Int), (83 : Int)] (some (IntKind.i64.wrap (a0 - (11 : Int)))) (some (IntKind.i64.wrap (IntKind.i64.wrap (a0 - (11 : Int)) + (1 : Int))))).length).ble (274877906944 : Nat)) then (some ([(27 : Int), (79 : Int)] ++ cutList [(80 : Int), (81 : Int), (82 : Int), (83 : Int)] (some (IntKind.i64.wrap (a0 - (11 : Int)))) (some (IntKind.i64.wrap (IntKind.i64.wrap (a0 - (11 : Int)) + (1 : Int)))))) else none) else none) else (bif (a0 == (15 : Int)) then (some ([(27 : Int), (91 : Int), (49 : Int), (53 : Int), (126 : Int)])) else (some ([])))) else (bif (a0 == (15 : Int)) then (some ([(27 : Int), (91 : Int), (49 : Int), (53 : Int), (126 : Int)])) else (some ([]))))) else (bif (decide (a0 ≥ (11 : Int))) then (bif (decide (a0 ≤ (14 : Int))) then (bif (bnds (some (IntKind.i64.wrap (a0 - (11 : Int)))) (some (IntKind.i64.wrap (IntKind.i64.wrap (a0 - (11 : Int)) + (1 : Int)))) (4 : Nat)) then (bif (((2 : Nat) + (cutList [(80 : Int), (81 : Int), (82 : Int), (83 : Int)] (some (IntKind.i64.wrap (a0 - (11 : Int)))) (some (IntKind.i64.wrap (IntKind.i64.wrap (a0 - (11 : Int)) + (1 : Int))))).length).ble (274877906944 : Nat)) then (some ([(27 : Int), (79 : Int)] ++ cutList [(80 : Int), (81 : Int), (82 : Int), (83 : Int)] (some (IntKind.i64.wrap (a0 - (11 : Int)))) (some (IntKind.i64.wrap (IntKind.i64.wrap (a0 - (11 : Int)) + (1 : Int)))))) else none) else none) else (bif (a0 == (15 : Int)) then (some ([(27 : Int), (91 : Int), (49 : Int), (53 : Int), (126 : Int)])) else (some ([])))) else (bif (a0 == (15 : Int)) then (some ([(27 : Int), (91 : Int), (49 : Int), (53 : Int), (126 : Int)])) else (some ([]))))))
noncomputable def keys_Say_k4 {R : Type} (K : Ex → St → Option R) (o : Option ((List Int))) : Option R := optK o fun y => K (.ret) (keys_Say_y4_0.enc ((y, ()), ()))
theorem keys_Say_j4 {R : Type} (K : Ex → St → Option R) (a0 : Int) (a1 : List Int) : exec (envL sums0 ll0 cs0 (fun _ _ => false)) 9 (acall (envL sums0 ll0 cs0 (fun _ _ => false)) 1000) 0 keys_Say_b4 (keys_Say_t4.enc ((a0, (a1, ())), ())) (exitK keys_Say_ys4 0 K) = keys_Say_k4 K (keys_Say_J4 a0 a1) := by
    unfold keys_Say_J4
    exact Eq.trans (by kernel_rfl) (cond_push (keys_Say_k4 K) _ (cond_push (keys_Say_k4 K) _ (cond_push (keys_Say_k4 K) _ (cond_push (keys_Say_k4 K) _ rfl rfl) rfl) (cond_push (keys_Say_k4 K) _ (cond_push (keys_Say_k4 K) _ (cond_push (keys_Say_k4 K) _ (cond_push (keys_Say_k4 K) _ (cond_push (keys_Say_k4 K) _ rfl rfl) rfl) rfl) (cond_push (keys_Say_k4 K) _ (cond_push (keys_Say_k4 K) _ (cond_push (keys_Say_k4 K) _ (cond_push (keys_Say_k4 K) _ rfl rfl) rfl) (cond_push (keys_Say_k4 K) _ rfl rfl)) (cond_push (keys_Say_k4 K) _ rfl rfl))) (cond_push (keys_Say_k4 K) _ (cond_push (keys_Say_k4 K) _ (cond_push (keys_Say_k4 K) _ (cond_push (keys_Say_k4 K) _ rfl rfl) rfl) (cond_push (keys_Say_k4 K) _ rfl rfl)) (cond_push (keys_Say_k4 K) _ rfl rfl)))) (cond_push (keys_Say_k4 K) _ (cond_push (keys_Say_k4 K) _ (cond_push (keys_Say_k4 K) _ (cond_push (keys_Say_k4 K) _ (cond_push (keys_Say_k4 K) _ rfl rfl) rfl) rfl) (cond_push (keys_Say_k4 K) _ (cond_push (keys_Say_k4 K) _ (cond_push (keys_Say_k4 K) _ (cond_push (keys_Say_k4 K) _ rfl rfl) rfl) (cond_push (keys_Say_k4 K) _ rfl rfl)) (cond_push (keys_Say_k4 K) _ rfl rfl))) (cond_push (keys_Say_k4 K) _ (cond_push (keys_Say_k4 K) _ (cond_push (keys_Say_k4 K) _ (cond_push (keys_Say_k4 K) _ rfl rfl) rfl) (cond_push (keys_Say_k4 K) _ rfl rfl)) (cond_push (keys_Say_k4 K) _ rfl rfl))))
noncomputable def keys_Say_D4 : GoL keys_Say_t4 := fun R (x : ((Int × (List Int × Unit)) × Unit)) K => keys_Say_k4 K (hide keys_Say_J4 x.1.1 x.1.2.1)
theorem keys_Say_C4 : CutOk Tryd.prog 9 4 (loopH keys_Say_t4 0 keys_Say_D4) := cut_known (envL_ok sums0_ok ll0_ok cs0_ok) (N := 1000) Tryd.func9 rfl keys_Say_b4_is (xs := keys_Say_ys4) fun R (x : ((Int × (List Int × Unit)) × Unit)) K => by
  show keys_Say_k4 K (hide keys_Say_J4 x.1.1 x.1.2.1) = _
  rw [hide_eq]
  exact (keys_Say_j4 K x.1.1 x.1.2.1).symm
noncomputable def keys_Say_d4 : LoopF := loopH keys_Say_t4 0 keys_Say_D4
noncomputable def keys_Say_cs1 : LoopT := ((9, 4), keys_Say_d4) :: cs0
theorem keys_Say_cs1_ok : AllCut Tryd.prog keys_Say_cs1 := ⟨keys_Say_C4, cs0_ok⟩
noncomputable def keys_Say_F (x0 : Int) (x1 : Bool) : Option ((List Int)) := (bif x1 then (optK (hide keys_Say_J4 x0 ([(27 : Int), (79 : Int)])) fun y0 => (some y0)) else (optK (hide keys_Say_J4 x0 ([(27 : Int), (91 : Int)])) fun y1 => (some y1)))
noncomputable def keys_Say_A : SkL := (.cons (.int .i64) (.cons .bool .nil))
noncomputable def keys_Say_B : Sk := .str
def keys_Say_m {R : Type} (K : (List Int → Option R)) (o : Option ((List Int))) : Option R := optK o fun y => K y
theorem keys_Say_run {R : Type} (x0 : Int) (x1 : Bool) (K : (List Int → Option R)) : acall (envL sums0 ll0 keys_Say_cs1 (fun _ _ => false)) 1000 9 (keys_Say_A.enc (x0, (x1, ()))) [] (resK keys_Say_B true K) = keys_Say_m K (keys_Say_F x0 x1) := by
  unfold keys_Say_F
  exact Eq.trans (by kernel_rfl) (cond_push (keys_Say_m K) _ (optK_push (keys_Say_m K) rfl _ fun y0 => rfl) (optK_push (keys_Say_m K) rfl _ fun y1 => rfl))
noncomputable def keys_Say_G : GoF keys_Say_A keys_Say_B := fun R (x : (Int × (Bool × Unit))) K => keys_Say_m K (hide keys_Say_F x.1 x.2.1)
theorem keys_Say_known : Known Tryd.prog 9 keys_Say_A keys_Say_B true keys_Say_G := known_of (envL_ok sums0_ok ll0_ok keys_Say_cs1_ok) (n := 1000) rfl fun R (x : (Int × (Bool × Unit))) K => by
  show _ = keys_Say_m K (hide keys_Say_F x.1 x.2.1)
  rw [hide_eq]
  exact keys_Say_run x.1 x.2.1 K

noncomputable def internal_stringslite_HasPrefix_F (x0 : List Int) (x1 : List Int) : Option (Bool) := (bif (decide (Int.ofNat x0.length ≥ Int.ofNat x1.length)) then (bif (bnds none (some (Int.ofNat x1.length)) x0.length) then (some (cutList x0 none (some (Int.ofNat x1.length)) == x1)) else none) else (some (false)))
noncomputable def internal_stringslite_HasPrefix_A : SkL := (.cons .str (.cons .str .nil))
noncomputable def internal_stringslite_HasPrefix_B : Sk := .bool
def internal_stringslite_HasPrefix_m {R : Type} (K : (Bool → Option R)) (o : Option (Bool)) : Option R := optK o fun y => K y
theorem internal_stringslite_HasPrefix_run {R : Type} (x0 : List Int) (x1 : List Int) (K : (Bool → Option R)) : acall (envL sums0 ll0 cs0 (fun _ _ => false)) 1000 19 (internal_stringslite_HasPrefix_A.enc (x0, (x1, ()))) [] (resK internal_stringslite_HasPrefix_B true K) = internal_stringslite_HasPrefix_m K (internal_stringslite_HasPrefix_F x0 x1) := by
  unfold internal_stringslite_HasPrefix_F
  exact Eq.trans (by kernel_rfl) (cond_push (internal_stringslite_HasPrefix_m K) _ (cond_push (internal_stringslite_HasPrefix_m K) _ rfl rfl) rfl)
noncomputable def internal_stringslite_HasPrefix_G : GoF internal_stringslite_HasPrefix_A internal_stringslite_HasPrefix_B := fun R (x : (List Int × (List Int × Unit))) K => internal_stringslite_HasPrefix_m K (hide internal_stringslite_HasPrefix_F x.1 x.2.1)
theorem internal_stringslite_HasPrefix_known : Known Tryd.prog 19 internal_stringslite_HasPrefix_A internal_stringslite_HasPrefix_B true internal_stringslite_HasPrefix_G := known_of (envL_ok sums0_ok ll0_ok cs0_ok) (n := 1000) rfl fun R (x : (List Int × (List Int × Unit))) K => by
  show _ = internal_stringslite_HasPrefix_m K (hide internal_stringslite_HasPrefix_F x.1 x.2.1)
  rw [hide_eq]
  exact internal_stringslite_HasPrefix_run x.1 x.2.1 K

noncomputable def strings_trimRightByte_c1 : Code := ((Tryd.f20.body.map fun b => loopsAt b 1).getD []).headD .skip
theorem strings_trimRightByte_c1_is : (Tryd.f20.body.map fun b => loopsAt b 1) = some [strings_trimRightByte_c1] := by kernel_rfl
noncomputable def strings_trimRightByte_s1 : SkSt := ⟨(.cons .str (.cons (.int .u8) (.gap 21 .nil))), .nil⟩
noncomputable def strings_trimRightByte_x1_0 : SkSt := ⟨(.cons .str (.gap 22 .nil)), .nil⟩
noncomputable def strings_trimRightByte_xs1 : List (Ex × SkSt) := [(.exit 0, strings_trimRightByte_x1_0)]
noncomputable def strings_trimRightByte_L1 : Nat → List Int → Int → Option ((List Int))
  | 0, _, _ => none
  | n + 1, a0, a1 => (bif (decide (Int.ofNat a0.length > (0 : Int))) then (bif (decide ((0 : Int) ≤ IntKind.i64.wrap (Int.ofNat a0.length - (1 : Int))) && decide (IntKind.i64.wrap (Int.ofNat a0.length - (1 : Int)) < Int.ofNat a0.length)) then (bif (a0.getD (IntKind.i64.wrap (Int.ofNat a0.length - (1 : Int))).toNat (0 : Int) == a1) then (bif (bnds none (some (IntKind.i64.wrap (Int.ofNat a0.length - (1 : Int)))) a0.length) then (strings_trimRightByte_L1 n (cutList a0 none (some (IntKind.i64.wrap (Int.ofNat a0.length - (1 : Int))))) a1) else none) else (some a0)) else none) else (some a0))
noncomputable def strings_trimRightByte_I1 {R : Type} (K : Ex → St → Option R) : Nat → St → Option R := iterN (exec (envL sums0 ll0 cs0 (fun _ _ => false)) 20 (acall (envL sums0 ll0 cs0 (fun _ _ => false)) 1000) 0 strings_trimRightByte_c1) (normTo strings_trimRightByte_s1 0) (exitK strings_trimRightByte_xs1 0 K)
noncomputable def strings_trimRightByte_m1 {R : Type} (K : Ex → St → Option R) (o : Option ((List Int))) : Option R := optK o fun y => K (.exit 0) (strings_trimRightByte_x1_0.enc ((y, ()), ()))
theorem strings_trimRightByte_l1 {R : Type} (K : Ex → St → Option R) : ∀ (n : Nat), ∀ (a0 : List Int) (a1 : Int), strings_trimRightByte_I1 K n (strings_trimRightByte_s1.enc ((a0, (a1, ())), ())) = strings_trimRightByte_m1 K (strings_trimRightByte_L1 n a0 a1) := by
  intro n
  induction n with
  | zero => intros; rfl
  | succ n ih =>
    intro a0 a1
    rw [strings_trimRightByte_L1]
    exact Eq.trans (by kernel_rfl) (cond_push (strings_trimRightByte_m1 K) _ (cond_push (strings_trimRightByte_m1 K) _ (cond_push (strings_trimRightByte_m1 K) _ (cond_push (strings_trimRightByte_m1 K) _ (ih (cutList a0 none (some (IntKind.i64.wrap (Int.ofNat a0.length - (1 : Int))))) a1) rfl) rfl) rfl) rfl)
def strings_trimRightByte_fu1 (a0 : List Int) (a1 : Int) : Nat := List.length a0 + Int.natAbs a1 + 5000
noncomputable def strings_trimRightByte_G1 : GoL strings_trimRightByte_s1 := fun R (x : ((List Int × (Int × Unit)) × Unit)) K => strings_trimRightByte_m1 K (hide strings_trimRightByte_L1 (strings_trimRightByte_fu1 x.1.1 x.1.2.1) x.1.1 x.1.2.1)
theorem strings_trimRightByte_H1 : LoopOk Tryd.prog 20 1 (loopH strings_trimRightByte_s1 0 strings_trimRightByte_G1) := loop_known (envL_ok sums0_ok ll0_ok cs0_ok) Tryd.func20 rfl strings_trimRightByte_c1_is (xs := strings_trimRightByte_xs1) (fuel := fun (x : ((List Int × (Int × Unit)) × Unit)) => strings_trimRightByte_fu1 x.1.1 x.1.2.1) fun R (x : ((List Int × (Int × Unit)) × Unit)) K => by
  show strings_trimRightByte_m1 K (hide strings_trimRightByte_L1 (strings_trimRightByte_fu1 x.1.1 x.1.2.1) x.1.1 x.1.2.1) = _
  rw [hide_eq]
  exact (strings_trimRightByte_l1 K (strings_trimRightByte_fu1 x.1.1 x.1.2.1) x.1.1 x.1.2.1).symm
noncomputable def strings_trimRightByte_h1 : LoopF := loopH strings_trimRightByte_s1 0 strings_trimRightByte_G1
noncomputable def strings_trimRightByte_ll1 : LoopT := ((20, 1), strings_trimRightByte_h1) :: ll0
theorem strings_trimRightByte_ll1_ok : AllLoop Tryd.prog strings_trimRightByte_ll1 := ⟨strings_trimRightByte_H1, ll0_ok⟩
noncomputable def strings_trimRightByte_F (x0 : List Int) (x1 : Int) : Option ((List Int)) := (optK (hide strings_trimRightByte_L1 (strings_trimRightByte_fu1 x0 x1) x0 x1) fun y0 => (some y0))
noncomputable def strings_trimRightByte_A : SkL := (.cons .str (.cons (.int .u8) .nil))
noncomputable def strings_trimRightByte_B : Sk := .str
def strings_trimRightByte_m {R : Type} (K : (List Int → Option R)) (o : Option ((List Int))) : Option R := optK o fun y => K y
theorem strings_trimRightByte_run {R : Type} (x0 : List Int) (x1 : Int) (K : (List Int → Option R)) : acall (envL sums0 strings_trimRightByte_ll1 cs0 (fun _ _ => false)) 1000 20 (strings_trimRightByte_A.enc (x0, (x1, ()))) [] (resK strings_trimRightByte_B true K) = strings_trimRightByte_m K (strings_trimRightByte_F x0 x1) := by
  unfold strings_trimRightByte_F
  exact Eq.trans (by kernel_rfl) (optK_push (strings_trimRightByte_m K) rfl _ fun y0 => rfl)
noncomputable def strings_trimRightByte_G : GoF strings_trimRightByte_A strings_trimRightByte_B := fun R (x : (List Int × (Int × Unit))) K => strings_trimRightByte_m K (hide strings_trimRightByte_F x.1 x.2.1)
theorem strings_trimRightByte_known : Known Tryd.prog 20 strings_trimRightByte_A strings_trimRightByte_B true strings_trimRightByte_G := known_of (envL_ok sums0_ok strings_trimRightByte_ll1_ok cs0_ok) (n := 1000) rfl fun R (x : (List Int × (Int × Unit))) K => by
  show _ = strings_trimRightByte_m K (hide strings_trimRightByte_F x.1 x.2.1)
  rw [hide_eq]
  exact strings_trimRightByte_run x.1 x.2.1 K
end Go.Proofs.YtohlmkcljoakfaaDoorAbs

-- Written by a program of this session (dec.py); Lean checks it.
namespace Go.Proofs.YtohlmkcljoakfaaDoorAbs
open Go Go.Proofs
set_option linter.unusedVariables false
set_option maxHeartbeats 2000000
set_option maxRecDepth 100000
noncomputable def strings_HasPrefix_su : SumT := (19, sumH internal_stringslite_HasPrefix_A internal_stringslite_HasPrefix_B true internal_stringslite_HasPrefix_G) :: sums0
theorem strings_HasPrefix_su_ok : AllSum Tryd.prog strings_HasPrefix_su := ⟨sumH_ok rfl rfl internal_stringslite_HasPrefix_known, sums0_ok⟩
noncomputable def strings_HasPrefix_F (x0 : List Int) (x1 : List Int) : Option (Bool) := (optK ((hide internal_stringslite_HasPrefix_F x0 x1)) fun y0 => (some y0))
noncomputable def strings_HasPrefix_A : SkL := (.cons .str (.cons .str .nil))
noncomputable def strings_HasPrefix_B : Sk := .bool
def strings_HasPrefix_m {R : Type} (K : (Bool → Option R)) (o : Option (Bool)) : Option R := optK o fun y => K y
theorem strings_HasPrefix_run {R : Type} (x0 : List Int) (x1 : List Int) (K : (Bool → Option R)) : acall (envL strings_HasPrefix_su ll0 cs0 (fun _ _ => false)) 1000 16 (strings_HasPrefix_A.enc (x0, (x1, ()))) [] (resK strings_HasPrefix_B true K) = strings_HasPrefix_m K (strings_HasPrefix_F x0 x1) := by
  unfold strings_HasPrefix_F
  exact Eq.trans (by kernel_rfl) (optK_push (strings_HasPrefix_m K) rfl _ fun y0 => rfl)
noncomputable def strings_HasPrefix_G : GoF strings_HasPrefix_A strings_HasPrefix_B := fun R (x : (List Int × (List Int × Unit))) K => strings_HasPrefix_m K (hide strings_HasPrefix_F x.1 x.2.1)
theorem strings_HasPrefix_known : Known Tryd.prog 16 strings_HasPrefix_A strings_HasPrefix_B true strings_HasPrefix_G := known_of (envL_ok strings_HasPrefix_su_ok ll0_ok cs0_ok) (n := 1000) rfl fun R (x : (List Int × (List Int × Unit))) K => by
  show _ = strings_HasPrefix_m K (hide strings_HasPrefix_F x.1 x.2.1)
  rw [hide_eq]
  exact strings_HasPrefix_run x.1 x.2.1 K

noncomputable def keys_Code_text_su : SumT := (20, sumH strings_trimRightByte_A strings_trimRightByte_B true strings_trimRightByte_G) :: sums0
theorem keys_Code_text_su_ok : AllSum Tryd.prog keys_Code_text_su := ⟨sumH_ok rfl rfl strings_trimRightByte_known, sums0_ok⟩
noncomputable def keys_Code_text_F (x0 : Int) (x1 : Int) (x2 : Int) (x3 : Int) (x4 : Int) : Option ((List Int)) := (optK ((hide strings_trimRightByte_F [x0, x1, x2, x3, x4] (0 : Int))) fun y0 => (some y0))
noncomputable def keys_Code_text_A : SkL := (.cons (.agg (.cons (.int .u8) (.cons (.int .u8) (.cons (.int .u8) (.cons (.int .u8) (.cons (.int .u8) .nil)))))) .nil)
noncomputable def keys_Code_text_B : Sk := .str
def keys_Code_text_m {R : Type} (K : (List Int → Option R)) (o : Option ((List Int))) : Option R := optK o fun y => K y
theorem keys_Code_text_run {R : Type} (x0 : Int) (x1 : Int) (x2 : Int) (x3 : Int) (x4 : Int) (K : (List Int → Option R)) : acall (envL keys_Code_text_su ll0 cs0 (fun _ _ => false)) 1000 15 (keys_Code_text_A.enc ((x0, (x1, (x2, (x3, (x4, ()))))), ())) [] (resK keys_Code_text_B true K) = keys_Code_text_m K (keys_Code_text_F x0 x1 x2 x3 x4) := by
  unfold keys_Code_text_F
  exact Eq.trans (by kernel_rfl) (optK_push (keys_Code_text_m K) rfl _ fun y0 => rfl)
noncomputable def keys_Code_text_G : GoF keys_Code_text_A keys_Code_text_B := fun R (x : ((Int × (Int × (Int × (Int × (Int × Unit))))) × Unit)) K => keys_Code_text_m K (hide keys_Code_text_F x.1.1 x.1.2.1 x.1.2.2.1 x.1.2.2.2.1 x.1.2.2.2.2.1)
theorem keys_Code_text_known : Known Tryd.prog 15 keys_Code_text_A keys_Code_text_B true keys_Code_text_G := known_of (envL_ok keys_Code_text_su_ok ll0_ok cs0_ok) (n := 1000) rfl fun R (x : ((Int × (Int × (Int × (Int × (Int × Unit))))) × Unit)) K => by
  show _ = keys_Code_text_m K (hide keys_Code_text_F x.1.1 x.1.2.1 x.1.2.2.1 x.1.2.2.2.1 x.1.2.2.2.2.1)
  rw [hide_eq]
  exact keys_Code_text_run x.1.1 x.1.2.1 x.1.2.2.1 x.1.2.2.2.1 x.1.2.2.2.2.1 K
end Go.Proofs.YtohlmkcljoakfaaDoorAbs

/- The loop of keys.Match, a range over a map: rounds. -/
namespace Go.Proofs.YtohlmkcljoakfaaDoorAbs
open Go Go.Proofs
set_option linter.unusedVariables false
set_option maxHeartbeats 2000000
set_option maxRecDepth 100000

/-! ### plain laws of what the round calls -/
def trimR (c : Int) : List Int → List Int
  | [] => []
  | x :: l => match trimR c l with
    | [] => bif x == c then [] else [x]
    | y :: k => x :: y :: k
theorem trimR_end (c : Int) : (l : List Int) → trimR c (l ++ [c]) = trimR c l
  | [] => by simp [trimR]
  | x :: l => by simp only [List.cons_append, trimR, trimR_end c l]
theorem trimR_stay (c x : Int) (h : (x == c) = false) : (l : List Int) → trimR c (l ++ [x]) = l ++ [x]
  | [] => by simp [trimR, h]
  | y :: l => by
    simp only [List.cons_append, trimR, trimR_stay c x h l]
    cases l <;> rfl
theorem wrap_small (n : Int) (h0 : 0 ≤ n) (h1 : n < 2 ^ 62) : IntKind.i64.wrap n = n := by
  rw [IntKind.wrap_i64]; omega
theorem trim_loop (c : Int) : (n : Nat) → (l : List Int) → l.length < n → l.length < 1000 → strings_trimRightByte_L1 n l c = some (trimR c l)
  | 0, l, h, _ => by omega
  | n + 1, l, h, hb => by
    rw [strings_trimRightByte_L1]
    rcases List.eq_nil_or_concat l with rfl | ⟨l', x, rfl⟩
    · simp [trimR]
    · have hw : IntKind.i64.wrap (Int.ofNat (l' ++ [x]).length - (1 : Int)) = Int.ofNat l'.length := by
        rw [List.length_append, List.length_singleton]
        simp only [Int.ofNat_eq_natCast]
        rw [wrap_small _ (by omega) (by simp at hb; omega)]
        omega
      simp only [List.concat_eq_append] at h hb ⊢
      rw [hw]
      have g1 : decide (Int.ofNat (l' ++ [x]).length > (0 : Int)) = true := by simp
      have g2 : (decide ((0 : Int) ≤ Int.ofNat l'.length) && decide (Int.ofNat l'.length < Int.ofNat (l' ++ [x]).length)) = true := by simp; omega
      have g3 : (l' ++ [x]).getD (Int.ofNat l'.length).toNat (0 : Int) = x := by simp [List.getD]
      have g4 : bnds none (some (Int.ofNat l'.length)) (l' ++ [x]).length = true := by simp [bnds]; omega
      have g5 : cutList (l' ++ [x]) none (some (Int.ofNat l'.length)) = l' := by simp [cutList]
      rw [g1, g2, g3, g4, g5]
      simp only [cond_true]
      cases hx : x == c with
      | true =>
        have : x = c := by simpa using hx
        subst this
        rw [cond_true, trimR_end]
        exact trim_loop x n l' (by simp at h; omega) (by simp at hb; omega)
      | false => rw [cond_false, trimR_stay c x hx]
def keyText (k : Int × Int × Int × Int × Int) : List Int := trimR 0 [k.1, k.2.1, k.2.2.1, k.2.2.2.1, k.2.2.2.2]
theorem text_is (a b c d e : Int) : keys_Code_text_F a b c d e = some (keyText (a, b, c, d, e)) := by
  unfold keys_Code_text_F strings_trimRightByte_F
  simp only [hide_eq]
  rw [trim_loop 0 _ _ (by unfold strings_trimRightByte_fu1; exact Nat.lt_of_lt_of_le (by simp : [a, b, c, d, e].length < 5000) (Nat.le_add_left 5000 _)) (by simp)]
  rfl
def isPre (t s : List Int) : Bool := decide (t.length ≤ s.length) && (s.take t.length == t)
theorem hasPrefix_is (s t : List Int) : strings_HasPrefix_F s t = some (isPre t s) := by
  unfold strings_HasPrefix_F internal_stringslite_HasPrefix_F
  simp only [hide_eq]
  by_cases h : t.length ≤ s.length
  · have g1 : decide (Int.ofNat s.length ≥ Int.ofNat t.length) = true := by simpa using h
    have g2 : bnds none (some (Int.ofNat t.length)) s.length = true := by simpa [bnds] using h
    rw [g1, g2]
    simp [isPre, h, cutList, optK]
  · have g1 : decide (Int.ofNat s.length ≥ Int.ofNat t.length) = false := by simpa using h
    rw [g1]
    simp [isPre, h, optK]

/-! ### the loop's code and its states -/
noncomputable def keys_Match_c5 : Code := ((Tryd.f8.body.map fun b => loopsAt b 5).getD []).headD .skip
theorem keys_Match_c5_is : (Tryd.f8.body.map fun b => loopsAt b 5) = some [keys_Match_c5] := by kernel_rfl
noncomputable def keys_Match_p : RangeAt := (rangeOf keys_Match_c5).getD ⟨0, default, default, 0, 0, 0, 0, #[], default, [], .skip, 0, 0, 0⟩
theorem keys_Match_p_is : rangeOf keys_Match_c5 = some keys_Match_p := by kernel_rfl

abbrev MEnt := (Int × Int × Int × Int × Int) × Int
/-- What is kept: at the head more, s and the iterator; behind the loop more; at a return the results. -/
def keys_Match_mks : Ex → List Bool
  | .normal => (List.range 44).map fun i => Nat.beq i 6 || Nat.beq i 7 || Nat.beq i 18
  | .ret => (List.range 44).map fun i => Nat.beq i 4 || Nat.beq i 5 || Nat.beq i 6
  | .exit _ => (List.range 44).map fun i => Nat.beq i 6
def keys_Match_encT (x : Bool × List Int) : List AV := [.bool x.1, .str x.2, .iter 0]
def keys_Match_decT (vs : List AV) : Option (Bool × List Int) := match vs with
  | [.bool b, .str l, .iter 0] => some (b, l)
  | _ => none
theorem keys_Match_decT_ok : ∀ vs x, keys_Match_decT vs = some x → vs = keys_Match_encT x := by
  intro vs x e
  unfold keys_Match_decT at e
  split at e
  · injection e with e; subst e; rfl
  · cases e
noncomputable def keys_Match_rsu : SumT := (15, sumH keys_Code_text_A keys_Code_text_B true keys_Code_text_G) :: (16, sumH strings_HasPrefix_A strings_HasPrefix_B true strings_HasPrefix_G) :: sums0
theorem keys_Match_rsu_ok : AllSum Tryd.prog keys_Match_rsu := ⟨sumH_ok rfl rfl keys_Code_text_known, sumH_ok rfl rfl strings_HasPrefix_known, sums0_ok⟩
noncomputable def keys_Match_E : Env := envL keys_Match_rsu ll0 cs0 (fun _ _ => false)
def keys_Match_retSt (k u : Int) : St := ⟨fillM (keys_Match_mks .ret) [.int .i64 k, .int .i64 u, .bool false], []⟩
def keys_Match_endSt (m : Bool) : St := ⟨fillM (keys_Match_mks (.exit 0)) [.bool m], []⟩
noncomputable def keys_Match_enc (es : List MEnt) (seen : List Nat) (x : Bool × List Int) : St := encR (keys_Match_mks .normal) keys_Match_encT true row5 (.int .i64) es seen x
theorem keys_Match_round (es : List MEnt) (seen : List Nat) (mr : Bool) (s : List Int) (a b c d e v : Int) : roundE (R := Ex × St) keys_Match_E 8 (acall keys_Match_E 1000) 0 keys_Match_p (keys_Match_enc es seen (mr, s)) (keyAV true row5 (a, b, c, d, e)) ((CTy.int .i64).av v) (fun e s' => nmE keys_Match_mks 0 (Ex × St) e s' fun e s => some (e, s)) =
    optK (hide keys_Code_text_F a b c d e) fun t => optK (hide strings_HasPrefix_F s t) fun hp => bif hp then some (.ret, keys_Match_retSt v (Int.ofNat t.length)) else
      bif mr then some (.normal, keys_Match_enc es seen (true, s)) else bif !(s == []) then optK (hide keys_Code_text_F a b c d e) fun t2 => optK (hide strings_HasPrefix_F t2 s) fun hp2 => some (.normal, keys_Match_enc es seen (hp2, s)) else some (.normal, keys_Match_enc es seen (false, s)) := by kernel_rfl
theorem keys_Match_over (es : List MEnt) (seen : List Nat) (x : Bool × List Int) : nmE keys_Match_mks 0 (Ex × St) (.exit keys_Match_p.i0) ⟨tset (tset (keys_Match_enc es seen x).T keys_Match_p.d19 .any) keys_Match_p.c20 (.bool false), (keys_Match_enc es seen x).h⟩ (fun e s => some (e, s)) = some (.exit 0, keys_Match_endSt x.1) := by kernel_rfl
end Go.Proofs.YtohlmkcljoakfaaDoorAbs

/- The loop of keys.Match: in whatever order, one result. -/
namespace Go.Proofs.YtohlmkcljoakfaaDoorAbs
open Go Go.Proofs
set_option linter.unusedVariables false
set_option maxHeartbeats 2000000
set_option maxRecDepth 100000

theorem isPre_iff (t s : List Int) : isPre t s = true ↔ t <+: s := by
  unfold isPre
  rw [List.prefix_iff_eq_take]
  constructor
  · intro h
    simp only [Bool.and_eq_true, beq_iff_eq, decide_eq_true_eq] at h
    exact h.2.symm
  · intro h
    simp only [Bool.and_eq_true, beq_iff_eq, decide_eq_true_eq]
    refine ⟨?_, h.symm⟩
    have := congrArg List.length h
    rw [List.length_take] at this
    omega
def mtch (s : List Int) (e : MEnt) : Bool := isPre (keyText e.1) s
def mbeg (s : List Int) (e : MEnt) : Bool := !(s == []) && isPre s (keyText e.1)
def keys_Match_ρ (x : Bool × List Int) (en : MEnt) : Sum (Bool × List Int) (Ex × St) :=
  bif mtch x.2 en then .inr (.ret, keys_Match_retSt en.2 (Int.ofNat (keyText en.1).length)) else .inl (x.1 || mbeg x.2 en, x.2)
def keys_Match_fin (x : Bool × List Int) : Ex × St := (.exit 0, keys_Match_endSt x.1)
theorem keys_Match_round' (es : List MEnt) (seen : List Nat) (mr : Bool) (s : List Int) (a b c d e v : Int) : roundE (R := Ex × St) keys_Match_E 8 (acall keys_Match_E 1000) 0 keys_Match_p (keys_Match_enc es seen (mr, s)) (keyAV true row5 (a, b, c, d, e)) ((CTy.int .i64).av v) (fun e s' => nmE keys_Match_mks 0 (Ex × St) e s' fun e s => some (e, s)) =
    some (outR (keys_Match_enc es seen) (keys_Match_ρ (mr, s) ((a, b, c, d, e), v))) := by
  rw [keys_Match_round es seen mr s a b c d e v]
  simp only [hide_eq, text_is, hasPrefix_is, optK]
  unfold keys_Match_ρ mtch mbeg
  simp only
  generalize keyText (a, b, c, d, e) = t
  cases isPre t s
  · cases mr
    · cases s == [] <;> rfl
    · rfl
  · rfl
theorem keys_Match_facts (es : List MEnt) : RangeFacts Tryd.prog keys_Match_E 8 keys_Match_p true row5 (.int .i64) keys_Match_mks keys_Match_encT es keys_Match_ρ keys_Match_fin where
  it := fun x => by kernel_rfl
  dlt := fun x => by
    show keys_Match_p.d19 < (fillM (keys_Match_mks .normal) (keys_Match_encT x)).length
    have e1 : keys_Match_p.d19 = 19 := by kernel_rfl
    have e2 : (fillM (keys_Match_mks .normal) (keys_Match_encT x)).length = 44 := by kernel_rfl
    rw [e1, e2]; decide
  clt := fun x => by
    have e1 : keys_Match_p.c20 = 20 := by kernel_rfl
    have e2 : (fillM (keys_Match_mks .normal) (keys_Match_encT x)).length = 44 := by kernel_rfl
    rw [e1, e2]; decide
  round := fun seen ⟨mr, s⟩ ⟨⟨a, b, c, d, e⟩, v⟩ => keys_Match_round' es seen mr s a b c d e v
  stop := fun x en o h => by
    unfold keys_Match_ρ at h
    cases hb : mtch x.2 en with
    | true => rw [hb] at h; injection h with h; subst h; intro k; cases k
    | false => rw [hb] at h; cases h
  over := fun seen x => keys_Match_over es seen x

/-! ### all orders -/
theorem rng_is (s : List Int) : (es : List MEnt) → (mr : Bool) → rng keys_Match_ρ keys_Match_fin es (mr, s) = match es.find? (mtch s) with
    | some e => (.ret, keys_Match_retSt e.2 (Int.ofNat (keyText e.1).length))
    | none => (.exit 0, keys_Match_endSt (mr || es.any (mbeg s)))
  | [], mr => by simp [rng, keys_Match_fin]
  | e :: es, mr => by
    rw [rng, show keys_Match_ρ (mr, s) e = (bif mtch s e then .inr (.ret, keys_Match_retSt e.2 (Int.ofNat (keyText e.1).length)) else .inl (mr || mbeg s e, s)) from rfl]
    cases hb : mtch s e with
    | true => simp only [hb, cond_true, List.find?_cons]
    | false =>
      simp only [hb, cond_false, List.find?_cons, List.any_cons]
      rw [rng_is s es (mr || mbeg s e), Bool.or_assoc]
/-- No key begins another one. -/
def keysGood (es : List MEnt) : Bool := es.all fun e => es.all fun e' => !(isPre (keyText e.1) (keyText e'.1)) || decide (e = e')
theorem keysGood_one {es : List MEnt} (h : keysGood es = true) {s : List Int} {e e' : MEnt} (he : e ∈ es) (he' : e' ∈ es) (h1 : mtch s e = true) (h2 : mtch s e' = true) : e = e' := by
  unfold keysGood at h
  have key : ∀ a ∈ es, ∀ b ∈ es, isPre (keyText a.1) (keyText b.1) = true → a = b := fun a ha b hb hp => by
    have := List.all_eq_true.1 (List.all_eq_true.1 h a ha) b hb
    simpa [hp] using this
  have p1 := (isPre_iff _ _).1 h1
  have p2 := (isPre_iff _ _).1 h2
  rcases Nat.le_total (keyText e.1).length (keyText e'.1).length with hl | hl
  · exact key e he e' he' ((isPre_iff _ _).2 (List.prefix_of_prefix_length_le p1 p2 hl))
  · exact (key e' he' e he ((isPre_iff _ _).2 (List.prefix_of_prefix_length_le p2 p1 hl))).symm
theorem find_perm {s : List Int} {l es : List MEnt} (h : keysGood es = true) (hp : l.Perm es) : l.find? (mtch s) = es.find? (mtch s) := by
  cases h1 : l.find? (mtch s) with
  | none =>
    rw [List.find?_eq_none] at h1
    symm
    rw [List.find?_eq_none]
    exact fun x hx => h1 x (hp.mem_iff.2 hx)
  | some e =>
    have m1 := hp.mem_iff.1 (List.mem_of_find?_eq_some h1)
    have b1 := List.find?_some h1
    cases h2 : es.find? (mtch s) with
    | none => rw [List.find?_eq_none] at h2; exact absurd b1 (h2 e m1)
    | some e' => rw [keysGood_one h m1 (List.mem_of_find?_eq_some h2) b1 (List.find?_some h2)]
theorem any_perm {p : MEnt → Bool} {l es : List MEnt} (hp : l.Perm es) : l.any p = es.any p := by
  rw [Bool.eq_iff_iff, List.any_eq_true, List.any_eq_true]
  exact ⟨fun ⟨x, h1, h2⟩ => ⟨x, hp.mem_iff.1 h1, h2⟩, fun ⟨x, h1, h2⟩ => ⟨x, hp.mem_iff.2 h1, h2⟩⟩
/-- What the loop comes to: a return? the key, its length; else whether more may come. -/
def keys_Match_R5 (es : List MEnt) (s : List Int) (mr : Bool) : Option (Bool × Int × Int × Bool) := some (match es.find? (mtch s) with
  | some e => (true, e.2, Int.ofNat (keyText e.1).length, false)
  | none => (false, 0, 0, mr || es.any (mbeg s)))
noncomputable def keys_Match_G5 : GoR row5 (.int .i64) (Bool × List Int) := fun R es x K =>
  forceLs (fun y k => Row.force row5 y.1 fun a => CTy.force (.int .i64) y.2 fun b => k (a, b)) es fun es =>
  bif keysGood es then optK (hide keys_Match_R5 es x.2 x.1) fun y => bif y.1 then K .ret (keys_Match_retSt y.2.1 y.2.2.1) else K (.exit 0) (keys_Match_endSt y.2.2.2) else none
noncomputable def keys_Match_h5 : LoopF := rangeH true row5 (.int .i64) keys_Match_mks keys_Match_decT keys_Match_G5
theorem keys_Match_H5 : LoopOk Tryd.prog 8 5 keys_Match_h5 := by
  refine rangeH_ok (envL_ok (fz := fun _ _ => false) keys_Match_rsu_ok ll0_ok cs0_ok) Tryd.func8 rfl keys_Match_c5_is keys_Match_p_is keys_Match_decT_ok (G := keys_Match_G5) fun R es x K res e => ?_
  unfold keys_Match_G5 at e
  rw [forceLs_eq fun x k => by rw [Row.force_eq, CTy.force_eq]] at e
  obtain ⟨hg, e⟩ := cond_some e
  obtain ⟨y, hy, e⟩ := optK_ok e
  rw [hide_eq] at hy
  obtain ⟨mr, s⟩ := x
  refine ⟨rng keys_Match_ρ keys_Match_fin es (mr, s), ?_, keys_Match_ρ, keys_Match_fin, keys_Match_facts es, fun l hp => ?_⟩
  · rw [show rng keys_Match_ρ keys_Match_fin es (mr, s) = _ from rng_is s es mr]
    unfold keys_Match_R5 at hy
    injection hy with hy
    cases hf : es.find? (mtch s) with
    | none => rw [hf] at hy; subst hy; exact e
    | some en => rw [hf] at hy; subst hy; exact e
  · have h1 := rng_is s l mr
    have h2 := rng_is s es mr
    rw [find_perm hg hp, any_perm hp] at h1
    exact h1.trans h2.symm
noncomputable def keys_Match_gl : LoopT := [((8, 5), keys_Match_h5)]
theorem keys_Match_gl_ok : AllLoop Tryd.prog keys_Match_gl := ⟨keys_Match_H5, trivial⟩
end Go.Proofs.YtohlmkcljoakfaaDoorAbs

-- Written by a program of this session (dec.py); Lean checks it.
namespace Go.Proofs.YtohlmkcljoakfaaDoorAbs
open Go Go.Proofs
set_option linter.unusedVariables false
set_option maxHeartbeats 2000000
set_option maxRecDepth 100000
noncomputable def keys_Match_su : SumT := (14, sumH dialect_Right_A dialect_Right_B true dialect_Right_G) :: (15, sumH keys_Code_text_A keys_Code_text_B true keys_Code_text_G) :: (16, sumH strings_HasPrefix_A strings_HasPrefix_B true strings_HasPrefix_G) :: sums0
theorem keys_Match_su_ok : AllSum Tryd.prog keys_Match_su := ⟨sumH_ok rfl rfl dialect_Right_known, ⟨sumH_ok rfl rfl keys_Code_text_known, ⟨sumH_ok rfl rfl strings_HasPrefix_known, sums0_ok⟩⟩⟩
noncomputable def keys_Match_F (x0 : Int) (x1 : List (Int)) : Option (Int × Int × Bool) := (optK ((hide dialect_Right_F x0)) fun y0 => (bif (!y0) then (some ((0 : Int), (0 : Int), (false))) else (bif (x0 == (1 : Int)) then (optK ((hide keys_Match_R5 [(((27 : Int), (91 : Int), (65 : Int), (0 : Int), (0 : Int)), (1 : Int)), (((27 : Int), (91 : Int), (66 : Int), (0 : Int), (0 : Int)), (2 : Int)), (((27 : Int), (91 : Int), (67 : Int), (0 : Int), (0 : Int)), (3 : Int)), (((27 : Int), (91 : Int), (68 : Int), (0 : Int), (0 : Int)), (4 : Int)), (((27 : Int), (79 : Int), (65 : Int), (0 : Int), (0 : Int)), (1 : Int)), (((27 : Int), (79 : Int), (66 : Int), (0 : Int), (0 : Int)), (2 : Int)), (((27 : Int), (79 : Int), (67 : Int), (0 : Int), (0 : Int)), (3 : Int)), (((27 : Int), (79 : Int), (68 : Int), (0 : Int), (0 : Int)), (4 : Int)), (((27 : Int), (79 : Int), (80 : Int), (0 : Int), (0 : Int)), (11 : Int)), (((27 : Int), (79 : Int), (81 : Int), (0 : Int), (0 : Int)), (12 : Int)), (((27 : Int), (79 : Int), (82 : Int), (0 : Int), (0 : Int)), (13 : Int)), (((27 : Int), (79 : Int), (83 : Int), (0 : Int), (0 : Int)), (14 : Int))] x1 false)) fun y1 => (bif (y1.1) then (some ((y1.2.1), (y1.2.2.1), (false))) else (some ((0 : Int), (0 : Int), (y1.2.2.2))))) else (bif (x0 == (2 : Int)) then (optK ((hide keys_Match_R5 [(((27 : Int), (91 : Int), (65 : Int), (0 : Int), (0 : Int)), (1 : Int)), (((27 : Int), (91 : Int), (66 : Int), (0 : Int), (0 : Int)), (2 : Int)), (((27 : Int), (91 : Int), (67 : Int), (0 : Int), (0 : Int)), (3 : Int)), (((27 : Int), (91 : Int), (68 : Int), (0 : Int), (0 : Int)), (4 : Int)), (((27 : Int), (91 : Int), (91 : Int), (65 : Int), (0 : Int)), (11 : Int)), (((27 : Int), (91 : Int), (91 : Int), (66 : Int), (0 : Int)), (12 : Int)), (((27 : Int), (91 : Int), (91 : Int), (67 : Int), (0 : Int)), (13 : Int)), (((27 : Int), (91 : Int), (91 : Int), (68 : Int), (0 : Int)), (14 : Int)), (((27 : Int), (91 : Int), (91 : Int), (69 : Int), (0 : Int)), (15 : Int)), (((27 : Int), (91 : Int), (49 : Int), (126 : Int), (0 : Int)), (5 : Int)), (((27 : Int), (91 : Int), (52 : Int), (126 : Int), (0 : Int)), (6 : Int)), (((27 : Int), (91 : Int), (50 : Int), (126 : Int), (0 : Int)), (7 : Int)), (((27 : Int), (91 : Int), (51 : Int), (126 : Int), (0 : Int)), (8 : Int)), (((27 : Int), (91 : Int), (53 : Int), (126 : Int), (0 : Int)), (9 : Int)), (((27 : Int), (91 : Int), (54 : Int), (126 : Int), (0 : Int)), (10 : Int))] x1 false)) fun y2 => (bif (y2.1) then (some ((y2.2.1), (y2.2.2.1), (false))) else (some ((0 : Int), (0 : Int), (y2.2.2.2))))) else (bif (x0 == (3 : Int)) then (optK ((hide keys_Match_R5 [(((27 : Int), (65 : Int), (0 : Int), (0 : Int), (0 : Int)), (1 : Int)), (((27 : Int), (66 : Int), (0 : Int), (0 : Int), (0 : Int)), (2 : Int)), (((27 : Int), (67 : Int), (0 : Int), (0 : Int), (0 : Int)), (3 : Int)), (((27 : Int), (68 : Int), (0 : Int), (0 : Int), (0 : Int)), (4 : Int)), (((27 : Int), (80 : Int), (0 : Int), (0 : Int), (0 : Int)), (11 : Int)), (((27 : Int), (81 : Int), (0 : Int), (0 : Int), (0 : Int)), (12 : Int)), (((27 : Int), (82 : Int), (0 : Int), (0 : Int), (0 : Int)), (13 : Int)), (((27 : Int), (83 : Int), (0 : Int), (0 : Int), (0 : Int)), (14 : Int))] x1 false)) fun y3 => (bif (y3.1) then (some ((y3.2.1), (y3.2.2.1), (false))) else (some ((0 : Int), (0 : Int), (y3.2.2.2))))) else (optK ((hide keys_Match_R5 [] x1 false)) fun y4 => (bif (y4.1) then (some ((y4.2.1), (y4.2.2.1), (false))) else (some ((0 : Int), (0 : Int), (y4.2.2.2))))))))))
noncomputable def keys_Match_A : SkL := (.cons (.int .i64) (.cons (.list (.one (.int .u8))) .nil))
noncomputable def keys_Match_B : Sk := (.tup (.cons (.int .i64) (.cons (.int .i64) (.cons .bool .nil))))
def keys_Match_m {R : Type} (K : ((Int × (Int × (Bool × Unit))) → Option R)) (o : Option (Int × Int × Bool)) : Option R := optK o fun y => K (y.1, (y.2.1, (y.2.2, ())))
theorem keys_Match_run {R : Type} (x0 : Int) (x1 : List (Int)) (K : ((Int × (Int × (Bool × Unit))) → Option R)) : acall (envL keys_Match_su keys_Match_gl cs0 (fun _ _ => false)) 1000 8 (keys_Match_A.enc (x0, (x1, ()))) [] (resK keys_Match_B true K) = keys_Match_m K (keys_Match_F x0 x1) := by
  unfold keys_Match_F
  exact Eq.trans (by kernel_rfl) (optK_push (keys_Match_m K) rfl _ fun y0 => (cond_push (keys_Match_m K) _ rfl (cond_push (keys_Match_m K) _ (optK_push (keys_Match_m K) rfl _ fun y1 => (cond_push (keys_Match_m K) _ rfl rfl)) (cond_push (keys_Match_m K) _ (optK_push (keys_Match_m K) rfl _ fun y2 => (cond_push (keys_Match_m K) _ rfl rfl)) (cond_push (keys_Match_m K) _ (optK_push (keys_Match_m K) rfl _ fun y3 => (cond_push (keys_Match_m K) _ rfl rfl)) (optK_push (keys_Match_m K) rfl _ fun y4 => (cond_push (keys_Match_m K) _ rfl rfl)))))))
noncomputable def keys_Match_G : GoF keys_Match_A keys_Match_B := fun R (x : (Int × (List (Int) × Unit))) K => keys_Match_m K (hide keys_Match_F x.1 x.2.1)
theorem keys_Match_known : Known Tryd.prog 8 keys_Match_A keys_Match_B true keys_Match_G := known_of (envL_ok keys_Match_su_ok keys_Match_gl_ok cs0_ok) (n := 1000) rfl fun R (x : (Int × (List (Int) × Unit))) K => by
  show _ = keys_Match_m K (hide keys_Match_F x.1 x.2.1)
  rw [hide_eq]
  exact keys_Match_run x.1 x.2.1 K
end Go.Proofs.YtohlmkcljoakfaaDoorAbs

/- keys.Match as a plain function. -/
namespace Go.Proofs.YtohlmkcljoakfaaDoorAbs
open Go Go.Proofs
set_option linter.unusedVariables false
set_option linter.unusedSimpArgs false
set_option maxHeartbeats 2000000
set_option maxRecDepth 100000
def tab1 : List MEnt := [(((27), (91), (65), (0), (0)), (1)), (((27), (91), (66), (0), (0)), (2)), (((27), (91), (67), (0), (0)), (3)), (((27), (91), (68), (0), (0)), (4)), (((27), (79), (65), (0), (0)), (1)), (((27), (79), (66), (0), (0)), (2)), (((27), (79), (67), (0), (0)), (3)), (((27), (79), (68), (0), (0)), (4)), (((27), (79), (80), (0), (0)), (11)), (((27), (79), (81), (0), (0)), (12)), (((27), (79), (82), (0), (0)), (13)), (((27), (79), (83), (0), (0)), (14))]
def tab2 : List MEnt := [(((27), (91), (65), (0), (0)), (1)), (((27), (91), (66), (0), (0)), (2)), (((27), (91), (67), (0), (0)), (3)), (((27), (91), (68), (0), (0)), (4)), (((27), (91), (91), (65), (0)), (11)), (((27), (91), (91), (66), (0)), (12)), (((27), (91), (91), (67), (0)), (13)), (((27), (91), (91), (68), (0)), (14)), (((27), (91), (91), (69), (0)), (15)), (((27), (91), (49), (126), (0)), (5)), (((27), (91), (52), (126), (0)), (6)), (((27), (91), (50), (126), (0)), (7)), (((27), (91), (51), (126), (0)), (8)), (((27), (91), (53), (126), (0)), (9)), (((27), (91), (54), (126), (0)), (10))]
def tab3 : List MEnt := [(((27), (65), (0), (0), (0)), (1)), (((27), (66), (0), (0), (0)), (2)), (((27), (67), (0), (0), (0)), (3)), (((27), (68), (0), (0), (0)), (4)), (((27), (80), (0), (0), (0)), (11)), (((27), (81), (0), (0), (0)), (12)), (((27), (82), (0), (0), (0)), (13)), (((27), (83), (0), (0), (0)), (14))]
def tabOf (d : Int) : List MEnt := bif d == 1 then tab1 else bif d == 2 then tab2 else tab3
def matchP (T : List MEnt) (b : List Int) : Int × Int × Bool := match T.find? (mtch b) with
  | some e => (e.2, Int.ofNat (keyText e.1).length, false)
  | none => (0, 0, T.any (mbeg b))
theorem match_is (d : Int) (b : List Int) (h : 1 ≤ d ∧ d ≤ 3) : keys_Match_F d b = some (matchP (tabOf d) b) := by
  have hr : dialect_Right_F d = some true := by
    unfold dialect_Right_F
    simp [h.1, h.2]
  have hd : d = 1 ∨ d = 2 ∨ d = 3 := by omega
  have fin : ∀ T : List MEnt, (match keys_Match_R5 T b false with
      | some y => (bif y.1 then some (y.2.1, y.2.2.1, false) else some ((0 : Int), (0 : Int), y.2.2.2))
      | none => none) = some (matchP T b) := fun T => by
    unfold keys_Match_R5 matchP
    cases T.find? (mtch b) <;> simp
  unfold keys_Match_F
  simp only [hide_eq, hr, optK, Bool.not_true, cond_false]
  rcases hd with rfl | rfl | rfl
  · exact fin tab1
  · exact fin tab2
  · exact fin tab3
theorem say_open (k : Int) (app : Bool) : keys_Say_F k app = keys_Say_J4 k (bif app then [27, 79] else [27, 91]) := by
  unfold keys_Say_F
  cases app
  · simp only [hide_eq, cond_false]; cases keys_Say_J4 k [27, 91] <;> rfl
  · simp only [hide_eq, cond_true]; cases keys_Say_J4 k [27, 79] <;> rfl
end Go.Proofs.YtohlmkcljoakfaaDoorAbs

-- Written by a program of this session (dec.py); Lean checks it.
namespace Go.Proofs.YtohlmkcljoakfaaDoorAbs
open Go Go.Proofs
set_option linter.unusedVariables false
set_option maxHeartbeats 2000000
set_option maxRecDepth 100000
noncomputable def linguistlaw21_KeysRuns_su : SumT := (8, sumH keys_Match_A keys_Match_B true keys_Match_G) :: (9, sumH keys_Say_A keys_Say_B true keys_Say_G) :: sums0
theorem linguistlaw21_KeysRuns_su_ok : AllSum Tryd.prog linguistlaw21_KeysRuns_su := ⟨sumH_ok rfl rfl keys_Match_known, ⟨sumH_ok rfl rfl keys_Say_known, sums0_ok⟩⟩
noncomputable def linguistlaw21_KeysRuns_F  : Option (Bool) := (optK ((hide keys_Match_F (2 : Int) [(27 : Int), (91 : Int), (91 : Int), (67 : Int)])) fun y0 => (optK ((hide keys_Match_F (3 : Int) [(27 : Int)])) fun y1 => (bif (y0.1 == (13 : Int)) then (bif (y0.2.1 == (4 : Int)) then (bif (!y0.2.2) then (bif (y1.2.2) then (optK ((hide keys_Say_F (1 : Int) true)) fun y2 => (bif (y2 == [(27 : Int), (79 : Int), (65 : Int)]) then (some (true)) else (some (false)))) else (some (false))) else (some (false))) else (some (false))) else (some (false)))))
noncomputable def linguistlaw21_KeysRuns_A : SkL := .nil
noncomputable def linguistlaw21_KeysRuns_B : Sk := .bool
def linguistlaw21_KeysRuns_m {R : Type} (K : (Bool → Option R)) (o : Option (Bool)) : Option R := optK o fun y => K y
theorem linguistlaw21_KeysRuns_run {R : Type}  (K : (Bool → Option R)) : acall (envL linguistlaw21_KeysRuns_su ll0 cs0 (fun _ _ => false)) 1000 3 (linguistlaw21_KeysRuns_A.enc ()) [] (resK linguistlaw21_KeysRuns_B true K) = linguistlaw21_KeysRuns_m K (linguistlaw21_KeysRuns_F ) := by
  unfold linguistlaw21_KeysRuns_F
  exact Eq.trans (by kernel_rfl) (optK_push (linguistlaw21_KeysRuns_m K) rfl _ fun y0 => (optK_push (linguistlaw21_KeysRuns_m K) rfl _ fun y1 => (cond_push (linguistlaw21_KeysRuns_m K) _ (cond_push (linguistlaw21_KeysRuns_m K) _ (cond_push (linguistlaw21_KeysRuns_m K) _ (cond_push (linguistlaw21_KeysRuns_m K) _ (optK_push (linguistlaw21_KeysRuns_m K) rfl _ fun y2 => (cond_push (linguistlaw21_KeysRuns_m K) _ rfl rfl)) rfl) rfl) rfl) rfl)))
end Go.Proofs.YtohlmkcljoakfaaDoorAbs

/- Chapter 21's laws: what they share. -/
namespace Go.Proofs.YtohlmkcljoakfaaDoorAbs
open Go Go.Proofs
set_option linter.unusedVariables false
set_option linter.unusedSimpArgs false
set_option maxHeartbeats 2000000
set_option maxRecDepth 100000

theorem keysRuns_is : linguistlaw21_KeysRuns_F = some true := by
  unfold linguistlaw21_KeysRuns_F
  have m1 : matchP (tabOf 2) [27, 91, 91, 67] = (13, 4, false) := by kernel_rfl
  have m2 : matchP (tabOf 3) [27] = (0, 0, true) := by kernel_rfl
  have s1 : keys_Say_J4 1 [27, 79] = some [27, 79, 65] := by kernel_rfl
  simp only [hide_eq, match_is 2 _ (by decide), match_is 3 _ (by decide), m1, m2, say_open, s1, optK, cond_true]
  rfl
end Go.Proofs.YtohlmkcljoakfaaDoorAbs

/- KeysRuns: the printed law answers true. -/
namespace Go.Proofs.YtohlmkcljoakfaaDoorAbs
open Go Go.Proofs
theorem keysRuns_true : linguistlaw21_KeysRuns_F = some true := keysRuns_is
end Go.Proofs.YtohlmkcljoakfaaDoorAbs

/- What is known of letters. -/
namespace Go.Proofs.YtohlmkcljoakfaaDoorAbs
set_option linter.unusedVariables false
open Go Go.Proofs Go.RowKit
theorem isTrue_res : (isTrue : AV → Heap → Option Bool) = resK .bool true (fun b => some b) := by
  funext v h
  cases v <;> rfl
theorem law_res {P : Program} {E : Env} (hE : EnvOk P E) {n f : Nat} {args : List AV} {us : List Value} (e : acall (R := Bool) E n f args [] (resK .bool true (fun b => some b)) = some true) (W : World)
    (q : RelL ⟨W, fun _ => none, fun B => B < W.heap.size⟩ [] false args us) : Calls P f us.toArray W fun e W' => e = .returned (.bool true) ∧ Below W.heap.size W W' :=
  law_rows hE (by rw [isTrue_res]; exact e) W q
end Go.Proofs.YtohlmkcljoakfaaDoorAbs

/- KeysRuns, called. -/
namespace Go.Proofs.YtohlmkcljoakfaaDoorAbs
set_option linter.unusedVariables false
set_option maxRecDepth 100000
open Go Go.Proofs Go.RowKit
theorem keysRuns_run   :
    acall (R := Bool) (envL linguistlaw21_KeysRuns_su ll0 cs0 (fun _ _ => false)) 1000 3 [] [] (resK .bool true (fun b => some b)) = some true := by
  have h := linguistlaw21_KeysRuns_run  (fun b => some b)
  rw [keysRuns_true  ] at h
  exact h
end Go.Proofs.YtohlmkcljoakfaaDoorAbs

/- Whatever reads as data is what the interpreter takes: rows of letters as arguments. -/
namespace Go.Proofs.YtohlmkcljoakfaaDoorAbs
set_option linter.unusedVariables false
open Go Go.Proofs Go.RowKit Go.ChangeShapes Go.WideShapes Go.Deep
abbrev gd (w : World) : Nat → Prop := fun B => B < w.heap.size
def OpC (P : Program) (w : World) (c : CTy) (t : TypeId) (WF : c.den → Prop) : Prop :=
  ∀ {H : Type} {enc : TypeId × Value → H} {spare : Nat → Bool} {held : Bool} {fuel : Nat} {cs : List Value} {x : DataW H × List MemPlace}, DataW.trod enc P w 0 spare held fuel t cs = some x → ∃ (a : c.den) (v : Value), cs = [v] ∧ c.rep w (gd w) a v ∧ WF a
def OpR (P : Program) (w : World) (r : Row) (t : TypeId) (WF : r.den → Prop) : Prop :=
  ∀ {H : Type} {enc : TypeId × Value → H} {spare : Nat → Bool} {held : Bool} {fuel : Nat} {cs : List Value} {x : DataW H × List MemPlace}, DataW.trod enc P w 0 spare held fuel t cs = some x → ∃ a : r.den, r.rep w (gd w) a cs ∧ WF a
section
variable {P : Program} {w : World} {t e : TypeId}
theorem OpC.int {k : IntKind} (ht : P.underlying t = some (.int k)) : OpC P w (.int k) t (fun a => (Lit.int k a).wf = true) := by
  intro H enc spare held fuel cs x h
  obtain ⟨a, rfl, _, hw⟩ := DataW.trod_int ht h
  refine ⟨a, _, rfl, ⟨rfl, ?_⟩, hw⟩
  cases k <;> first | rfl | (simp [Lit.wf, IntKind.min, IntKind.max, IntKind.bits, IntKind.signed] at hw; simp [u8ok, kindEq]; omega)
theorem OpC.bool (ht : P.underlying t = some .bool) : OpC P w .bool t (fun _ => True) := by
  intro H enc spare held fuel cs x h
  obtain ⟨a, rfl, _⟩ := DataW.trod_bool ht h
  exact ⟨a, _, rfl, rfl, trivial⟩
theorem OpC.str (ht : P.underlying t = some .string) : OpC P w .str t (fun s => ∃ b : ByteArray, bytesOf b = s ∧ b.size ≤ 9223372036854775807) := by
  intro H enc spare held fuel cs x h
  obtain ⟨a, rfl, _, hl⟩ := DataW.trod_string ht h
  refine ⟨bytesOf a, _, rfl, ⟨a, rfl, rfl⟩, a, rfl, ?_⟩
  unfold maxLen at hl
  omega
theorem cells_eq {a : Addr} {n : Nat} {cs : List Value} {c : Array Value} (h : w.cells? 0 a n = some cs) (hb : ∃ e fr, w.heap[a.block]? = some (.cells c e fr)) (hs : a.spot = none) : cs = (c.toList.drop a.off).take n := by
  obtain ⟨_, hl, hc⟩ := World.cells?_some h
  obtain ⟨e, fr, hb⟩ := hb
  apply List.ext_getElem?
  intro i
  by_cases hi : i < n
  · have h1 : w.cell? (a.add i) = c[a.off + i]? := by
      unfold World.cell? Addr.add
      by_cases h0 : i = 0
      · subst h0; simp [hb, hs]
      · simp [h0, hb]
    rw [← hc i hi, h1, List.getElem?_take_of_lt hi, List.getElem?_drop, Array.getElem?_toList]
  · rw [List.getElem?_eq_none (by omega), List.getElem?_eq_none (by simp; omega)]
theorem rows_lie {r : Row} {WF : r.den → Prop} {a : Addr} {len : Nat} (hr : 0 < r.size) (hp : 0 < len) (hx : ∀ i, i < len → ∃ (b : r.den) (cs : List Value), w.cells? 0 (a.add (i * r.size)) r.size = some cs ∧ r.rep w (gd w) b cs ∧ WF b) :
    a.spot = none ∧ a.block < w.heap.size ∧ ∃ l : List r.den, l.length = len ∧ (∀ x ∈ l, WF x) ∧ ∃ vs, RepAll (fun x cs => r.rep w (gd w) x cs) l vs ∧ Lies w a.block a.off vs := by
  obtain ⟨b0, cs0, h0, _, _⟩ := hx 0 hp
  obtain ⟨_, hl0, hc0⟩ := World.cells?_some h0
  have h00 := hc0 0 hr
  have hlt : 0 < cs0.length := by omega
  rw [List.getElem?_eq_getElem hlt] at h00
  have hbk : (∃ c e fr, w.heap[a.block]? = some (.cells c e fr)) ∧ a.spot = none := by
    have hz : (a.add (0 * r.size)).add 0 = a := by simp [Addr.add]
    rw [hz] at h00
    unfold World.cell? at h00
    split at h00
    · rename_i c e fr hb
      refine ⟨⟨c, e, fr, hb⟩, ?_⟩
      split at h00
      · cases h00
      · rename_i hn; simpa using hn
    · cases h00
  obtain ⟨⟨c, e, fr, hb⟩, hs⟩ := hbk
  have hbl : a.block < w.heap.size := (Array.getElem?_eq_some_iff.1 hb).1
  refine ⟨hs, hbl, ?_⟩
  have key : ∀ k, k ≤ len → ∃ l : List r.den, l.length = k ∧ (∀ x ∈ l, WF x) ∧ RepAll (fun x cs => r.rep w (gd w) x cs) l ((c.toList.drop a.off).take (k * r.size)) := by
    intro k
    induction k with
    | zero => intro _; exact ⟨[], rfl, (fun x hx => by cases hx), by simp [RepAll]⟩
    | succ k ih =>
      intro hk
      obtain ⟨l, hl, hw, hR⟩ := ih (by omega)
      obtain ⟨b, cs, h1, h2, h3⟩ := hx k (by omega)
      have hcs : cs = ((c.toList.drop a.off).drop (k * r.size)).take r.size := by
        have := cells_eq (c := c) h1 ⟨e, fr, by unfold Addr.add; split <;> exact hb⟩ (by unfold Addr.add; split <;> first | exact hs | rfl)
        rw [this, List.drop_drop]
        congr 2
        unfold Addr.add; split <;> simp_all
      refine ⟨l ++ [b], by simp [hl], ?_, ?_⟩
      · intro x hx'
        rcases List.mem_append.1 hx' with h | h
        · exact hw x h
        · rw [List.mem_singleton] at h; subst h; exact h3
      · have : (k + 1) * r.size = k * r.size + r.size := by rw [Nat.add_mul, Nat.one_mul]
        rw [this, List.take_add, ← hcs]
        exact RepAll.append hR ⟨cs, [], by simp, h2, rfl⟩
  obtain ⟨l, hl, hw, hR⟩ := key len (Nat.le_refl _)
  exact ⟨l, hl, hw, _, hR, c, e, fr, _, hb, (List.take_append_drop (len * r.size) _).symm⟩
theorem OpC.slice {r : Row} {WF : r.den → Prop} (ht : P.underlying t = some (.slice e)) (hr : 0 < r.size) (hc : P.cellsOf e = r.size) (he : OpR P w r e WF) : OpC P w (.slice r) t (fun l => List.length (α := r.den) l ≤ 9223372036854775807 ∧ ∀ x : r.den, List.Mem x l → WF x) := by
  intro H enc spare held fuel cs x h
  rcases open_slice ht h with ⟨rfl, _⟩ | ⟨a, len, cap, m, n, D, Pl, rfl, _, hl, hm, hmm, _, hx⟩
  · exact ⟨([] : List r.den), _, rfl, ⟨none, 0, 0, rfl, rfl, Nat.le_refl _, fun _ => rfl, Or.inl rfl⟩, by simp, fun x hx => by cases hx⟩
  · have hmle : len ≤ m := by rw [hmm]; split <;> omega
    have hmax : len ≤ 9223372036854775807 := by unfold maxLen at hm; omega
    by_cases hp : 0 < len
    · obtain ⟨hs, hb, l, hll, hw, vs, hR, hL⟩ := rows_lie (w := w) (a := a) (len := len) (WF := WF) hr hp (fun i hi => by
        obtain ⟨c, h1, h2⟩ := hx i (by omega)
        obtain ⟨b, h3, h4⟩ := he h2
        rw [hc] at h1
        exact ⟨b, c, h1, h3, h4⟩)
      refine ⟨l, _, rfl, ⟨some a, len, cap, rfl, hll.symm, hl, (fun k => by cases k), Or.inr ⟨a.block, a.off, vs, ?_, hb, hR, hL⟩⟩, by rw [hll]; exact hmax, hw⟩
      obtain ⟨B, o, s⟩ := a
      simp only at hs
      rw [hs]
    · have h0 : len = 0 := by omega
      subst h0
      exact ⟨([] : List r.den), _, rfl, ⟨some a, 0, cap, rfl, rfl, hl, (fun k => by cases k), Or.inl rfl⟩, by simp, fun x hx => by cases hx⟩
theorem OpR.one {c : CTy} {WF : c.den → Prop} (h : OpC P w c t WF) : OpR P w (.one c) t WF := by
  intro H enc spare held fuel cs x k
  obtain ⟨a, v, rfl, h1, h2⟩ := h k
  exact ⟨a, ⟨v, rfl, h1⟩, h2⟩
/-- A struct's field, out of the whole's reading. -/
theorem trod_field {H : Type} {enc : TypeId × Value → H} {spare : Nat → Bool} {held : Bool} {fuel : Nat} {cs : List Value} {x : DataW H × List MemPlace} {fs : Array Field} (ht : P.underlying t = some (.struct fs)) (h : DataW.trod enc P w 0 spare held fuel t cs = some x) :
    cs.length = P.cellsOf t ∧ ∃ n, ∀ (i : Nat) (f : Field), fs[i]? = some f → ∃ y, DataW.trod enc P w 0 spare held n f.type ((cs.drop f.offset).take (P.cellsOf f.type)) = some y := by
  obtain ⟨xs, n, _, _, hn, hl, hf⟩ := DataW.trod_struct ht h
  refine ⟨hn, n, fun i f hi => ?_⟩
  have h1 := hf i f hi
  have hlt : i < xs.length := by rw [hl]; exact (Array.getElem?_eq_some_iff.1 hi).1
  rw [List.getElem?_eq_getElem hlt] at h1
  exact ⟨_, h1⟩
end
end Go.Proofs.YtohlmkcljoakfaaDoorAbs
