/- Texts of this session, joined (bundle2.py): D1, D2, R1, R2, D3, GB1, D4, D5, D6, GB2, D7, GB3, D8, WBackCuts, GC, WBackCutsC, AbsOpen. -/
import Derived.ProofKit
import Derived.Deep.Slices
import Derived.WideShapes
import Derived.ChangeArms
import Derived.DataReads
import Derived.DataElems
import Derived.OpenShut
import Derived.Test.YtcgpblgnhpajlaaDoorBunB3
-- Written by a program of this session (dec.py); Lean checks it.
namespace Go.Proofs.YtcgpblgnhpajlaaDoorAbs
open Go Go.Proofs
set_option linter.unusedVariables false
set_option maxHeartbeats 2000000
set_option maxRecDepth 100000
noncomputable def sums0 : SumT := []
theorem sums0_ok : AllSum Tryd.prog sums0 := trivial
noncomputable def ll0 : LoopT := []
theorem ll0_ok : AllLoop Tryd.prog ll0 := trivial
noncomputable def cs0 : LoopT := []
theorem cs0_ok : AllCut Tryd.prog cs0 := trivial
noncomputable def dialect_Right_F (x0 : Int) : Option (Bool) := (bif (decide (x0 ≥ (1 : Int))) then (some (decide (x0 ≤ (3 : Int)))) else (some (false)))
noncomputable def dialect_Right_A : SkL := (.cons (.int .i64) .nil)
noncomputable def dialect_Right_B : Sk := .bool
def dialect_Right_m {R : Type} (K : (Bool → Option R)) (o : Option (Bool)) : Option R := optK o fun y => K y
theorem dialect_Right_run {R : Type} (x0 : Int) (K : (Bool → Option R)) : acall (envL sums0 ll0 cs0 (fun _ _ => false)) 1000 19 (dialect_Right_A.enc (x0, ())) [] (resK dialect_Right_B true K) = dialect_Right_m K (dialect_Right_F x0) := by
  unfold dialect_Right_F
  exact Eq.trans (by kernel_rfl) (cond_push (dialect_Right_m K) _ rfl rfl)
noncomputable def dialect_Right_G : GoF dialect_Right_A dialect_Right_B := fun R (x : (Int × Unit)) K => dialect_Right_m K (hide dialect_Right_F x.1)
theorem dialect_Right_known : Known Tryd.prog 19 dialect_Right_A dialect_Right_B true dialect_Right_G := known_of (envL_ok sums0_ok ll0_ok cs0_ok) (n := 1000) rfl fun R (x : (Int × Unit)) K => by
  show _ = dialect_Right_m K (hide dialect_Right_F x.1)
  rw [hide_eq]
  exact dialect_Right_run x.1 K

noncomputable def linguistbook_Within_F (x0 : Int) (x1 : Int) (x2 : Int) : Option (Int) := (bif (IntKind.i64.wrap (IntKind.i64.wrap (x2 - x1) + (1 : Int)) == (0 : Int)) then none else (bif (decide (x0.tmod (IntKind.i64.wrap (IntKind.i64.wrap (x2 - x1) + (1 : Int))) < (0 : Int))) then (some (IntKind.i64.wrap (x1 + IntKind.i64.wrap (IntKind.i64.wrap (IntKind.i64.wrap (x0.tmod (IntKind.i64.wrap (IntKind.i64.wrap (x2 - x1) + (1 : Int))) + x2) - x1) + (1 : Int))))) else (some (IntKind.i64.wrap (x1 + x0.tmod (IntKind.i64.wrap (IntKind.i64.wrap (x2 - x1) + (1 : Int))))))))
noncomputable def linguistbook_Within_A : SkL := (.cons (.int .i64) (.cons (.int .i64) (.cons (.int .i64) .nil)))
noncomputable def linguistbook_Within_B : Sk := (.int .i64)
def linguistbook_Within_m {R : Type} (K : (Int → Option R)) (o : Option (Int)) : Option R := optK o fun y => K y
theorem linguistbook_Within_run {R : Type} (x0 : Int) (x1 : Int) (x2 : Int) (K : (Int → Option R)) : acall (envL sums0 ll0 cs0 (fun _ _ => false)) 1000 13 (linguistbook_Within_A.enc (x0, (x1, (x2, ())))) [] (resK linguistbook_Within_B true K) = linguistbook_Within_m K (linguistbook_Within_F x0 x1 x2) := by
  unfold linguistbook_Within_F
  exact Eq.trans (by kernel_rfl) (cond_push (linguistbook_Within_m K) _ rfl (cond_push (linguistbook_Within_m K) _ rfl rfl))
noncomputable def linguistbook_Within_G : GoF linguistbook_Within_A linguistbook_Within_B := fun R (x : (Int × (Int × (Int × Unit)))) K => linguistbook_Within_m K (hide linguistbook_Within_F x.1 x.2.1 x.2.2.1)
theorem linguistbook_Within_known : Known Tryd.prog 13 linguistbook_Within_A linguistbook_Within_B true linguistbook_Within_G := known_of (envL_ok sums0_ok ll0_ok cs0_ok) (n := 1000) rfl fun R (x : (Int × (Int × (Int × Unit)))) K => by
  show _ = linguistbook_Within_m K (hide linguistbook_Within_F x.1 x.2.1 x.2.2.1)
  rw [hide_eq]
  exact linguistbook_Within_run x.1 x.2.1 x.2.2.1 K

noncomputable def keys_Say_b4 : Code := ((Tryd.f15.body.map fun b => tailsAt b 4).getD []).headD .skip
theorem keys_Say_b4_is : (Tryd.f15.body.map fun b => tailsAt b 4) = some [keys_Say_b4] := by kernel_rfl
noncomputable def keys_Say_t4 : SkSt := ⟨(.cons (.int .i64) (.gap 4 (.cons .str (.gap 48 .nil)))), .nil⟩
noncomputable def keys_Say_y4_0 : SkSt := ⟨(.gap 4 (.cons .str (.gap 49 .nil))), .nil⟩
noncomputable def keys_Say_ys4 : List (Ex × SkSt) := [(.ret, keys_Say_y4_0)]
noncomputable def keys_Say_J4 (a0 : Int) (a1 : List Int) : Option ((List Int)) := (bif (decide (a0 ≥ (1 : Int))) then (bif (decide (a0 ≤ (6 : Int))) then (bif (bnds (some (IntKind.i64.wrap (a0 - (1 : Int)))) (some (IntKind.i64.wrap (IntKind.i64.wrap (a0 - (1 : Int)) + (1 : Int)))) (6 : Nat)) then (bif ((a1.length + (cutList [(65 : Int), (66 : Int), (67 : Int), (68 : Int), (72 : Int), (70 : Int)] (some (IntKind.i64.wrap (a0 - (1 : Int)))) (some (IntKind.i64.wrap (IntKind.i64.wrap (a0 - (1 : Int)) + (1 : Int))))).length).ble (274877906944 : Nat)) then (some (a1 ++ cutList [(65 : Int), (66 : Int), (67 : Int), (68 : Int), (72 : Int), (70 : Int)] (some (IntKind.i64.wrap (a0 - (1 : Int)))) (some (IntKind.i64.wrap (IntKind.i64.wrap (a0 - (1 : Int)) + (1 : Int)))))) else none) else none) else (bif (decide (a0 ≥ (7 : Int))) then (bif (decide (a0 ≤ (10 : Int))) then (bif (bnds (some (IntKind.i64.wrap (a0 - (7 : Int)))) (some (IntKind.i64.wrap (IntKind.i64.wrap (a0 - (7 : Int)) + (1 : Int)))) (4 : Nat)) then (bif (((2 : Nat) + (cutList [(50 : Int), (51 : Int), (53 : Int), (54 : Int)] (some (IntKind.i64.wrap (a0 - (7 : Int)))) (some (IntKind.i64.wrap (IntKind.i64.wrap (a0 - (7 : Int)) + (1 : Int))))).length).ble (274877906944 : Nat)) then (bif ((([(27 : Int), (91 : Int)] ++ cutList [(50 : Int), (51 : Int), (53 : Int), (54 : Int)] (some (IntKind.i64.wrap (a0 - (7 : Int)))) (some (IntKind.i64.wrap (IntKind.i64.wrap (a0 - (7 : Int)) + (1 : Int))))).length + (1 : Nat)).ble (274877906944 : Nat)) then (some ([(27 : Int), (91 : Int)] ++ cutList [(50 : Int), (51 : Int), (53 : Int), (54 : Int)] (some (IntKind.i64.wrap (a0 - (7 : Int)))) (some (IntKind.i64.wrap (IntKind.i64.wrap (a0 - (7 : Int)) + (1 : Int)))) ++ [(126 : Int)])) else none) else none) else none) else (bif (decide (a0 ≥ (11 : Int))) then (bif (decide (a0 ≤ (14 : Int))) then (bif (bnds (some (IntKind.i64.wrap (a0 - (11 : Int)))) (some (IntKind.i64.wrap (IntKind.i64.wrap (a0 - (11 : Int)) + (1 : Int)))) (4 : Nat)) then (bif (((2 : Nat) + (cutList [(80 : Int), (81 : Int), (82 : Int), (83 : Int)] (some (IntKind.i64.wrap (a0 - (11 : Int)))) (some (IntKind.i64.wrap (IntKind.i64.wrap (a0 - (11 : Int)) + (1 : Int))))).length).ble (274877906944 : Nat)) then (some ([(27 : Int), (79 : Int)] ++ cutList [(80 : Int), (81 : Int), (82 : Int), (83 : Int)] (some (IntKind.i64.wrap (a0 - (11 : Int)))) (some (IntKind.i64.wrap (IntKind.i64.wrap (a0 - (11 : Int)) + (1 : Int)))))) else none) else none) else (bif (a0 == (15 : Int)) then (some ([(27 : Int), (91 : Int), (49 : Int), (53 : Int), (126 : Int)])) else (some ([])))) else (bif (a0 == (15 : Int)) then (some ([(27 : Int), (91 : Int), (49 : Int), (53 : Int), (126 : Int)])) else (some ([]))))) else (bif (decide (a0 ≥ (11 : Int))) then (bif (decide (a0 ≤ (14 : Int))) then (bif (bnds (some (IntKind.i64.wrap (a0 - (11 : Int)))) (some (IntKind.i64.wrap (IntKind.i64.wrap (a0 - (11 : Int)) + (1 : Int)))) (4 : Nat)) then (bif (((2 : Nat) + (cutList [(80 : Int), (81 : Int), (82 : Int), (83 : Int)] (some (IntKind.i64.wrap (a0 - (11 : Int)))) (some (IntKind.i64.wrap (IntKind.i64.wrap (a0 - (11 : Int)) + (1 : Int))))).length).ble (274877906944 : Nat)) then (some ([(27 : Int), (79 : Int)] ++ cutList [(80 : Int), (81 : Int), (82 : Int), (83 : Int)] (some (IntKind.i64.wrap (a0 - (11 : Int)))) (some (IntKind.i64.wrap (IntKind.i64.wrap (a0 - (11 : Int)) + (1 : Int)))))) else none) else none) else (bif (a0 == (15 : Int)) then (some ([(27 : Int), (91 : Int), (49 : Int), (53 : Int), (126 : Int)])) else (some ([])))) else (bif (a0 == (15 : Int)) then (some ([(27 : Int), (91 : Int), (49 : Int), (53 : Int), (126 : Int)])) else (some ([])))))) else (bif (decide (a0 ≥ (7 : Int))) then (bif (decide (a0 ≤ (10 : Int))) then (bif (bnds (some (IntKind.i64.wrap (a0 - (7 : Int)))) (some (IntKind.i64.wrap (IntKind.i64.wrap (a0 - (7 : Int)) + (1 : Int)))) (4 : Nat)) then (bif (((2 : Nat) + (cutList [(50 : Int), (51 : Int), (53 : Int), (54 : Int)] (some (IntKind.i64.wrap (a0 - (7 : Int)))) (some (IntKind.i64.wrap (IntKind.i64.wrap (a0 - (7 : Int)) + (1 : Int))))).length).ble (274877906944 : Nat)) then (bif ((([(27 : Int), (91 : Int)] ++ cutList [(50 : Int), (51 : Int), (53 : Int), (54 : Int)] (some (IntKind.i64.wrap (a0 - (7 : Int)))) (some (IntKind.i64.wrap (IntKind.i64.wrap (a0 - (7 : Int)) + (1 : Int))))).length + (1 : Nat)).ble (274877906944 : Nat)) then (some ([(27 : Int), (91 : Int)] ++ cutList [(50 : Int), (51 : Int), (53 : Int), (54 : Int)] (some (IntKind.i64.wrap (a0 - (7 : Int)))) (some (IntKind.i64.wrap (IntKind.i64.wrap (a0 - (7 : Int)) + (1 : Int)))) ++ [(126 : Int)])) else none) else none) else none) else (bif (decide (a0 ≥ (11 : Int))) then (bif (decide (a0 ≤ (14 : Int))) then (bif (bnds (some (IntKind.i64.wrap (a0 - (11 : Int)))) (some (IntKind.i64.wrap (IntKind.i64.wrap (a0 - (11 : Int)) + (1 : Int)))) (4 : Nat)) then (bif (((2 : Nat) + (cutList [(80 : Int), (81 : Int), (82 : Int), (83 : Int)] (some (IntKind.i64.wrap (a0 - (11 : Int)))) (some (IntKind.i64.wrap (IntKind.i64.wrap (a0 - (11 : Int)) + (1 : Int))))).length).ble (274877906944 : Nat)) then (some ([(27 : Int), (79 : Int)] ++ cutList [(80 : Int), (81 : Int), (82 : Int), (83 : Int)] (some (IntKind.i64.wrap (a0 - (11 : Int)))) (some (IntKind.i64.wrap (IntKind.i64.wrap (a0 - (11 : Int)) + (1 : Int)))))) else none) else none) else (bif (a0 == (15 : Int)) then (some ([(27 : Int), (91 : Int), (49 : Int), (53 : Int), (126 : Int)])) else (some ([])))) else (bif (a0 == (15 : Int)) then (some ([(27 : Int), (91 : Int), (49 : Int), (53 : Int), (126 : Int)])) else (some ([]))))) else (bif (decide (a0 ≥ (11 : Int))) then (bif (decide (a0 ≤ (14 : Int))) then (bif (bnds (some (IntKind.i64.wrap (a0 - (11 : Int)))) (some (IntKind.i64.wrap (IntKind.i64.wrap (a0 - (11 : Int)) + (1 : Int)))) (4 : Nat)) then (bif (((2 : Nat) + (cutList [(80 : Int), (81 : Int), (82 : Int), (83 : Int)] (some (IntKind.i64.wrap (a0 - (11 : Int)))) (some (IntKind.i64.wrap (IntKind.i64.wrap (a0 - (11 : Int)) + (1 : Int))))).length).ble (274877906944 : Nat)) then (some ([(27 : Int), (79 : Int)] ++ cutList [(80 : Int), (81 : Int), (82 : Int), (83 : Int)] (some (IntKind.i64.wrap (a0 - (11 : Int)))) (some (IntKind.i64.wrap (IntKind.i64.wrap (a0 - (11 : Int)) + (1 : Int)))))) else none) else none) else (bif (a0 == (15 : Int)) then (some ([(27 : Int), (91 : Int), (49 : Int), (53 : Int), (126 : Int)])) else (some ([])))) else (bif (a0 == (15 : Int)) then (some ([(27 : Int), (91 : Int), (49 : Int), (53 : Int), (126 : Int)])) else (some ([]))))))
noncomputable def keys_Say_k4 {R : Type} (K : Ex → St → Option R) (o : Option ((List Int))) : Option R := optK o fun y => K (.ret) (keys_Say_y4_0.enc ((y, ()), ()))
theorem keys_Say_j4 {R : Type} (K : Ex → St → Option R) (a0 : Int) (a1 : List Int) : exec (envL sums0 ll0 cs0 (fun _ _ => false)) 15 (acall (envL sums0 ll0 cs0 (fun _ _ => false)) 1000) 0 keys_Say_b4 (keys_Say_t4.enc ((a0, (a1, ())), ())) (exitK keys_Say_ys4 0 K) = keys_Say_k4 K (keys_Say_J4 a0 a1) := by
    unfold keys_Say_J4
    exact Eq.trans (by kernel_rfl) (cond_push (keys_Say_k4 K) _ (cond_push (keys_Say_k4 K) _ (cond_push (keys_Say_k4 K) _ (cond_push (keys_Say_k4 K) _ rfl rfl) rfl) (cond_push (keys_Say_k4 K) _ (cond_push (keys_Say_k4 K) _ (cond_push (keys_Say_k4 K) _ (cond_push (keys_Say_k4 K) _ (cond_push (keys_Say_k4 K) _ rfl rfl) rfl) rfl) (cond_push (keys_Say_k4 K) _ (cond_push (keys_Say_k4 K) _ (cond_push (keys_Say_k4 K) _ (cond_push (keys_Say_k4 K) _ rfl rfl) rfl) (cond_push (keys_Say_k4 K) _ rfl rfl)) (cond_push (keys_Say_k4 K) _ rfl rfl))) (cond_push (keys_Say_k4 K) _ (cond_push (keys_Say_k4 K) _ (cond_push (keys_Say_k4 K) _ (cond_push (keys_Say_k4 K) _ rfl rfl) rfl) (cond_push (keys_Say_k4 K) _ rfl rfl)) (cond_push (keys_Say_k4 K) _ rfl rfl)))) (cond_push (keys_Say_k4 K) _ (cond_push (keys_Say_k4 K) _ (cond_push (keys_Say_k4 K) _ (cond_push (keys_Say_k4 K) _ (cond_push (keys_Say_k4 K) _ rfl rfl) rfl) rfl) (cond_push (keys_Say_k4 K) _ (cond_push (keys_Say_k4 K) _ (cond_push (keys_Say_k4 K) _ (cond_push (keys_Say_k4 K) _ rfl rfl) rfl) (cond_push (keys_Say_k4 K) _ rfl rfl)) (cond_push (keys_Say_k4 K) _ rfl rfl))) (cond_push (keys_Say_k4 K) _ (cond_push (keys_Say_k4 K) _ (cond_push (keys_Say_k4 K) _ (cond_push (keys_Say_k4 K) _ rfl rfl) rfl) (cond_push (keys_Say_k4 K) _ rfl rfl)) (cond_push (keys_Say_k4 K) _ rfl rfl))))
noncomputable def keys_Say_D4 : GoL keys_Say_t4 := fun R (x : ((Int × (List Int × Unit)) × Unit)) K => keys_Say_k4 K (hide keys_Say_J4 x.1.1 x.1.2.1)
theorem keys_Say_C4 : CutOk Tryd.prog 15 4 (loopH keys_Say_t4 0 keys_Say_D4) := cut_known (envL_ok sums0_ok ll0_ok cs0_ok) (N := 1000) Tryd.func15 rfl keys_Say_b4_is (xs := keys_Say_ys4) fun R (x : ((Int × (List Int × Unit)) × Unit)) K => by
  show keys_Say_k4 K (hide keys_Say_J4 x.1.1 x.1.2.1) = _
  rw [hide_eq]
  exact (keys_Say_j4 K x.1.1 x.1.2.1).symm
noncomputable def keys_Say_d4 : LoopF := loopH keys_Say_t4 0 keys_Say_D4
noncomputable def keys_Say_cs1 : LoopT := ((15, 4), keys_Say_d4) :: cs0
theorem keys_Say_cs1_ok : AllCut Tryd.prog keys_Say_cs1 := ⟨keys_Say_C4, cs0_ok⟩
noncomputable def keys_Say_F (x0 : Int) (x1 : Bool) : Option ((List Int)) := (bif x1 then (optK (hide keys_Say_J4 x0 ([(27 : Int), (79 : Int)])) fun y0 => (some y0)) else (optK (hide keys_Say_J4 x0 ([(27 : Int), (91 : Int)])) fun y1 => (some y1)))
noncomputable def keys_Say_A : SkL := (.cons (.int .i64) (.cons .bool .nil))
noncomputable def keys_Say_B : Sk := .str
def keys_Say_m {R : Type} (K : (List Int → Option R)) (o : Option ((List Int))) : Option R := optK o fun y => K y
theorem keys_Say_run {R : Type} (x0 : Int) (x1 : Bool) (K : (List Int → Option R)) : acall (envL sums0 ll0 keys_Say_cs1 (fun _ _ => false)) 1000 15 (keys_Say_A.enc (x0, (x1, ()))) [] (resK keys_Say_B true K) = keys_Say_m K (keys_Say_F x0 x1) := by
  unfold keys_Say_F
  exact Eq.trans (by kernel_rfl) (cond_push (keys_Say_m K) _ (optK_push (keys_Say_m K) rfl _ fun y0 => rfl) (optK_push (keys_Say_m K) rfl _ fun y1 => rfl))
noncomputable def keys_Say_G : GoF keys_Say_A keys_Say_B := fun R (x : (Int × (Bool × Unit))) K => keys_Say_m K (hide keys_Say_F x.1 x.2.1)
theorem keys_Say_known : Known Tryd.prog 15 keys_Say_A keys_Say_B true keys_Say_G := known_of (envL_ok sums0_ok ll0_ok keys_Say_cs1_ok) (n := 1000) rfl fun R (x : (Int × (Bool × Unit))) K => by
  show _ = keys_Say_m K (hide keys_Say_F x.1 x.2.1)
  rw [hide_eq]
  exact keys_Say_run x.1 x.2.1 K

noncomputable def internal_stringslite_HasPrefix_F (x0 : List Int) (x1 : List Int) : Option (Bool) := (bif (decide (Int.ofNat x0.length ≥ Int.ofNat x1.length)) then (bif (bnds none (some (Int.ofNat x1.length)) x0.length) then (some (cutList x0 none (some (Int.ofNat x1.length)) == x1)) else none) else (some (false)))
noncomputable def internal_stringslite_HasPrefix_A : SkL := (.cons .str (.cons .str .nil))
noncomputable def internal_stringslite_HasPrefix_B : Sk := .bool
def internal_stringslite_HasPrefix_m {R : Type} (K : (Bool → Option R)) (o : Option (Bool)) : Option R := optK o fun y => K y
theorem internal_stringslite_HasPrefix_run {R : Type} (x0 : List Int) (x1 : List Int) (K : (Bool → Option R)) : acall (envL sums0 ll0 cs0 (fun _ _ => false)) 1000 26 (internal_stringslite_HasPrefix_A.enc (x0, (x1, ()))) [] (resK internal_stringslite_HasPrefix_B true K) = internal_stringslite_HasPrefix_m K (internal_stringslite_HasPrefix_F x0 x1) := by
  unfold internal_stringslite_HasPrefix_F
  exact Eq.trans (by kernel_rfl) (cond_push (internal_stringslite_HasPrefix_m K) _ (cond_push (internal_stringslite_HasPrefix_m K) _ rfl rfl) rfl)
noncomputable def internal_stringslite_HasPrefix_G : GoF internal_stringslite_HasPrefix_A internal_stringslite_HasPrefix_B := fun R (x : (List Int × (List Int × Unit))) K => internal_stringslite_HasPrefix_m K (hide internal_stringslite_HasPrefix_F x.1 x.2.1)
theorem internal_stringslite_HasPrefix_known : Known Tryd.prog 26 internal_stringslite_HasPrefix_A internal_stringslite_HasPrefix_B true internal_stringslite_HasPrefix_G := known_of (envL_ok sums0_ok ll0_ok cs0_ok) (n := 1000) rfl fun R (x : (List Int × (List Int × Unit))) K => by
  show _ = internal_stringslite_HasPrefix_m K (hide internal_stringslite_HasPrefix_F x.1 x.2.1)
  rw [hide_eq]
  exact internal_stringslite_HasPrefix_run x.1 x.2.1 K

noncomputable def linguistbook_Same_byte_c4 : Code := ((Tryd.f16.body.map fun b => loopsAt b 4).getD []).headD .skip
theorem linguistbook_Same_byte_c4_is : (Tryd.f16.body.map fun b => loopsAt b 4) = some [linguistbook_Same_byte_c4] := by kernel_rfl
noncomputable def linguistbook_Same_byte_s4 : SkSt := ⟨(.cons (.list (.one (.int .u8))) (.cons (.list (.one (.int .u8))) (.gap 3 (.cons (.int .i64) (.gap 20 .nil))))), .nil⟩
noncomputable def linguistbook_Same_byte_x4_0 : SkSt := ⟨(.gap 4 (.cons .bool (.gap 21 .nil))), .nil⟩
noncomputable def linguistbook_Same_byte_x4_1 : SkSt := ⟨(.gap 26 .nil), .nil⟩
noncomputable def linguistbook_Same_byte_xs4 : List (Ex × SkSt) := [(.ret, linguistbook_Same_byte_x4_0), (.exit 0, linguistbook_Same_byte_x4_1)]
noncomputable def linguistbook_Same_byte_L4 : Nat → List (Int) → List (Int) → Int → Option (((Bool) ⊕ (Unit)))
  | 0, _, _, _ => none
  | n + 1, a0, a1, a2 => (bif (decide (a2 < Int.ofNat a0.length)) then (bif (decide ((0 : Int) ≤ a2) && decide (a2 < Int.ofNat a0.length) && true) then (bif (decide ((0 : Int) ≤ a2) && decide (a2 < Int.ofNat a1.length) && true) then (bif (a0.getD a2.toNat (0 : Int) != a1.getD a2.toNat (0 : Int)) then (some (.inl (false))) else (linguistbook_Same_byte_L4 n a0 a1 (IntKind.i64.wrap (a2 + (1 : Int))))) else none) else none) else (some (.inr ())))
noncomputable def linguistbook_Same_byte_I4 {R : Type} (K : Ex → St → Option R) : Nat → St → Option R := iterN (exec (envL sums0 ll0 cs0 (fun _ _ => false)) 16 (acall (envL sums0 ll0 cs0 (fun _ _ => false)) 1000) 0 linguistbook_Same_byte_c4) (normTo linguistbook_Same_byte_s4 0) (exitK linguistbook_Same_byte_xs4 0 K)
noncomputable def linguistbook_Same_byte_m4 {R : Type} (K : Ex → St → Option R) (o : Option (((Bool) ⊕ (Unit)))) : Option R := optK o fun y => sumK y (fun y => K (.ret) (linguistbook_Same_byte_x4_0.enc ((y, ()), ()))) (fun y => K (.exit 0) (linguistbook_Same_byte_x4_1.enc ((), ())))
theorem linguistbook_Same_byte_l4 {R : Type} (K : Ex → St → Option R) : ∀ (n : Nat), ∀ (a0 : List (Int)) (a1 : List (Int)) (a2 : Int), linguistbook_Same_byte_I4 K n (linguistbook_Same_byte_s4.enc ((a0, (a1, (a2, ()))), ())) = linguistbook_Same_byte_m4 K (linguistbook_Same_byte_L4 n a0 a1 a2) := by
  intro n
  induction n with
  | zero => intros; rfl
  | succ n ih =>
    intro a0 a1 a2
    rw [linguistbook_Same_byte_L4]
    exact Eq.trans (by kernel_rfl) (cond_push (linguistbook_Same_byte_m4 K) _ (cond_push (linguistbook_Same_byte_m4 K) _ (cond_push (linguistbook_Same_byte_m4 K) _ (cond_push (linguistbook_Same_byte_m4 K) _ rfl (ih a0 a1 (IntKind.i64.wrap (a2 + (1 : Int))))) rfl) rfl) rfl)
def linguistbook_Same_byte_fu4 (a0 : List (Int)) (a1 : List (Int)) (a2 : Int) : Nat := List.length a0 + List.length a1 + Int.natAbs a2 + 5000
noncomputable def linguistbook_Same_byte_G4 : GoL linguistbook_Same_byte_s4 := fun R (x : ((List (Int) × (List (Int) × (Int × Unit))) × Unit)) K => linguistbook_Same_byte_m4 K (hide linguistbook_Same_byte_L4 (linguistbook_Same_byte_fu4 x.1.1 x.1.2.1 x.1.2.2.1) x.1.1 x.1.2.1 x.1.2.2.1)
theorem linguistbook_Same_byte_H4 : LoopOk Tryd.prog 16 4 (loopH linguistbook_Same_byte_s4 0 linguistbook_Same_byte_G4) := loop_known (envL_ok sums0_ok ll0_ok cs0_ok) Tryd.func16 rfl linguistbook_Same_byte_c4_is (xs := linguistbook_Same_byte_xs4) (fuel := fun (x : ((List (Int) × (List (Int) × (Int × Unit))) × Unit)) => linguistbook_Same_byte_fu4 x.1.1 x.1.2.1 x.1.2.2.1) fun R (x : ((List (Int) × (List (Int) × (Int × Unit))) × Unit)) K => by
  show linguistbook_Same_byte_m4 K (hide linguistbook_Same_byte_L4 (linguistbook_Same_byte_fu4 x.1.1 x.1.2.1 x.1.2.2.1) x.1.1 x.1.2.1 x.1.2.2.1) = _
  rw [hide_eq]
  exact (linguistbook_Same_byte_l4 K (linguistbook_Same_byte_fu4 x.1.1 x.1.2.1 x.1.2.2.1) x.1.1 x.1.2.1 x.1.2.2.1).symm
noncomputable def linguistbook_Same_byte_h4 : LoopF := loopH linguistbook_Same_byte_s4 0 linguistbook_Same_byte_G4
noncomputable def linguistbook_Same_byte_ll1 : LoopT := ((16, 4), linguistbook_Same_byte_h4) :: ll0
theorem linguistbook_Same_byte_ll1_ok : AllLoop Tryd.prog linguistbook_Same_byte_ll1 := ⟨linguistbook_Same_byte_H4, ll0_ok⟩
noncomputable def linguistbook_Same_byte_F (x0 : List (Int)) (x1 : List (Int)) : Option (Bool) := (bif (Int.ofNat x0.length != Int.ofNat x1.length) then (some (false)) else (optK (hide linguistbook_Same_byte_L4 (linguistbook_Same_byte_fu4 x0 x1 (0 : Int)) x0 x1 (0 : Int)) fun y0 => (sumK y0 (fun y0a => (some y0a)) (fun y0b => (some (true))))))
noncomputable def linguistbook_Same_byte_A : SkL := (.cons (.list (.one (.int .u8))) (.cons (.list (.one (.int .u8))) .nil))
noncomputable def linguistbook_Same_byte_B : Sk := .bool
def linguistbook_Same_byte_m {R : Type} (K : (Bool → Option R)) (o : Option (Bool)) : Option R := optK o fun y => K y
theorem linguistbook_Same_byte_run {R : Type} (x0 : List (Int)) (x1 : List (Int)) (K : (Bool → Option R)) : acall (envL sums0 linguistbook_Same_byte_ll1 cs0 (fun _ _ => false)) 1000 16 (linguistbook_Same_byte_A.enc (x0, (x1, ()))) [] (resK linguistbook_Same_byte_B true K) = linguistbook_Same_byte_m K (linguistbook_Same_byte_F x0 x1) := by
  unfold linguistbook_Same_byte_F
  exact Eq.trans (by kernel_rfl) (cond_push (linguistbook_Same_byte_m K) _ rfl (optK_push (linguistbook_Same_byte_m K) rfl _ fun y0 => (sumK_push (linguistbook_Same_byte_m K) _ (fun y0a => rfl) (fun y0b => rfl))))
noncomputable def linguistbook_Same_byte_G : GoF linguistbook_Same_byte_A linguistbook_Same_byte_B := fun R (x : (List (Int) × (List (Int) × Unit))) K => linguistbook_Same_byte_m K (hide linguistbook_Same_byte_F x.1 x.2.1)
theorem linguistbook_Same_byte_known : Known Tryd.prog 16 linguistbook_Same_byte_A linguistbook_Same_byte_B true linguistbook_Same_byte_G := known_of (envL_ok sums0_ok linguistbook_Same_byte_ll1_ok cs0_ok) (n := 1000) rfl fun R (x : (List (Int) × (List (Int) × Unit))) K => by
  show _ = linguistbook_Same_byte_m K (hide linguistbook_Same_byte_F x.1 x.2.1)
  rw [hide_eq]
  exact linguistbook_Same_byte_run x.1 x.2.1 K

noncomputable def strings_trimRightByte_c1 : Code := ((Tryd.f27.body.map fun b => loopsAt b 1).getD []).headD .skip
theorem strings_trimRightByte_c1_is : (Tryd.f27.body.map fun b => loopsAt b 1) = some [strings_trimRightByte_c1] := by kernel_rfl
noncomputable def strings_trimRightByte_s1 : SkSt := ⟨(.cons .str (.cons (.int .u8) (.gap 21 .nil))), .nil⟩
noncomputable def strings_trimRightByte_x1_0 : SkSt := ⟨(.cons .str (.gap 22 .nil)), .nil⟩
noncomputable def strings_trimRightByte_xs1 : List (Ex × SkSt) := [(.exit 0, strings_trimRightByte_x1_0)]
noncomputable def strings_trimRightByte_L1 : Nat → List Int → Int → Option ((List Int))
  | 0, _, _ => none
  | n + 1, a0, a1 => (bif (decide (Int.ofNat a0.length > (0 : Int))) then (bif (decide ((0 : Int) ≤ IntKind.i64.wrap (Int.ofNat a0.length - (1 : Int))) && decide (IntKind.i64.wrap (Int.ofNat a0.length - (1 : Int)) < Int.ofNat a0.length)) then (bif (a0.getD (IntKind.i64.wrap (Int.ofNat a0.length - (1 : Int))).toNat (0 : Int) == a1) then (bif (bnds none (some (IntKind.i64.wrap (Int.ofNat a0.length - (1 : Int)))) a0.length) then (strings_trimRightByte_L1 n (cutList a0 none (some (IntKind.i64.wrap (Int.ofNat a0.length - (1 : Int))))) a1) else none) else (some a0)) else none) else (some a0))
noncomputable def strings_trimRightByte_I1 {R : Type} (K : Ex → St → Option R) : Nat → St → Option R := iterN (exec (envL sums0 ll0 cs0 (fun _ _ => false)) 27 (acall (envL sums0 ll0 cs0 (fun _ _ => false)) 1000) 0 strings_trimRightByte_c1) (normTo strings_trimRightByte_s1 0) (exitK strings_trimRightByte_xs1 0 K)
noncomputable def strings_trimRightByte_m1 {R : Type} (K : Ex → St → Option R) (o : Option ((List Int))) : Option R := optK o fun y => K (.exit 0) (strings_trimRightByte_x1_0.enc ((y, ()), ()))
theorem strings_trimRightByte_l1 {R : Type} (K : Ex → St → Option R) : ∀ (n : Nat), ∀ (a0 : List Int) (a1 : Int), strings_trimRightByte_I1 K n (strings_trimRightByte_s1.enc ((a0, (a1, ())), ())) = strings_trimRightByte_m1 K (strings_trimRightByte_L1 n a0 a1) := by
  intro n
  induction n with
  | zero => intros; rfl
  | succ n ih =>
    intro a0 a1
    rw [strings_trimRightByte_L1]
    exact Eq.trans (by kernel_rfl) (cond_push (strings_trimRightByte_m1 K) _ (cond_push (strings_trimRightByte_m1 K) _ (cond_push (strings_trimRightByte_m1 K) _ (cond_push (strings_trimRightByte_m1 K) _ (ih (cutList a0 none (some (IntKind.i64.wrap (Int.ofNat a0.length - (1 : Int))))) a1) rfl) rfl) rfl) rfl)
def strings_trimRightByte_fu1 (a0 : List Int) (a1 : Int) : Nat := List.length a0 + Int.natAbs a1 + 5000
noncomputable def strings_trimRightByte_G1 : GoL strings_trimRightByte_s1 := fun R (x : ((List Int × (Int × Unit)) × Unit)) K => strings_trimRightByte_m1 K (hide strings_trimRightByte_L1 (strings_trimRightByte_fu1 x.1.1 x.1.2.1) x.1.1 x.1.2.1)
theorem strings_trimRightByte_H1 : LoopOk Tryd.prog 27 1 (loopH strings_trimRightByte_s1 0 strings_trimRightByte_G1) := loop_known (envL_ok sums0_ok ll0_ok cs0_ok) Tryd.func27 rfl strings_trimRightByte_c1_is (xs := strings_trimRightByte_xs1) (fuel := fun (x : ((List Int × (Int × Unit)) × Unit)) => strings_trimRightByte_fu1 x.1.1 x.1.2.1) fun R (x : ((List Int × (Int × Unit)) × Unit)) K => by
  show strings_trimRightByte_m1 K (hide strings_trimRightByte_L1 (strings_trimRightByte_fu1 x.1.1 x.1.2.1) x.1.1 x.1.2.1) = _
  rw [hide_eq]
  exact (strings_trimRightByte_l1 K (strings_trimRightByte_fu1 x.1.1 x.1.2.1) x.1.1 x.1.2.1).symm
noncomputable def strings_trimRightByte_h1 : LoopF := loopH strings_trimRightByte_s1 0 strings_trimRightByte_G1
noncomputable def strings_trimRightByte_ll1 : LoopT := ((27, 1), strings_trimRightByte_h1) :: ll0
theorem strings_trimRightByte_ll1_ok : AllLoop Tryd.prog strings_trimRightByte_ll1 := ⟨strings_trimRightByte_H1, ll0_ok⟩
noncomputable def strings_trimRightByte_F (x0 : List Int) (x1 : Int) : Option ((List Int)) := (optK (hide strings_trimRightByte_L1 (strings_trimRightByte_fu1 x0 x1) x0 x1) fun y0 => (some y0))
noncomputable def strings_trimRightByte_A : SkL := (.cons .str (.cons (.int .u8) .nil))
noncomputable def strings_trimRightByte_B : Sk := .str
def strings_trimRightByte_m {R : Type} (K : (List Int → Option R)) (o : Option ((List Int))) : Option R := optK o fun y => K y
theorem strings_trimRightByte_run {R : Type} (x0 : List Int) (x1 : Int) (K : (List Int → Option R)) : acall (envL sums0 strings_trimRightByte_ll1 cs0 (fun _ _ => false)) 1000 27 (strings_trimRightByte_A.enc (x0, (x1, ()))) [] (resK strings_trimRightByte_B true K) = strings_trimRightByte_m K (strings_trimRightByte_F x0 x1) := by
  unfold strings_trimRightByte_F
  exact Eq.trans (by kernel_rfl) (optK_push (strings_trimRightByte_m K) rfl _ fun y0 => rfl)
noncomputable def strings_trimRightByte_G : GoF strings_trimRightByte_A strings_trimRightByte_B := fun R (x : (List Int × (Int × Unit))) K => strings_trimRightByte_m K (hide strings_trimRightByte_F x.1 x.2.1)
theorem strings_trimRightByte_known : Known Tryd.prog 27 strings_trimRightByte_A strings_trimRightByte_B true strings_trimRightByte_G := known_of (envL_ok sums0_ok strings_trimRightByte_ll1_ok cs0_ok) (n := 1000) rfl fun R (x : (List Int × (Int × Unit))) K => by
  show _ = strings_trimRightByte_m K (hide strings_trimRightByte_F x.1 x.2.1)
  rw [hide_eq]
  exact strings_trimRightByte_run x.1 x.2.1 K

noncomputable def slices_Clone_byte_A : SkL := (.cons (.list (.one (.int .u8))) .nil)
noncomputable def slices_Clone_byte_B : SkSt := ⟨.cst (.own 0 5 (.one (.int .u8))) .nil, .arr 5 (.one (.int .u8)) .nil⟩
noncomputable def slices_Clone_byte_G : GoW slices_Clone_byte_A slices_Clone_byte_B := cloneG 5 (.one (.int .u8))
theorem slices_Clone_byte_known : KnownW Tryd.prog 20 slices_Clone_byte_A slices_Clone_byte_B slices_Clone_byte_G := clone_known (envL_ok (fz := fun _ _ => false) sums0_ok ll0_ok cs0_ok) (n := 1000) (by kernel_rfl) (fun l => by kernel_rfl)
end Go.Proofs.YtcgpblgnhpajlaaDoorAbs

-- Written by a program of this session (dec.py); Lean checks it.
namespace Go.Proofs.YtcgpblgnhpajlaaDoorAbs
open Go Go.Proofs
set_option linter.unusedVariables false
set_option maxHeartbeats 2000000
set_option maxRecDepth 100000
noncomputable def strings_HasPrefix_su : SumT := (26, sumH internal_stringslite_HasPrefix_A internal_stringslite_HasPrefix_B true internal_stringslite_HasPrefix_G) :: sums0
theorem strings_HasPrefix_su_ok : AllSum Tryd.prog strings_HasPrefix_su := ⟨sumH_ok rfl rfl internal_stringslite_HasPrefix_known, sums0_ok⟩
noncomputable def strings_HasPrefix_F (x0 : List Int) (x1 : List Int) : Option (Bool) := (optK ((hide internal_stringslite_HasPrefix_F x0 x1)) fun y0 => (some y0))
noncomputable def strings_HasPrefix_A : SkL := (.cons .str (.cons .str .nil))
noncomputable def strings_HasPrefix_B : Sk := .bool
def strings_HasPrefix_m {R : Type} (K : (Bool → Option R)) (o : Option (Bool)) : Option R := optK o fun y => K y
theorem strings_HasPrefix_run {R : Type} (x0 : List Int) (x1 : List Int) (K : (Bool → Option R)) : acall (envL strings_HasPrefix_su ll0 cs0 (fun _ _ => false)) 1000 23 (strings_HasPrefix_A.enc (x0, (x1, ()))) [] (resK strings_HasPrefix_B true K) = strings_HasPrefix_m K (strings_HasPrefix_F x0 x1) := by
  unfold strings_HasPrefix_F
  exact Eq.trans (by kernel_rfl) (optK_push (strings_HasPrefix_m K) rfl _ fun y0 => rfl)
noncomputable def strings_HasPrefix_G : GoF strings_HasPrefix_A strings_HasPrefix_B := fun R (x : (List Int × (List Int × Unit))) K => strings_HasPrefix_m K (hide strings_HasPrefix_F x.1 x.2.1)
theorem strings_HasPrefix_known : Known Tryd.prog 23 strings_HasPrefix_A strings_HasPrefix_B true strings_HasPrefix_G := known_of (envL_ok strings_HasPrefix_su_ok ll0_ok cs0_ok) (n := 1000) rfl fun R (x : (List Int × (List Int × Unit))) K => by
  show _ = strings_HasPrefix_m K (hide strings_HasPrefix_F x.1 x.2.1)
  rw [hide_eq]
  exact strings_HasPrefix_run x.1 x.2.1 K

noncomputable def keys_Code_text_su : SumT := (27, sumH strings_trimRightByte_A strings_trimRightByte_B true strings_trimRightByte_G) :: sums0
theorem keys_Code_text_su_ok : AllSum Tryd.prog keys_Code_text_su := ⟨sumH_ok rfl rfl strings_trimRightByte_known, sums0_ok⟩
noncomputable def keys_Code_text_F (x0 : Int) (x1 : Int) (x2 : Int) (x3 : Int) (x4 : Int) : Option ((List Int)) := (optK ((hide strings_trimRightByte_F [x0, x1, x2, x3, x4] (0 : Int))) fun y0 => (some y0))
noncomputable def keys_Code_text_A : SkL := (.cons (.agg (.cons (.int .u8) (.cons (.int .u8) (.cons (.int .u8) (.cons (.int .u8) (.cons (.int .u8) .nil)))))) .nil)
noncomputable def keys_Code_text_B : Sk := .str
def keys_Code_text_m {R : Type} (K : (List Int → Option R)) (o : Option ((List Int))) : Option R := optK o fun y => K y
theorem keys_Code_text_run {R : Type} (x0 : Int) (x1 : Int) (x2 : Int) (x3 : Int) (x4 : Int) (K : (List Int → Option R)) : acall (envL keys_Code_text_su ll0 cs0 (fun _ _ => false)) 1000 22 (keys_Code_text_A.enc ((x0, (x1, (x2, (x3, (x4, ()))))), ())) [] (resK keys_Code_text_B true K) = keys_Code_text_m K (keys_Code_text_F x0 x1 x2 x3 x4) := by
  unfold keys_Code_text_F
  exact Eq.trans (by kernel_rfl) (optK_push (keys_Code_text_m K) rfl _ fun y0 => rfl)
noncomputable def keys_Code_text_G : GoF keys_Code_text_A keys_Code_text_B := fun R (x : ((Int × (Int × (Int × (Int × (Int × Unit))))) × Unit)) K => keys_Code_text_m K (hide keys_Code_text_F x.1.1 x.1.2.1 x.1.2.2.1 x.1.2.2.2.1 x.1.2.2.2.2.1)
theorem keys_Code_text_known : Known Tryd.prog 22 keys_Code_text_A keys_Code_text_B true keys_Code_text_G := known_of (envL_ok keys_Code_text_su_ok ll0_ok cs0_ok) (n := 1000) rfl fun R (x : ((Int × (Int × (Int × (Int × (Int × Unit))))) × Unit)) K => by
  show _ = keys_Code_text_m K (hide keys_Code_text_F x.1.1 x.1.2.1 x.1.2.2.1 x.1.2.2.2.1 x.1.2.2.2.2.1)
  rw [hide_eq]
  exact keys_Code_text_run x.1.1 x.1.2.1 x.1.2.2.1 x.1.2.2.2.1 x.1.2.2.2.2.1 K
end Go.Proofs.YtcgpblgnhpajlaaDoorAbs

/- The loop of keys.Match, a range over a map: rounds. -/
namespace Go.Proofs.YtcgpblgnhpajlaaDoorAbs
open Go Go.Proofs
set_option linter.unusedVariables false
set_option maxHeartbeats 2000000
set_option maxRecDepth 100000

/-! ### plain laws of what the round calls -/
def trimR (c : Int) : List Int → List Int
  | [] => []
  | x :: l => match trimR c l with
    | [] => bif x == c then [] else [x]
    | y :: k => x :: y :: k
theorem trimR_end (c : Int) : (l : List Int) → trimR c (l ++ [c]) = trimR c l
  | [] => by simp [trimR]
  | x :: l => by simp only [List.cons_append, trimR, trimR_end c l]
theorem trimR_stay (c x : Int) (h : (x == c) = false) : (l : List Int) → trimR c (l ++ [x]) = l ++ [x]
  | [] => by simp [trimR, h]
  | y :: l => by
    simp only [List.cons_append, trimR, trimR_stay c x h l]
    cases l <;> rfl
theorem wrap_small (n : Int) (h0 : 0 ≤ n) (h1 : n < 2 ^ 62) : IntKind.i64.wrap n = n := by
  rw [IntKind.wrap_i64]; omega
theorem trim_loop (c : Int) : (n : Nat) → (l : List Int) → l.length < n → l.length < 1000 → strings_trimRightByte_L1 n l c = some (trimR c l)
  | 0, l, h, _ => by omega
  | n + 1, l, h, hb => by
    rw [strings_trimRightByte_L1]
    rcases List.eq_nil_or_concat l with rfl | ⟨l', x, rfl⟩
    · simp [trimR]
    · have hw : IntKind.i64.wrap (Int.ofNat (l' ++ [x]).length - (1 : Int)) = Int.ofNat l'.length := by
        rw [List.length_append, List.length_singleton]
        simp only [Int.ofNat_eq_natCast]
        rw [wrap_small _ (by omega) (by simp at hb; omega)]
        omega
      simp only [List.concat_eq_append] at h hb ⊢
      rw [hw]
      have g1 : decide (Int.ofNat (l' ++ [x]).length > (0 : Int)) = true := by simp
      have g2 : (decide ((0 : Int) ≤ Int.ofNat l'.length) && decide (Int.ofNat l'.length < Int.ofNat (l' ++ [x]).length)) = true := by simp; omega
      have g3 : (l' ++ [x]).getD (Int.ofNat l'.length).toNat (0 : Int) = x := by simp [List.getD]
      have g4 : bnds none (some (Int.ofNat l'.length)) (l' ++ [x]).length = true := by simp [bnds]; omega
      have g5 : cutList (l' ++ [x]) none (some (Int.ofNat l'.length)) = l' := by simp [cutList]
      rw [g1, g2, g3, g4, g5]
      simp only [cond_true]
      cases hx : x == c with
      | true =>
        have : x = c := by simpa using hx
        subst this
        rw [cond_true, trimR_end]
        exact trim_loop x n l' (by simp at h; omega) (by simp at hb; omega)
      | false => rw [cond_false, trimR_stay c x hx]
def keyText (k : Int × Int × Int × Int × Int) : List Int := trimR 0 [k.1, k.2.1, k.2.2.1, k.2.2.2.1, k.2.2.2.2]
theorem text_is (a b c d e : Int) : keys_Code_text_F a b c d e = some (keyText (a, b, c, d, e)) := by
  unfold keys_Code_text_F strings_trimRightByte_F
  simp only [hide_eq]
  rw [trim_loop 0 _ _ (by unfold strings_trimRightByte_fu1; exact Nat.lt_of_lt_of_le (by simp : [a, b, c, d, e].length < 5000) (Nat.le_add_left 5000 _)) (by simp)]
  rfl
def isPre (t s : List Int) : Bool := decide (t.length ≤ s.length) && (s.take t.length == t)
theorem hasPrefix_is (s t : List Int) : strings_HasPrefix_F s t = some (isPre t s) := by
  unfold strings_HasPrefix_F internal_stringslite_HasPrefix_F
  simp only [hide_eq]
  by_cases h : t.length ≤ s.length
  · have g1 : decide (Int.ofNat s.length ≥ Int.ofNat t.length) = true := by simpa using h
    have g2 : bnds none (some (Int.ofNat t.length)) s.length = true := by simpa [bnds] using h
    rw [g1, g2]
    simp [isPre, h, cutList, optK]
  · have g1 : decide (Int.ofNat s.length ≥ Int.ofNat t.length) = false := by simpa using h
    rw [g1]
    simp [isPre, h, optK]

/-! ### the loop's code and its states -/
noncomputable def keys_Match_c5 : Code := ((Tryd.f17.body.map fun b => loopsAt b 5).getD []).headD .skip
theorem keys_Match_c5_is : (Tryd.f17.body.map fun b => loopsAt b 5) = some [keys_Match_c5] := by kernel_rfl
noncomputable def keys_Match_p : RangeAt := (rangeOf keys_Match_c5).getD ⟨0, default, default, 0, 0, 0, 0, #[], default, [], .skip, 0, 0, 0⟩
theorem keys_Match_p_is : rangeOf keys_Match_c5 = some keys_Match_p := by kernel_rfl

abbrev MEnt := (Int × Int × Int × Int × Int) × Int
/-- What is kept: at the head more, s and the iterator; behind the loop more; at a return the results. -/
def keys_Match_mks : Ex → List Bool
  | .normal => (List.range 44).map fun i => Nat.beq i 6 || Nat.beq i 7 || Nat.beq i 18
  | .ret => (List.range 44).map fun i => Nat.beq i 4 || Nat.beq i 5 || Nat.beq i 6
  | .exit _ => (List.range 44).map fun i => Nat.beq i 6
def keys_Match_encT (x : Bool × List Int) : List AV := [.bool x.1, .str x.2, .iter 0]
def keys_Match_decT (vs : List AV) : Option (Bool × List Int) := match vs with
  | [.bool b, .str l, .iter 0] => some (b, l)
  | _ => none
theorem keys_Match_decT_ok : ∀ vs x, keys_Match_decT vs = some x → vs = keys_Match_encT x := by
  intro vs x e
  unfold keys_Match_decT at e
  split at e
  · injection e with e; subst e; rfl
  · cases e
noncomputable def keys_Match_rsu : SumT := (22, sumH keys_Code_text_A keys_Code_text_B true keys_Code_text_G) :: (23, sumH strings_HasPrefix_A strings_HasPrefix_B true strings_HasPrefix_G) :: sums0
theorem keys_Match_rsu_ok : AllSum Tryd.prog keys_Match_rsu := ⟨sumH_ok rfl rfl keys_Code_text_known, sumH_ok rfl rfl strings_HasPrefix_known, sums0_ok⟩
noncomputable def keys_Match_E : Env := envL keys_Match_rsu ll0 cs0 (fun _ _ => false)
def keys_Match_retSt (k u : Int) : St := ⟨fillM (keys_Match_mks .ret) [.int .i64 k, .int .i64 u, .bool false], []⟩
def keys_Match_endSt (m : Bool) : St := ⟨fillM (keys_Match_mks (.exit 0)) [.bool m], []⟩
noncomputable def keys_Match_enc (es : List MEnt) (seen : List Nat) (x : Bool × List Int) : St := encR (keys_Match_mks .normal) keys_Match_encT true row5 (.int .i64) es seen x
theorem keys_Match_round (es : List MEnt) (seen : List Nat) (mr : Bool) (s : List Int) (a b c d e v : Int) : roundE (R := Ex × St) keys_Match_E 17 (acall keys_Match_E 1000) 0 keys_Match_p (keys_Match_enc es seen (mr, s)) (keyAV true row5 (a, b, c, d, e)) ((CTy.int .i64).av v) (fun e s' => nmE keys_Match_mks 0 (Ex × St) e s' fun e s => some (e, s)) =
    optK (hide keys_Code_text_F a b c d e) fun t => optK (hide strings_HasPrefix_F s t) fun hp => bif hp then some (.ret, keys_Match_retSt v (Int.ofNat t.length)) else
      bif mr then some (.normal, keys_Match_enc es seen (true, s)) else bif !(s == []) then optK (hide keys_Code_text_F a b c d e) fun t2 => optK (hide strings_HasPrefix_F t2 s) fun hp2 => some (.normal, keys_Match_enc es seen (hp2, s)) else some (.normal, keys_Match_enc es seen (false, s)) := by kernel_rfl
theorem keys_Match_over (es : List MEnt) (seen : List Nat) (x : Bool × List Int) : nmE keys_Match_mks 0 (Ex × St) (.exit keys_Match_p.i0) ⟨tset (tset (keys_Match_enc es seen x).T keys_Match_p.d19 .any) keys_Match_p.c20 (.bool false), (keys_Match_enc es seen x).h⟩ (fun e s => some (e, s)) = some (.exit 0, keys_Match_endSt x.1) := by kernel_rfl
end Go.Proofs.YtcgpblgnhpajlaaDoorAbs

/- The loop of keys.Match: in whatever order, one result. -/
namespace Go.Proofs.YtcgpblgnhpajlaaDoorAbs
open Go Go.Proofs
set_option linter.unusedVariables false
set_option maxHeartbeats 2000000
set_option maxRecDepth 100000

theorem isPre_iff (t s : List Int) : isPre t s = true ↔ t <+: s := by
  unfold isPre
  rw [List.prefix_iff_eq_take]
  constructor
  · intro h
    simp only [Bool.and_eq_true, beq_iff_eq, decide_eq_true_eq] at h
    exact h.2.symm
  · intro h
    simp only [Bool.and_eq_true, beq_iff_eq, decide_eq_true_eq]
    refine ⟨?_, h.symm⟩
    have := congrArg List.length h
    rw [List.length_take] at this
    omega
def mtch (s : List Int) (e : MEnt) : Bool := isPre (keyText e.1) s
def mbeg (s : List Int) (e : MEnt) : Bool := !(s == []) && isPre s (keyText e.1)
def keys_Match_ρ (x : Bool × List Int) (en : MEnt) : Sum (Bool × List Int) (Ex × St) :=
  bif mtch x.2 en then .inr (.ret, keys_Match_retSt en.2 (Int.ofNat (keyText en.1).length)) else .inl (x.1 || mbeg x.2 en, x.2)
def keys_Match_fin (x : Bool × List Int) : Ex × St := (.exit 0, keys_Match_endSt x.1)
theorem keys_Match_round' (es : List MEnt) (seen : List Nat) (mr : Bool) (s : List Int) (a b c d e v : Int) : roundE (R := Ex × St) keys_Match_E 17 (acall keys_Match_E 1000) 0 keys_Match_p (keys_Match_enc es seen (mr, s)) (keyAV true row5 (a, b, c, d, e)) ((CTy.int .i64).av v) (fun e s' => nmE keys_Match_mks 0 (Ex × St) e s' fun e s => some (e, s)) =
    some (outR (keys_Match_enc es seen) (keys_Match_ρ (mr, s) ((a, b, c, d, e), v))) := by
  rw [keys_Match_round es seen mr s a b c d e v]
  simp only [hide_eq, text_is, hasPrefix_is, optK]
  unfold keys_Match_ρ mtch mbeg
  simp only
  generalize keyText (a, b, c, d, e) = t
  cases isPre t s
  · cases mr
    · cases s == [] <;> rfl
    · rfl
  · rfl
theorem keys_Match_facts (es : List MEnt) : RangeFacts Tryd.prog keys_Match_E 17 keys_Match_p true row5 (.int .i64) keys_Match_mks keys_Match_encT es keys_Match_ρ keys_Match_fin where
  it := fun x => by kernel_rfl
  dlt := fun x => by
    show keys_Match_p.d19 < (fillM (keys_Match_mks .normal) (keys_Match_encT x)).length
    have e1 : keys_Match_p.d19 = 19 := by kernel_rfl
    have e2 : (fillM (keys_Match_mks .normal) (keys_Match_encT x)).length = 44 := by kernel_rfl
    rw [e1, e2]; decide
  clt := fun x => by
    have e1 : keys_Match_p.c20 = 20 := by kernel_rfl
    have e2 : (fillM (keys_Match_mks .normal) (keys_Match_encT x)).length = 44 := by kernel_rfl
    rw [e1, e2]; decide
  round := fun seen ⟨mr, s⟩ ⟨⟨a, b, c, d, e⟩, v⟩ => keys_Match_round' es seen mr s a b c d e v
  stop := fun x en o h => by
    unfold keys_Match_ρ at h
    cases hb : mtch x.2 en with
    | true => rw [hb] at h; injection h with h; subst h; intro k; cases k
    | false => rw [hb] at h; cases h
  over := fun seen x => keys_Match_over es seen x

/-! ### all orders -/
theorem rng_is (s : List Int) : (es : List MEnt) → (mr : Bool) → rng keys_Match_ρ keys_Match_fin es (mr, s) = match es.find? (mtch s) with
    | some e => (.ret, keys_Match_retSt e.2 (Int.ofNat (keyText e.1).length))
    | none => (.exit 0, keys_Match_endSt (mr || es.any (mbeg s)))
  | [], mr => by simp [rng, keys_Match_fin]
  | e :: es, mr => by
    rw [rng, show keys_Match_ρ (mr, s) e = (bif mtch s e then .inr (.ret, keys_Match_retSt e.2 (Int.ofNat (keyText e.1).length)) else .inl (mr || mbeg s e, s)) from rfl]
    cases hb : mtch s e with
    | true => simp only [hb, cond_true, List.find?_cons]
    | false =>
      simp only [hb, cond_false, List.find?_cons, List.any_cons]
      rw [rng_is s es (mr || mbeg s e), Bool.or_assoc]
/-- No key begins another one. -/
def keysGood (es : List MEnt) : Bool := es.all fun e => es.all fun e' => !(isPre (keyText e.1) (keyText e'.1)) || decide (e = e')
theorem keysGood_one {es : List MEnt} (h : keysGood es = true) {s : List Int} {e e' : MEnt} (he : e ∈ es) (he' : e' ∈ es) (h1 : mtch s e = true) (h2 : mtch s e' = true) : e = e' := by
  unfold keysGood at h
  have key : ∀ a ∈ es, ∀ b ∈ es, isPre (keyText a.1) (keyText b.1) = true → a = b := fun a ha b hb hp => by
    have := List.all_eq_true.1 (List.all_eq_true.1 h a ha) b hb
    simpa [hp] using this
  have p1 := (isPre_iff _ _).1 h1
  have p2 := (isPre_iff _ _).1 h2
  rcases Nat.le_total (keyText e.1).length (keyText e'.1).length with hl | hl
  · exact key e he e' he' ((isPre_iff _ _).2 (List.prefix_of_prefix_length_le p1 p2 hl))
  · exact (key e' he' e he ((isPre_iff _ _).2 (List.prefix_of_prefix_length_le p2 p1 hl))).symm
theorem find_perm {s : List Int} {l es : List MEnt} (h : keysGood es = true) (hp : l.Perm es) : l.find? (mtch s) = es.find? (mtch s) := by
  cases h1 : l.find? (mtch s) with
  | none =>
    rw [List.find?_eq_none] at h1
    symm
    rw [List.find?_eq_none]
    exact fun x hx => h1 x (hp.mem_iff.2 hx)
  | some e =>
    have m1 := hp.mem_iff.1 (List.mem_of_find?_eq_some h1)
    have b1 := List.find?_some h1
    cases h2 : es.find? (mtch s) with
    | none => rw [List.find?_eq_none] at h2; exact absurd b1 (h2 e m1)
    | some e' => rw [keysGood_one h m1 (List.mem_of_find?_eq_some h2) b1 (List.find?_some h2)]
theorem any_perm {p : MEnt → Bool} {l es : List MEnt} (hp : l.Perm es) : l.any p = es.any p := by
  rw [Bool.eq_iff_iff, List.any_eq_true, List.any_eq_true]
  exact ⟨fun ⟨x, h1, h2⟩ => ⟨x, hp.mem_iff.1 h1, h2⟩, fun ⟨x, h1, h2⟩ => ⟨x, hp.mem_iff.2 h1, h2⟩⟩
/-- What the loop comes to: a return? the key, its length; else whether more may come. -/
def keys_Match_R5 (es : List MEnt) (s : List Int) (mr : Bool) : Option (Bool × Int × Int × Bool) := some (match es.find? (mtch s) with
  | some e => (true, e.2, Int.ofNat (keyText e.1).length, false)
  | none => (false, 0, 0, mr || es.any (mbeg s)))
noncomputable def keys_Match_G5 : GoR row5 (.int .i64) (Bool × List Int) := fun R es x K =>
  forceLs (fun y k => Row.force row5 y.1 fun a => CTy.force (.int .i64) y.2 fun b => k (a, b)) es fun es =>
  bif keysGood es then optK (hide keys_Match_R5 es x.2 x.1) fun y => bif y.1 then K .ret (keys_Match_retSt y.2.1 y.2.2.1) else K (.exit 0) (keys_Match_endSt y.2.2.2) else none
noncomputable def keys_Match_h5 : LoopF := rangeH true row5 (.int .i64) keys_Match_mks keys_Match_decT keys_Match_G5
theorem keys_Match_H5 : LoopOk Tryd.prog 17 5 keys_Match_h5 := by
  refine rangeH_ok (envL_ok (fz := fun _ _ => false) keys_Match_rsu_ok ll0_ok cs0_ok) Tryd.func17 rfl keys_Match_c5_is keys_Match_p_is keys_Match_decT_ok (G := keys_Match_G5) fun R es x K res e => ?_
  unfold keys_Match_G5 at e
  rw [forceLs_eq fun x k => by rw [Row.force_eq, CTy.force_eq]] at e
  obtain ⟨hg, e⟩ := cond_some e
  obtain ⟨y, hy, e⟩ := optK_ok e
  rw [hide_eq] at hy
  obtain ⟨mr, s⟩ := x
  refine ⟨rng keys_Match_ρ keys_Match_fin es (mr, s), ?_, keys_Match_ρ, keys_Match_fin, keys_Match_facts es, fun l hp => ?_⟩
  · rw [show rng keys_Match_ρ keys_Match_fin es (mr, s) = _ from rng_is s es mr]
    unfold keys_Match_R5 at hy
    injection hy with hy
    cases hf : es.find? (mtch s) with
    | none => rw [hf] at hy; subst hy; exact e
    | some en => rw [hf] at hy; subst hy; exact e
  · have h1 := rng_is s l mr
    have h2 := rng_is s es mr
    rw [find_perm hg hp, any_perm hp] at h1
    exact h1.trans h2.symm
noncomputable def keys_Match_gl : LoopT := [((17, 5), keys_Match_h5)]
theorem keys_Match_gl_ok : AllLoop Tryd.prog keys_Match_gl := ⟨keys_Match_H5, trivial⟩
end Go.Proofs.YtcgpblgnhpajlaaDoorAbs

-- Written by a program of this session (dec.py); Lean checks it.
namespace Go.Proofs.YtcgpblgnhpajlaaDoorAbs
open Go Go.Proofs
set_option linter.unusedVariables false
set_option maxHeartbeats 2000000
set_option maxRecDepth 100000
noncomputable def keys_Match_su : SumT := (19, sumH dialect_Right_A dialect_Right_B true dialect_Right_G) :: (22, sumH keys_Code_text_A keys_Code_text_B true keys_Code_text_G) :: (23, sumH strings_HasPrefix_A strings_HasPrefix_B true strings_HasPrefix_G) :: sums0
theorem keys_Match_su_ok : AllSum Tryd.prog keys_Match_su := ⟨sumH_ok rfl rfl dialect_Right_known, ⟨sumH_ok rfl rfl keys_Code_text_known, ⟨sumH_ok rfl rfl strings_HasPrefix_known, sums0_ok⟩⟩⟩
noncomputable def keys_Match_F (x0 : Int) (x1 : List (Int)) : Option (Int × Int × Bool) := (optK ((hide dialect_Right_F x0)) fun y0 => (bif (!y0) then (some ((0 : Int), (0 : Int), (false))) else (bif (x0 == (1 : Int)) then (optK ((hide keys_Match_R5 [(((27 : Int), (91 : Int), (65 : Int), (0 : Int), (0 : Int)), (1 : Int)), (((27 : Int), (91 : Int), (66 : Int), (0 : Int), (0 : Int)), (2 : Int)), (((27 : Int), (91 : Int), (67 : Int), (0 : Int), (0 : Int)), (3 : Int)), (((27 : Int), (91 : Int), (68 : Int), (0 : Int), (0 : Int)), (4 : Int)), (((27 : Int), (79 : Int), (65 : Int), (0 : Int), (0 : Int)), (1 : Int)), (((27 : Int), (79 : Int), (66 : Int), (0 : Int), (0 : Int)), (2 : Int)), (((27 : Int), (79 : Int), (67 : Int), (0 : Int), (0 : Int)), (3 : Int)), (((27 : Int), (79 : Int), (68 : Int), (0 : Int), (0 : Int)), (4 : Int)), (((27 : Int), (79 : Int), (80 : Int), (0 : Int), (0 : Int)), (11 : Int)), (((27 : Int), (79 : Int), (81 : Int), (0 : Int), (0 : Int)), (12 : Int)), (((27 : Int), (79 : Int), (82 : Int), (0 : Int), (0 : Int)), (13 : Int)), (((27 : Int), (79 : Int), (83 : Int), (0 : Int), (0 : Int)), (14 : Int))] x1 false)) fun y1 => (bif (y1.1) then (some ((y1.2.1), (y1.2.2.1), (false))) else (some ((0 : Int), (0 : Int), (y1.2.2.2))))) else (bif (x0 == (2 : Int)) then (optK ((hide keys_Match_R5 [(((27 : Int), (91 : Int), (65 : Int), (0 : Int), (0 : Int)), (1 : Int)), (((27 : Int), (91 : Int), (66 : Int), (0 : Int), (0 : Int)), (2 : Int)), (((27 : Int), (91 : Int), (67 : Int), (0 : Int), (0 : Int)), (3 : Int)), (((27 : Int), (91 : Int), (68 : Int), (0 : Int), (0 : Int)), (4 : Int)), (((27 : Int), (91 : Int), (91 : Int), (65 : Int), (0 : Int)), (11 : Int)), (((27 : Int), (91 : Int), (91 : Int), (66 : Int), (0 : Int)), (12 : Int)), (((27 : Int), (91 : Int), (91 : Int), (67 : Int), (0 : Int)), (13 : Int)), (((27 : Int), (91 : Int), (91 : Int), (68 : Int), (0 : Int)), (14 : Int)), (((27 : Int), (91 : Int), (91 : Int), (69 : Int), (0 : Int)), (15 : Int)), (((27 : Int), (91 : Int), (49 : Int), (126 : Int), (0 : Int)), (5 : Int)), (((27 : Int), (91 : Int), (52 : Int), (126 : Int), (0 : Int)), (6 : Int)), (((27 : Int), (91 : Int), (50 : Int), (126 : Int), (0 : Int)), (7 : Int)), (((27 : Int), (91 : Int), (51 : Int), (126 : Int), (0 : Int)), (8 : Int)), (((27 : Int), (91 : Int), (53 : Int), (126 : Int), (0 : Int)), (9 : Int)), (((27 : Int), (91 : Int), (54 : Int), (126 : Int), (0 : Int)), (10 : Int))] x1 false)) fun y2 => (bif (y2.1) then (some ((y2.2.1), (y2.2.2.1), (false))) else (some ((0 : Int), (0 : Int), (y2.2.2.2))))) else (bif (x0 == (3 : Int)) then (optK ((hide keys_Match_R5 [(((27 : Int), (65 : Int), (0 : Int), (0 : Int), (0 : Int)), (1 : Int)), (((27 : Int), (66 : Int), (0 : Int), (0 : Int), (0 : Int)), (2 : Int)), (((27 : Int), (67 : Int), (0 : Int), (0 : Int), (0 : Int)), (3 : Int)), (((27 : Int), (68 : Int), (0 : Int), (0 : Int), (0 : Int)), (4 : Int)), (((27 : Int), (80 : Int), (0 : Int), (0 : Int), (0 : Int)), (11 : Int)), (((27 : Int), (81 : Int), (0 : Int), (0 : Int), (0 : Int)), (12 : Int)), (((27 : Int), (82 : Int), (0 : Int), (0 : Int), (0 : Int)), (13 : Int)), (((27 : Int), (83 : Int), (0 : Int), (0 : Int), (0 : Int)), (14 : Int))] x1 false)) fun y3 => (bif (y3.1) then (some ((y3.2.1), (y3.2.2.1), (false))) else (some ((0 : Int), (0 : Int), (y3.2.2.2))))) else (optK ((hide keys_Match_R5 [] x1 false)) fun y4 => (bif (y4.1) then (some ((y4.2.1), (y4.2.2.1), (false))) else (some ((0 : Int), (0 : Int), (y4.2.2.2))))))))))
noncomputable def keys_Match_A : SkL := (.cons (.int .i64) (.cons (.list (.one (.int .u8))) .nil))
noncomputable def keys_Match_B : Sk := (.tup (.cons (.int .i64) (.cons (.int .i64) (.cons .bool .nil))))
def keys_Match_m {R : Type} (K : ((Int × (Int × (Bool × Unit))) → Option R)) (o : Option (Int × Int × Bool)) : Option R := optK o fun y => K (y.1, (y.2.1, (y.2.2, ())))
theorem keys_Match_run {R : Type} (x0 : Int) (x1 : List (Int)) (K : ((Int × (Int × (Bool × Unit))) → Option R)) : acall (envL keys_Match_su keys_Match_gl cs0 (fun _ _ => false)) 1000 17 (keys_Match_A.enc (x0, (x1, ()))) [] (resK keys_Match_B true K) = keys_Match_m K (keys_Match_F x0 x1) := by
  unfold keys_Match_F
  exact Eq.trans (by kernel_rfl) (optK_push (keys_Match_m K) rfl _ fun y0 => (cond_push (keys_Match_m K) _ rfl (cond_push (keys_Match_m K) _ (optK_push (keys_Match_m K) rfl _ fun y1 => (cond_push (keys_Match_m K) _ rfl rfl)) (cond_push (keys_Match_m K) _ (optK_push (keys_Match_m K) rfl _ fun y2 => (cond_push (keys_Match_m K) _ rfl rfl)) (cond_push (keys_Match_m K) _ (optK_push (keys_Match_m K) rfl _ fun y3 => (cond_push (keys_Match_m K) _ rfl rfl)) (optK_push (keys_Match_m K) rfl _ fun y4 => (cond_push (keys_Match_m K) _ rfl rfl)))))))
noncomputable def keys_Match_G : GoF keys_Match_A keys_Match_B := fun R (x : (Int × (List (Int) × Unit))) K => keys_Match_m K (hide keys_Match_F x.1 x.2.1)
theorem keys_Match_known : Known Tryd.prog 17 keys_Match_A keys_Match_B true keys_Match_G := known_of (envL_ok keys_Match_su_ok keys_Match_gl_ok cs0_ok) (n := 1000) rfl fun R (x : (Int × (List (Int) × Unit))) K => by
  show _ = keys_Match_m K (hide keys_Match_F x.1 x.2.1)
  rw [hide_eq]
  exact keys_Match_run x.1 x.2.1 K
end Go.Proofs.YtcgpblgnhpajlaaDoorAbs

/- keys.Match as a plain function. -/
namespace Go.Proofs.YtcgpblgnhpajlaaDoorAbs
open Go Go.Proofs
set_option linter.unusedVariables false
set_option linter.unusedSimpArgs false
set_option maxHeartbeats 2000000
set_option maxRecDepth 100000
def tab1 : List MEnt := [(((27), (91), (65), (0), (0)), (1)), (((27), (91), (66), (0), (0)), (2)), (((27), (91), (67), (0), (0)), (3)), (((27), (91), (68), (0), (0)), (4)), (((27), (79), (65), (0), (0)), (1)), (((27), (79), (66), (0), (0)), (2)), (((27), (79), (67), (0), (0)), (3)), (((27), (79), (68), (0), (0)), (4)), (((27), (79), (80), (0), (0)), (11)), (((27), (79), (81), (0), (0)), (12)), (((27), (79), (82), (0), (0)), (13)), (((27), (79), (83), (0), (0)), (14))]
def tab2 : List MEnt := [(((27), (91), (65), (0), (0)), (1)), (((27), (91), (66), (0), (0)), (2)), (((27), (91), (67), (0), (0)), (3)), (((27), (91), (68), (0), (0)), (4)), (((27), (91), (91), (65), (0)), (11)), (((27), (91), (91), (66), (0)), (12)), (((27), (91), (91), (67), (0)), (13)), (((27), (91), (91), (68), (0)), (14)), (((27), (91), (91), (69), (0)), (15)), (((27), (91), (49), (126), (0)), (5)), (((27), (91), (52), (126), (0)), (6)), (((27), (91), (50), (126), (0)), (7)), (((27), (91), (51), (126), (0)), (8)), (((27), (91), (53), (126), (0)), (9)), (((27), (91), (54), (126), (0)), (10))]
def tab3 : List MEnt := [(((27), (65), (0), (0), (0)), (1)), (((27), (66), (0), (0), (0)), (2)), (((27), (67), (0), (0), (0)), (3)), (((27), (68), (0), (0), (0)), (4)), (((27), (80), (0), (0), (0)), (11)), (((27), (81), (0), (0), (0)), (12)), (((27), (82), (0), (0), (0)), (13)), (((27), (83), (0), (0), (0)), (14))]
def tabOf (d : Int) : List MEnt := bif d == 1 then tab1 else bif d == 2 then tab2 else tab3
def matchP (T : List MEnt) (b : List Int) : Int × Int × Bool := match T.find? (mtch b) with
  | some e => (e.2, Int.ofNat (keyText e.1).length, false)
  | none => (0, 0, T.any (mbeg b))
theorem match_is (d : Int) (b : List Int) (h : 1 ≤ d ∧ d ≤ 3) : keys_Match_F d b = some (matchP (tabOf d) b) := by
  have hr : dialect_Right_F d = some true := by
    unfold dialect_Right_F
    simp [h.1, h.2]
  have hd : d = 1 ∨ d = 2 ∨ d = 3 := by omega
  have fin : ∀ T : List MEnt, (match keys_Match_R5 T b false with
      | some y => (bif y.1 then some (y.2.1, y.2.2.1, false) else some ((0 : Int), (0 : Int), y.2.2.2))
      | none => none) = some (matchP T b) := fun T => by
    unfold keys_Match_R5 matchP
    cases T.find? (mtch b) <;> simp
  unfold keys_Match_F
  simp only [hide_eq, hr, optK, Bool.not_true, cond_false]
  rcases hd with rfl | rfl | rfl
  · exact fin tab1
  · exact fin tab2
  · exact fin tab3
theorem say_open (k : Int) (app : Bool) : keys_Say_F k app = keys_Say_J4 k (bif app then [27, 79] else [27, 91]) := by
  unfold keys_Say_F
  cases app
  · simp only [hide_eq, cond_false]; cases keys_Say_J4 k [27, 91] <;> rfl
  · simp only [hide_eq, cond_true]; cases keys_Say_J4 k [27, 79] <;> rfl
/-- What is known of the tables. -/
noncomputable def tabFine (T : List MEnt) : Bool := T.all fun e => (match keyText e.1 with
  | 27 :: _ :: _ => true
  | _ => false) && Nat.ble (keyText e.1).length 4 && (match keys_Say_J4 e.2 [27, 79], keys_Say_J4 e.2 [27, 91] with
  | some a, some b => Nat.ble a.length 5 && Nat.ble b.length 5
  | _, _ => false)
theorem fine1 : tabFine tab1 = true := by kernel_rfl
theorem fine2 : tabFine tab2 = true := by kernel_rfl
theorem fine3 : tabFine tab3 = true := by kernel_rfl
theorem tab_fine (d : Int) : tabFine (tabOf d) = true := by
  unfold tabOf
  cases d == 1
  · cases d == 2
    · exact fine3
    · exact fine2
  · exact fine1
noncomputable def sayP (k : Int) (app : Bool) : List Int := (keys_Say_J4 k (bif app then [27, 79] else [27, 91])).getD []
theorem fine_at {T : List MEnt} (h : tabFine T = true) {e : MEnt} (he : e ∈ T) : (∃ y l, keyText e.1 = 27 :: y :: l) ∧ (keyText e.1).length ≤ 4 ∧ ∀ app, keys_Say_F e.2 app = some (sayP e.2 app) ∧ (sayP e.2 app).length ≤ 5 := by
  have k := List.all_eq_true.1 h e he
  simp only [Bool.and_eq_true] at k
  obtain ⟨⟨k1, k2⟩, k3⟩ := k
  refine ⟨?_, Nat.le_of_ble_eq_true k2, fun app => ?_⟩
  · split at k1
    · rename_i y l hy; exact ⟨y, l, hy⟩
    · cases k1
  · split at k3
    · rename_i a b ha hb
      simp only [Bool.and_eq_true] at k3
      cases app
      · rw [say_open]; unfold sayP; rw [cond_false, hb]; exact ⟨rfl, Nat.le_of_ble_eq_true k3.2⟩
      · rw [say_open]; unfold sayP; rw [cond_true, ha]; exact ⟨rfl, Nat.le_of_ble_eq_true k3.1⟩
    · cases k3
end Go.Proofs.YtcgpblgnhpajlaaDoorAbs

-- Written by a program of this session (dec.py); Lean checks it.
namespace Go.Proofs.YtcgpblgnhpajlaaDoorAbs
open Go Go.Proofs
set_option linter.unusedVariables false
set_option maxHeartbeats 2000000
set_option maxRecDepth 100000
noncomputable def back_Back_Held_su : SumT := (20, sumW slices_Clone_byte_A slices_Clone_byte_B slices_Clone_byte_G) :: sums0
theorem back_Back_Held_su_ok : AllSum Tryd.prog back_Back_Held_su := ⟨sumW_ok rfl rfl rfl slices_Clone_byte_known, sums0_ok⟩
noncomputable def back_Back_Held_F (s0 : Int) (s1 : List (Int)) : Option ((List (Int)) × Int × (List (Int))) := (bif (s1.length.ble (274877906944 : Nat)) then (some (s1, s0, s1)) else none)
noncomputable def back_Back_Held_A : SkL := .nil
noncomputable def back_Back_Held_B : Vk := .sk (.list (.one (.int .u8)))
noncomputable def back_Back_Held_c : SkL := (.cons (.int .i64) (.cst (.own 1 5 (.one (.int .u8))) .nil))
noncomputable def back_Back_Held_h : SkH := (.arr 5 (.one (.int .u8)) .nil)
noncomputable def back_Back_Held_c1 : SkL := (.cons (.int .i64) (.cst (.own 1 5 (.one (.int .u8))) .nil))
noncomputable def back_Back_Held_h1 : SkH := (.arr 5 (.one (.int .u8)) .nil)
noncomputable def back_Back_Held_m {R : Type} (K : (List (Int) → PIn back_Back_Held_c1 back_Back_Held_h1 → Option R)) (o : Option ((List (Int)) × Int × (List (Int)))) : Option R := optK o fun y => K y.1 ((y.2.1, ()), (y.2.2, ()))
theorem back_Back_Held_run {R : Type} (s0 : Int) (s1 : List (Int)) (K : (List (Int) → PIn back_Back_Held_c1 back_Back_Held_h1 → Option R)) : acallB (envL back_Back_Held_su ll0 cs0 (fun _ _ => false)) 1000 12 1 (.ptr 0 0 :: back_Back_Held_A.enc ()) ((SkH.var 48 back_Back_Held_c back_Back_Held_h).enc ((s0, ()), (s1, ()))) (ptrK 48 back_Back_Held_B back_Back_Held_c1 back_Back_Held_h1 K) = back_Back_Held_m K (back_Back_Held_F s0 s1) := by
  unfold back_Back_Held_F
  exact Eq.trans (by kernel_rfl) (cond_push (back_Back_Held_m K) _ rfl rfl)
noncomputable def back_Back_Held_G : GoP back_Back_Held_c back_Back_Held_h back_Back_Held_A back_Back_Held_B back_Back_Held_c1 back_Back_Held_h1 := fun R (z : ((Int × Unit) × (List (Int) × Unit))) (x : Unit) K => back_Back_Held_m K (hide back_Back_Held_F z.1.1 z.2.1)
theorem back_Back_Held_known : KnownP Tryd.prog 12 48 back_Back_Held_c back_Back_Held_h back_Back_Held_A back_Back_Held_B back_Back_Held_c1 back_Back_Held_h1 back_Back_Held_G := knownP_of (envL_ok back_Back_Held_su_ok ll0_ok cs0_ok) (n := 1000) fun R (z : ((Int × Unit) × (List (Int) × Unit))) (x : Unit) K => by
  show _ = back_Back_Held_m K (hide back_Back_Held_F z.1.1 z.2.1)
  rw [hide_eq]
  exact back_Back_Held_run z.1.1 z.2.1 K
end Go.Proofs.YtcgpblgnhpajlaaDoorAbs

-- Written by a program of this session (dec.py); Lean checks it.
namespace Go.Proofs.YtcgpblgnhpajlaaDoorAbs
open Go Go.Proofs
set_option linter.unusedVariables false
set_option maxHeartbeats 2000000
set_option maxRecDepth 100000
noncomputable def back_Back_Push_su : SumT := (17, sumH keys_Match_A keys_Match_B true keys_Match_G) :: (15, sumH keys_Say_A keys_Say_B true keys_Say_G) :: (20, sumW slices_Clone_byte_A slices_Clone_byte_B slices_Clone_byte_G) :: sums0
theorem back_Back_Push_su_ok : AllSum Tryd.prog back_Back_Push_su := ⟨sumH_ok rfl rfl keys_Match_known, ⟨sumH_ok rfl rfl keys_Say_known, ⟨sumW_ok rfl rfl rfl slices_Clone_byte_known, sums0_ok⟩⟩⟩
noncomputable def back_Back_Push_b11 : Code := ((Tryd.f11.body.map fun b => tailsAt b 11).getD []).headD .skip
theorem back_Back_Push_b11_is : (Tryd.f11.body.map fun b => tailsAt b 11) = some [back_Back_Push_b11] := by kernel_rfl
noncomputable def back_Back_Push_t11 : SkSt := ⟨(.cst (.ptr 0 0) (.gap 1 (.cons .bool (.gap 4 (.cst (.own 1 5 (.one (.int .u8))) (.gap 1 (.cons (.int .i64) (.gap 59 .nil)))))))), (.var 48 (.cons (.int .i64) (.cst (.own 2 5 (.one (.int .u8))) .nil)) (.arr 5 (.one (.int .u8)) (.arr 5 (.one (.int .u8)) .nil)))⟩
noncomputable def back_Back_Push_y11_0 : SkSt := ⟨(.cst (.ptr 0 0) (.gap 1 (.cons .bool (.gap 4 (.cst (.own 1 5 (.one (.int .u8))) (.gap 61 .nil)))))), (.var 48 (.cons (.int .i64) (.cst (.own 2 5 (.one (.int .u8))) .nil)) (.arr 5 (.one (.int .u8)) (.arr 5 (.one (.int .u8)) .nil)))⟩
noncomputable def back_Back_Push_ys11 : List (Ex × SkSt) := [(.normal, back_Back_Push_y11_0)]
noncomputable def back_Back_Push_J11 (a0 : Bool) (a1 : Int) (a2 : Int) (a3 : List (Int)) (a4 : List (Int)) : Option (Bool × Int × (List (Int)) × (List (Int))) := (bif (bnds (some a1) none a4.length) then (bif ((List.take ((none.getD (Int.ofNat a4.length)).toNat - ((some a1).getD (0 : Int)).toNat) (List.drop ((some a1).getD (0 : Int)).toNat a4)).length.ble (274877906944 : Nat)) then (some (a0, a2, a3, (List.take ((none.getD (Int.ofNat a4.length)).toNat - ((some a1).getD (0 : Int)).toNat) (List.drop ((some a1).getD (0 : Int)).toNat a4)))) else none) else none)
noncomputable def back_Back_Push_k11 {R : Type} (K : Ex → St → Option R) (o : Option (Bool × Int × (List (Int)) × (List (Int)))) : Option R := optK o fun y => K (.normal) (back_Back_Push_y11_0.enc ((y.1, ()), ((y.2.1, ()), (y.2.2.1, (y.2.2.2, ())))))
theorem back_Back_Push_j11 {R : Type} (K : Ex → St → Option R) (a0 : Bool) (a1 : Int) (a2 : Int) (a3 : List (Int)) (a4 : List (Int)) : exec (envL back_Back_Push_su ll0 cs0 (fun _ _ => false)) 11 (acall (envL back_Back_Push_su ll0 cs0 (fun _ _ => false)) 1000) 1 back_Back_Push_b11 (back_Back_Push_t11.enc ((a0, (a1, ())), ((a2, ()), (a3, (a4, ()))))) (exitK back_Back_Push_ys11 1 K) = back_Back_Push_k11 K (back_Back_Push_J11 a0 a1 a2 a3 a4) := by
    unfold back_Back_Push_J11
    exact Eq.trans (by kernel_rfl) (cond_push (back_Back_Push_k11 K) _ (cond_push (back_Back_Push_k11 K) _ rfl rfl) rfl)
noncomputable def back_Back_Push_D11 : GoL back_Back_Push_t11 := fun R (x : ((Bool × (Int × Unit)) × ((Int × Unit) × (List (Int) × (List (Int) × Unit))))) K => back_Back_Push_k11 K (hide back_Back_Push_J11 x.1.1 x.1.2.1 x.2.1.1 x.2.2.1 x.2.2.2.1)
theorem back_Back_Push_C11 : CutOk Tryd.prog 11 11 (loopH back_Back_Push_t11 1 back_Back_Push_D11) := cut_known (envL_ok back_Back_Push_su_ok ll0_ok cs0_ok) (N := 1000) Tryd.func11 rfl back_Back_Push_b11_is (xs := back_Back_Push_ys11) fun R (x : ((Bool × (Int × Unit)) × ((Int × Unit) × (List (Int) × (List (Int) × Unit))))) K => by
  show back_Back_Push_k11 K (hide back_Back_Push_J11 x.1.1 x.1.2.1 x.2.1.1 x.2.2.1 x.2.2.2.1) = _
  rw [hide_eq]
  exact (back_Back_Push_j11 K x.1.1 x.1.2.1 x.2.1.1 x.2.2.1 x.2.2.2.1).symm
noncomputable def back_Back_Push_d11 : LoopF := loopH back_Back_Push_t11 1 back_Back_Push_D11
noncomputable def back_Back_Push_cs1 : LoopT := ((11, 11), back_Back_Push_d11) :: cs0
theorem back_Back_Push_cs1_ok : AllCut Tryd.prog back_Back_Push_cs1 := ⟨back_Back_Push_C11, cs0_ok⟩
noncomputable def back_Back_Push_c3 : Code := ((Tryd.f11.body.map fun b => loopsAt b 3).getD []).headD .skip
theorem back_Back_Push_c3_is : (Tryd.f11.body.map fun b => loopsAt b 3) = some [back_Back_Push_c3] := by kernel_rfl
noncomputable def back_Back_Push_s3 : SkSt := ⟨(.cst (.ptr 0 0) (.gap 1 (.cons .bool (.gap 4 (.cst (.own 1 5 (.one (.int .u8))) (.gap 61 .nil)))))), (.var 48 (.cons (.int .i64) (.cst (.own 2 5 (.one (.int .u8))) .nil)) (.arr 5 (.one (.int .u8)) (.arr 5 (.one (.int .u8)) .nil)))⟩
noncomputable def back_Back_Push_x3_0 : SkSt := ⟨(.cst (.ptr 0 0) (.gap 5 (.cst (.own 1 5 (.one (.int .u8))) (.gap 62 .nil)))), (.var 48 (.cons (.int .i64) (.cst (.own 2 5 (.one (.int .u8))) .nil)) (.arr 5 (.one (.int .u8)) (.arr 5 (.one (.int .u8)) .nil)))⟩
noncomputable def back_Back_Push_x3_1 : SkSt := ⟨(.cst (.ptr 0 0) (.gap 6 (.cst (.own 1 5 (.one (.int .u8))) (.gap 61 .nil)))), (.var 48 (.cons (.int .i64) (.cst (.own 2 5 (.one (.int .u8))) .nil)) (.arr 5 (.one (.int .u8)) (.arr 5 (.one (.int .u8)) .nil)))⟩
noncomputable def back_Back_Push_xs3 : List (Ex × SkSt) := [(.ret, back_Back_Push_x3_0), (.exit 0, back_Back_Push_x3_1)]
noncomputable def back_Back_Push_L3 : Nat → Bool → Int → List (Int) → List (Int) → Option (((Int × (List (Int)) × (List (Int))) ⊕ (Int × (List (Int)) × (List (Int)))))
  | 0, _, _, _, _ => none
  | n + 1, a0, a1, a2, a3 => (bif (decide (Int.ofNat a3.length > (0 : Int))) then (optK ((hide keys_Match_F a1 a3)) fun y4 => (bif (y4.2.2) then (some (.inl (a1, a2, a3))) else (bif (decide (y4.2.1 > (0 : Int))) then (optK ((hide keys_Say_F y4.1 a0)) fun y5 => (bif (true && ((a2.length + y5.length).ble (274877906944 : Nat) && true)) then (optK (hide back_Back_Push_J11 a0 (y4.2.1) a1 (a2 ++ y5) a3) fun y6 => (back_Back_Push_L3 n (y6.1) (y6.2.1) (y6.2.2.1) (y6.2.2.2))) else none)) else (bif (true && decide ((0 : Int) < Int.ofNat a3.length) && true) then (bif (true && ((a2.length + [a3.getD (0 : Nat) (0 : Int)].length).ble (274877906944 : Nat) && true)) then (optK (hide back_Back_Push_J11 a0 ((1 : Int)) a1 (a2 ++ [a3.getD (0 : Nat) (0 : Int)]) a3) fun y7 => (back_Back_Push_L3 n (y7.1) (y7.2.1) (y7.2.2.1) (y7.2.2.2))) else none) else none)))) else (some (.inr (a1, a2, a3))))
noncomputable def back_Back_Push_I3 {R : Type} (K : Ex → St → Option R) : Nat → St → Option R := iterN (exec (envL back_Back_Push_su ll0 back_Back_Push_cs1 (fun _ _ => false)) 11 (acall (envL back_Back_Push_su ll0 back_Back_Push_cs1 (fun _ _ => false)) 1000) 1 back_Back_Push_c3) (normTo back_Back_Push_s3 1) (exitK back_Back_Push_xs3 1 K)
noncomputable def back_Back_Push_m3 {R : Type} (K : Ex → St → Option R) (o : Option (((Int × (List (Int)) × (List (Int))) ⊕ (Int × (List (Int)) × (List (Int)))))) : Option R := optK o fun y => sumK y (fun y => K (.ret) (back_Back_Push_x3_0.enc ((), ((y.1, ()), (y.2.1, (y.2.2, ())))))) (fun y => K (.exit 0) (back_Back_Push_x3_1.enc ((), ((y.1, ()), (y.2.1, (y.2.2, ()))))))
theorem back_Back_Push_l3 {R : Type} (K : Ex → St → Option R) : ∀ (n : Nat), ∀ (a0 : Bool) (a1 : Int) (a2 : List (Int)) (a3 : List (Int)), back_Back_Push_I3 K n (back_Back_Push_s3.enc ((a0, ()), ((a1, ()), (a2, (a3, ()))))) = back_Back_Push_m3 K (back_Back_Push_L3 n a0 a1 a2 a3) := by
  intro n
  induction n with
  | zero => intros; rfl
  | succ n ih =>
    intro a0 a1 a2 a3
    rw [back_Back_Push_L3]
    exact Eq.trans (by kernel_rfl) (cond_push (back_Back_Push_m3 K) _ (optK_push (back_Back_Push_m3 K) rfl _ fun y4 => (cond_push (back_Back_Push_m3 K) _ rfl (cond_push (back_Back_Push_m3 K) _ (optK_push (back_Back_Push_m3 K) rfl _ fun y5 => (cond_push (back_Back_Push_m3 K) _ (optK_push (back_Back_Push_m3 K) rfl _ fun y6 => (ih (y6.1) (y6.2.1) (y6.2.2.1) (y6.2.2.2))) rfl)) (cond_push (back_Back_Push_m3 K) _ (cond_push (back_Back_Push_m3 K) _ (optK_push (back_Back_Push_m3 K) rfl _ fun y7 => (ih (y7.1) (y7.2.1) (y7.2.2.1) (y7.2.2.2))) rfl) rfl)))) rfl)
def back_Back_Push_fu3 (a0 : Bool) (a1 : Int) (a2 : List (Int)) (a3 : List (Int)) : Nat := 0 + Int.natAbs a1 + List.length a2 + List.length a3 + 5000
noncomputable def back_Back_Push_G3 : GoL back_Back_Push_s3 := fun R (x : ((Bool × Unit) × ((Int × Unit) × (List (Int) × (List (Int) × Unit))))) K => back_Back_Push_m3 K (hide back_Back_Push_L3 (back_Back_Push_fu3 x.1.1 x.2.1.1 x.2.2.1 x.2.2.2.1) x.1.1 x.2.1.1 x.2.2.1 x.2.2.2.1)
theorem back_Back_Push_H3 : LoopOk Tryd.prog 11 3 (loopH back_Back_Push_s3 1 back_Back_Push_G3) := loop_known (envL_ok back_Back_Push_su_ok ll0_ok back_Back_Push_cs1_ok) Tryd.func11 rfl back_Back_Push_c3_is (xs := back_Back_Push_xs3) (fuel := fun (x : ((Bool × Unit) × ((Int × Unit) × (List (Int) × (List (Int) × Unit))))) => back_Back_Push_fu3 x.1.1 x.2.1.1 x.2.2.1 x.2.2.2.1) fun R (x : ((Bool × Unit) × ((Int × Unit) × (List (Int) × (List (Int) × Unit))))) K => by
  show back_Back_Push_m3 K (hide back_Back_Push_L3 (back_Back_Push_fu3 x.1.1 x.2.1.1 x.2.2.1 x.2.2.2.1) x.1.1 x.2.1.1 x.2.2.1 x.2.2.2.1) = _
  rw [hide_eq]
  exact (back_Back_Push_l3 K (back_Back_Push_fu3 x.1.1 x.2.1.1 x.2.2.1 x.2.2.2.1) x.1.1 x.2.1.1 x.2.2.1 x.2.2.2.1).symm
noncomputable def back_Back_Push_h3 : LoopF := loopH back_Back_Push_s3 1 back_Back_Push_G3
noncomputable def back_Back_Push_ll2 : LoopT := ((11, 3), back_Back_Push_h3) :: ll0
theorem back_Back_Push_ll2_ok : AllLoop Tryd.prog back_Back_Push_ll2 := ⟨back_Back_Push_H3, ll0_ok⟩
noncomputable def back_Back_Push_F (s0 : Int) (s1 : List (Int)) (x0 : Int) (x1 : Bool) : Option ((List (Int)) × Int × (List (Int))) := (bif (true && ((s1.length + [x0].length).ble (274877906944 : Nat) && true)) then (optK (hide back_Back_Push_L3 (back_Back_Push_fu3 x1 s0 ([]) (s1 ++ [x0])) x1 s0 ([]) (s1 ++ [x0])) fun y8 => (sumK y8 (fun y8a => (some ((y8a.2.1), (y8a.1), (y8a.2.2)))) (fun y8b => (some ((y8b.2.1), (y8b.1), (y8b.2.2)))))) else none)
noncomputable def back_Back_Push_A : SkL := (.cons (.int .u8) (.cons .bool .nil))
noncomputable def back_Back_Push_B : Vk := .sk (.list (.one (.int .u8)))
noncomputable def back_Back_Push_c : SkL := (.cons (.int .i64) (.cst (.own 1 5 (.one (.int .u8))) .nil))
noncomputable def back_Back_Push_h : SkH := (.arr 5 (.one (.int .u8)) .nil)
noncomputable def back_Back_Push_c1 : SkL := (.cons (.int .i64) (.cst (.own 1 5 (.one (.int .u8))) .nil))
noncomputable def back_Back_Push_h1 : SkH := (.arr 5 (.one (.int .u8)) .nil)
noncomputable def back_Back_Push_m {R : Type} (K : (List (Int) → PIn back_Back_Push_c1 back_Back_Push_h1 → Option R)) (o : Option ((List (Int)) × Int × (List (Int)))) : Option R := optK o fun y => K y.1 ((y.2.1, ()), (y.2.2, ()))
theorem back_Back_Push_run {R : Type} (s0 : Int) (s1 : List (Int)) (x0 : Int) (x1 : Bool) (K : (List (Int) → PIn back_Back_Push_c1 back_Back_Push_h1 → Option R)) : acallB (envL back_Back_Push_su back_Back_Push_ll2 back_Back_Push_cs1 (fun _ _ => false)) 1000 11 1 (.ptr 0 0 :: back_Back_Push_A.enc (x0, (x1, ()))) ((SkH.var 48 back_Back_Push_c back_Back_Push_h).enc ((s0, ()), (s1, ()))) (ptrK 48 back_Back_Push_B back_Back_Push_c1 back_Back_Push_h1 K) = back_Back_Push_m K (back_Back_Push_F s0 s1 x0 x1) := by
  unfold back_Back_Push_F
  exact Eq.trans (by kernel_rfl) (cond_push (back_Back_Push_m K) _ (optK_push (back_Back_Push_m K) rfl _ fun y8 => (sumK_push (back_Back_Push_m K) _ (fun y8a => rfl) (fun y8b => rfl))) rfl)
noncomputable def back_Back_Push_G : GoP back_Back_Push_c back_Back_Push_h back_Back_Push_A back_Back_Push_B back_Back_Push_c1 back_Back_Push_h1 := fun R (z : ((Int × Unit) × (List (Int) × Unit))) (x : (Int × (Bool × Unit))) K => back_Back_Push_m K (hide back_Back_Push_F z.1.1 z.2.1 x.1 x.2.1)
theorem back_Back_Push_known : KnownP Tryd.prog 11 48 back_Back_Push_c back_Back_Push_h back_Back_Push_A back_Back_Push_B back_Back_Push_c1 back_Back_Push_h1 back_Back_Push_G := knownP_of (envL_ok back_Back_Push_su_ok back_Back_Push_ll2_ok back_Back_Push_cs1_ok) (n := 1000) fun R (z : ((Int × Unit) × (List (Int) × Unit))) (x : (Int × (Bool × Unit))) K => by
  show _ = back_Back_Push_m K (hide back_Back_Push_F z.1.1 z.2.1 x.1 x.2.1)
  rw [hide_eq]
  exact back_Back_Push_run z.1.1 z.2.1 x.1 x.2.1 K

end Go.Proofs.YtcgpblgnhpajlaaDoorAbs

-- Written by a program of this session (dec.py); Lean checks it.
namespace Go.Proofs.YtcgpblgnhpajlaaDoorAbs
open Go Go.Proofs
set_option linter.unusedVariables false
set_option maxHeartbeats 2000000
set_option maxRecDepth 100000
noncomputable def back_Back_Feed_pp : CallT := [(11, ptrH 48 back_Back_Push_c back_Back_Push_h back_Back_Push_A back_Back_Push_B back_Back_Push_c1 back_Back_Push_h1 back_Back_Push_G)]
theorem back_Back_Feed_pp_ok : AllPtr Tryd.prog back_Back_Feed_pp := ⟨ptrH_ok rfl back_Back_Push_known, trivial⟩
noncomputable def back_Back_Feed_c3 : Code := ((Tryd.f10.body.map fun b => loopsAt b 3).getD []).headD .skip
theorem back_Back_Feed_c3_is : (Tryd.f10.body.map fun b => loopsAt b 3) = some [back_Back_Feed_c3] := by kernel_rfl
noncomputable def back_Back_Feed_s3 : SkSt := ⟨(.cst (.ptr 0 0) (.gap 1 (.cons .bool (.gap 4 (.cst (.own 1 5 (.one (.int .u8))) (.gap 2 (.cons (.list (.one (.int .u8))) (.cons (.int .i64) (.cons (.int .i64) (.gap 11 .nil)))))))))), (.var 48 (.cons (.int .i64) (.cst (.own 2 5 (.one (.int .u8))) .nil)) (.arr 5 (.one (.int .u8)) (.arr 5 (.one (.int .u8)) .nil)))⟩
noncomputable def back_Back_Feed_x3_0 : SkSt := ⟨(.cst (.ptr 0 0) (.gap 6 (.cst (.own 1 5 (.one (.int .u8))) (.gap 16 .nil)))), (.var 48 (.cons (.int .i64) (.cst (.own 2 5 (.one (.int .u8))) .nil)) (.arr 5 (.one (.int .u8)) (.arr 5 (.one (.int .u8)) .nil)))⟩
noncomputable def back_Back_Feed_xs3 : List (Ex × SkSt) := [(.exit 0, back_Back_Feed_x3_0)]
noncomputable def back_Back_Feed_L3 : Nat → Bool → List (Int) → Int → Int → Int → List (Int) → List (Int) → Option (Int × (List (Int)) × (List (Int)))
  | 0, _, _, _, _, _, _, _ => none
  | n + 1, a0, a1, a2, a3, a4, a5, a6 => (bif (decide (a3 < a2)) then (bif (decide ((0 : Int) ≤ a3) && decide (a3 < Int.ofNat a1.length) && true) then (optK ((hide back_Back_Push_F a4 a6 (a1.getD a3.toNat (0 : Int)) a0)) fun y1 => (bif (true && ((a5.length + y1.1.length).ble (274877906944 : Nat) && true)) then (back_Back_Feed_L3 n a0 a1 a2 (IntKind.i64.wrap (a3 + (1 : Int))) (y1.2.1) (a5 ++ y1.1) (y1.2.2)) else none)) else none) else (some (a4, a5, a6)))
noncomputable def back_Back_Feed_I3 {R : Type} (K : Ex → St → Option R) : Nat → St → Option R := iterN (exec (envC back_Back_Feed_pp sums0 ll0 cs0 (fun _ _ => false)) 10 (acall (envC back_Back_Feed_pp sums0 ll0 cs0 (fun _ _ => false)) 1000) 1 back_Back_Feed_c3) (normTo back_Back_Feed_s3 1) (exitK back_Back_Feed_xs3 1 K)
noncomputable def back_Back_Feed_m3 {R : Type} (K : Ex → St → Option R) (o : Option (Int × (List (Int)) × (List (Int)))) : Option R := optK o fun y => K (.exit 0) (back_Back_Feed_x3_0.enc ((), ((y.1, ()), (y.2.1, (y.2.2, ())))))
theorem back_Back_Feed_l3 {R : Type} (K : Ex → St → Option R) : ∀ (n : Nat), ∀ (a0 : Bool) (a1 : List (Int)) (a2 : Int) (a3 : Int) (a4 : Int) (a5 : List (Int)) (a6 : List (Int)), back_Back_Feed_I3 K n (back_Back_Feed_s3.enc ((a0, (a1, (a2, (a3, ())))), ((a4, ()), (a5, (a6, ()))))) = back_Back_Feed_m3 K (back_Back_Feed_L3 n a0 a1 a2 a3 a4 a5 a6) := by
  intro n
  induction n with
  | zero => intros; rfl
  | succ n ih =>
    intro a0 a1 a2 a3 a4 a5 a6
    rw [back_Back_Feed_L3]
    exact Eq.trans (by kernel_rfl) (cond_push (back_Back_Feed_m3 K) _ (cond_push (back_Back_Feed_m3 K) _ (optK_push (back_Back_Feed_m3 K) rfl _ fun y1 => (cond_push (back_Back_Feed_m3 K) _ (ih a0 a1 a2 (IntKind.i64.wrap (a3 + (1 : Int))) (y1.2.1) (a5 ++ y1.1) (y1.2.2)) rfl)) rfl) rfl)
def back_Back_Feed_fu3 (a0 : Bool) (a1 : List (Int)) (a2 : Int) (a3 : Int) (a4 : Int) (a5 : List (Int)) (a6 : List (Int)) : Nat := 0 + List.length a1 + Int.natAbs a2 + Int.natAbs a3 + Int.natAbs a4 + List.length a5 + List.length a6 + 5000
noncomputable def back_Back_Feed_G3 : GoL back_Back_Feed_s3 := fun R (x : ((Bool × (List (Int) × (Int × (Int × Unit)))) × ((Int × Unit) × (List (Int) × (List (Int) × Unit))))) K => back_Back_Feed_m3 K (hide back_Back_Feed_L3 (back_Back_Feed_fu3 x.1.1 x.1.2.1 x.1.2.2.1 x.1.2.2.2.1 x.2.1.1 x.2.2.1 x.2.2.2.1) x.1.1 x.1.2.1 x.1.2.2.1 x.1.2.2.2.1 x.2.1.1 x.2.2.1 x.2.2.2.1)
theorem back_Back_Feed_H3 : LoopOk Tryd.prog 10 3 (loopH back_Back_Feed_s3 1 back_Back_Feed_G3) := loop_known (envC_ok back_Back_Feed_pp_ok sums0_ok ll0_ok cs0_ok) Tryd.func10 rfl back_Back_Feed_c3_is (xs := back_Back_Feed_xs3) (fuel := fun (x : ((Bool × (List (Int) × (Int × (Int × Unit)))) × ((Int × Unit) × (List (Int) × (List (Int) × Unit))))) => back_Back_Feed_fu3 x.1.1 x.1.2.1 x.1.2.2.1 x.1.2.2.2.1 x.2.1.1 x.2.2.1 x.2.2.2.1) fun R (x : ((Bool × (List (Int) × (Int × (Int × Unit)))) × ((Int × Unit) × (List (Int) × (List (Int) × Unit))))) K => by
  show back_Back_Feed_m3 K (hide back_Back_Feed_L3 (back_Back_Feed_fu3 x.1.1 x.1.2.1 x.1.2.2.1 x.1.2.2.2.1 x.2.1.1 x.2.2.1 x.2.2.2.1) x.1.1 x.1.2.1 x.1.2.2.1 x.1.2.2.2.1 x.2.1.1 x.2.2.1 x.2.2.2.1) = _
  rw [hide_eq]
  exact (back_Back_Feed_l3 K (back_Back_Feed_fu3 x.1.1 x.1.2.1 x.1.2.2.1 x.1.2.2.2.1 x.2.1.1 x.2.2.1 x.2.2.2.1) x.1.1 x.1.2.1 x.1.2.2.1 x.1.2.2.2.1 x.2.1.1 x.2.2.1 x.2.2.2.1).symm
noncomputable def back_Back_Feed_h3 : LoopF := loopH back_Back_Feed_s3 1 back_Back_Feed_G3
noncomputable def back_Back_Feed_ll1 : LoopT := ((10, 3), back_Back_Feed_h3) :: ll0
theorem back_Back_Feed_ll1_ok : AllLoop Tryd.prog back_Back_Feed_ll1 := ⟨back_Back_Feed_H3, ll0_ok⟩
noncomputable def back_Back_Feed_F (s0 : Int) (s1 : List (Int)) (x0 : List (Int)) (x1 : Bool) : Option ((List (Int)) × Int × (List (Int))) := (optK (hide back_Back_Feed_L3 (back_Back_Feed_fu3 x1 x0 (Int.ofNat x0.length) (0 : Int) s0 ([]) s1) x1 x0 (Int.ofNat x0.length) (0 : Int) s0 ([]) s1) fun y2 => (some ((y2.2.1), (y2.1), (y2.2.2))))
noncomputable def back_Back_Feed_A : SkL := (.cons (.list (.one (.int .u8))) (.cons .bool .nil))
noncomputable def back_Back_Feed_B : Vk := .sk (.list (.one (.int .u8)))
noncomputable def back_Back_Feed_c : SkL := (.cons (.int .i64) (.cst (.own 1 5 (.one (.int .u8))) .nil))
noncomputable def back_Back_Feed_h : SkH := (.arr 5 (.one (.int .u8)) .nil)
noncomputable def back_Back_Feed_c1 : SkL := (.cons (.int .i64) (.cst (.own 1 5 (.one (.int .u8))) .nil))
noncomputable def back_Back_Feed_h1 : SkH := (.arr 5 (.one (.int .u8)) .nil)
noncomputable def back_Back_Feed_m {R : Type} (K : (List (Int) → PIn back_Back_Feed_c1 back_Back_Feed_h1 → Option R)) (o : Option ((List (Int)) × Int × (List (Int)))) : Option R := optK o fun y => K y.1 ((y.2.1, ()), (y.2.2, ()))
theorem back_Back_Feed_run {R : Type} (s0 : Int) (s1 : List (Int)) (x0 : List (Int)) (x1 : Bool) (K : (List (Int) → PIn back_Back_Feed_c1 back_Back_Feed_h1 → Option R)) : acallB (envC back_Back_Feed_pp sums0 back_Back_Feed_ll1 cs0 (fun _ _ => false)) 1000 10 1 (.ptr 0 0 :: back_Back_Feed_A.enc (x0, (x1, ()))) ((SkH.var 48 back_Back_Feed_c back_Back_Feed_h).enc ((s0, ()), (s1, ()))) (ptrK 48 back_Back_Feed_B back_Back_Feed_c1 back_Back_Feed_h1 K) = back_Back_Feed_m K (back_Back_Feed_F s0 s1 x0 x1) := by
  unfold back_Back_Feed_F
  exact Eq.trans (by kernel_rfl) (optK_push (back_Back_Feed_m K) rfl _ fun y2 => rfl)
noncomputable def back_Back_Feed_G : GoP back_Back_Feed_c back_Back_Feed_h back_Back_Feed_A back_Back_Feed_B back_Back_Feed_c1 back_Back_Feed_h1 := fun R (z : ((Int × Unit) × (List (Int) × Unit))) (x : (List (Int) × (Bool × Unit))) K => back_Back_Feed_m K (hide back_Back_Feed_F z.1.1 z.2.1 x.1 x.2.1)
theorem back_Back_Feed_known : KnownP Tryd.prog 10 48 back_Back_Feed_c back_Back_Feed_h back_Back_Feed_A back_Back_Feed_B back_Back_Feed_c1 back_Back_Feed_h1 back_Back_Feed_G := knownP_of (envC_ok back_Back_Feed_pp_ok sums0_ok back_Back_Feed_ll1_ok cs0_ok) (n := 1000) fun R (z : ((Int × Unit) × (List (Int) × Unit))) (x : (List (Int) × (Bool × Unit))) K => by
  show _ = back_Back_Feed_m K (hide back_Back_Feed_F z.1.1 z.2.1 x.1 x.2.1)
  rw [hide_eq]
  exact back_Back_Feed_run z.1.1 z.2.1 x.1 x.2.1 K
end Go.Proofs.YtcgpblgnhpajlaaDoorAbs

/- back's Push and Feed as plain functions. -/
namespace Go.Proofs.YtcgpblgnhpajlaaDoorAbs
open Go Go.Proofs
set_option linter.unusedVariables false
set_option linter.unusedSimpArgs false
set_option maxHeartbeats 2000000
set_option maxRecDepth 100000

theorem match_some {T : List MEnt} (hT : tabFine T = true) {b : List Int} (h : 0 < (matchP T b).2.1) : (matchP T b).2.2 = false ∧ 2 ≤ (matchP T b).2.1 ∧ (matchP T b).2.1 ≤ b.length ∧ ∀ app, keys_Say_F (matchP T b).1 app = some (sayP (matchP T b).1 app) ∧ (sayP (matchP T b).1 app).length ≤ 5 := by
  unfold matchP at h ⊢
  cases hf : T.find? (mtch b) with
  | none => rw [hf] at h; simp at h
  | some e =>
    simp only
    obtain ⟨⟨y, l, h1⟩, h2, h3⟩ := fine_at hT (List.mem_of_find?_eq_some hf)
    have h4 := List.find?_some hf
    unfold mtch isPre at h4
    simp only [Bool.and_eq_true, decide_eq_true_eq] at h4
    refine ⟨trivial, ?_, by simpa using h4.1, h3⟩
    rw [h1]; simp; omega
noncomputable def eat (T : List MEnt) (app : Bool) : Nat → List Int → List Int × List Int
  | 0, h => ([], h)
  | _ + 1, [] => ([], [])
  | n + 1, x :: l => bif (matchP T (x :: l)).2.2 then ([], x :: l) else
      bif decide ((matchP T (x :: l)).2.1 > 0) then (sayP (matchP T (x :: l)).1 app ++ (eat T app n ((x :: l).drop (matchP T (x :: l)).2.1.toNat)).1, (eat T app n ((x :: l).drop (matchP T (x :: l)).2.1.toNat)).2)
      else (x :: (eat T app n l).1, (eat T app n l).2)
theorem eat_fuel {T : List MEnt} (hT : tabFine T = true) (app : Bool) : (n m : Nat) → (h : List Int) → h.length ≤ n → h.length ≤ m → eat T app n h = eat T app m h
  | 0, m, [], _, _ => by cases m <;> rfl
  | 0, m, _ :: _, h, _ => by simp at h
  | n + 1, 0, [], _, _ => rfl
  | n + 1, 0, _ :: _, _, h => by simp at h
  | n + 1, m + 1, [], _, _ => rfl
  | n + 1, m + 1, x :: l, h1, h2 => by
    rw [eat, eat]
    simp only [List.length_cons] at h1 h2
    cases hm : (matchP T (x :: l)).2.2 with
    | true => rfl
    | false =>
      by_cases hu : 0 < (matchP T (x :: l)).2.1
      · have k := match_some hT hu
        have e : ((x :: l).drop (matchP T (x :: l)).2.1.toNat).length ≤ l.length := by simp; omega
        rw [eat_fuel hT app n m _ (by omega) (by omega)]
        simp only [decide_eq_true hu, gt_iff_lt, cond_true]
      · rw [eat_fuel hT app n m l (by omega) (by omega)]
        have hu' : decide ((matchP T (x :: l)).2.1 > 0) = false := by simpa using hu
        simp only [hu', cond_false]
theorem eat_len {T : List MEnt} (hT : tabFine T = true) (app : Bool) : (n : Nat) → (h : List Int) → (eat T app n h).1.length + 5 * (eat T app n h).2.length ≤ 5 * h.length
  | 0, h => by simp [eat]
  | n + 1, [] => by simp [eat]
  | n + 1, x :: l => by
    rw [eat]
    cases hm : (matchP T (x :: l)).2.2 with
    | true => simp
    | false =>
      by_cases hu : 0 < (matchP T (x :: l)).2.1
      · have k := match_some hT hu
        have ih := eat_len hT app n ((x :: l).drop (matchP T (x :: l)).2.1.toNat)
        have e : ((x :: l).drop (matchP T (x :: l)).2.1.toNat).length ≤ l.length := by simp; omega
        have := (k.2.2.2 app).2
        simp only [cond_false, decide_eq_true hu, cond_true, List.length_append, List.length_cons, gt_iff_lt]
        omega
      · have ih := eat_len hT app n l
        have hu' : decide ((matchP T (x :: l)).2.1 > 0) = false := by simpa using hu
        simp only [cond_false, hu', List.length_cons]
        omega
noncomputable def eatH (T : List MEnt) (app : Bool) (h : List Int) : List Int × List Int := eat T app h.length h

theorem cut_take (h : List Int) (u : Int) : List.take ((none.getD (Int.ofNat h.length)).toNat - ((some u).getD 0).toNat) (List.drop ((some u).getD 0).toNat h) = h.drop u.toNat := by
  simp only [Option.getD_none, Option.getD_some, Int.ofNat_eq_natCast, Int.toNat_natCast]
  rw [List.take_of_length_le]
  simp
theorem j11_is (app : Bool) (u d : Int) (out held : List Int) (h0 : 0 ≤ u) (h1 : u ≤ held.length) (hb : held.length ≤ 1000000) : back_Back_Push_J11 app u d out held = some (app, d, out, held.drop u.toNat) := by
  unfold back_Back_Push_J11
  rw [cut_take]
  have g1 : bnds (some u) none held.length = true := by simp [bnds, h0, h1]
  have g2 : (held.drop u.toNat).length.ble 274877906944 = true := by rw [Nat.ble_eq]; simp; omega
  rw [g1, g2]; rfl
def bothS {α : Type} : α ⊕ α → α
  | .inl x => x
  | .inr x => x
theorem push_loop (d : Int) (hd : 1 ≤ d ∧ d ≤ 3) (app : Bool) : (n : Nat) → (held out : List Int) → held.length < n → held.length ≤ 100000 → out.length + 5 * held.length ≤ 1000000 →
    ∃ z, back_Back_Push_L3 n app d out held = some z ∧ bothS z = (d, out ++ (eatH (tabOf d) app held).1, (eatH (tabOf d) app held).2)
  | 0, held, out, h, _, _ => by omega
  | n + 1, [], out, _, _, _ => by
    rw [back_Back_Push_L3]
    refine ⟨.inr (d, out, []), by simp, ?_⟩
    simp [bothS, eatH, eat]
  | n + 1, x :: l, out, h, hb, ho => by
    have hT := tab_fine d
    rw [back_Back_Push_L3]
    have g0 : decide (Int.ofNat (x :: l).length > (0 : Int)) = true := by simp
    rw [g0, cond_true]
    simp only [hide_eq, match_is d _ hd, optK]
    have he : eatH (tabOf d) app (x :: l) = eat (tabOf d) app (l.length + 1) (x :: l) := rfl
    rw [he, eat]
    cases hm : (matchP (tabOf d) (x :: l)).2.2 with
    | true => exact ⟨_, rfl, by simp [bothS]⟩
    | false =>
      simp only [cond_false]
      by_cases hu : 0 < (matchP (tabOf d) (x :: l)).2.1
      · obtain ⟨_, k1, k2, k3⟩ := match_some hT hu
        obtain ⟨k3, k4⟩ := k3 app
        simp only [decide_eq_true hu, gt_iff_lt, cond_true, k3]
        have hlen : ((x :: l).drop (matchP (tabOf d) (x :: l)).2.1.toNat).length + 2 ≤ (x :: l).length := by
          simp only [List.length_drop, List.length_cons] at k2 ⊢; omega
        simp only [List.length_cons] at h hb ho hlen
        have g1 : (true && ((out.length + (sayP (matchP (tabOf d) (x :: l)).1 app).length).ble 274877906944 && true)) = true := by
          simp only [Bool.true_and, Bool.and_true, Nat.ble_eq]; omega
        rw [g1, cond_true, j11_is app _ d _ (x :: l) (by omega) (by simpa using k2) (by simp; omega)]
        simp only
        obtain ⟨z, hz1, hz2⟩ := push_loop d hd app n ((x :: l).drop (matchP (tabOf d) (x :: l)).2.1.toNat) (out ++ sayP (matchP (tabOf d) (x :: l)).1 app) (by omega) (by omega) (by simp only [List.length_append]; omega)
        refine ⟨z, hz1, ?_⟩
        rw [hz2]
        have e2 : eatH (tabOf d) app ((x :: l).drop (matchP (tabOf d) (x :: l)).2.1.toNat) = eat (tabOf d) app l.length ((x :: l).drop (matchP (tabOf d) (x :: l)).2.1.toNat) := eat_fuel hT app _ _ _ (Nat.le_refl _) (by omega)
        rw [e2, List.append_assoc]
      · have hu' : decide ((matchP (tabOf d) (x :: l)).2.1 > 0) = false := by simpa using hu
        simp only [hu', cond_false]
        simp only [List.length_cons] at h hb ho
        have g2 : (true && ((out.length + [(x :: l).getD 0 0].length).ble 274877906944 && true)) = true := by
          simp only [Bool.true_and, Bool.and_true, Nat.ble_eq, List.length_singleton]; omega
        have g0' : decide ((0 : Int) < Int.ofNat (x :: l).length) = true := g0
        simp only [g0', Bool.true_and, Bool.and_true, cond_true] at g2 ⊢
        rw [g2, cond_true, j11_is app 1 d _ (x :: l) (by omega) (by simp; omega) (by simp; omega)]
        simp only
        obtain ⟨z, hz1, hz2⟩ := push_loop d hd app n l (out ++ [x]) (by omega) (by omega) (by simp only [List.length_append, List.length_singleton]; omega)
        refine ⟨z, hz1, ?_⟩
        rw [hz2]
        simp [eatH]
/-- One byte more. -/
noncomputable def pushP (T : List MEnt) (app : Bool) (h : List Int) (b : Int) : List Int × List Int := eatH T app (h ++ [b])
theorem push_is (d : Int) (hd : 1 ≤ d ∧ d ≤ 3) (h : List Int) (hh : h.length ≤ 1000) (b : Int) (app : Bool) : back_Back_Push_F d h b app = some ((pushP (tabOf d) app h b).1, d, (pushP (tabOf d) app h b).2) := by
  unfold back_Back_Push_F
  have g1 : (true && ((h.length + [b].length).ble 274877906944 && true)) = true := by
    simp only [Bool.true_and, Bool.and_true, Nat.ble_eq, List.length_singleton]; omega
  rw [g1, cond_true]
  obtain ⟨z, h1, h2⟩ := push_loop d hd app (back_Back_Push_fu3 app d [] (h ++ [b])) (h ++ [b]) [] (by
    unfold back_Back_Push_fu3
    exact Nat.lt_of_lt_of_le (by simp; omega : (h ++ [b]).length < 5000) (Nat.le_add_left 5000 _)) (by simp; omega) (by simp; omega)
  simp only [hide_eq, h1, optK]
  unfold pushP
  cases z with
  | inl y => simp only [bothS] at h2; subst h2; simp [sumK]
  | inr y => simp only [bothS] at h2; subst h2; simp [sumK]
theorem pushP_len (d : Int) (app : Bool) (h : List Int) (b : Int) : (pushP (tabOf d) app h b).1.length + 5 * (pushP (tabOf d) app h b).2.length ≤ 5 * h.length + 5 := by
  have := eat_len (tab_fine d) app (h ++ [b]).length (h ++ [b])
  unfold pushP eatH
  simp only [List.length_append, List.length_singleton] at this ⊢
  omega
noncomputable def feedP (T : List MEnt) (app : Bool) : List Int → List Int → List Int × List Int
  | [], h => ([], h)
  | b :: bs, h => ((pushP T app h b).1 ++ (feedP T app bs (pushP T app h b).2).1, (feedP T app bs (pushP T app h b).2).2)
theorem feedP_append (T : List MEnt) (app : Bool) : (a b h : List Int) → feedP T app (a ++ b) h = ((feedP T app a h).1 ++ (feedP T app b (feedP T app a h).2).1, (feedP T app b (feedP T app a h).2).2)
  | [], b, h => by simp [feedP]
  | x :: a, b, h => by
    simp only [List.cons_append, feedP, feedP_append T app a b]
    simp
theorem feedP_len (d : Int) (app : Bool) : (bs h : List Int) → (feedP (tabOf d) app bs h).1.length + 5 * (feedP (tabOf d) app bs h).2.length ≤ 5 * h.length + 5 * bs.length
  | [], h => by simp [feedP]
  | b :: bs, h => by
    have h1 := pushP_len d app h b
    have h2 := feedP_len d app bs (pushP (tabOf d) app h b).2
    simp only [feedP, List.length_append, List.length_cons]
    omega
theorem feed_loop (d : Int) (hd : 1 ≤ d ∧ d ≤ 3) (app : Bool) (bs : List Int) : (n i : Nat) → (out held : List Int) → bs.length < n + i → i ≤ bs.length → held.length + bs.length ≤ 1000 + i → out.length + 5 * held.length + 5 * bs.length ≤ 100000 + 5 * i → bs.length ≤ 1000 →
    back_Back_Feed_L3 n app bs (Int.ofNat bs.length) (Int.ofNat i) d out held = some (d, out ++ (feedP (tabOf d) app (bs.drop i) held).1, (feedP (tabOf d) app (bs.drop i) held).2)
  | 0, i, out, held, h, h1, _, _, _ => by omega
  | n + 1, i, out, held, h, h1, h2, h3, h4 => by
    rw [back_Back_Feed_L3]
    by_cases hi : i < bs.length
    · have g1 : decide (Int.ofNat i < Int.ofNat bs.length) = true := by simpa using hi
      have g2 : decide ((0 : Int) ≤ Int.ofNat i) = true := by simp
      have g3 : bs.getD (Int.ofNat i).toNat 0 = bs[i] := by simp [List.getD, List.getElem?_eq_getElem hi]
      rw [g1, g2, g3]
      simp only [Bool.and_true, cond_true, hide_eq, push_is d hd held (by omega) bs[i] app, optK]
      have hp := pushP_len d app held bs[i]
      have g4 : (out.length + (pushP (tabOf d) app held bs[i]).1.length).ble 274877906944 = true := by
        rw [Nat.ble_eq]; omega
      have g5 : IntKind.i64.wrap (Int.ofNat i + 1) = Int.ofNat (i + 1) := by
        rw [IntKind.wrap_i64]; simp only [Int.ofNat_eq_natCast]; omega
      rw [g4, Bool.and_true, cond_true, g5, feed_loop d hd app bs n (i + 1) _ _ (by omega) (by omega) (by omega) (by simp only [List.length_append]; omega) h4, List.drop_eq_getElem_cons hi, feedP]
      simp
    · have g1 : decide (Int.ofNat i < Int.ofNat bs.length) = false := by simpa using hi
      rw [g1, cond_false, List.drop_of_length_le (by omega)]
      simp [feedP]
theorem feed_is (d : Int) (hd : 1 ≤ d ∧ d ≤ 3) (h bs : List Int) (hb : h.length + bs.length ≤ 1000) (app : Bool) : back_Back_Feed_F d h bs app = some ((feedP (tabOf d) app bs h).1, d, (feedP (tabOf d) app bs h).2) := by
  unfold back_Back_Feed_F
  have := feed_loop d hd app bs (back_Back_Feed_fu3 app bs (Int.ofNat bs.length) 0 d [] h) 0 [] h (by
    unfold back_Back_Feed_fu3
    exact Nat.lt_of_lt_of_le (by omega : bs.length < 5000) (Nat.le_trans (Nat.le_add_left 5000 _) (Nat.le_add_right _ _))) (Nat.zero_le _) (by omega) (by simp; omega) (by omega)
  simp only [hide_eq]
  have e0 : (Int.ofNat 0 : Int) = 0 := rfl
  rw [e0] at this
  rw [this]
  simp [optK]
theorem held_is (d : Int) (h : List Int) (hh : h.length ≤ 1000000) : back_Back_Held_F d h = some (h, d, h) := by
  unfold back_Back_Held_F
  rw [show h.length.ble 274877906944 = true by rw [Nat.ble_eq]; omega]; rfl
end Go.Proofs.YtcgpblgnhpajlaaDoorAbs

-- Written by a program of this session (dec.py); Lean checks it.
namespace Go.Proofs.YtcgpblgnhpajlaaDoorAbs
open Go Go.Proofs
set_option linter.unusedVariables false
set_option maxHeartbeats 2000000
set_option maxRecDepth 100000
noncomputable def linguistlaw24_BackRuns_su : SumT := (19, sumH dialect_Right_A dialect_Right_B true dialect_Right_G) :: sums0
theorem linguistlaw24_BackRuns_su_ok : AllSum Tryd.prog linguistlaw24_BackRuns_su := ⟨sumH_ok rfl rfl dialect_Right_known, sums0_ok⟩
noncomputable def linguistlaw24_BackRuns_pp : CallT := [(10, ptrH 48 back_Back_Feed_c back_Back_Feed_h back_Back_Feed_A back_Back_Feed_B back_Back_Feed_c1 back_Back_Feed_h1 back_Back_Feed_G), (11, ptrH 48 back_Back_Push_c back_Back_Push_h back_Back_Push_A back_Back_Push_B back_Back_Push_c1 back_Back_Push_h1 back_Back_Push_G), (12, ptrH 48 back_Back_Held_c back_Back_Held_h back_Back_Held_A back_Back_Held_B back_Back_Held_c1 back_Back_Held_h1 back_Back_Held_G)]
theorem linguistlaw24_BackRuns_pp_ok : AllPtr Tryd.prog linguistlaw24_BackRuns_pp := ⟨ptrH_ok rfl back_Back_Feed_known, ⟨ptrH_ok rfl back_Back_Push_known, ⟨ptrH_ok rfl back_Back_Held_known, trivial⟩⟩⟩
noncomputable def linguistlaw24_BackRuns_F  : Option (Bool) := (optK ((hide dialect_Right_F (3 : Int))) fun y0 => (bif (!y0) then (some (false)) else (optK ((hide dialect_Right_F (7 : Int))) fun y1 => (bif (!y1) then (optK ((hide back_Back_Feed_F (3 : Int) [] [(27 : Int), (65 : Int)] true)) fun y2 => (optK ((hide back_Back_Feed_F y2.2.1 y2.2.2 [(27 : Int), (27 : Int), (65 : Int)] false)) fun y3 => (optK ((hide back_Back_Push_F y3.2.1 y3.2.2 (120 : Int) false)) fun y4 => (bif (y2.1 == [(27 : Int), (79 : Int), (65 : Int)]) then (bif (y3.1 == [(27 : Int), (27 : Int), (91 : Int), (65 : Int)]) then (bif (y4.1 == [(120 : Int)]) then (optK ((hide back_Back_Held_F y4.2.1 y4.2.2)) fun y5 => (some (Int.ofNat y5.1.length == (0 : Int)))) else (some (false))) else (some (false))) else (some (false)))))) else (some (false))))))
noncomputable def linguistlaw24_BackRuns_A : SkL := .nil
noncomputable def linguistlaw24_BackRuns_B : Sk := .bool
def linguistlaw24_BackRuns_m {R : Type} (K : (Bool → Option R)) (o : Option (Bool)) : Option R := optK o fun y => K y
theorem linguistlaw24_BackRuns_run {R : Type}  (K : (Bool → Option R)) : acall (envC linguistlaw24_BackRuns_pp linguistlaw24_BackRuns_su ll0 cs0 (fun _ _ => false)) 1000 3 (linguistlaw24_BackRuns_A.enc ()) [] (resK linguistlaw24_BackRuns_B true K) = linguistlaw24_BackRuns_m K (linguistlaw24_BackRuns_F ) := by
  unfold linguistlaw24_BackRuns_F
  exact Eq.trans (by kernel_rfl) (optK_push (linguistlaw24_BackRuns_m K) rfl _ fun y0 => (cond_push (linguistlaw24_BackRuns_m K) _ rfl (optK_push (linguistlaw24_BackRuns_m K) rfl _ fun y1 => (cond_push (linguistlaw24_BackRuns_m K) _ (optK_push (linguistlaw24_BackRuns_m K) rfl _ fun y2 => (optK_push (linguistlaw24_BackRuns_m K) rfl _ fun y3 => (optK_push (linguistlaw24_BackRuns_m K) rfl _ fun y4 => (cond_push (linguistlaw24_BackRuns_m K) _ (cond_push (linguistlaw24_BackRuns_m K) _ (cond_push (linguistlaw24_BackRuns_m K) _ (optK_push (linguistlaw24_BackRuns_m K) rfl _ fun y5 => rfl) rfl) rfl) rfl)))) rfl))))
noncomputable def linguistlaw24_BackRuns_G : GoF linguistlaw24_BackRuns_A linguistlaw24_BackRuns_B := fun R (x : Unit) K => linguistlaw24_BackRuns_m K (hide linguistlaw24_BackRuns_F )
theorem linguistlaw24_BackRuns_known : Known Tryd.prog 3 linguistlaw24_BackRuns_A linguistlaw24_BackRuns_B true linguistlaw24_BackRuns_G := known_of (envC_ok linguistlaw24_BackRuns_pp_ok linguistlaw24_BackRuns_su_ok ll0_ok cs0_ok) (n := 1000) rfl fun R (x : Unit) K => by
  show _ = linguistlaw24_BackRuns_m K (hide linguistlaw24_BackRuns_F )
  rw [hide_eq]
  exact linguistlaw24_BackRuns_run  K
end Go.Proofs.YtcgpblgnhpajlaaDoorAbs

/- Chapter 24's laws: what they share. -/
namespace Go.Proofs.YtcgpblgnhpajlaaDoorAbs
open Go Go.Proofs
set_option linter.unusedVariables false
set_option linter.unusedSimpArgs false
set_option maxHeartbeats 2000000
set_option maxRecDepth 100000

theorem w64 {n : Int} (h0 : -9223372036854775808 ≤ n) (h1 : n < 9223372036854775808) : IntKind.i64.wrap n = n := by rw [IntKind.wrap_i64]; omega
theorem within_is (n lo hi : Int) (h0 : lo ≤ hi) (h1 : -1000000 ≤ lo) (h2 : hi ≤ 1000000) : ∃ v, linguistbook_Within_F n lo hi = some v ∧ lo ≤ v ∧ v ≤ hi := by
  unfold linguistbook_Within_F
  rw [w64 (n := hi - lo) (by omega) (by omega), w64 (n := hi - lo + 1) (by omega) (by omega)]
  have hm : 0 < hi - lo + 1 := by omega
  have ht1 : n.tmod (hi - lo + 1) < hi - lo + 1 := Int.tmod_lt_of_pos n hm
  have ht2 : -(hi - lo + 1) < n.tmod (hi - lo + 1) := by
    have := Int.lt_tmod_of_pos n hm
    omega
  generalize n.tmod (hi - lo + 1) = t at ht1 ht2 ⊢
  have hne : (hi - lo + 1 == 0) = false := by simp; omega
  rw [hne, cond_false]
  by_cases hs : t < 0
  · simp only [hs, decide_true, cond_true]
    rw [w64 (n := t + hi) (by omega) (by omega), w64 (n := t + hi - lo) (by omega) (by omega), w64 (n := t + hi - lo + 1) (by omega) (by omega), w64 (by omega) (by omega)]
    exact ⟨_, rfl, by omega, by omega⟩
  · simp only [hs, decide_false, cond_false]
    rw [w64 (by omega) (by omega)]
    exact ⟨_, rfl, by omega, by omega⟩
theorem right_is (d : Int) (h : 1 ≤ d ∧ d ≤ 3) : dialect_Right_F d = some true := by
  unfold dialect_Right_F
  simp [h.1, h.2]
theorem same_loop (a : List Int) (hl : a.length < 1000000) : ∀ (n i : Nat), i ≤ a.length → a.length - i < n → linguistbook_Same_byte_L4 n a a (Int.ofNat i) = some (.inr ()) := by
  intro n
  induction n with
  | zero => intro i h1 h2; omega
  | succ n ih =>
    intro i h1 h2
    rw [linguistbook_Same_byte_L4]
    by_cases hi : i < a.length
    · have g1 : decide (Int.ofNat i < Int.ofNat a.length) = true := by simpa using hi
      have g2 : decide ((0 : Int) ≤ Int.ofNat i) = true := by simp
      have g5 : IntKind.i64.wrap (Int.ofNat i + 1) = Int.ofNat (i + 1) := by
        rw [IntKind.wrap_i64]; simp only [Int.ofNat_eq_natCast]; omega
      rw [g1, g2, g5, ih (i + 1) (by omega) (by omega)]
      simp
    · have g1 : decide (Int.ofNat i < Int.ofNat a.length) = false := by simpa using hi
      rw [g1]; rfl
theorem same_eq (a : List Int) (hl : a.length < 1000000) : linguistbook_Same_byte_F a a = some true := by
  unfold linguistbook_Same_byte_F
  have L := same_loop a hl (linguistbook_Same_byte_fu4 a a 0) 0 (Nat.zero_le _) (by unfold linguistbook_Same_byte_fu4; omega)
  have e0 : (Int.ofNat 0 : Int) = 0 := rfl
  rw [e0] at L
  simp only [hide_eq, L, optK, sumK]
  simp
/-- A byte that is no ESC goes through. -/
theorem match_plain {T : List MEnt} (hT : tabFine T = true) {x : Int} (h : x ≠ 27) (l : List Int) : matchP T (x :: l) = (0, 0, false) := by
  unfold matchP
  have h1 : T.find? (mtch (x :: l)) = none := by
    rw [List.find?_eq_none]
    intro e he hm
    obtain ⟨⟨y, k, hk⟩, _⟩ := fine_at hT he
    have := (isPre_iff _ _).1 hm
    rw [hk] at this
    exact h (List.cons_prefix_cons.1 this).1.symm
  have h2 : T.any (mbeg (x :: l)) = false := by
    rw [List.any_eq_false]
    intro e he hm
    obtain ⟨⟨y, k, hk⟩, _⟩ := fine_at hT he
    unfold mbeg at hm
    simp only [Bool.and_eq_true] at hm
    have := (isPre_iff _ _).1 hm.2
    rw [hk] at this
    exact h (List.cons_prefix_cons.1 this).1
  rw [h1, h2]
theorem push_plain {T : List MEnt} (hT : tabFine T = true) (app : Bool) {x : Int} (h : x ≠ 27) : pushP T app [] x = ([x], []) := by
  unfold pushP eatH
  simp [eat, match_plain hT h]
theorem feed_plain {T : List MEnt} (hT : tabFine T = true) (app : Bool) : (l : List Int) → (∀ x ∈ l, x ≠ 27) → feedP T app l [] = (l, [])
  | [], _ => rfl
  | x :: l, h => by
    rw [feedP, push_plain hT app (h x (by simp))]
    simp [feed_plain hT app l fun y hy => h y (by simp [hy])]
theorem backRuns_is : linguistlaw24_BackRuns_F = some true := by
  unfold linguistlaw24_BackRuns_F
  have r7 : dialect_Right_F 7 = some false := by kernel_rfl
  have f1 : feedP (tabOf 3) true [27, 65] [] = ([27, 79, 65], []) := by kernel_rfl
  have f2 : feedP (tabOf 3) false [27, 27, 65] [] = ([27, 27, 91, 65], []) := by kernel_rfl
  have f3 : pushP (tabOf 3) false [] 120 = ([120], []) := by kernel_rfl
  simp only [hide_eq, right_is 3 (by decide), r7, optK, Bool.not_true, Bool.not_false, cond_true, cond_false, feed_is 3 (by decide) [] [27, 65] (by decide) true, f1,
    feed_is 3 (by decide) [] [27, 27, 65] (by decide) false, f2, push_is 3 (by decide) [] (by decide) 120 false, f3, held_is 3 [] (by decide)]
  rfl
end Go.Proofs.YtcgpblgnhpajlaaDoorAbs

-- Written by a program of this session (dec.py); Lean checks it.
namespace Go.Proofs.YtcgpblgnhpajlaaDoorAbs
open Go Go.Proofs
set_option linter.unusedVariables false
set_option maxHeartbeats 2000000
set_option maxRecDepth 100000
noncomputable def linguistlaw24_BackCuts_su : SumT := (13, sumH linguistbook_Within_A linguistbook_Within_B true linguistbook_Within_G) :: (19, sumH dialect_Right_A dialect_Right_B true dialect_Right_G) :: (16, sumH linguistbook_Same_byte_A linguistbook_Same_byte_B true linguistbook_Same_byte_G) :: (3, sumH linguistlaw24_BackRuns_A linguistlaw24_BackRuns_B true linguistlaw24_BackRuns_G) :: sums0
theorem linguistlaw24_BackCuts_su_ok : AllSum Tryd.prog linguistlaw24_BackCuts_su := ⟨sumH_ok rfl rfl linguistbook_Within_known, ⟨sumH_ok rfl rfl dialect_Right_known, ⟨sumH_ok rfl rfl linguistbook_Same_byte_known, ⟨sumH_ok rfl rfl linguistlaw24_BackRuns_known, sums0_ok⟩⟩⟩⟩
noncomputable def linguistlaw24_BackCuts_pp : CallT := [(10, ptrH 48 back_Back_Feed_c back_Back_Feed_h back_Back_Feed_A back_Back_Feed_B back_Back_Feed_c1 back_Back_Feed_h1 back_Back_Feed_G), (12, ptrH 48 back_Back_Held_c back_Back_Held_h back_Back_Held_A back_Back_Held_B back_Back_Held_c1 back_Back_Held_h1 back_Back_Held_G)]
theorem linguistlaw24_BackCuts_pp_ok : AllPtr Tryd.prog linguistlaw24_BackCuts_pp := ⟨ptrH_ok rfl back_Back_Feed_known, ⟨ptrH_ok rfl back_Back_Held_known, trivial⟩⟩
noncomputable def linguistlaw24_BackCuts_c11 : Code := ((Tryd.f5.body.map fun b => loopsAt b 11).getD []).headD .skip
theorem linguistlaw24_BackCuts_c11_is : (Tryd.f5.body.map fun b => loopsAt b 11) = some [linguistlaw24_BackCuts_c11] := by kernel_rfl
noncomputable def linguistlaw24_BackCuts_s11 : SkSt := ⟨(.gap 10 (.cons (.list (.one (.int .u8))) (.gap 1 (.cst (.ptr 0 0) (.cst (.ptr 1 0) (.cons (.list (.one (.int .u8))) (.cst (.own 2 5 (.one (.int .u8))) (.cons .bool (.gap 44 (.cons (.list (.one (.int .u8))) (.cons (.int .i64) (.cons (.int .i64) (.gap 30 .nil))))))))))))), (.var 48 (.cons (.int .i64) (.cst (.own 3 5 (.one (.int .u8))) .nil)) (.var 48 (.cons (.int .i64) (.cst (.own 4 5 (.one (.int .u8))) .nil)) (.arr 5 (.one (.int .u8)) (.arr 5 (.one (.int .u8)) (.arr 5 (.one (.int .u8)) .nil)))))⟩
noncomputable def linguistlaw24_BackCuts_x11_0 : SkSt := ⟨(.gap 10 (.cons (.list (.one (.int .u8))) (.gap 1 (.cst (.ptr 0 0) (.cst (.ptr 1 0) (.cons (.list (.one (.int .u8))) (.cst (.own 2 5 (.one (.int .u8))) (.cons .bool (.gap 77 .nil))))))))), (.var 48 (.cons (.int .i64) (.cst (.own 3 5 (.one (.int .u8))) .nil)) (.var 48 (.cons (.int .i64) (.cst (.own 4 5 (.one (.int .u8))) .nil)) (.arr 5 (.one (.int .u8)) (.arr 5 (.one (.int .u8)) (.arr 5 (.one (.int .u8)) .nil)))))⟩
noncomputable def linguistlaw24_BackCuts_xs11 : List (Ex × SkSt) := [(.exit 0, linguistlaw24_BackCuts_x11_0)]
noncomputable def linguistlaw24_BackCuts_L11 : Nat → List (Int) → List (Int) → Bool → List (Int) → Int → Int → Int → Int → List (Int) → List (Int) → List (Int) → Option ((List (Int)) × (List (Int)) × Bool × Int × Int × (List (Int)) × (List (Int)) × (List (Int)))
  | 0, _, _, _, _, _, _, _, _, _, _, _ => none
  | n + 1, a0, a1, a2, a3, a4, a5, a6, a7, a8, a9, a10 => (bif (decide (a5 < a4)) then (bif (decide ((0 : Int) ≤ a5) && decide (a5 < Int.ofNat a3.length) && true) then (bif a2 then (linguistlaw24_BackCuts_L11 n a0 a1 (true) a3 a4 (IntKind.i64.wrap (a5 + (1 : Int))) a6 a7 a8 a9 a10) else (linguistlaw24_BackCuts_L11 n a0 a1 (a3.getD a5.toNat (0 : Int) == (27 : Int)) a3 a4 (IntKind.i64.wrap (a5 + (1 : Int))) a6 a7 a8 a9 a10)) else none) else (some (a0, a1, a2, a6, a7, a8, a9, a10)))
noncomputable def linguistlaw24_BackCuts_I11 {R : Type} (K : Ex → St → Option R) : Nat → St → Option R := iterN (exec (envC linguistlaw24_BackCuts_pp linguistlaw24_BackCuts_su ll0 cs0 (fun f d => Nat.beq f 5 && Nat.beq d 27)) 5 (acall (envC linguistlaw24_BackCuts_pp linguistlaw24_BackCuts_su ll0 cs0 (fun f d => Nat.beq f 5 && Nat.beq d 27)) 1000) 0 linguistlaw24_BackCuts_c11) (normTo linguistlaw24_BackCuts_s11 0) (exitK linguistlaw24_BackCuts_xs11 0 K)
noncomputable def linguistlaw24_BackCuts_m11 {R : Type} (K : Ex → St → Option R) (o : Option ((List (Int)) × (List (Int)) × Bool × Int × Int × (List (Int)) × (List (Int)) × (List (Int)))) : Option R := optK o fun y => K (.exit 0) (linguistlaw24_BackCuts_x11_0.enc ((y.1, (y.2.1, (y.2.2.1, ()))), ((y.2.2.2.1, ()), ((y.2.2.2.2.1, ()), (y.2.2.2.2.2.1, (y.2.2.2.2.2.2.1, (y.2.2.2.2.2.2.2, ())))))))
theorem linguistlaw24_BackCuts_l11 {R : Type} (K : Ex → St → Option R) : ∀ (n : Nat), ∀ (a0 : List (Int)) (a1 : List (Int)) (a2 : Bool) (a3 : List (Int)) (a4 : Int) (a5 : Int) (a6 : Int) (a7 : Int) (a8 : List (Int)) (a9 : List (Int)) (a10 : List (Int)), linguistlaw24_BackCuts_I11 K n (linguistlaw24_BackCuts_s11.enc ((a0, (a1, (a2, (a3, (a4, (a5, ())))))), ((a6, ()), ((a7, ()), (a8, (a9, (a10, ()))))))) = linguistlaw24_BackCuts_m11 K (linguistlaw24_BackCuts_L11 n a0 a1 a2 a3 a4 a5 a6 a7 a8 a9 a10) := by
  intro n
  induction n with
  | zero => intros; rfl
  | succ n ih =>
    intro a0 a1 a2 a3 a4 a5 a6 a7 a8 a9 a10
    rw [linguistlaw24_BackCuts_L11]
    exact Eq.trans (by kernel_rfl) (cond_push (linguistlaw24_BackCuts_m11 K) _ (cond_push (linguistlaw24_BackCuts_m11 K) _ (cond_push (linguistlaw24_BackCuts_m11 K) _ (ih a0 a1 (true) a3 a4 (IntKind.i64.wrap (a5 + (1 : Int))) a6 a7 a8 a9 a10) (ih a0 a1 (a3.getD a5.toNat (0 : Int) == (27 : Int)) a3 a4 (IntKind.i64.wrap (a5 + (1 : Int))) a6 a7 a8 a9 a10)) rfl) rfl)
def linguistlaw24_BackCuts_fu11 (a0 : List (Int)) (a1 : List (Int)) (a2 : Bool) (a3 : List (Int)) (a4 : Int) (a5 : Int) (a6 : Int) (a7 : Int) (a8 : List (Int)) (a9 : List (Int)) (a10 : List (Int)) : Nat := List.length a0 + List.length a1 + 0 + List.length a3 + Int.natAbs a4 + Int.natAbs a5 + Int.natAbs a6 + Int.natAbs a7 + List.length a8 + List.length a9 + List.length a10 + 5000
noncomputable def linguistlaw24_BackCuts_G11 : GoL linguistlaw24_BackCuts_s11 := fun R (x : ((List (Int) × (List (Int) × (Bool × (List (Int) × (Int × (Int × Unit)))))) × ((Int × Unit) × ((Int × Unit) × (List (Int) × (List (Int) × (List (Int) × Unit))))))) K => linguistlaw24_BackCuts_m11 K (hide linguistlaw24_BackCuts_L11 (linguistlaw24_BackCuts_fu11 x.1.1 x.1.2.1 x.1.2.2.1 x.1.2.2.2.1 x.1.2.2.2.2.1 x.1.2.2.2.2.2.1 x.2.1.1 x.2.2.1.1 x.2.2.2.1 x.2.2.2.2.1 x.2.2.2.2.2.1) x.1.1 x.1.2.1 x.1.2.2.1 x.1.2.2.2.1 x.1.2.2.2.2.1 x.1.2.2.2.2.2.1 x.2.1.1 x.2.2.1.1 x.2.2.2.1 x.2.2.2.2.1 x.2.2.2.2.2.1)
theorem linguistlaw24_BackCuts_H11 : LoopOk Tryd.prog 5 11 (loopH linguistlaw24_BackCuts_s11 0 linguistlaw24_BackCuts_G11) := loop_known (envC_ok linguistlaw24_BackCuts_pp_ok linguistlaw24_BackCuts_su_ok ll0_ok cs0_ok) Tryd.func5 rfl linguistlaw24_BackCuts_c11_is (xs := linguistlaw24_BackCuts_xs11) (fuel := fun (x : ((List (Int) × (List (Int) × (Bool × (List (Int) × (Int × (Int × Unit)))))) × ((Int × Unit) × ((Int × Unit) × (List (Int) × (List (Int) × (List (Int) × Unit))))))) => linguistlaw24_BackCuts_fu11 x.1.1 x.1.2.1 x.1.2.2.1 x.1.2.2.2.1 x.1.2.2.2.2.1 x.1.2.2.2.2.2.1 x.2.1.1 x.2.2.1.1 x.2.2.2.1 x.2.2.2.2.1 x.2.2.2.2.2.1) fun R (x : ((List (Int) × (List (Int) × (Bool × (List (Int) × (Int × (Int × Unit)))))) × ((Int × Unit) × ((Int × Unit) × (List (Int) × (List (Int) × (List (Int) × Unit))))))) K => by
  show linguistlaw24_BackCuts_m11 K (hide linguistlaw24_BackCuts_L11 (linguistlaw24_BackCuts_fu11 x.1.1 x.1.2.1 x.1.2.2.1 x.1.2.2.2.1 x.1.2.2.2.2.1 x.1.2.2.2.2.2.1 x.2.1.1 x.2.2.1.1 x.2.2.2.1 x.2.2.2.2.1 x.2.2.2.2.2.1) x.1.1 x.1.2.1 x.1.2.2.1 x.1.2.2.2.1 x.1.2.2.2.2.1 x.1.2.2.2.2.2.1 x.2.1.1 x.2.2.1.1 x.2.2.2.1 x.2.2.2.2.1 x.2.2.2.2.2.1) = _
  rw [hide_eq]
  exact (linguistlaw24_BackCuts_l11 K (linguistlaw24_BackCuts_fu11 x.1.1 x.1.2.1 x.1.2.2.1 x.1.2.2.2.1 x.1.2.2.2.2.1 x.1.2.2.2.2.2.1 x.2.1.1 x.2.2.1.1 x.2.2.2.1 x.2.2.2.2.1 x.2.2.2.2.2.1) x.1.1 x.1.2.1 x.1.2.2.1 x.1.2.2.2.1 x.1.2.2.2.2.1 x.1.2.2.2.2.2.1 x.2.1.1 x.2.2.1.1 x.2.2.2.1 x.2.2.2.2.1 x.2.2.2.2.2.1).symm
noncomputable def linguistlaw24_BackCuts_h11 : LoopF := loopH linguistlaw24_BackCuts_s11 0 linguistlaw24_BackCuts_G11
noncomputable def linguistlaw24_BackCuts_ll1 : LoopT := ((5, 11), linguistlaw24_BackCuts_h11) :: ll0
theorem linguistlaw24_BackCuts_ll1_ok : AllLoop Tryd.prog linguistlaw24_BackCuts_ll1 := ⟨linguistlaw24_BackCuts_H11, ll0_ok⟩
noncomputable def linguistlaw24_BackCuts_F (x0 : Int) (x1 : List (Int)) (x2 : Int) (x3 : Bool) : Option (Bool) := (optK ((hide linguistbook_Within_F x0 (1 : Int) (3 : Int))) fun y0 => (bif (bnds none (some (if (40 : Int) < Int.ofNat x1.length then (40 : Int) else Int.ofNat x1.length)) x1.length && true) then (bif ((cutList x1 none (some (if (40 : Int) < Int.ofNat x1.length then (40 : Int) else Int.ofNat x1.length))).length.ble (274877906944 : Nat) && true) then (optK ((hide linguistbook_Within_F x2 (0 : Int) (Int.ofNat (cutList x1 none (some (if (40 : Int) < Int.ofNat x1.length then (40 : Int) else Int.ofNat x1.length))).length))) fun y1 => (optK ((hide dialect_Right_F y0)) fun y2 => (bif (!y2) then (optK ((hide dialect_Right_F y0)) fun y3 => (bif (!y3) then (some (false)) else (some (false)))) else (optK ((hide dialect_Right_F y0)) fun y4 => (bif (!y4) then (some (false)) else (optK ((hide back_Back_Feed_F y0 [] (cutList x1 none (some (if (40 : Int) < Int.ofNat x1.length then (40 : Int) else Int.ofNat x1.length))) x3)) fun y5 => (bif (bnds none (some y1) (cutList x1 none (some (if (40 : Int) < Int.ofNat x1.length then (40 : Int) else Int.ofNat x1.length))).length && true) then (optK ((hide back_Back_Feed_F y0 [] (cutList (cutList x1 none (some (if (40 : Int) < Int.ofNat x1.length then (40 : Int) else Int.ofNat x1.length))) none (some y1)) x3)) fun y6 => (bif (y6.1.length.ble (274877906944 : Nat) && true) then (bif (bnds (some y1) none (cutList x1 none (some (if (40 : Int) < Int.ofNat x1.length then (40 : Int) else Int.ofNat x1.length))).length && true) then (optK ((hide back_Back_Feed_F y6.2.1 y6.2.2 (cutList (cutList x1 none (some (if (40 : Int) < Int.ofNat x1.length then (40 : Int) else Int.ofNat x1.length))) (some y1) none) x3)) fun y7 => (bif (true && ((y6.1.length + y7.1.length).ble (274877906944 : Nat) && true)) then (optK (hide linguistlaw24_BackCuts_L11 (linguistlaw24_BackCuts_fu11 (cutList x1 none (some (if (40 : Int) < Int.ofNat x1.length then (40 : Int) else Int.ofNat x1.length))) (y5.1) (false) (cutList x1 none (some (if (40 : Int) < Int.ofNat x1.length then (40 : Int) else Int.ofNat x1.length))) (Int.ofNat (cutList x1 none (some (if (40 : Int) < Int.ofNat x1.length then (40 : Int) else Int.ofNat x1.length))).length) (0 : Int) (y5.2.1) (y7.2.1) (y6.1 ++ y7.1) (y5.2.2) (y7.2.2)) (cutList x1 none (some (if (40 : Int) < Int.ofNat x1.length then (40 : Int) else Int.ofNat x1.length))) (y5.1) (false) (cutList x1 none (some (if (40 : Int) < Int.ofNat x1.length then (40 : Int) else Int.ofNat x1.length))) (Int.ofNat (cutList x1 none (some (if (40 : Int) < Int.ofNat x1.length then (40 : Int) else Int.ofNat x1.length))).length) (0 : Int) (y5.2.1) (y7.2.1) (y6.1 ++ y7.1) (y5.2.2) (y7.2.2)) fun y8 => (optK ((hide linguistbook_Same_byte_F y8.2.2.2.2.2.1 y8.2.1)) fun y9 => (bif y9 then (optK ((hide back_Back_Held_F y8.2.2.2.1 y8.2.2.2.2.2.2.1)) fun y10 => (optK ((hide back_Back_Held_F y8.2.2.2.2.1 y8.2.2.2.2.2.2.2)) fun y11 => (optK ((hide linguistbook_Same_byte_F y10.1 y11.1)) fun y12 => (bif y12 then (bif (y8.2.2.1) then (optK ((hide linguistlaw24_BackRuns_F)) fun y13 => (some y13)) else (optK ((hide linguistbook_Same_byte_F y8.2.1 y8.1)) fun y14 => (bif y14 then (optK ((hide linguistlaw24_BackRuns_F)) fun y15 => (some y15)) else (some (false))))) else (some (false)))))) else (some (false))))) else none)) else none) else none)) else none))))))) else none) else none))
noncomputable def linguistlaw24_BackCuts_A : SkL := (.cons (.int .i64) (.cons (.list (.one (.int .u8))) (.cons (.int .i64) (.cons .bool .nil))))
noncomputable def linguistlaw24_BackCuts_B : Sk := .bool
def linguistlaw24_BackCuts_m {R : Type} (K : (Bool → Option R)) (o : Option (Bool)) : Option R := optK o fun y => K y
theorem linguistlaw24_BackCuts_run {R : Type} (x0 : Int) (x1 : List (Int)) (x2 : Int) (x3 : Bool) (K : (Bool → Option R)) : acall (envC linguistlaw24_BackCuts_pp linguistlaw24_BackCuts_su linguistlaw24_BackCuts_ll1 cs0 (fun f d => Nat.beq f 5 && Nat.beq d 27)) 1000 5 (linguistlaw24_BackCuts_A.enc (x0, (x1, (x2, (x3, ()))))) [] (resK linguistlaw24_BackCuts_B true K) = linguistlaw24_BackCuts_m K (linguistlaw24_BackCuts_F x0 x1 x2 x3) := by
  unfold linguistlaw24_BackCuts_F
  exact Eq.trans (by kernel_rfl) (optK_push (linguistlaw24_BackCuts_m K) rfl _ fun y0 => (cond_push (linguistlaw24_BackCuts_m K) _ (cond_push (linguistlaw24_BackCuts_m K) _ (optK_push (linguistlaw24_BackCuts_m K) rfl _ fun y1 => (optK_push (linguistlaw24_BackCuts_m K) rfl _ fun y2 => (cond_push (linguistlaw24_BackCuts_m K) _ (optK_push (linguistlaw24_BackCuts_m K) rfl _ fun y3 => (cond_push (linguistlaw24_BackCuts_m K) _ rfl rfl)) (optK_push (linguistlaw24_BackCuts_m K) rfl _ fun y4 => (cond_push (linguistlaw24_BackCuts_m K) _ rfl (optK_push (linguistlaw24_BackCuts_m K) rfl _ fun y5 => (cond_push (linguistlaw24_BackCuts_m K) _ (optK_push (linguistlaw24_BackCuts_m K) rfl _ fun y6 => (cond_push (linguistlaw24_BackCuts_m K) _ (cond_push (linguistlaw24_BackCuts_m K) _ (optK_push (linguistlaw24_BackCuts_m K) rfl _ fun y7 => (cond_push (linguistlaw24_BackCuts_m K) _ (optK_push (linguistlaw24_BackCuts_m K) rfl _ fun y8 => (optK_push (linguistlaw24_BackCuts_m K) rfl _ fun y9 => (cond_push (linguistlaw24_BackCuts_m K) _ (optK_push (linguistlaw24_BackCuts_m K) rfl _ fun y10 => (optK_push (linguistlaw24_BackCuts_m K) rfl _ fun y11 => (optK_push (linguistlaw24_BackCuts_m K) rfl _ fun y12 => (cond_push (linguistlaw24_BackCuts_m K) _ (cond_push (linguistlaw24_BackCuts_m K) _ (optK_push (linguistlaw24_BackCuts_m K) rfl _ fun y13 => rfl) (optK_push (linguistlaw24_BackCuts_m K) rfl _ fun y14 => (cond_push (linguistlaw24_BackCuts_m K) _ (optK_push (linguistlaw24_BackCuts_m K) rfl _ fun y15 => rfl) rfl))) rfl)))) rfl))) rfl)) rfl) rfl)) rfl))))))) rfl) rfl))
end Go.Proofs.YtcgpblgnhpajlaaDoorAbs

/- BackCuts: the printed law answers true. -/
namespace Go.Proofs.YtcgpblgnhpajlaaDoorAbs
open Go Go.Proofs
set_option linter.unusedVariables false
set_option linter.unusedSimpArgs false
set_option maxHeartbeats 2000000
set_option maxRecDepth 100000
theorem esc_loop (own : List Int) (hl : own.length ≤ 1000) (a0 a1 : List Int) (a6 a7 : Int) (a8 a9 a10 : List Int) : ∀ (n i : Nat) (e : Bool), i ≤ own.length → own.length - i < n →
    linguistlaw24_BackCuts_L11 n a0 a1 e own (Int.ofNat own.length) (Int.ofNat i) a6 a7 a8 a9 a10 = some (a0, a1, e || (own.drop i).any (fun x => x == 27), a6, a7, a8, a9, a10) := by
  intro n
  induction n with
  | zero => intro i e h1 h2; omega
  | succ n ih =>
    intro i e h1 h2
    rw [linguistlaw24_BackCuts_L11]
    by_cases hi : i < own.length
    · have g1 : decide (Int.ofNat i < Int.ofNat own.length) = true := by simpa using hi
      have g2 : decide ((0 : Int) ≤ Int.ofNat i) = true := by simp
      have g3 : own.getD (Int.ofNat i).toNat 0 = own[i] := by simp [List.getD, List.getElem?_eq_getElem hi]
      have g5 : IntKind.i64.wrap (Int.ofNat i + 1) = Int.ofNat (i + 1) := by
        rw [IntKind.wrap_i64]; simp only [Int.ofNat_eq_natCast]; omega
      rw [g1, g2, g3, g5, List.drop_eq_getElem_cons hi, List.any_cons]
      simp only [Bool.and_true, cond_true]
      cases e
      · rw [cond_false, ih (i + 1) _ (by omega) (by omega)]; simp
      · rw [cond_true, ih (i + 1) _ (by omega) (by omega)]; simp
    · have g1 : decide (Int.ofNat i < Int.ofNat own.length) = false := by simpa using hi
      rw [g1, List.drop_of_length_le (by omega)]
      simp
theorem cut40 (l : List Int) : bnds none (some (if (40 : Int) < Int.ofNat l.length then (40 : Int) else Int.ofNat l.length)) l.length = true ∧ cutList l none (some (if (40 : Int) < Int.ofNat l.length then (40 : Int) else Int.ofNat l.length)) = l.take 40 := by
  by_cases h : (40 : Int) < Int.ofNat l.length
  · rw [if_pos h]
    refine ⟨?_, by simp [cutList]⟩
    simp only [Int.ofNat_eq_natCast] at h
    simp [bnds]; omega
  · rw [if_neg h]
    simp only [Int.ofNat_eq_natCast] at h
    refine ⟨by simp [bnds], ?_⟩
    simp only [cutList, Int.ofNat_eq_natCast, Int.toNat_natCast]
    rw [List.take_of_length_le (Nat.le_refl _), List.take_of_length_le (by omega)]
theorem backCuts_true (x0 : Int) (x1 : List Int) (x2 : Int) (x3 : Bool) : linguistlaw24_BackCuts_F x0 x1 x2 x3 = some true := by
  unfold linguistlaw24_BackCuts_F
  obtain ⟨d, hd, hd1, hd2⟩ := within_is x0 1 3 (by decide) (by decide) (by decide)
  have hd3 : 1 ≤ d ∧ d ≤ 3 := ⟨hd1, hd2⟩
  obtain ⟨c1, c2⟩ := cut40 x1
  simp only [hide_eq, hd, optK, c1, c2, Bool.and_true, cond_true]
  have hl : (x1.take 40).length ≤ 40 := by simp; omega
  generalize x1.take 40 = own at hl ⊢
  have g1 : own.length.ble 274877906944 = true := by rw [Nat.ble_eq]; omega
  obtain ⟨c, hc, hc1, hc2⟩ := within_is x2 0 (Int.ofNat own.length) (by simp) (by decide) (by simp; omega)
  simp only [Int.ofNat_eq_natCast] at hc2
  simp only [g1, cond_true, hc, right_is d hd3, Bool.not_true, cond_false]
  have hf1 := feed_is d hd3 [] own (by simp; omega) x3
  have e1 : cutList own none (some c) = own.take c.toNat := rfl
  have e2 : cutList own (some c) none = own.drop c.toNat := rfl
  have hf2 := feed_is d hd3 [] (own.take c.toNat) (by simp; omega) x3
  have l2 := feedP_len d x3 (own.take c.toNat) []
  have l1 := feedP_len d x3 own []
  have hf3 := feed_is d hd3 (feedP (tabOf d) x3 (own.take c.toNat) []).2 (own.drop c.toNat) (by
    simp only [List.length_nil, List.length_take, List.length_drop] at l2 ⊢; omega) x3
  have l3 := feedP_len d x3 (own.drop c.toNat) (feedP (tabOf d) x3 (own.take c.toNat) []).2
  have b1 : bnds none (some c) own.length = true := by simp [bnds]; omega
  have b2 : bnds (some c) none own.length = true := by simp [bnds]; omega
  have happ := feedP_append (tabOf d) x3 (own.take c.toNat) (own.drop c.toNat) []
  rw [List.take_append_drop] at happ
  simp only [hf1, e1, e2, hf2, hf3, b1, b2, cond_true]
  simp only [List.length_nil, List.length_take, List.length_drop] at l1 l2 l3
  have g2 : (feedP (tabOf d) x3 (own.take c.toNat) []).1.length.ble 274877906944 = true := by rw [Nat.ble_eq]; omega
  have g3 : ((feedP (tabOf d) x3 (own.take c.toNat) []).1.length + (feedP (tabOf d) x3 (own.drop c.toNat) (feedP (tabOf d) x3 (own.take c.toNat) []).2).1.length).ble 274877906944 = true := by rw [Nat.ble_eq]; omega
  simp only [g2, g3, Bool.and_true, cond_true]
  have e0 : (Int.ofNat 0 : Int) = 0 := rfl
  have L := fun a0 a1 a6 a7 a8 a9 a10 => esc_loop own (by omega) a0 a1 a6 a7 a8 a9 a10 (linguistlaw24_BackCuts_fu11 a0 a1 false own (Int.ofNat own.length) 0 a6 a7 a8 a9 a10) 0 false (Nat.zero_le _) (by
    unfold linguistlaw24_BackCuts_fu11
    exact Nat.lt_of_lt_of_le (by omega : own.length - 0 < 5000) (Nat.le_add_left 5000 _))
  simp only [e0] at L
  rw [L]
  simp only
  have hfst := congrArg Prod.fst happ
  have hsnd := congrArg Prod.snd happ
  simp only at hfst hsnd
  rw [hfst, hsnd]
  rw [same_eq _ (by rw [List.length_append]; omega)]
  simp only [cond_true]
  rw [held_is d _ (by omega)]
  simp only
  rw [same_eq _ (by omega)]
  simp only [cond_true, List.drop_zero, Bool.false_or, backRuns_is]
  cases he : own.any (fun x => x == 27) with
  | true => rfl
  | false =>
    have hp := feed_plain (tab_fine d) x3 own (fun x hx k => by
      have := List.any_eq_false.1 he x hx
      simp [k] at this)
    have hp1 := congrArg Prod.fst hp
    rw [happ] at hp1
    simp only at hp1
    rw [hp1, same_eq _ (by omega)]
    rfl
end Go.Proofs.YtcgpblgnhpajlaaDoorAbs

/- What is known of letters. -/
namespace Go.Proofs.YtcgpblgnhpajlaaDoorAbs
set_option linter.unusedVariables false
open Go Go.Proofs Go.RowKit
theorem isTrue_res : (isTrue : AV → Heap → Option Bool) = resK .bool true (fun b => some b) := by
  funext v h
  cases v <;> rfl
theorem law_res {P : Program} {E : Env} (hE : EnvOk P E) {n f : Nat} {args : List AV} {us : List Value} (e : acall (R := Bool) E n f args [] (resK .bool true (fun b => some b)) = some true) (W : World)
    (q : RelL ⟨W, fun _ => none, fun B => B < W.heap.size⟩ [] false args us) : Calls P f us.toArray W fun e W' => e = .returned (.bool true) ∧ Below W.heap.size W W' :=
  law_rows hE (by rw [isTrue_res]; exact e) W q
end Go.Proofs.YtcgpblgnhpajlaaDoorAbs

/- BackCuts, called. -/
namespace Go.Proofs.YtcgpblgnhpajlaaDoorAbs
set_option linter.unusedVariables false
set_option maxRecDepth 100000
open Go Go.Proofs Go.RowKit
theorem backCuts_run (x0 : Int) (x1 : List (Int)) (x2 : Int) (x3 : Bool) (w0 : (Lit.int .i64 x0).wf = true) (w1 : (List.length (α := Int) x1 ≤ 9223372036854775807 ∧ ∀ y : Int, List.Mem y x1 → ((Lit.int .u8 y).wf = true))) (w2 : (Lit.int .i64 x2).wf = true) (w3 : True) :
    acall (R := Bool) (envC linguistlaw24_BackCuts_pp linguistlaw24_BackCuts_su linguistlaw24_BackCuts_ll1 cs0 (fun f d => Nat.beq f 5 && Nat.beq d 27)) 1000 5 [.int .i64 x0, .list (.one (.int .u8)) x1 false, .int .i64 x2, .bool x3] [] (resK .bool true (fun b => some b)) = some true := by
  have h := linguistlaw24_BackCuts_run x0 x1 x2 x3 (fun b => some b)
  rw [backCuts_true x0 x1 x2 x3   ] at h
  exact h
end Go.Proofs.YtcgpblgnhpajlaaDoorAbs

/- Whatever reads as data is what the interpreter takes: rows of letters as arguments. -/
namespace Go.Proofs.YtcgpblgnhpajlaaDoorAbs
set_option linter.unusedVariables false
open Go Go.Proofs Go.RowKit Go.ChangeShapes Go.WideShapes Go.Deep
abbrev gd (w : World) : Nat → Prop := fun B => B < w.heap.size
def OpC (P : Program) (w : World) (c : CTy) (t : TypeId) (WF : c.den → Prop) : Prop :=
  ∀ {H : Type} {enc : TypeId × Value → H} {spare : Nat → Bool} {held : Bool} {fuel : Nat} {cs : List Value} {x : DataW H × List MemPlace}, DataW.trod enc P w 0 spare held fuel t cs = some x → ∃ (a : c.den) (v : Value), cs = [v] ∧ c.rep w (gd w) a v ∧ WF a
def OpR (P : Program) (w : World) (r : Row) (t : TypeId) (WF : r.den → Prop) : Prop :=
  ∀ {H : Type} {enc : TypeId × Value → H} {spare : Nat → Bool} {held : Bool} {fuel : Nat} {cs : List Value} {x : DataW H × List MemPlace}, DataW.trod enc P w 0 spare held fuel t cs = some x → ∃ a : r.den, r.rep w (gd w) a cs ∧ WF a
section
variable {P : Program} {w : World} {t e : TypeId}
theorem OpC.int {k : IntKind} (ht : P.underlying t = some (.int k)) : OpC P w (.int k) t (fun a => (Lit.int k a).wf = true) := by
  intro H enc spare held fuel cs x h
  obtain ⟨a, rfl, _, hw⟩ := DataW.trod_int ht h
  refine ⟨a, _, rfl, ⟨rfl, ?_⟩, hw⟩
  cases k <;> first | rfl | (simp [Lit.wf, IntKind.min, IntKind.max, IntKind.bits, IntKind.signed] at hw; simp [u8ok, kindEq]; omega)
theorem OpC.bool (ht : P.underlying t = some .bool) : OpC P w .bool t (fun _ => True) := by
  intro H enc spare held fuel cs x h
  obtain ⟨a, rfl, _⟩ := DataW.trod_bool ht h
  exact ⟨a, _, rfl, rfl, trivial⟩
theorem OpC.str (ht : P.underlying t = some .string) : OpC P w .str t (fun s => ∃ b : ByteArray, bytesOf b = s ∧ b.size ≤ 9223372036854775807) := by
  intro H enc spare held fuel cs x h
  obtain ⟨a, rfl, _, hl⟩ := DataW.trod_string ht h
  refine ⟨bytesOf a, _, rfl, ⟨a, rfl, rfl⟩, a, rfl, ?_⟩
  unfold maxLen at hl
  omega
theorem cells_eq {a : Addr} {n : Nat} {cs : List Value} {c : Array Value} (h : w.cells? 0 a n = some cs) (hb : ∃ e fr, w.heap[a.block]? = some (.cells c e fr)) (hs : a.spot = none) : cs = (c.toList.drop a.off).take n := by
  obtain ⟨_, hl, hc⟩ := World.cells?_some h
  obtain ⟨e, fr, hb⟩ := hb
  apply List.ext_getElem?
  intro i
  by_cases hi : i < n
  · have h1 : w.cell? (a.add i) = c[a.off + i]? := by
      unfold World.cell? Addr.add
      by_cases h0 : i = 0
      · subst h0; simp [hb, hs]
      · simp [h0, hb]
    rw [← hc i hi, h1, List.getElem?_take_of_lt hi, List.getElem?_drop, Array.getElem?_toList]
  · rw [List.getElem?_eq_none (by omega), List.getElem?_eq_none (by simp; omega)]
theorem rows_lie {r : Row} {WF : r.den → Prop} {a : Addr} {len : Nat} (hr : 0 < r.size) (hp : 0 < len) (hx : ∀ i, i < len → ∃ (b : r.den) (cs : List Value), w.cells? 0 (a.add (i * r.size)) r.size = some cs ∧ r.rep w (gd w) b cs ∧ WF b) :
    a.spot = none ∧ a.block < w.heap.size ∧ ∃ l : List r.den, l.length = len ∧ (∀ x ∈ l, WF x) ∧ ∃ vs, RepAll (fun x cs => r.rep w (gd w) x cs) l vs ∧ Lies w a.block a.off vs := by
  obtain ⟨b0, cs0, h0, _, _⟩ := hx 0 hp
  obtain ⟨_, hl0, hc0⟩ := World.cells?_some h0
  have h00 := hc0 0 hr
  have hlt : 0 < cs0.length := by omega
  rw [List.getElem?_eq_getElem hlt] at h00
  have hbk : (∃ c e fr, w.heap[a.block]? = some (.cells c e fr)) ∧ a.spot = none := by
    have hz : (a.add (0 * r.size)).add 0 = a := by simp [Addr.add]
    rw [hz] at h00
    unfold World.cell? at h00
    split at h00
    · rename_i c e fr hb
      refine ⟨⟨c, e, fr, hb⟩, ?_⟩
      split at h00
      · cases h00
      · rename_i hn; simpa using hn
    · cases h00
  obtain ⟨⟨c, e, fr, hb⟩, hs⟩ := hbk
  have hbl : a.block < w.heap.size := (Array.getElem?_eq_some_iff.1 hb).1
  refine ⟨hs, hbl, ?_⟩
  have key : ∀ k, k ≤ len → ∃ l : List r.den, l.length = k ∧ (∀ x ∈ l, WF x) ∧ RepAll (fun x cs => r.rep w (gd w) x cs) l ((c.toList.drop a.off).take (k * r.size)) := by
    intro k
    induction k with
    | zero => intro _; exact ⟨[], rfl, (fun x hx => by cases hx), by simp [RepAll]⟩
    | succ k ih =>
      intro hk
      obtain ⟨l, hl, hw, hR⟩ := ih (by omega)
      obtain ⟨b, cs, h1, h2, h3⟩ := hx k (by omega)
      have hcs : cs = ((c.toList.drop a.off).drop (k * r.size)).take r.size := by
        have := cells_eq (c := c) h1 ⟨e, fr, by unfold Addr.add; split <;> exact hb⟩ (by unfold Addr.add; split <;> first | exact hs | rfl)
        rw [this, List.drop_drop]
        congr 2
        unfold Addr.add; split <;> simp_all
      refine ⟨l ++ [b], by simp [hl], ?_, ?_⟩
      · intro x hx'
        rcases List.mem_append.1 hx' with h | h
        · exact hw x h
        · rw [List.mem_singleton] at h; subst h; exact h3
      · have : (k + 1) * r.size = k * r.size + r.size := by rw [Nat.add_mul, Nat.one_mul]
        rw [this, List.take_add, ← hcs]
        exact RepAll.append hR ⟨cs, [], by simp, h2, rfl⟩
  obtain ⟨l, hl, hw, hR⟩ := key len (Nat.le_refl _)
  exact ⟨l, hl, hw, _, hR, c, e, fr, _, hb, (List.take_append_drop (len * r.size) _).symm⟩
theorem OpC.slice {r : Row} {WF : r.den → Prop} (ht : P.underlying t = some (.slice e)) (hr : 0 < r.size) (hc : P.cellsOf e = r.size) (he : OpR P w r e WF) : OpC P w (.slice r) t (fun l => List.length (α := r.den) l ≤ 9223372036854775807 ∧ ∀ x : r.den, List.Mem x l → WF x) := by
  intro H enc spare held fuel cs x h
  rcases open_slice ht h with ⟨rfl, _⟩ | ⟨a, len, cap, m, n, D, Pl, rfl, _, hl, hm, hmm, _, hx⟩
  · exact ⟨([] : List r.den), _, rfl, ⟨none, 0, 0, rfl, rfl, Nat.le_refl _, fun _ => rfl, Or.inl rfl⟩, by simp, fun x hx => by cases hx⟩
  · have hmle : len ≤ m := by rw [hmm]; split <;> omega
    have hmax : len ≤ 9223372036854775807 := by unfold maxLen at hm; omega
    by_cases hp : 0 < len
    · obtain ⟨hs, hb, l, hll, hw, vs, hR, hL⟩ := rows_lie (w := w) (a := a) (len := len) (WF := WF) hr hp (fun i hi => by
        obtain ⟨c, h1, h2⟩ := hx i (by omega)
        obtain ⟨b, h3, h4⟩ := he h2
        rw [hc] at h1
        exact ⟨b, c, h1, h3, h4⟩)
      refine ⟨l, _, rfl, ⟨some a, len, cap, rfl, hll.symm, hl, (fun k => by cases k), Or.inr ⟨a.block, a.off, vs, ?_, hb, hR, hL⟩⟩, by rw [hll]; exact hmax, hw⟩
      obtain ⟨B, o, s⟩ := a
      simp only at hs
      rw [hs]
    · have h0 : len = 0 := by omega
      subst h0
      exact ⟨([] : List r.den), _, rfl, ⟨some a, 0, cap, rfl, rfl, hl, (fun k => by cases k), Or.inl rfl⟩, by simp, fun x hx => by cases hx⟩
theorem OpR.one {c : CTy} {WF : c.den → Prop} (h : OpC P w c t WF) : OpR P w (.one c) t WF := by
  intro H enc spare held fuel cs x k
  obtain ⟨a, v, rfl, h1, h2⟩ := h k
  exact ⟨a, ⟨v, rfl, h1⟩, h2⟩
/-- A struct's field, out of the whole's reading. -/
theorem trod_field {H : Type} {enc : TypeId × Value → H} {spare : Nat → Bool} {held : Bool} {fuel : Nat} {cs : List Value} {x : DataW H × List MemPlace} {fs : Array Field} (ht : P.underlying t = some (.struct fs)) (h : DataW.trod enc P w 0 spare held fuel t cs = some x) :
    cs.length = P.cellsOf t ∧ ∃ n, ∀ (i : Nat) (f : Field), fs[i]? = some f → ∃ y, DataW.trod enc P w 0 spare held n f.type ((cs.drop f.offset).take (P.cellsOf f.type)) = some y := by
  obtain ⟨xs, n, _, _, hn, hl, hf⟩ := DataW.trod_struct ht h
  refine ⟨hn, n, fun i f hi => ?_⟩
  have h1 := hf i f hi
  have hlt : i < xs.length := by rw [hl]; exact (Array.getElem?_eq_some_iff.1 hi).1
  rw [List.getElem?_eq_getElem hlt] at h1
  exact ⟨_, h1⟩
end
end Go.Proofs.YtcgpblgnhpajlaaDoorAbs
