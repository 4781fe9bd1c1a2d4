/- Texts of this session, joined (bundle2.py): D4, E4, D5, E5, D6, E6, D7, E7, D8, E8, GM1, GM2, GM3, GM4, GM5, GM6, GM7, GM8, GM9, GM10, GM11, GN1, GN2, GN3, GN4, GN5, GC, GS1, GS2. -/
import Derived.Test.YtlpmhldejeaefaaBunC3
-- Written by a program of this session (dec.py); Lean checks it.
namespace Go.Proofs.YtlpmhldejeaefaaAbs
open Go Go.Proofs
set_option linter.unusedVariables false
set_option maxHeartbeats 2000000
noncomputable def linguistkeep_Pen_Pen_F (x0 : Int) (x1 : Int) (x2 : Int) : Option (Int × Int × Int) := (optK ((hide linguistkeep_colour_F x0)) fun y0 => (optK ((hide linguistkeep_colour_F x1)) fun y1 => (optK ((hide linguistbook_Within_F x2 (0 : Int) (255 : Int))) fun y2 => (some (y0, y1, y2)))))
noncomputable def linguistkeep_Pen_Pen_A : SkL := (.cons (.agg (.cons (.int .i64) (.cons (.int .i64) (.cons (.int .i64) .nil)))) .nil)
noncomputable def linguistkeep_Pen_Pen_B : Sk := (.agg (.cons (.int .i64) (.cons (.int .i64) (.cons (.int .i64) .nil))))
def linguistkeep_Pen_Pen_m {R : Type} (K : (Int × (Int × (Int × Unit))) → Option R) (o : Option (Int × Int × Int)) : Option R := optK o fun y => K (y.1, (y.2.1, (y.2.2, ())))
theorem linguistkeep_Pen_Pen_run {R : Type} (x0 : Int) (x1 : Int) (x2 : Int) (K : (Int × (Int × (Int × Unit))) → Option R) : acall (envL sums3 ll0 cs0 (fun _ _ => false)) 1000 12 (linguistkeep_Pen_Pen_A.enc ((x0, (x1, (x2, ()))), ())) [] (resK linguistkeep_Pen_Pen_B true K) = linguistkeep_Pen_Pen_m K (linguistkeep_Pen_Pen_F x0 x1 x2) := by
  unfold linguistkeep_Pen_Pen_F
  exact Eq.trans (by kernel_rfl) (optK_push (linguistkeep_Pen_Pen_m K) rfl _ fun y0 => (optK_push (linguistkeep_Pen_Pen_m K) rfl _ fun y1 => (optK_push (linguistkeep_Pen_Pen_m K) rfl _ fun y2 => rfl)))
noncomputable def linguistkeep_Pen_Pen_G : GoF linguistkeep_Pen_Pen_A linguistkeep_Pen_Pen_B := fun R (x : ((Int × (Int × (Int × Unit))) × Unit)) K => linguistkeep_Pen_Pen_m K (hide linguistkeep_Pen_Pen_F x.1.1 x.1.2.1 x.1.2.2.1)
theorem linguistkeep_Pen_Pen_known : Known Try.prog 12 linguistkeep_Pen_Pen_A linguistkeep_Pen_Pen_B true linguistkeep_Pen_Pen_G := known_of (envL_ok sums3_ok ll0_ok cs0_ok) (n := 1000) rfl fun R (x : ((Int × (Int × (Int × Unit))) × Unit)) K => by
  show _ = linguistkeep_Pen_Pen_m K (hide linguistkeep_Pen_Pen_F x.1.1 x.1.2.1 x.1.2.2.1)
  rw [hide_eq]
  exact linguistkeep_Pen_Pen_run x.1.1 x.1.2.1 x.1.2.2.1 K

noncomputable def charset_Plain_F (x0 : Int) : Option (Int) := (bif (decide (x0 ≥ (32 : Int))) then (bif (decide (x0 ≤ (126 : Int))) then (some (IntKind.u8.wrap x0)) else (optK ((hide charset_Undraw_F x0)) fun y0 => (bif (y0.2) then (bif (decide ((0 : Int) ≤ IntKind.u8.wrap (y0.1 - (96 : Int))) && decide (IntKind.u8.wrap (y0.1 - (96 : Int)) < (31 : Int))) then (some ([(42 : Int), (35 : Int), (72 : Int), (70 : Int), (67 : Int), (76 : Int), (111 : Int), (43 : Int), (78 : Int), (86 : Int), (43 : Int), (43 : Int), (43 : Int), (43 : Int), (43 : Int), (45 : Int), (45 : Int), (45 : Int), (45 : Int), (95 : Int), (43 : Int), (43 : Int), (43 : Int), (43 : Int), (124 : Int), (60 : Int), (62 : Int), (112 : Int), (33 : Int), (76 : Int), (46 : Int)].getD (IntKind.u8.wrap (y0.1 - (96 : Int))).toNat (0 : Int))) else none) else (some ((63 : Int)))))) else (optK ((hide charset_Undraw_F x0)) fun y1 => (bif (y1.2) then (bif (decide ((0 : Int) ≤ IntKind.u8.wrap (y1.1 - (96 : Int))) && decide (IntKind.u8.wrap (y1.1 - (96 : Int)) < (31 : Int))) then (some ([(42 : Int), (35 : Int), (72 : Int), (70 : Int), (67 : Int), (76 : Int), (111 : Int), (43 : Int), (78 : Int), (86 : Int), (43 : Int), (43 : Int), (43 : Int), (43 : Int), (43 : Int), (45 : Int), (45 : Int), (45 : Int), (45 : Int), (95 : Int), (43 : Int), (43 : Int), (43 : Int), (43 : Int), (124 : Int), (60 : Int), (62 : Int), (112 : Int), (33 : Int), (76 : Int), (46 : Int)].getD (IntKind.u8.wrap (y1.1 - (96 : Int))).toNat (0 : Int))) else none) else (some ((63 : Int))))))
noncomputable def charset_Plain_A : SkL := (.cons (.int .i32) .nil)
noncomputable def charset_Plain_B : Sk := (.int .u8)
def charset_Plain_m {R : Type} (K : Int → Option R) (o : Option (Int)) : Option R := optK o fun y => K y
theorem charset_Plain_run {R : Type} (x0 : Int) (K : Int → Option R) : acall (envL sums3 ll0 cs0 (fun _ _ => false)) 1000 29 (charset_Plain_A.enc (x0, ())) [] (resK charset_Plain_B true K) = charset_Plain_m K (charset_Plain_F x0) := by
  unfold charset_Plain_F
  exact Eq.trans (by kernel_rfl) (cond_push (charset_Plain_m K) _ (cond_push (charset_Plain_m K) _ rfl (optK_push (charset_Plain_m K) rfl _ fun y0 => (cond_push (charset_Plain_m K) _ (cond_push (charset_Plain_m K) _ rfl rfl) rfl))) (optK_push (charset_Plain_m K) rfl _ fun y1 => (cond_push (charset_Plain_m K) _ (cond_push (charset_Plain_m K) _ rfl rfl) rfl)))
noncomputable def charset_Plain_G : GoF charset_Plain_A charset_Plain_B := fun R (x : (Int × Unit)) K => charset_Plain_m K (hide charset_Plain_F x.1)
theorem charset_Plain_known : Known Try.prog 29 charset_Plain_A charset_Plain_B true charset_Plain_G := known_of (envL_ok sums3_ok ll0_ok cs0_ok) (n := 1000) rfl fun R (x : (Int × Unit)) K => by
  show _ = charset_Plain_m K (hide charset_Plain_F x.1)
  rw [hide_eq]
  exact charset_Plain_run x.1 K

noncomputable def color_Nearest_c6 : Code := ((Try.f14.body.map fun b => loopsAt b 6).getD []).headD .skip
theorem color_Nearest_c6_is : (Try.f14.body.map fun b => loopsAt b 6) = some [color_Nearest_c6] := by kernel_rfl
noncomputable def color_Nearest_s6 : SkSt := ⟨(.cons (.int .i64) (.gap 8 (.cons (.int .i64) (.gap 18 (.cons (.int .i64) (.cons (.int .i64) (.gap 12 .nil))))))), .nil⟩
noncomputable def color_Nearest_x6_0 : SkSt := ⟨(.gap 9 (.cons (.int .i64) (.gap 32 .nil))), .nil⟩
noncomputable def color_Nearest_xs6 : List (Ex × SkSt) := [(.exit 0, color_Nearest_x6_0)]
noncomputable def color_Nearest_L6 : Nat → Int → Int → Int → Int → Option (Int)
  | 0, _, _, _, _ => none
  | n + 1, a0, a1, a2, a3 => (bif (decide (a3 < a2)) then (optK ((hide color_Far_F a0 a3)) fun y3 => (optK ((hide color_Far_F a0 a1)) fun y4 => (bif (decide (y3 < y4)) then (color_Nearest_L6 n a0 a3 a2 (IntKind.i64.wrap (a3 + (1 : Int)))) else (color_Nearest_L6 n a0 a1 a2 (IntKind.i64.wrap (a3 + (1 : Int))))))) else (some a1))
noncomputable def color_Nearest_I6 {R : Type} (K : Ex → St → Option R) : Nat → St → Option R := iterN (exec (envL sums3 ll0 cs0 (fun _ _ => false)) 14 (acall (envL sums3 ll0 cs0 (fun _ _ => false)) 1000) 0 color_Nearest_c6) (normTo color_Nearest_s6 0) (exitK color_Nearest_xs6 0 K)
noncomputable def color_Nearest_m6 {R : Type} (K : Ex → St → Option R) (o : Option (Int)) : Option R := optK o fun y => K (.exit 0) (color_Nearest_x6_0.enc ((y, ()), ()))
theorem color_Nearest_l6 {R : Type} (K : Ex → St → Option R) : ∀ (n : Nat), ∀ (a0 : Int) (a1 : Int) (a2 : Int) (a3 : Int), color_Nearest_I6 K n (color_Nearest_s6.enc ((a0, (a1, (a2, (a3, ())))), ())) = color_Nearest_m6 K (color_Nearest_L6 n a0 a1 a2 a3) := by
  intro n
  induction n with
  | zero => intros; rfl
  | succ n ih =>
    intro a0 a1 a2 a3
    rw [color_Nearest_L6]
    exact Eq.trans (by kernel_rfl) (cond_push (color_Nearest_m6 K) _ (optK_push (color_Nearest_m6 K) rfl _ fun y3 => (optK_push (color_Nearest_m6 K) rfl _ fun y4 => (cond_push (color_Nearest_m6 K) _ (ih a0 a3 a2 (IntKind.i64.wrap (a3 + (1 : Int)))) (ih a0 a1 a2 (IntKind.i64.wrap (a3 + (1 : Int))))))) rfl)
def color_Nearest_fu6 (a0 : Int) (a1 : Int) (a2 : Int) (a3 : Int) : Nat := Int.natAbs a0 + Int.natAbs a1 + Int.natAbs a2 + Int.natAbs a3 + 5000
noncomputable def color_Nearest_G6 : GoL color_Nearest_s6 := fun R (x : ((Int × (Int × (Int × (Int × Unit)))) × Unit)) K => color_Nearest_m6 K (hide color_Nearest_L6 (color_Nearest_fu6 x.1.1 x.1.2.1 x.1.2.2.1 x.1.2.2.2.1) x.1.1 x.1.2.1 x.1.2.2.1 x.1.2.2.2.1)
theorem color_Nearest_H6 : LoopOk Try.prog 14 6 (loopH color_Nearest_s6 0 color_Nearest_G6) := loop_known (envL_ok sums3_ok ll0_ok cs0_ok) Try.func14 rfl color_Nearest_c6_is (xs := color_Nearest_xs6) (fuel := fun (x : ((Int × (Int × (Int × (Int × Unit)))) × Unit)) => color_Nearest_fu6 x.1.1 x.1.2.1 x.1.2.2.1 x.1.2.2.2.1) fun R (x : ((Int × (Int × (Int × (Int × Unit)))) × Unit)) K => by
  show color_Nearest_m6 K (hide color_Nearest_L6 (color_Nearest_fu6 x.1.1 x.1.2.1 x.1.2.2.1 x.1.2.2.2.1) x.1.1 x.1.2.1 x.1.2.2.1 x.1.2.2.2.1) = _
  rw [hide_eq]
  exact (color_Nearest_l6 K (color_Nearest_fu6 x.1.1 x.1.2.1 x.1.2.2.1 x.1.2.2.2.1) x.1.1 x.1.2.1 x.1.2.2.1 x.1.2.2.2.1).symm
noncomputable def color_Nearest_h6 : LoopF := loopH color_Nearest_s6 0 color_Nearest_G6
noncomputable def color_Nearest_ll1 : LoopT := ((14, 6), color_Nearest_h6) :: ll0
theorem color_Nearest_ll1_ok : AllLoop Try.prog color_Nearest_ll1 := ⟨color_Nearest_H6, ll0_ok⟩
noncomputable def color_Nearest_F (x0 : Int) (x1 : Int) : Option (Int) := (optK ((hide color_RGB_F x0)) fun y0 => (bif (!y0.2.2.2) then (some ((-1 : Int))) else (bif (decide (x1 < (1 : Int))) then (some ((-1 : Int))) else (bif (decide (x1 > (256 : Int))) then (some ((-1 : Int))) else (optK (hide color_Nearest_L6 (color_Nearest_fu6 x0 (0 : Int) x1 (0 : Int)) x0 (0 : Int) x1 (0 : Int)) fun y5 => (some y5))))))
noncomputable def color_Nearest_A : SkL := (.cons (.int .i64) (.cons (.int .i64) .nil))
noncomputable def color_Nearest_B : Sk := (.int .i64)
def color_Nearest_m {R : Type} (K : Int → Option R) (o : Option (Int)) : Option R := optK o fun y => K y
theorem color_Nearest_run {R : Type} (x0 : Int) (x1 : Int) (K : Int → Option R) : acall (envL sums3 color_Nearest_ll1 cs0 (fun _ _ => false)) 1000 14 (color_Nearest_A.enc (x0, (x1, ()))) [] (resK color_Nearest_B true K) = color_Nearest_m K (color_Nearest_F x0 x1) := by
  unfold color_Nearest_F
  exact Eq.trans (by kernel_rfl) (optK_push (color_Nearest_m K) rfl _ fun y0 => (cond_push (color_Nearest_m K) _ rfl (cond_push (color_Nearest_m K) _ rfl (cond_push (color_Nearest_m K) _ rfl (optK_push (color_Nearest_m K) rfl _ fun y5 => rfl)))))
noncomputable def color_Nearest_G : GoF color_Nearest_A color_Nearest_B := fun R (x : (Int × (Int × Unit))) K => color_Nearest_m K (hide color_Nearest_F x.1 x.2.1)
theorem color_Nearest_known : Known Try.prog 14 color_Nearest_A color_Nearest_B true color_Nearest_G := known_of (envL_ok sums3_ok color_Nearest_ll1_ok cs0_ok) (n := 1000) rfl fun R (x : (Int × (Int × Unit))) K => by
  show _ = color_Nearest_m K (hide color_Nearest_F x.1 x.2.1)
  rw [hide_eq]
  exact color_Nearest_run x.1 x.2.1 K

noncomputable def linguistref1_Lower_F (x0 : Int) (x1 : Int) : Option (Int) := (bif (decide (x0 < (0 : Int))) then (bif (decide (x1 < (1 : Int))) then (some ((-1 : Int))) else (some x0)) else (bif (decide (x1 < (1 : Int))) then (bif (decide (x1 < (1 : Int))) then (some ((-1 : Int))) else (some x0)) else (bif (decide (x0 < x1)) then (bif (decide (x1 < (1 : Int))) then (some ((-1 : Int))) else (some x0)) else (optK ((hide linguistref1_Nearest_F x0 x1)) fun y0 => (some y0)))))
noncomputable def linguistref1_Lower_A : SkL := (.cons (.int .i64) (.cons (.int .i64) .nil))
noncomputable def linguistref1_Lower_B : Sk := (.int .i64)
def linguistref1_Lower_m {R : Type} (K : Int → Option R) (o : Option (Int)) : Option R := optK o fun y => K y
theorem linguistref1_Lower_run {R : Type} (x0 : Int) (x1 : Int) (K : Int → Option R) : acall (envL sums3 ll0 cs0 (fun _ _ => false)) 1000 38 (linguistref1_Lower_A.enc (x0, (x1, ()))) [] (resK linguistref1_Lower_B true K) = linguistref1_Lower_m K (linguistref1_Lower_F x0 x1) := by
  unfold linguistref1_Lower_F
  exact Eq.trans (by kernel_rfl) (cond_push (linguistref1_Lower_m K) _ (cond_push (linguistref1_Lower_m K) _ rfl rfl) (cond_push (linguistref1_Lower_m K) _ (cond_push (linguistref1_Lower_m K) _ rfl rfl) (cond_push (linguistref1_Lower_m K) _ (cond_push (linguistref1_Lower_m K) _ rfl rfl) (optK_push (linguistref1_Lower_m K) rfl _ fun y0 => rfl))))
noncomputable def linguistref1_Lower_G : GoF linguistref1_Lower_A linguistref1_Lower_B := fun R (x : (Int × (Int × Unit))) K => linguistref1_Lower_m K (hide linguistref1_Lower_F x.1 x.2.1)
theorem linguistref1_Lower_known : Known Try.prog 38 linguistref1_Lower_A linguistref1_Lower_B true linguistref1_Lower_G := known_of (envL_ok sums3_ok ll0_ok cs0_ok) (n := 1000) rfl fun R (x : (Int × (Int × Unit))) K => by
  show _ = linguistref1_Lower_m K (hide linguistref1_Lower_F x.1 x.2.1)
  rw [hide_eq]
  exact linguistref1_Lower_run x.1 x.2.1 K

noncomputable def linguistref15_Rune_c3 : Code := ((Try.f19.body.map fun b => loopsAt b 3).getD []).headD .skip
theorem linguistref15_Rune_c3_is : (Try.f19.body.map fun b => loopsAt b 3) = some [linguistref15_Rune_c3] := by kernel_rfl
noncomputable def linguistref15_Rune_s3 : SkSt := ⟨(.gap 1 (.cons (.int .i32) (.gap 7 (.cons (.list (.one (.int .i32))) (.cons (.int .i64) (.cons (.int .i64) (.gap 11 .nil))))))), .nil⟩
noncomputable def linguistref15_Rune_x3_0 : SkSt := ⟨(.gap 4 (.cons (.int .i32) (.gap 18 .nil))), .nil⟩
noncomputable def linguistref15_Rune_x3_1 : SkSt := ⟨(.gap 1 (.cons (.int .i32) (.gap 21 .nil))), .nil⟩
noncomputable def linguistref15_Rune_xs3 : List (Ex × SkSt) := [(.ret, linguistref15_Rune_x3_0), (.exit 0, linguistref15_Rune_x3_1)]
noncomputable def linguistref15_Rune_L3 : Nat → Int → List (Int) → Int → Int → Option (((Int) ⊕ (Int)))
  | 0, _, _, _, _ => none
  | n + 1, a0, a1, a2, a3 => (bif (decide (a3 < a2)) then (bif (decide ((0 : Int) ≤ a3) && decide (a3 < Int.ofNat a1.length) && true) then (bif (a1.getD a3.toNat (0 : Int) == a0) then (some (.inl a0)) else (linguistref15_Rune_L3 n a0 a1 a2 (IntKind.i64.wrap (a3 + (1 : Int))))) else none) else (some (.inr a0)))
noncomputable def linguistref15_Rune_I3 {R : Type} (K : Ex → St → Option R) : Nat → St → Option R := iterN (exec (envL sums3 ll0 cs0 (fun _ _ => false)) 19 (acall (envL sums3 ll0 cs0 (fun _ _ => false)) 1000) 0 linguistref15_Rune_c3) (normTo linguistref15_Rune_s3 0) (exitK linguistref15_Rune_xs3 0 K)
noncomputable def linguistref15_Rune_m3 {R : Type} (K : Ex → St → Option R) (o : Option (((Int) ⊕ (Int)))) : Option R := optK o fun y => sumK y (fun y => K (.ret) (linguistref15_Rune_x3_0.enc ((y, ()), ()))) (fun y => K (.exit 0) (linguistref15_Rune_x3_1.enc ((y, ()), ())))
theorem linguistref15_Rune_l3 {R : Type} (K : Ex → St → Option R) : ∀ (n : Nat), ∀ (a0 : Int) (a1 : List (Int)) (a2 : Int) (a3 : Int), linguistref15_Rune_I3 K n (linguistref15_Rune_s3.enc ((a0, (a1, (a2, (a3, ())))), ())) = linguistref15_Rune_m3 K (linguistref15_Rune_L3 n a0 a1 a2 a3) := by
  intro n
  induction n with
  | zero => intros; rfl
  | succ n ih =>
    intro a0 a1 a2 a3
    rw [linguistref15_Rune_L3]
    exact Eq.trans (by kernel_rfl) (cond_push (linguistref15_Rune_m3 K) _ (cond_push (linguistref15_Rune_m3 K) _ (cond_push (linguistref15_Rune_m3 K) _ rfl (ih a0 a1 a2 (IntKind.i64.wrap (a3 + (1 : Int))))) rfl) rfl)
def linguistref15_Rune_fu3 (a0 : Int) (a1 : List (Int)) (a2 : Int) (a3 : Int) : Nat := Int.natAbs a0 + List.length a1 + Int.natAbs a2 + Int.natAbs a3 + 5000
noncomputable def linguistref15_Rune_G3 : GoL linguistref15_Rune_s3 := fun R (x : ((Int × (List (Int) × (Int × (Int × Unit)))) × Unit)) K => linguistref15_Rune_m3 K (hide linguistref15_Rune_L3 (linguistref15_Rune_fu3 x.1.1 x.1.2.1 x.1.2.2.1 x.1.2.2.2.1) x.1.1 x.1.2.1 x.1.2.2.1 x.1.2.2.2.1)
theorem linguistref15_Rune_H3 : LoopOk Try.prog 19 3 (loopH linguistref15_Rune_s3 0 linguistref15_Rune_G3) := loop_known (envL_ok sums3_ok ll0_ok cs0_ok) Try.func19 rfl linguistref15_Rune_c3_is (xs := linguistref15_Rune_xs3) (fuel := fun (x : ((Int × (List (Int) × (Int × (Int × Unit)))) × Unit)) => linguistref15_Rune_fu3 x.1.1 x.1.2.1 x.1.2.2.1 x.1.2.2.2.1) fun R (x : ((Int × (List (Int) × (Int × (Int × Unit)))) × Unit)) K => by
  show linguistref15_Rune_m3 K (hide linguistref15_Rune_L3 (linguistref15_Rune_fu3 x.1.1 x.1.2.1 x.1.2.2.1 x.1.2.2.2.1) x.1.1 x.1.2.1 x.1.2.2.1 x.1.2.2.2.1) = _
  rw [hide_eq]
  exact (linguistref15_Rune_l3 K (linguistref15_Rune_fu3 x.1.1 x.1.2.1 x.1.2.2.1 x.1.2.2.2.1) x.1.1 x.1.2.1 x.1.2.2.1 x.1.2.2.2.1).symm
noncomputable def linguistref15_Rune_h3 : LoopF := loopH linguistref15_Rune_s3 0 linguistref15_Rune_G3
noncomputable def linguistref15_Rune_ll1 : LoopT := ((19, 3), linguistref15_Rune_h3) :: ll0
theorem linguistref15_Rune_ll1_ok : AllLoop Try.prog linguistref15_Rune_ll1 := ⟨linguistref15_Rune_H3, ll0_ok⟩
noncomputable def linguistref15_Rune_F (x0 : Int) (x1 : Int) : Option (Int) := (bif (x0 != (3 : Int)) then (optK ((hide linguistref1_Drawn_F)) fun y0 => (optK (hide linguistref15_Rune_L3 (linguistref15_Rune_fu3 x1 y0 (Int.ofNat y0.length) (0 : Int)) x1 y0 (Int.ofNat y0.length) (0 : Int)) fun y1 => (sumK y1 (fun y1a => (some y1a)) (fun y1b => (optK ((hide linguistref1_Plain_F y1b)) fun y2 => (some (IntKind.i32.wrap y2))))))) else (optK ((hide linguistref1_Plain_F x1)) fun y3 => (some (IntKind.i32.wrap y3))))
noncomputable def linguistref15_Rune_A : SkL := (.cons (.int .i64) (.cons (.int .i32) .nil))
noncomputable def linguistref15_Rune_B : Sk := (.int .i32)
def linguistref15_Rune_m {R : Type} (K : Int → Option R) (o : Option (Int)) : Option R := optK o fun y => K y
theorem linguistref15_Rune_run {R : Type} (x0 : Int) (x1 : Int) (K : Int → Option R) : acall (envL sums3 linguistref15_Rune_ll1 cs0 (fun _ _ => false)) 1000 19 (linguistref15_Rune_A.enc (x0, (x1, ()))) [] (resK linguistref15_Rune_B true K) = linguistref15_Rune_m K (linguistref15_Rune_F x0 x1) := by
  unfold linguistref15_Rune_F
  exact Eq.trans (by kernel_rfl) (cond_push (linguistref15_Rune_m K) _ (optK_push (linguistref15_Rune_m K) rfl _ fun y0 => (optK_push (linguistref15_Rune_m K) rfl _ fun y1 => (sumK_push (linguistref15_Rune_m K) _ (fun y1a => rfl) (fun y1b => (optK_push (linguistref15_Rune_m K) rfl _ fun y2 => rfl))))) (optK_push (linguistref15_Rune_m K) rfl _ fun y3 => rfl))
noncomputable def linguistref15_Rune_G : GoF linguistref15_Rune_A linguistref15_Rune_B := fun R (x : (Int × (Int × Unit))) K => linguistref15_Rune_m K (hide linguistref15_Rune_F x.1 x.2.1)
theorem linguistref15_Rune_known : Known Try.prog 19 linguistref15_Rune_A linguistref15_Rune_B true linguistref15_Rune_G := known_of (envL_ok sums3_ok linguistref15_Rune_ll1_ok cs0_ok) (n := 1000) rfl fun R (x : (Int × (Int × Unit))) K => by
  show _ = linguistref15_Rune_m K (hide linguistref15_Rune_F x.1 x.2.1)
  rw [hide_eq]
  exact linguistref15_Rune_run x.1 x.2.1 K

noncomputable def linguistref7_Full_F (x0 : Int) (x1 : Int) : Option (Int × Int × (List (Int × Int × Int × Int × Int)) × Int × Int × Bool × Int × Int × Int × Int × Int × Int × Int × Int × Int × Bool × Bool × Bool × Bool × Bool × Int × Int × Int × Int × Int × Int × Int × Int × Bool) := (optK ((hide linguistref7_New_F x0 x1 (-1 : Int) (-1 : Int) (0 : Int))) fun y0 => (optK ((hide linguistref7_Tabs_F x1)) fun y1 => (some ((y0.1), (y0.2.1), (y0.2.2), (0 : Int), (0 : Int), (false), (0 : Int), (IntKind.i64.wrap (x0 - (1 : Int))), ((-1 : Int)), ((-1 : Int)), (0 : Int), y1, ((66 : Int)), ((66 : Int)), (0 : Int), (true), (false), (true), (false), (false), (0 : Int), (0 : Int), ((-1 : Int)), ((-1 : Int)), (0 : Int), ((66 : Int)), ((66 : Int)), (0 : Int), (false)))))
noncomputable def linguistref7_Full_A : SkL := (.cons (.int .i64) (.cons (.int .i64) .nil))
noncomputable def linguistref7_Full_B : Sk := (.agg (.cons (.int .i64) (.cons (.int .i64) (.cons (.list (.cons (.int .i32) (.cons (.int .i64) (.cons (.int .i64) (.cons (.int .i64) (.one (.int .i64))))))) (.cons (.int .i64) (.cons (.int .i64) (.cons .bool (.cons (.int .i64) (.cons (.int .i64) (.cons (.int .i64) (.cons (.int .i64) (.cons (.int .i64) (.cons (.int .u64) (.cons (.int .u8) (.cons (.int .u8) (.cons (.int .i64) (.cons .bool (.cons .bool (.cons .bool (.cons .bool (.cons .bool (.cons (.int .i64) (.cons (.int .i64) (.cons (.int .i64) (.cons (.int .i64) (.cons (.int .i64) (.cons (.int .u8) (.cons (.int .u8) (.cons (.int .i64) (.cons .bool .nil))))))))))))))))))))))))))))))
def linguistref7_Full_m {R : Type} (K : (Int × (Int × (List (Int × Int × Int × Int × Int) × (Int × (Int × (Bool × (Int × (Int × (Int × (Int × (Int × (Int × (Int × (Int × (Int × (Bool × (Bool × (Bool × (Bool × (Bool × (Int × (Int × (Int × (Int × (Int × (Int × (Int × (Int × (Bool × Unit))))))))))))))))))))))))))))) → Option R) (o : Option (Int × Int × (List (Int × Int × Int × Int × Int)) × Int × Int × Bool × Int × Int × Int × Int × Int × Int × Int × Int × Int × Bool × Bool × Bool × Bool × Bool × Int × Int × Int × Int × Int × Int × Int × Int × Bool)) : Option R := optK o fun y => K (y.1, (y.2.1, (y.2.2.1, (y.2.2.2.1, (y.2.2.2.2.1, (y.2.2.2.2.2.1, (y.2.2.2.2.2.2.1, (y.2.2.2.2.2.2.2.1, (y.2.2.2.2.2.2.2.2.1, (y.2.2.2.2.2.2.2.2.2.1, (y.2.2.2.2.2.2.2.2.2.2.1, (y.2.2.2.2.2.2.2.2.2.2.2.1, (y.2.2.2.2.2.2.2.2.2.2.2.2.1, (y.2.2.2.2.2.2.2.2.2.2.2.2.2.1, (y.2.2.2.2.2.2.2.2.2.2.2.2.2.2.1, (y.2.2.2.2.2.2.2.2.2.2.2.2.2.2.2.1, (y.2.2.2.2.2.2.2.2.2.2.2.2.2.2.2.2.1, (y.2.2.2.2.2.2.2.2.2.2.2.2.2.2.2.2.2.1, (y.2.2.2.2.2.2.2.2.2.2.2.2.2.2.2.2.2.2.1, (y.2.2.2.2.2.2.2.2.2.2.2.2.2.2.2.2.2.2.2.1, (y.2.2.2.2.2.2.2.2.2.2.2.2.2.2.2.2.2.2.2.2.1, (y.2.2.2.2.2.2.2.2.2.2.2.2.2.2.2.2.2.2.2.2.2.1, (y.2.2.2.2.2.2.2.2.2.2.2.2.2.2.2.2.2.2.2.2.2.2.1, (y.2.2.2.2.2.2.2.2.2.2.2.2.2.2.2.2.2.2.2.2.2.2.2.1, (y.2.2.2.2.2.2.2.2.2.2.2.2.2.2.2.2.2.2.2.2.2.2.2.2.1, (y.2.2.2.2.2.2.2.2.2.2.2.2.2.2.2.2.2.2.2.2.2.2.2.2.2.1, (y.2.2.2.2.2.2.2.2.2.2.2.2.2.2.2.2.2.2.2.2.2.2.2.2.2.2.1, (y.2.2.2.2.2.2.2.2.2.2.2.2.2.2.2.2.2.2.2.2.2.2.2.2.2.2.2.1, (y.2.2.2.2.2.2.2.2.2.2.2.2.2.2.2.2.2.2.2.2.2.2.2.2.2.2.2.2, ())))))))))))))))))))))))))))))
theorem linguistref7_Full_run {R : Type} (x0 : Int) (x1 : Int) (K : (Int × (Int × (List (Int × Int × Int × Int × Int) × (Int × (Int × (Bool × (Int × (Int × (Int × (Int × (Int × (Int × (Int × (Int × (Int × (Bool × (Bool × (Bool × (Bool × (Bool × (Int × (Int × (Int × (Int × (Int × (Int × (Int × (Int × (Bool × Unit))))))))))))))))))))))))))))) → Option R) : acall (envL sums3 ll0 cs0 (fun _ _ => false)) 1000 24 (linguistref7_Full_A.enc (x0, (x1, ()))) [] (resK linguistref7_Full_B false K) = linguistref7_Full_m K (linguistref7_Full_F x0 x1) := by
  unfold linguistref7_Full_F
  exact Eq.trans (by kernel_rfl) (optK_push (linguistref7_Full_m K) rfl _ fun y0 => (optK_push (linguistref7_Full_m K) rfl _ fun y1 => rfl))
noncomputable def linguistref7_Full_G : GoF linguistref7_Full_A linguistref7_Full_B := fun R (x : (Int × (Int × Unit))) K => linguistref7_Full_m K (hide linguistref7_Full_F x.1 x.2.1)
theorem linguistref7_Full_known : Known Try.prog 24 linguistref7_Full_A linguistref7_Full_B false linguistref7_Full_G := known_of (envL_ok sums3_ok ll0_ok cs0_ok) (n := 1000) rfl fun R (x : (Int × (Int × Unit))) K => by
  show _ = linguistref7_Full_m K (hide linguistref7_Full_F x.1 x.2.1)
  rw [hide_eq]
  exact linguistref7_Full_run x.1 x.2.1 K

noncomputable def linguistref7_Put_b14 : Code := ((Try.f25.body.map fun b => tailsAt b 14).getD []).headD .skip
theorem linguistref7_Put_b14_is : (Try.f25.body.map fun b => tailsAt b 14) = some [linguistref7_Put_b14] := by kernel_rfl
noncomputable def linguistref7_Put_t14 : SkSt := ⟨(.gap 1 (.cons (.int .i64) (.gap 3 (.cst (.ptr 0 0) (.gap 4 (.cst (.ptr 1 0) (.gap 1 (.cst (.own 2 26 (.cons (.int .i32) (.cons (.int .i64) (.cons (.int .i64) (.cons (.int .i64) (.one (.int .i64))))))) (.gap 109 .nil))))))))), (.var 43 (.cons (.int .i64) (.cons (.int .i64) (.cons (.list (.cons (.int .i32) (.cons (.int .i64) (.cons (.int .i64) (.cons (.int .i64) (.one (.int .i64))))))) .nil))) (.var 43 (.cons (.int .i64) (.cons (.int .i64) (.cst (.own 3 26 (.cons (.int .i32) (.cons (.int .i64) (.cons (.int .i64) (.cons (.int .i64) (.one (.int .i64))))))) .nil))) (.arr 26 (.cons (.int .i32) (.cons (.int .i64) (.cons (.int .i64) (.cons (.int .i64) (.one (.int .i64)))))) (.arr 26 (.cons (.int .i32) (.cons (.int .i64) (.cons (.int .i64) (.cons (.int .i64) (.one (.int .i64)))))) .nil))))⟩
noncomputable def linguistref7_Put_y14_0 : SkSt := ⟨(.gap 10 (.cst (.ptr 0 0) (.gap 111 .nil))), (.var 43 (.cons (.int .i64) (.cons (.int .i64) (.cons (.list (.cons (.int .i32) (.cons (.int .i64) (.cons (.int .i64) (.cons (.int .i64) (.one (.int .i64))))))) .nil))) .nil)⟩
noncomputable def linguistref7_Put_ys14 : List (Ex × SkSt) := [(.ret, linguistref7_Put_y14_0)]
noncomputable def linguistref7_Put_J14 (a0 : Int) (a1 : Int) (a2 : Int) (a3 : List (Int × Int × Int × Int × Int)) (a4 : Int) (a5 : Int) (a6 : List (Int × Int × Int × Int × Int)) (a7 : List (Int × Int × Int × Int × Int)) : Option (Int × Int × (List (Int × Int × Int × Int × Int))) := (optK ((hide linguistref7_set_F a1 a2 a3 a0 a6)) fun y2 => (some ((y2.1), (y2.2.1), (y2.2.2))))
noncomputable def linguistref7_Put_k14 {R : Type} (K : Ex → St → Option R) (o : Option (Int × Int × (List (Int × Int × Int × Int × Int)))) : Option R := optK o fun y => K (.ret) (linguistref7_Put_y14_0.enc ((), ((y.1, (y.2.1, (y.2.2, ()))), ())))
theorem linguistref7_Put_j14 {R : Type} (K : Ex → St → Option R) (a0 : Int) (a1 : Int) (a2 : Int) (a3 : List (Int × Int × Int × Int × Int)) (a4 : Int) (a5 : Int) (a6 : List (Int × Int × Int × Int × Int)) (a7 : List (Int × Int × Int × Int × Int)) : exec (envL sums3 ll0 cs0 (fun _ _ => false)) 25 (acall (envL sums3 ll0 cs0 (fun _ _ => false)) 1000) 0 linguistref7_Put_b14 (linguistref7_Put_t14.enc ((a0, ()), ((a1, (a2, (a3, ()))), ((a4, (a5, ())), (a6, (a7, ())))))) (exitK linguistref7_Put_ys14 0 K) = linguistref7_Put_k14 K (linguistref7_Put_J14 a0 a1 a2 a3 a4 a5 a6 a7) := by
    unfold linguistref7_Put_J14
    exact Eq.trans (by kernel_rfl) (optK_push (linguistref7_Put_k14 K) rfl _ fun y2 => rfl)
noncomputable def linguistref7_Put_D14 : GoL linguistref7_Put_t14 := fun R (x : ((Int × Unit) × ((Int × (Int × (List (Int × Int × Int × Int × Int) × Unit))) × ((Int × (Int × Unit)) × (List (Int × Int × Int × Int × Int) × (List (Int × Int × Int × Int × Int) × Unit)))))) K => linguistref7_Put_k14 K (hide linguistref7_Put_J14 x.1.1 x.2.1.1 x.2.1.2.1 x.2.1.2.2.1 x.2.2.1.1 x.2.2.1.2.1 x.2.2.2.1 x.2.2.2.2.1)
theorem linguistref7_Put_C14 : CutOk Try.prog 25 14 (loopH linguistref7_Put_t14 0 linguistref7_Put_D14) := cut_known (envL_ok sums3_ok ll0_ok cs0_ok) (N := 1000) Try.func25 rfl linguistref7_Put_b14_is (xs := linguistref7_Put_ys14) fun R (x : ((Int × Unit) × ((Int × (Int × (List (Int × Int × Int × Int × Int) × Unit))) × ((Int × (Int × Unit)) × (List (Int × Int × Int × Int × Int) × (List (Int × Int × Int × Int × Int) × Unit)))))) K => by
  show linguistref7_Put_k14 K (hide linguistref7_Put_J14 x.1.1 x.2.1.1 x.2.1.2.1 x.2.1.2.2.1 x.2.2.1.1 x.2.2.1.2.1 x.2.2.2.1 x.2.2.2.2.1) = _
  rw [hide_eq]
  exact (linguistref7_Put_j14 K x.1.1 x.2.1.1 x.2.1.2.1 x.2.1.2.2.1 x.2.2.1.1 x.2.2.1.2.1 x.2.2.2.1 x.2.2.2.2.1).symm
noncomputable def linguistref7_Put_d14 : LoopF := loopH linguistref7_Put_t14 0 linguistref7_Put_D14
noncomputable def linguistref7_Put_cs1 : LoopT := ((25, 14), linguistref7_Put_d14) :: cs0
theorem linguistref7_Put_cs1_ok : AllCut Try.prog linguistref7_Put_cs1 := ⟨linguistref7_Put_C14, cs0_ok⟩
noncomputable def linguistref7_Put_b12 : Code := ((Try.f25.body.map fun b => tailsAt b 12).getD []).headD .skip
theorem linguistref7_Put_b12_is : (Try.f25.body.map fun b => tailsAt b 12) = some [linguistref7_Put_b12] := by kernel_rfl
noncomputable def linguistref7_Put_t12 : SkSt := ⟨(.gap 1 (.cons (.int .i64) (.cons (.int .i64) (.gap 2 (.cst (.ptr 0 0) (.gap 4 (.cst (.ptr 1 0) (.cons (.int .i64) (.cst (.own 2 26 (.cons (.int .i32) (.cons (.int .i64) (.cons (.int .i64) (.cons (.int .i64) (.one (.int .i64))))))) (.cons (.list (.cons (.int .i32) (.cons (.int .i64) (.cons (.int .i64) (.cons (.int .i64) (.one (.int .i64))))))) (.gap 108 .nil))))))))))), (.var 43 (.cons (.int .i64) (.cons (.int .i64) (.cons (.list (.cons (.int .i32) (.cons (.int .i64) (.cons (.int .i64) (.cons (.int .i64) (.one (.int .i64))))))) .nil))) (.var 43 (.cons (.int .i64) (.cons (.int .i64) (.cst (.own 3 26 (.cons (.int .i32) (.cons (.int .i64) (.cons (.int .i64) (.cons (.int .i64) (.one (.int .i64))))))) .nil))) (.arr 26 (.cons (.int .i32) (.cons (.int .i64) (.cons (.int .i64) (.cons (.int .i64) (.one (.int .i64)))))) (.arr 26 (.cons (.int .i32) (.cons (.int .i64) (.cons (.int .i64) (.cons (.int .i64) (.one (.int .i64)))))) .nil))))⟩
noncomputable def linguistref7_Put_y12_0 : SkSt := ⟨(.gap 10 (.cst (.ptr 0 0) (.gap 111 .nil))), (.var 43 (.cons (.int .i64) (.cons (.int .i64) (.cons (.list (.cons (.int .i32) (.cons (.int .i64) (.cons (.int .i64) (.cons (.int .i64) (.one (.int .i64))))))) .nil))) .nil)⟩
noncomputable def linguistref7_Put_ys12 : List (Ex × SkSt) := [(.ret, linguistref7_Put_y12_0)]
noncomputable def linguistref7_Put_J12 (a0 : Int) (a1 : Int) (a2 : Int) (a3 : List (Int × Int × Int × Int × Int)) (a4 : Int) (a5 : Int) (a6 : List (Int × Int × Int × Int × Int)) (a7 : Int) (a8 : Int) (a9 : List (Int × Int × Int × Int × Int)) (a10 : List (Int × Int × Int × Int × Int)) : Option (Int × Int × (List (Int × Int × Int × Int × Int))) := (bif (decide (IntKind.i64.wrap (a1 + a2) < a5)) then (bif (decide ((0 : Int) ≤ IntKind.i64.wrap (IntKind.i64.wrap (a1 + a2) - (1 : Int))) && decide (IntKind.i64.wrap (IntKind.i64.wrap (a1 + a2) - (1 : Int)) < Int.ofNat a3.length) && true) then (bif ((a3.getD (IntKind.i64.wrap (IntKind.i64.wrap (a1 + a2) - (1 : Int))).toNat ((0 : Int), (0 : Int), (0 : Int), (0 : Int), (0 : Int))).2.1 == (1 : Int)) then (bif (decide ((0 : Int) ≤ IntKind.i64.wrap (a1 + a2)) && decide (IntKind.i64.wrap (a1 + a2) < Int.ofNat a3.length) && true) then (bif (decide ((0 : Int) ≤ IntKind.i64.wrap (a1 + a2)) && decide (IntKind.i64.wrap (a1 + a2) < Int.ofNat a9.length) && true) then (optK (hide linguistref7_Put_J14 a0 a4 a5 a6 a7 a8 (a9.set (IntKind.i64.wrap (a1 + a2)).toNat ((32 : Int), (0 : Int), (a3.getD (IntKind.i64.wrap (a1 + a2)).toNat ((0 : Int), (0 : Int), (0 : Int), (0 : Int), (0 : Int))).2.2.1, (a3.getD (IntKind.i64.wrap (a1 + a2)).toNat ((0 : Int), (0 : Int), (0 : Int), (0 : Int), (0 : Int))).2.2.2.1, (a3.getD (IntKind.i64.wrap (a1 + a2)).toNat ((0 : Int), (0 : Int), (0 : Int), (0 : Int), (0 : Int))).2.2.2.2)) a10) fun y6 => (some ((y6.1), (y6.2.1), (y6.2.2)))) else none) else none) else (optK (hide linguistref7_Put_J14 a0 a4 a5 a6 a7 a8 a9 a10) fun y7 => (some ((y7.1), (y7.2.1), (y7.2.2))))) else none) else (optK (hide linguistref7_Put_J14 a0 a4 a5 a6 a7 a8 a9 a10) fun y8 => (some ((y8.1), (y8.2.1), (y8.2.2)))))
noncomputable def linguistref7_Put_k12 {R : Type} (K : Ex → St → Option R) (o : Option (Int × Int × (List (Int × Int × Int × Int × Int)))) : Option R := optK o fun y => K (.ret) (linguistref7_Put_y12_0.enc ((), ((y.1, (y.2.1, (y.2.2, ()))), ())))
theorem linguistref7_Put_j12 {R : Type} (K : Ex → St → Option R) (a0 : Int) (a1 : Int) (a2 : Int) (a3 : List (Int × Int × Int × Int × Int)) (a4 : Int) (a5 : Int) (a6 : List (Int × Int × Int × Int × Int)) (a7 : Int) (a8 : Int) (a9 : List (Int × Int × Int × Int × Int)) (a10 : List (Int × Int × Int × Int × Int)) : exec (envL sums3 ll0 linguistref7_Put_cs1 (fun _ _ => false)) 25 (acall (envL sums3 ll0 linguistref7_Put_cs1 (fun _ _ => false)) 1000) 0 linguistref7_Put_b12 (linguistref7_Put_t12.enc ((a0, (a1, (a2, (a3, ())))), ((a4, (a5, (a6, ()))), ((a7, (a8, ())), (a9, (a10, ())))))) (exitK linguistref7_Put_ys12 0 K) = linguistref7_Put_k12 K (linguistref7_Put_J12 a0 a1 a2 a3 a4 a5 a6 a7 a8 a9 a10) := by
    unfold linguistref7_Put_J12
    exact Eq.trans (by kernel_rfl) (cond_push (linguistref7_Put_k12 K) _ (cond_push (linguistref7_Put_k12 K) _ (cond_push (linguistref7_Put_k12 K) _ (cond_push (linguistref7_Put_k12 K) _ (cond_push (linguistref7_Put_k12 K) _ (optK_push (linguistref7_Put_k12 K) rfl _ fun y6 => rfl) rfl) rfl) (optK_push (linguistref7_Put_k12 K) rfl _ fun y7 => rfl)) rfl) (optK_push (linguistref7_Put_k12 K) rfl _ fun y8 => rfl))
noncomputable def linguistref7_Put_D12 : GoL linguistref7_Put_t12 := fun R (x : ((Int × (Int × (Int × (List (Int × Int × Int × Int × Int) × Unit)))) × ((Int × (Int × (List (Int × Int × Int × Int × Int) × Unit))) × ((Int × (Int × Unit)) × (List (Int × Int × Int × Int × Int) × (List (Int × Int × Int × Int × Int) × Unit)))))) K => linguistref7_Put_k12 K (hide linguistref7_Put_J12 x.1.1 x.1.2.1 x.1.2.2.1 x.1.2.2.2.1 x.2.1.1 x.2.1.2.1 x.2.1.2.2.1 x.2.2.1.1 x.2.2.1.2.1 x.2.2.2.1 x.2.2.2.2.1)
theorem linguistref7_Put_C12 : CutOk Try.prog 25 12 (loopH linguistref7_Put_t12 0 linguistref7_Put_D12) := cut_known (envL_ok sums3_ok ll0_ok linguistref7_Put_cs1_ok) (N := 1000) Try.func25 rfl linguistref7_Put_b12_is (xs := linguistref7_Put_ys12) fun R (x : ((Int × (Int × (Int × (List (Int × Int × Int × Int × Int) × Unit)))) × ((Int × (Int × (List (Int × Int × Int × Int × Int) × Unit))) × ((Int × (Int × Unit)) × (List (Int × Int × Int × Int × Int) × (List (Int × Int × Int × Int × Int) × Unit)))))) K => by
  show linguistref7_Put_k12 K (hide linguistref7_Put_J12 x.1.1 x.1.2.1 x.1.2.2.1 x.1.2.2.2.1 x.2.1.1 x.2.1.2.1 x.2.1.2.2.1 x.2.2.1.1 x.2.2.1.2.1 x.2.2.2.1 x.2.2.2.2.1) = _
  rw [hide_eq]
  exact (linguistref7_Put_j12 K x.1.1 x.1.2.1 x.1.2.2.1 x.1.2.2.2.1 x.2.1.1 x.2.1.2.1 x.2.1.2.2.1 x.2.2.1.1 x.2.2.1.2.1 x.2.2.2.1 x.2.2.2.2.1).symm
noncomputable def linguistref7_Put_d12 : LoopF := loopH linguistref7_Put_t12 0 linguistref7_Put_D12
noncomputable def linguistref7_Put_cs2 : LoopT := ((25, 12), linguistref7_Put_d12) :: linguistref7_Put_cs1
theorem linguistref7_Put_cs2_ok : AllCut Try.prog linguistref7_Put_cs2 := ⟨linguistref7_Put_C12, linguistref7_Put_cs1_ok⟩
noncomputable def linguistref7_Put_b9 : Code := ((Try.f25.body.map fun b => tailsAt b 9).getD []).headD .skip
theorem linguistref7_Put_b9_is : (Try.f25.body.map fun b => tailsAt b 9) = some [linguistref7_Put_b9] := by kernel_rfl
noncomputable def linguistref7_Put_t9 : SkSt := ⟨(.gap 1 (.cons (.int .i64) (.cons (.int .i64) (.gap 2 (.cst (.ptr 0 0) (.gap 4 (.cst (.ptr 1 0) (.cons (.int .i64) (.cst (.own 2 26 (.cons (.int .i32) (.cons (.int .i64) (.cons (.int .i64) (.cons (.int .i64) (.one (.int .i64))))))) (.gap 109 .nil)))))))))), (.var 43 (.cons (.int .i64) (.cons (.int .i64) (.cons (.list (.cons (.int .i32) (.cons (.int .i64) (.cons (.int .i64) (.cons (.int .i64) (.one (.int .i64))))))) .nil))) (.var 43 (.cons (.int .i64) (.cons (.int .i64) (.cst (.own 3 26 (.cons (.int .i32) (.cons (.int .i64) (.cons (.int .i64) (.cons (.int .i64) (.one (.int .i64))))))) .nil))) (.arr 26 (.cons (.int .i32) (.cons (.int .i64) (.cons (.int .i64) (.cons (.int .i64) (.one (.int .i64)))))) (.arr 26 (.cons (.int .i32) (.cons (.int .i64) (.cons (.int .i64) (.cons (.int .i64) (.one (.int .i64)))))) .nil))))⟩
noncomputable def linguistref7_Put_y9_0 : SkSt := ⟨(.gap 10 (.cst (.ptr 0 0) (.gap 111 .nil))), (.var 43 (.cons (.int .i64) (.cons (.int .i64) (.cons (.list (.cons (.int .i32) (.cons (.int .i64) (.cons (.int .i64) (.cons (.int .i64) (.one (.int .i64))))))) .nil))) .nil)⟩
noncomputable def linguistref7_Put_ys9 : List (Ex × SkSt) := [(.ret, linguistref7_Put_y9_0)]
noncomputable def linguistref7_Put_J9 (a0 : Int) (a1 : Int) (a2 : Int) (a3 : Int) (a4 : Int) (a5 : List (Int × Int × Int × Int × Int)) (a6 : Int) (a7 : Int) (a8 : List (Int × Int × Int × Int × Int)) (a9 : List (Int × Int × Int × Int × Int)) : Option (Int × Int × (List (Int × Int × Int × Int × Int))) := (bif (bnds (some (IntKind.i64.wrap (a0 * a4))) (some (IntKind.i64.wrap (IntKind.i64.wrap (a0 + (1 : Int)) * a4))) a5.length && true) then (bif (decide (a1 > (0 : Int))) then (bif (decide ((0 : Int) ≤ a1) && decide (a1 < Int.ofNat (cutList a5 (some (IntKind.i64.wrap (a0 * a4))) (some (IntKind.i64.wrap (IntKind.i64.wrap (a0 + (1 : Int)) * a4)))).length) && true) then (bif (((cutList a5 (some (IntKind.i64.wrap (a0 * a4))) (some (IntKind.i64.wrap (IntKind.i64.wrap (a0 + (1 : Int)) * a4)))).getD a1.toNat ((0 : Int), (0 : Int), (0 : Int), (0 : Int), (0 : Int))).2.1 == (2 : Int)) then (bif (decide ((0 : Int) ≤ IntKind.i64.wrap (a1 - (1 : Int))) && decide (IntKind.i64.wrap (a1 - (1 : Int)) < Int.ofNat (cutList a5 (some (IntKind.i64.wrap (a0 * a4))) (some (IntKind.i64.wrap (IntKind.i64.wrap (a0 + (1 : Int)) * a4)))).length) && true) then (bif (decide ((0 : Int) ≤ IntKind.i64.wrap (a1 - (1 : Int))) && decide (IntKind.i64.wrap (a1 - (1 : Int)) < Int.ofNat a8.length) && true) then (optK (hide linguistref7_Put_J12 a0 a1 a2 (cutList a5 (some (IntKind.i64.wrap (a0 * a4))) (some (IntKind.i64.wrap (IntKind.i64.wrap (a0 + (1 : Int)) * a4)))) a3 a4 a5 a6 a7 (a8.set (IntKind.i64.wrap (a1 - (1 : Int))).toNat ((32 : Int), (0 : Int), ((cutList a5 (some (IntKind.i64.wrap (a0 * a4))) (some (IntKind.i64.wrap (IntKind.i64.wrap (a0 + (1 : Int)) * a4)))).getD (IntKind.i64.wrap (a1 - (1 : Int))).toNat ((0 : Int), (0 : Int), (0 : Int), (0 : Int), (0 : Int))).2.2.1, ((cutList a5 (some (IntKind.i64.wrap (a0 * a4))) (some (IntKind.i64.wrap (IntKind.i64.wrap (a0 + (1 : Int)) * a4)))).getD (IntKind.i64.wrap (a1 - (1 : Int))).toNat ((0 : Int), (0 : Int), (0 : Int), (0 : Int), (0 : Int))).2.2.2.1, ((cutList a5 (some (IntKind.i64.wrap (a0 * a4))) (some (IntKind.i64.wrap (IntKind.i64.wrap (a0 + (1 : Int)) * a4)))).getD (IntKind.i64.wrap (a1 - (1 : Int))).toNat ((0 : Int), (0 : Int), (0 : Int), (0 : Int), (0 : Int))).2.2.2.2)) a9) fun y12 => (some ((y12.1), (y12.2.1), (y12.2.2)))) else none) else none) else (optK (hide linguistref7_Put_J12 a0 a1 a2 (cutList a5 (some (IntKind.i64.wrap (a0 * a4))) (some (IntKind.i64.wrap (IntKind.i64.wrap (a0 + (1 : Int)) * a4)))) a3 a4 a5 a6 a7 a8 a9) fun y13 => (some ((y13.1), (y13.2.1), (y13.2.2))))) else none) else (optK (hide linguistref7_Put_J12 a0 a1 a2 (cutList a5 (some (IntKind.i64.wrap (a0 * a4))) (some (IntKind.i64.wrap (IntKind.i64.wrap (a0 + (1 : Int)) * a4)))) a3 a4 a5 a6 a7 a8 a9) fun y14 => (some ((y14.1), (y14.2.1), (y14.2.2))))) else none)
noncomputable def linguistref7_Put_k9 {R : Type} (K : Ex → St → Option R) (o : Option (Int × Int × (List (Int × Int × Int × Int × Int)))) : Option R := optK o fun y => K (.ret) (linguistref7_Put_y9_0.enc ((), ((y.1, (y.2.1, (y.2.2, ()))), ())))
theorem linguistref7_Put_j9 {R : Type} (K : Ex → St → Option R) (a0 : Int) (a1 : Int) (a2 : Int) (a3 : Int) (a4 : Int) (a5 : List (Int × Int × Int × Int × Int)) (a6 : Int) (a7 : Int) (a8 : List (Int × Int × Int × Int × Int)) (a9 : List (Int × Int × Int × Int × Int)) : exec (envL sums3 ll0 linguistref7_Put_cs2 (fun _ _ => false)) 25 (acall (envL sums3 ll0 linguistref7_Put_cs2 (fun _ _ => false)) 1000) 0 linguistref7_Put_b9 (linguistref7_Put_t9.enc ((a0, (a1, (a2, ()))), ((a3, (a4, (a5, ()))), ((a6, (a7, ())), (a8, (a9, ())))))) (exitK linguistref7_Put_ys9 0 K) = linguistref7_Put_k9 K (linguistref7_Put_J9 a0 a1 a2 a3 a4 a5 a6 a7 a8 a9) := by
    unfold linguistref7_Put_J9
    exact Eq.trans (by kernel_rfl) (cond_push (linguistref7_Put_k9 K) _ (cond_push (linguistref7_Put_k9 K) _ (cond_push (linguistref7_Put_k9 K) _ (cond_push (linguistref7_Put_k9 K) _ (cond_push (linguistref7_Put_k9 K) _ (cond_push (linguistref7_Put_k9 K) _ (optK_push (linguistref7_Put_k9 K) rfl _ fun y12 => rfl) rfl) rfl) (optK_push (linguistref7_Put_k9 K) rfl _ fun y13 => rfl)) rfl) (optK_push (linguistref7_Put_k9 K) rfl _ fun y14 => rfl)) rfl)
noncomputable def linguistref7_Put_D9 : GoL linguistref7_Put_t9 := fun R (x : ((Int × (Int × (Int × Unit))) × ((Int × (Int × (List (Int × Int × Int × Int × Int) × Unit))) × ((Int × (Int × Unit)) × (List (Int × Int × Int × Int × Int) × (List (Int × Int × Int × Int × Int) × Unit)))))) K => linguistref7_Put_k9 K (hide linguistref7_Put_J9 x.1.1 x.1.2.1 x.1.2.2.1 x.2.1.1 x.2.1.2.1 x.2.1.2.2.1 x.2.2.1.1 x.2.2.1.2.1 x.2.2.2.1 x.2.2.2.2.1)
theorem linguistref7_Put_C9 : CutOk Try.prog 25 9 (loopH linguistref7_Put_t9 0 linguistref7_Put_D9) := cut_known (envL_ok sums3_ok ll0_ok linguistref7_Put_cs2_ok) (N := 1000) Try.func25 rfl linguistref7_Put_b9_is (xs := linguistref7_Put_ys9) fun R (x : ((Int × (Int × (Int × Unit))) × ((Int × (Int × (List (Int × Int × Int × Int × Int) × Unit))) × ((Int × (Int × Unit)) × (List (Int × Int × Int × Int × Int) × (List (Int × Int × Int × Int × Int) × Unit)))))) K => by
  show linguistref7_Put_k9 K (hide linguistref7_Put_J9 x.1.1 x.1.2.1 x.1.2.2.1 x.2.1.1 x.2.1.2.1 x.2.1.2.2.1 x.2.2.1.1 x.2.2.1.2.1 x.2.2.2.1 x.2.2.2.2.1) = _
  rw [hide_eq]
  exact (linguistref7_Put_j9 K x.1.1 x.1.2.1 x.1.2.2.1 x.2.1.1 x.2.1.2.1 x.2.1.2.2.1 x.2.2.1.1 x.2.2.1.2.1 x.2.2.2.1 x.2.2.2.2.1).symm
noncomputable def linguistref7_Put_d9 : LoopF := loopH linguistref7_Put_t9 0 linguistref7_Put_D9
noncomputable def linguistref7_Put_cs3 : LoopT := ((25, 9), linguistref7_Put_d9) :: linguistref7_Put_cs2
theorem linguistref7_Put_cs3_ok : AllCut Try.prog linguistref7_Put_cs3 := ⟨linguistref7_Put_C9, linguistref7_Put_cs2_ok⟩
noncomputable def linguistref7_Put_F (x0 : Int) (x1 : Int) (x2 : List (Int × Int × Int × Int × Int)) (x3 : Int) (x4 : Int) (x5 : Int) (x6 : Int) (x7 : Int) (x8 : Int) : Option (Int × Int × (List (Int × Int × Int × Int × Int))) := (optK ((hide linguistref1_Width_F x5)) fun y0 => (bif (decide (x3 < (0 : Int))) then (some (x0, x1, x2)) else (bif (decide (x3 ≥ x0)) then (some (x0, x1, x2)) else (bif (decide (x4 < (0 : Int))) then (some (x0, x1, x2)) else (bif (decide (y0 < (1 : Int))) then (some (x0, x1, x2)) else (bif (decide (IntKind.i64.wrap (x4 + y0) > x1)) then (some (x0, x1, x2)) else (bif (bnds (some (IntKind.i64.wrap (x3 * x1))) (some (IntKind.i64.wrap (IntKind.i64.wrap (x3 + (1 : Int)) * x1))) x2.length && true) then (bif ((cutList x2 (some (IntKind.i64.wrap (x3 * x1))) (some (IntKind.i64.wrap (IntKind.i64.wrap (x3 + (1 : Int)) * x1)))).length.ble (274877906944 : Nat) && true) then (bif (decide ((0 : Int) ≤ x4) && decide (x4 < Int.ofNat (cutList x2 (some (IntKind.i64.wrap (x3 * x1))) (some (IntKind.i64.wrap (IntKind.i64.wrap (x3 + (1 : Int)) * x1)))).length) && true) then (bif (y0 == (2 : Int)) then (bif (decide ((0 : Int) ≤ x4) && decide (x4 < Int.ofNat ((cutList x2 (some (IntKind.i64.wrap (x3 * x1))) (some (IntKind.i64.wrap (IntKind.i64.wrap (x3 + (1 : Int)) * x1)))).set x4.toNat (x5, (0 : Int), x6, x7, x8)).length) && true) then (bif (decide ((0 : Int) ≤ IntKind.i64.wrap (x4 + (1 : Int))) && decide (IntKind.i64.wrap (x4 + (1 : Int)) < Int.ofNat (((cutList x2 (some (IntKind.i64.wrap (x3 * x1))) (some (IntKind.i64.wrap (IntKind.i64.wrap (x3 + (1 : Int)) * x1)))).set x4.toNat (x5, (0 : Int), x6, x7, x8)).set x4.toNat ((((cutList x2 (some (IntKind.i64.wrap (x3 * x1))) (some (IntKind.i64.wrap (IntKind.i64.wrap (x3 + (1 : Int)) * x1)))).set x4.toNat (x5, (0 : Int), x6, x7, x8)).getD x4.toNat ((0 : Int), (0 : Int), (0 : Int), (0 : Int), (0 : Int))).1, (1 : Int), (((cutList x2 (some (IntKind.i64.wrap (x3 * x1))) (some (IntKind.i64.wrap (IntKind.i64.wrap (x3 + (1 : Int)) * x1)))).set x4.toNat (x5, (0 : Int), x6, x7, x8)).getD x4.toNat ((0 : Int), (0 : Int), (0 : Int), (0 : Int), (0 : Int))).2.2.1, (((cutList x2 (some (IntKind.i64.wrap (x3 * x1))) (some (IntKind.i64.wrap (IntKind.i64.wrap (x3 + (1 : Int)) * x1)))).set x4.toNat (x5, (0 : Int), x6, x7, x8)).getD x4.toNat ((0 : Int), (0 : Int), (0 : Int), (0 : Int), (0 : Int))).2.2.2.1, (((cutList x2 (some (IntKind.i64.wrap (x3 * x1))) (some (IntKind.i64.wrap (IntKind.i64.wrap (x3 + (1 : Int)) * x1)))).set x4.toNat (x5, (0 : Int), x6, x7, x8)).getD x4.toNat ((0 : Int), (0 : Int), (0 : Int), (0 : Int), (0 : Int))).2.2.2.2)).length) && true) then (optK (hide linguistref7_Put_J9 x3 x4 y0 x0 x1 x2 (0 : Int) (0 : Int) ((((cutList x2 (some (IntKind.i64.wrap (x3 * x1))) (some (IntKind.i64.wrap (IntKind.i64.wrap (x3 + (1 : Int)) * x1)))).set x4.toNat (x5, (0 : Int), x6, x7, x8)).set x4.toNat ((((cutList x2 (some (IntKind.i64.wrap (x3 * x1))) (some (IntKind.i64.wrap (IntKind.i64.wrap (x3 + (1 : Int)) * x1)))).set x4.toNat (x5, (0 : Int), x6, x7, x8)).getD x4.toNat ((0 : Int), (0 : Int), (0 : Int), (0 : Int), (0 : Int))).1, (1 : Int), (((cutList x2 (some (IntKind.i64.wrap (x3 * x1))) (some (IntKind.i64.wrap (IntKind.i64.wrap (x3 + (1 : Int)) * x1)))).set x4.toNat (x5, (0 : Int), x6, x7, x8)).getD x4.toNat ((0 : Int), (0 : Int), (0 : Int), (0 : Int), (0 : Int))).2.2.1, (((cutList x2 (some (IntKind.i64.wrap (x3 * x1))) (some (IntKind.i64.wrap (IntKind.i64.wrap (x3 + (1 : Int)) * x1)))).set x4.toNat (x5, (0 : Int), x6, x7, x8)).getD x4.toNat ((0 : Int), (0 : Int), (0 : Int), (0 : Int), (0 : Int))).2.2.2.1, (((cutList x2 (some (IntKind.i64.wrap (x3 * x1))) (some (IntKind.i64.wrap (IntKind.i64.wrap (x3 + (1 : Int)) * x1)))).set x4.toNat (x5, (0 : Int), x6, x7, x8)).getD x4.toNat ((0 : Int), (0 : Int), (0 : Int), (0 : Int), (0 : Int))).2.2.2.2)).set (IntKind.i64.wrap (x4 + (1 : Int))).toNat ((0 : Int), (2 : Int), x6, x7, x8)) ([])) fun y15 => (some ((y15.1), (y15.2.1), (y15.2.2)))) else none) else none) else (optK (hide linguistref7_Put_J9 x3 x4 y0 x0 x1 x2 (0 : Int) (0 : Int) ((cutList x2 (some (IntKind.i64.wrap (x3 * x1))) (some (IntKind.i64.wrap (IntKind.i64.wrap (x3 + (1 : Int)) * x1)))).set x4.toNat (x5, (0 : Int), x6, x7, x8)) ([])) fun y16 => (some ((y16.1), (y16.2.1), (y16.2.2))))) else none) else none) else none)))))))
noncomputable def linguistref7_Put_A : SkL := (.cons (.agg (.cons (.int .i64) (.cons (.int .i64) (.cons (.list (.cons (.int .i32) (.cons (.int .i64) (.cons (.int .i64) (.cons (.int .i64) (.one (.int .i64))))))) .nil)))) (.cons (.int .i64) (.cons (.int .i64) (.cons (.int .i32) (.cons (.agg (.cons (.int .i64) (.cons (.int .i64) (.cons (.int .i64) .nil)))) .nil)))))
noncomputable def linguistref7_Put_B : Sk := (.agg (.cons (.int .i64) (.cons (.int .i64) (.cons (.list (.cons (.int .i32) (.cons (.int .i64) (.cons (.int .i64) (.cons (.int .i64) (.one (.int .i64))))))) .nil))))
def linguistref7_Put_m {R : Type} (K : (Int × (Int × (List (Int × Int × Int × Int × Int) × Unit))) → Option R) (o : Option (Int × Int × (List (Int × Int × Int × Int × Int)))) : Option R := optK o fun y => K (y.1, (y.2.1, (y.2.2, ())))
theorem linguistref7_Put_run {R : Type} (x0 : Int) (x1 : Int) (x2 : List (Int × Int × Int × Int × Int)) (x3 : Int) (x4 : Int) (x5 : Int) (x6 : Int) (x7 : Int) (x8 : Int) (K : (Int × (Int × (List (Int × Int × Int × Int × Int) × Unit))) → Option R) : acall (envL sums3 ll0 linguistref7_Put_cs3 (fun _ _ => false)) 1000 25 (linguistref7_Put_A.enc ((x0, (x1, (x2, ()))), (x3, (x4, (x5, ((x6, (x7, (x8, ()))), ())))))) [] (resK linguistref7_Put_B false K) = linguistref7_Put_m K (linguistref7_Put_F x0 x1 x2 x3 x4 x5 x6 x7 x8) := by
  unfold linguistref7_Put_F
  exact Eq.trans (by kernel_rfl) (optK_push (linguistref7_Put_m K) rfl _ fun y0 => (cond_push (linguistref7_Put_m K) _ rfl (cond_push (linguistref7_Put_m K) _ rfl (cond_push (linguistref7_Put_m K) _ rfl (cond_push (linguistref7_Put_m K) _ rfl (cond_push (linguistref7_Put_m K) _ rfl (cond_push (linguistref7_Put_m K) _ (cond_push (linguistref7_Put_m K) _ (cond_push (linguistref7_Put_m K) _ (cond_push (linguistref7_Put_m K) _ (cond_push (linguistref7_Put_m K) _ (cond_push (linguistref7_Put_m K) _ (optK_push (linguistref7_Put_m K) rfl _ fun y15 => rfl) rfl) rfl) (optK_push (linguistref7_Put_m K) rfl _ fun y16 => rfl)) rfl) rfl) rfl)))))))
noncomputable def linguistref7_Put_G : GoF linguistref7_Put_A linguistref7_Put_B := fun R (x : ((Int × (Int × (List (Int × Int × Int × Int × Int) × Unit))) × (Int × (Int × (Int × ((Int × (Int × (Int × Unit))) × Unit)))))) K => linguistref7_Put_m K (hide linguistref7_Put_F x.1.1 x.1.2.1 x.1.2.2.1 x.2.1 x.2.2.1 x.2.2.2.1 x.2.2.2.2.1.1 x.2.2.2.2.1.2.1 x.2.2.2.2.1.2.2.1)
theorem linguistref7_Put_known : Known Try.prog 25 linguistref7_Put_A linguistref7_Put_B false linguistref7_Put_G := known_of (envL_ok sums3_ok ll0_ok linguistref7_Put_cs3_ok) (n := 1000) rfl fun R (x : ((Int × (Int × (List (Int × Int × Int × Int × Int) × Unit))) × (Int × (Int × (Int × ((Int × (Int × (Int × Unit))) × Unit)))))) K => by
  show _ = linguistref7_Put_m K (hide linguistref7_Put_F x.1.1 x.1.2.1 x.1.2.2.1 x.2.1 x.2.2.1 x.2.2.2.1 x.2.2.2.2.1.1 x.2.2.2.2.1.2.1 x.2.2.2.2.1.2.2.1)
  rw [hide_eq]
  exact linguistref7_Put_run x.1.1 x.1.2.1 x.1.2.2.1 x.2.1 x.2.2.1 x.2.2.2.1 x.2.2.2.2.1.1 x.2.2.2.2.1.2.1 x.2.2.2.2.1.2.2.1 K
end Go.Proofs.YtlpmhldejeaefaaAbs

-- Written by a program of this session (dec.py); Lean checks it.
namespace Go.Proofs.YtlpmhldejeaefaaAbs
open Go Go.Proofs
set_option linter.unusedVariables false
set_option maxHeartbeats 2000000
noncomputable def sums4 : SumT := (12, sumH linguistkeep_Pen_Pen_A linguistkeep_Pen_Pen_B true linguistkeep_Pen_Pen_G) :: (29, sumH charset_Plain_A charset_Plain_B true charset_Plain_G) :: (14, sumH color_Nearest_A color_Nearest_B true color_Nearest_G) :: (38, sumH linguistref1_Lower_A linguistref1_Lower_B true linguistref1_Lower_G) :: (19, sumH linguistref15_Rune_A linguistref15_Rune_B true linguistref15_Rune_G) :: (24, sumH linguistref7_Full_A linguistref7_Full_B false linguistref7_Full_G) :: (25, sumH linguistref7_Put_A linguistref7_Put_B false linguistref7_Put_G) :: sums3
theorem sums4_ok : AllSum Try.prog sums4 := ⟨sumH_ok rfl rfl linguistkeep_Pen_Pen_known, ⟨sumH_ok rfl rfl charset_Plain_known, ⟨sumH_ok rfl rfl color_Nearest_known, ⟨sumH_ok rfl rfl linguistref1_Lower_known, ⟨sumH_ok rfl rfl linguistref15_Rune_known, ⟨sumH_ok rfl rfl linguistref7_Full_known, ⟨sumH_ok rfl rfl linguistref7_Put_known, sums3_ok⟩⟩⟩⟩⟩⟩⟩
end Go.Proofs.YtlpmhldejeaefaaAbs

-- Written by a program of this session (dec.py); Lean checks it.
namespace Go.Proofs.YtlpmhldejeaefaaAbs
open Go Go.Proofs
set_option linter.unusedVariables false
set_option maxHeartbeats 2000000
noncomputable def linguistkeep_Grid_Grid_c4 : Code := ((Try.f33.body.map fun b => loopsAt b 4).getD []).headD .skip
theorem linguistkeep_Grid_Grid_c4_is : (Try.f33.body.map fun b => loopsAt b 4) = some [linguistkeep_Grid_Grid_c4] := by kernel_rfl
noncomputable def linguistkeep_Grid_Grid_s4 : SkSt := ⟨(.gap 1 (.cst (.ptr 0 0) (.cst (.ptr 1 0) (.cons (.int .i64) (.cons (.int .i64) (.cst (.ptr 2 0) (.cons (.int .i64) (.gap 72 .nil)))))))), (.var 37 (.cons (.int .i64) (.cons (.int .i64) (.cons (.list (.one (.int .i64))) (.cons (.list (.one (.int .i64))) .nil)))) (.var 43 (.cons (.int .i64) (.cons (.int .i64) (.cst (.own 3 26 (.cons (.int .i32) (.cons (.int .i64) (.cons (.int .i64) (.cons (.int .i64) (.one (.int .i64))))))) .nil))) (.var 43 (.cons (.int .i64) (.cons (.int .i64) (.cst (.own 4 26 (.cons (.int .i32) (.cons (.int .i64) (.cons (.int .i64) (.cons (.int .i64) (.one (.int .i64))))))) .nil))) (.arr 26 (.cons (.int .i32) (.cons (.int .i64) (.cons (.int .i64) (.cons (.int .i64) (.one (.int .i64)))))) (.arr 26 (.cons (.int .i32) (.cons (.int .i64) (.cons (.int .i64) (.cons (.int .i64) (.one (.int .i64)))))) .nil)))))⟩
noncomputable def linguistkeep_Grid_Grid_x4_0 : SkSt := ⟨(.gap 2 (.cst (.ptr 0 0) (.gap 2 (.cst (.ptr 1 0) (.gap 73 .nil))))), (.var 43 (.cons (.int .i64) (.cons (.int .i64) (.cst (.own 2 26 (.cons (.int .i32) (.cons (.int .i64) (.cons (.int .i64) (.cons (.int .i64) (.one (.int .i64))))))) .nil))) (.var 43 (.cons (.int .i64) (.cons (.int .i64) (.cst (.own 3 26 (.cons (.int .i32) (.cons (.int .i64) (.cons (.int .i64) (.cons (.int .i64) (.one (.int .i64))))))) .nil))) (.arr 26 (.cons (.int .i32) (.cons (.int .i64) (.cons (.int .i64) (.cons (.int .i64) (.one (.int .i64)))))) (.arr 26 (.cons (.int .i32) (.cons (.int .i64) (.cons (.int .i64) (.cons (.int .i64) (.one (.int .i64)))))) .nil))))⟩
noncomputable def linguistkeep_Grid_Grid_xs4 : List (Ex × SkSt) := [(.exit 0, linguistkeep_Grid_Grid_x4_0)]
noncomputable def linguistkeep_Grid_Grid_L4 : Nat → Int → Int → Int → Int → Int → List (Int) → List (Int) → Int → Int → Int → Int → List (Int × Int × Int × Int × Int) → List (Int × Int × Int × Int × Int) → Option (Int × Int × Int × Int × (List (Int × Int × Int × Int × Int)) × (List (Int × Int × Int × Int × Int)))
  | 0, _, _, _, _, _, _, _, _, _, _, _, _, _ => none
  | n + 1, a0, a1, a2, a3, a4, a5, a6, a7, a8, a9, a10, a11, a12 => (bif (decide (a2 < IntKind.i64.wrap (a0 * a1))) then (optK ((hide linguistkeep_pick_F a5 a2)) fun y7 => (optK ((hide linguistkeep_pick_F a6 (IntKind.i64.wrap (a2.tdiv (3 : Int))))) fun y8 => (optK ((hide linguistkeep_Pen_Pen_F y8 (IntKind.i64.wrap (y8.tdiv (16 : Int))) (IntKind.i64.wrap (y8.tdiv (64 : Int))))) fun y9 => (bif (y7.tmod (5 : Int) == (4 : Int)) then (bif (a1 == (0 : Int)) then none else (bif ((IntKind.i64.wrap (a2 + (1 : Int))).tmod a1 != (0 : Int)) then (bif (true && ((a12.length + [(IntKind.i32.wrap (IntKind.i64.wrap ((19968 : Int) + y7.tmod (9 : Int))), (1 : Int), y9.1, y9.2.1, y9.2.2), ((0 : Int), (2 : Int), y9.1, y9.2.1, y9.2.2)].length).ble (274877906944 : Nat) && true)) then (linguistkeep_Grid_Grid_L4 n a0 a1 (IntKind.i64.wrap (IntKind.i64.wrap (a2 + (1 : Int)) + (1 : Int))) a3 a4 a5 a6 a7 a8 a9 a10 a11 (a12 ++ [(IntKind.i32.wrap (IntKind.i64.wrap ((19968 : Int) + y7.tmod (9 : Int))), (1 : Int), y9.1, y9.2.1, y9.2.2), ((0 : Int), (2 : Int), y9.1, y9.2.1, y9.2.2)])) else none) else (optK ((hide linguistbook_Within_F y7 (0 : Int) (9 : Int))) fun y10 => (bif (true && ((a12.length + [(IntKind.i32.wrap (IntKind.i64.wrap ((97 : Int) + y10)), (0 : Int), y9.1, y9.2.1, y9.2.2)].length).ble (274877906944 : Nat) && true)) then (linguistkeep_Grid_Grid_L4 n a0 a1 (IntKind.i64.wrap (a2 + (1 : Int))) a3 a4 a5 a6 a7 a8 a9 a10 a11 (a12 ++ [(IntKind.i32.wrap (IntKind.i64.wrap ((97 : Int) + y10)), (0 : Int), y9.1, y9.2.1, y9.2.2)])) else none)))) else (optK ((hide linguistbook_Within_F y7 (0 : Int) (9 : Int))) fun y11 => (bif (true && ((a12.length + [(IntKind.i32.wrap (IntKind.i64.wrap ((97 : Int) + y11)), (0 : Int), y9.1, y9.2.1, y9.2.2)].length).ble (274877906944 : Nat) && true)) then (linguistkeep_Grid_Grid_L4 n a0 a1 (IntKind.i64.wrap (a2 + (1 : Int))) a3 a4 a5 a6 a7 a8 a9 a10 a11 (a12 ++ [(IntKind.i32.wrap (IntKind.i64.wrap ((97 : Int) + y11)), (0 : Int), y9.1, y9.2.1, y9.2.2)])) else none)))))) else (some (a7, a8, a9, a10, a11, a12)))
noncomputable def linguistkeep_Grid_Grid_I4 {R : Type} (K : Ex → St → Option R) : Nat → St → Option R := iterN (exec (envL sums4 ll0 cs0 (fun _ _ => false)) 33 (acall (envL sums4 ll0 cs0 (fun _ _ => false)) 1000) 0 linguistkeep_Grid_Grid_c4) (normTo linguistkeep_Grid_Grid_s4 0) (exitK linguistkeep_Grid_Grid_xs4 0 K)
noncomputable def linguistkeep_Grid_Grid_m4 {R : Type} (K : Ex → St → Option R) (o : Option (Int × Int × Int × Int × (List (Int × Int × Int × Int × Int)) × (List (Int × Int × Int × Int × Int)))) : Option R := optK o fun y => K (.exit 0) (linguistkeep_Grid_Grid_x4_0.enc ((), ((y.1, (y.2.1, ())), ((y.2.2.1, (y.2.2.2.1, ())), (y.2.2.2.2.1, (y.2.2.2.2.2, ()))))))
theorem linguistkeep_Grid_Grid_l4 {R : Type} (K : Ex → St → Option R) : ∀ (n : Nat), ∀ (a0 : Int) (a1 : Int) (a2 : Int) (a3 : Int) (a4 : Int) (a5 : List (Int)) (a6 : List (Int)) (a7 : Int) (a8 : Int) (a9 : Int) (a10 : Int) (a11 : List (Int × Int × Int × Int × Int)) (a12 : List (Int × Int × Int × Int × Int)), linguistkeep_Grid_Grid_I4 K n (linguistkeep_Grid_Grid_s4.enc ((a0, (a1, (a2, ()))), ((a3, (a4, (a5, (a6, ())))), ((a7, (a8, ())), ((a9, (a10, ())), (a11, (a12, ()))))))) = linguistkeep_Grid_Grid_m4 K (linguistkeep_Grid_Grid_L4 n a0 a1 a2 a3 a4 a5 a6 a7 a8 a9 a10 a11 a12) := by
  intro n
  induction n with
  | zero => intros; rfl
  | succ n ih =>
    intro a0 a1 a2 a3 a4 a5 a6 a7 a8 a9 a10 a11 a12
    rw [linguistkeep_Grid_Grid_L4]
    exact Eq.trans (by kernel_rfl) (cond_push (linguistkeep_Grid_Grid_m4 K) _ (optK_push (linguistkeep_Grid_Grid_m4 K) rfl _ fun y7 => (optK_push (linguistkeep_Grid_Grid_m4 K) rfl _ fun y8 => (optK_push (linguistkeep_Grid_Grid_m4 K) rfl _ fun y9 => (cond_push (linguistkeep_Grid_Grid_m4 K) _ (cond_push (linguistkeep_Grid_Grid_m4 K) _ rfl (cond_push (linguistkeep_Grid_Grid_m4 K) _ (cond_push (linguistkeep_Grid_Grid_m4 K) _ (ih a0 a1 (IntKind.i64.wrap (IntKind.i64.wrap (a2 + (1 : Int)) + (1 : Int))) a3 a4 a5 a6 a7 a8 a9 a10 a11 (a12 ++ [(IntKind.i32.wrap (IntKind.i64.wrap ((19968 : Int) + y7.tmod (9 : Int))), (1 : Int), y9.1, y9.2.1, y9.2.2), ((0 : Int), (2 : Int), y9.1, y9.2.1, y9.2.2)])) rfl) (optK_push (linguistkeep_Grid_Grid_m4 K) rfl _ fun y10 => (cond_push (linguistkeep_Grid_Grid_m4 K) _ (ih a0 a1 (IntKind.i64.wrap (a2 + (1 : Int))) a3 a4 a5 a6 a7 a8 a9 a10 a11 (a12 ++ [(IntKind.i32.wrap (IntKind.i64.wrap ((97 : Int) + y10)), (0 : Int), y9.1, y9.2.1, y9.2.2)])) rfl)))) (optK_push (linguistkeep_Grid_Grid_m4 K) rfl _ fun y11 => (cond_push (linguistkeep_Grid_Grid_m4 K) _ (ih a0 a1 (IntKind.i64.wrap (a2 + (1 : Int))) a3 a4 a5 a6 a7 a8 a9 a10 a11 (a12 ++ [(IntKind.i32.wrap (IntKind.i64.wrap ((97 : Int) + y11)), (0 : Int), y9.1, y9.2.1, y9.2.2)])) rfl)))))) rfl)
def linguistkeep_Grid_Grid_fu4 (a0 : Int) (a1 : Int) (a2 : Int) (a3 : Int) (a4 : Int) (a5 : List (Int)) (a6 : List (Int)) (a7 : Int) (a8 : Int) (a9 : Int) (a10 : Int) (a11 : List (Int × Int × Int × Int × Int)) (a12 : List (Int × Int × Int × Int × Int)) : Nat := Int.natAbs a0 + Int.natAbs a1 + Int.natAbs a2 + Int.natAbs a3 + Int.natAbs a4 + List.length a5 + List.length a6 + Int.natAbs a7 + Int.natAbs a8 + Int.natAbs a9 + Int.natAbs a10 + List.length a11 + List.length a12 + 5000
noncomputable def linguistkeep_Grid_Grid_G4 : GoL linguistkeep_Grid_Grid_s4 := fun R (x : ((Int × (Int × (Int × Unit))) × ((Int × (Int × (List (Int) × (List (Int) × Unit)))) × ((Int × (Int × Unit)) × ((Int × (Int × Unit)) × (List (Int × Int × Int × Int × Int) × (List (Int × Int × Int × Int × Int) × Unit))))))) K => linguistkeep_Grid_Grid_m4 K (hide linguistkeep_Grid_Grid_L4 (linguistkeep_Grid_Grid_fu4 x.1.1 x.1.2.1 x.1.2.2.1 x.2.1.1 x.2.1.2.1 x.2.1.2.2.1 x.2.1.2.2.2.1 x.2.2.1.1 x.2.2.1.2.1 x.2.2.2.1.1 x.2.2.2.1.2.1 x.2.2.2.2.1 x.2.2.2.2.2.1) x.1.1 x.1.2.1 x.1.2.2.1 x.2.1.1 x.2.1.2.1 x.2.1.2.2.1 x.2.1.2.2.2.1 x.2.2.1.1 x.2.2.1.2.1 x.2.2.2.1.1 x.2.2.2.1.2.1 x.2.2.2.2.1 x.2.2.2.2.2.1)
theorem linguistkeep_Grid_Grid_H4 : LoopOk Try.prog 33 4 (loopH linguistkeep_Grid_Grid_s4 0 linguistkeep_Grid_Grid_G4) := loop_known (envL_ok sums4_ok ll0_ok cs0_ok) Try.func33 rfl linguistkeep_Grid_Grid_c4_is (xs := linguistkeep_Grid_Grid_xs4) (fuel := fun (x : ((Int × (Int × (Int × Unit))) × ((Int × (Int × (List (Int) × (List (Int) × Unit)))) × ((Int × (Int × Unit)) × ((Int × (Int × Unit)) × (List (Int × Int × Int × Int × Int) × (List (Int × Int × Int × Int × Int) × Unit))))))) => linguistkeep_Grid_Grid_fu4 x.1.1 x.1.2.1 x.1.2.2.1 x.2.1.1 x.2.1.2.1 x.2.1.2.2.1 x.2.1.2.2.2.1 x.2.2.1.1 x.2.2.1.2.1 x.2.2.2.1.1 x.2.2.2.1.2.1 x.2.2.2.2.1 x.2.2.2.2.2.1) fun R (x : ((Int × (Int × (Int × Unit))) × ((Int × (Int × (List (Int) × (List (Int) × Unit)))) × ((Int × (Int × Unit)) × ((Int × (Int × Unit)) × (List (Int × Int × Int × Int × Int) × (List (Int × Int × Int × Int × Int) × Unit))))))) K => by
  show linguistkeep_Grid_Grid_m4 K (hide linguistkeep_Grid_Grid_L4 (linguistkeep_Grid_Grid_fu4 x.1.1 x.1.2.1 x.1.2.2.1 x.2.1.1 x.2.1.2.1 x.2.1.2.2.1 x.2.1.2.2.2.1 x.2.2.1.1 x.2.2.1.2.1 x.2.2.2.1.1 x.2.2.2.1.2.1 x.2.2.2.2.1 x.2.2.2.2.2.1) x.1.1 x.1.2.1 x.1.2.2.1 x.2.1.1 x.2.1.2.1 x.2.1.2.2.1 x.2.1.2.2.2.1 x.2.2.1.1 x.2.2.1.2.1 x.2.2.2.1.1 x.2.2.2.1.2.1 x.2.2.2.2.1 x.2.2.2.2.2.1) = _
  rw [hide_eq]
  exact (linguistkeep_Grid_Grid_l4 K (linguistkeep_Grid_Grid_fu4 x.1.1 x.1.2.1 x.1.2.2.1 x.2.1.1 x.2.1.2.1 x.2.1.2.2.1 x.2.1.2.2.2.1 x.2.2.1.1 x.2.2.1.2.1 x.2.2.2.1.1 x.2.2.2.1.2.1 x.2.2.2.2.1 x.2.2.2.2.2.1) x.1.1 x.1.2.1 x.1.2.2.1 x.2.1.1 x.2.1.2.1 x.2.1.2.2.1 x.2.1.2.2.2.1 x.2.2.1.1 x.2.2.1.2.1 x.2.2.2.1.1 x.2.2.2.1.2.1 x.2.2.2.2.1 x.2.2.2.2.2.1).symm
noncomputable def linguistkeep_Grid_Grid_h4 : LoopF := loopH linguistkeep_Grid_Grid_s4 0 linguistkeep_Grid_Grid_G4
noncomputable def linguistkeep_Grid_Grid_ll1 : LoopT := ((33, 4), linguistkeep_Grid_Grid_h4) :: ll0
theorem linguistkeep_Grid_Grid_ll1_ok : AllLoop Try.prog linguistkeep_Grid_Grid_ll1 := ⟨linguistkeep_Grid_Grid_H4, ll0_ok⟩
noncomputable def linguistkeep_Grid_Grid_F (x0 : Int) (x1 : Int) (x2 : List (Int)) (x3 : List (Int)) : Option (Int × Int × (List (Int × Int × Int × Int × Int))) := (optK ((hide linguistbook_Within_F x0 (1 : Int) (5 : Int))) fun y0 => (optK ((hide linguistbook_Within_F x1 (1 : Int) (9 : Int))) fun y1 => (optK (hide linguistkeep_Grid_Grid_L4 (linguistkeep_Grid_Grid_fu4 y0 y1 (0 : Int) x0 x1 x2 x3 (0 : Int) (0 : Int) y0 y1 ([]) ([])) y0 y1 (0 : Int) x0 x1 x2 x3 (0 : Int) (0 : Int) y0 y1 ([]) ([])) fun y12 => (some ((y12.2.2.1), (y12.2.2.2.1), (y12.2.2.2.2.2))))))
noncomputable def linguistkeep_Grid_Grid_A : SkL := (.cons (.agg (.cons (.int .i64) (.cons (.int .i64) (.cons (.list (.one (.int .i64))) (.cons (.list (.one (.int .i64))) .nil))))) .nil)
noncomputable def linguistkeep_Grid_Grid_B : Sk := (.agg (.cons (.int .i64) (.cons (.int .i64) (.cons (.list (.cons (.int .i32) (.cons (.int .i64) (.cons (.int .i64) (.cons (.int .i64) (.one (.int .i64))))))) .nil))))
def linguistkeep_Grid_Grid_m {R : Type} (K : (Int × (Int × (List (Int × Int × Int × Int × Int) × Unit))) → Option R) (o : Option (Int × Int × (List (Int × Int × Int × Int × Int)))) : Option R := optK o fun y => K (y.1, (y.2.1, (y.2.2, ())))
theorem linguistkeep_Grid_Grid_run {R : Type} (x0 : Int) (x1 : Int) (x2 : List (Int)) (x3 : List (Int)) (K : (Int × (Int × (List (Int × Int × Int × Int × Int) × Unit))) → Option R) : acall (envL sums4 linguistkeep_Grid_Grid_ll1 cs0 (fun _ _ => false)) 1000 33 (linguistkeep_Grid_Grid_A.enc ((x0, (x1, (x2, (x3, ())))), ())) [] (resK linguistkeep_Grid_Grid_B true K) = linguistkeep_Grid_Grid_m K (linguistkeep_Grid_Grid_F x0 x1 x2 x3) := by
  unfold linguistkeep_Grid_Grid_F
  exact Eq.trans (by kernel_rfl) (optK_push (linguistkeep_Grid_Grid_m K) rfl _ fun y0 => (optK_push (linguistkeep_Grid_Grid_m K) rfl _ fun y1 => (optK_push (linguistkeep_Grid_Grid_m K) rfl _ fun y12 => rfl)))
noncomputable def linguistkeep_Grid_Grid_G : GoF linguistkeep_Grid_Grid_A linguistkeep_Grid_Grid_B := fun R (x : ((Int × (Int × (List (Int) × (List (Int) × Unit)))) × Unit)) K => linguistkeep_Grid_Grid_m K (hide linguistkeep_Grid_Grid_F x.1.1 x.1.2.1 x.1.2.2.1 x.1.2.2.2.1)
theorem linguistkeep_Grid_Grid_known : Known Try.prog 33 linguistkeep_Grid_Grid_A linguistkeep_Grid_Grid_B true linguistkeep_Grid_Grid_G := known_of (envL_ok sums4_ok linguistkeep_Grid_Grid_ll1_ok cs0_ok) (n := 1000) rfl fun R (x : ((Int × (Int × (List (Int) × (List (Int) × Unit)))) × Unit)) K => by
  show _ = linguistkeep_Grid_Grid_m K (hide linguistkeep_Grid_Grid_F x.1.1 x.1.2.1 x.1.2.2.1 x.1.2.2.2.1)
  rw [hide_eq]
  exact linguistkeep_Grid_Grid_run x.1.1 x.1.2.1 x.1.2.2.1 x.1.2.2.2.1 K

noncomputable def lower_Rune_F (x0 : Int) (x1 : Int) : Option (Int) := (optK ((hide charset_Undraw_F x1)) fun y0 => (bif (y0.2) then (bif (x0 == (1 : Int)) then (some x1) else (bif (x0 == (2 : Int)) then (some x1) else (optK ((hide charset_Plain_F x1)) fun y1 => (some (IntKind.i32.wrap y1))))) else (optK ((hide charset_Plain_F x1)) fun y2 => (some (IntKind.i32.wrap y2)))))
noncomputable def lower_Rune_A : SkL := (.cons (.int .i64) (.cons (.int .i32) .nil))
noncomputable def lower_Rune_B : Sk := (.int .i32)
def lower_Rune_m {R : Type} (K : Int → Option R) (o : Option (Int)) : Option R := optK o fun y => K y
theorem lower_Rune_run {R : Type} (x0 : Int) (x1 : Int) (K : Int → Option R) : acall (envL sums4 ll0 cs0 (fun _ _ => false)) 1000 11 (lower_Rune_A.enc (x0, (x1, ()))) [] (resK lower_Rune_B true K) = lower_Rune_m K (lower_Rune_F x0 x1) := by
  unfold lower_Rune_F
  exact Eq.trans (by kernel_rfl) (optK_push (lower_Rune_m K) rfl _ fun y0 => (cond_push (lower_Rune_m K) _ (cond_push (lower_Rune_m K) _ rfl (cond_push (lower_Rune_m K) _ rfl (optK_push (lower_Rune_m K) rfl _ fun y1 => rfl))) (optK_push (lower_Rune_m K) rfl _ fun y2 => rfl)))
noncomputable def lower_Rune_G : GoF lower_Rune_A lower_Rune_B := fun R (x : (Int × (Int × Unit))) K => lower_Rune_m K (hide lower_Rune_F x.1 x.2.1)
theorem lower_Rune_known : Known Try.prog 11 lower_Rune_A lower_Rune_B true lower_Rune_G := known_of (envL_ok sums4_ok ll0_ok cs0_ok) (n := 1000) rfl fun R (x : (Int × (Int × Unit))) K => by
  show _ = lower_Rune_m K (hide lower_Rune_F x.1 x.2.1)
  rw [hide_eq]
  exact lower_Rune_run x.1 x.2.1 K

noncomputable def color_Lower_F (x0 : Int) (x1 : Int) : Option (Int) := (bif (decide (x1 < (1 : Int))) then (some ((-1 : Int))) else (bif (decide (x0 < (0 : Int))) then (some x0) else (bif (decide (x0 < x1)) then (some x0) else (optK ((hide color_Nearest_F x0 x1)) fun y0 => (some y0)))))
noncomputable def color_Lower_A : SkL := (.cons (.int .i64) (.cons (.int .i64) .nil))
noncomputable def color_Lower_B : Sk := (.int .i64)
def color_Lower_m {R : Type} (K : Int → Option R) (o : Option (Int)) : Option R := optK o fun y => K y
theorem color_Lower_run {R : Type} (x0 : Int) (x1 : Int) (K : Int → Option R) : acall (envL sums4 ll0 cs0 (fun _ _ => false)) 1000 28 (color_Lower_A.enc (x0, (x1, ()))) [] (resK color_Lower_B true K) = color_Lower_m K (color_Lower_F x0 x1) := by
  unfold color_Lower_F
  exact Eq.trans (by kernel_rfl) (cond_push (color_Lower_m K) _ rfl (cond_push (color_Lower_m K) _ rfl (cond_push (color_Lower_m K) _ rfl (optK_push (color_Lower_m K) rfl _ fun y0 => rfl))))
noncomputable def color_Lower_G : GoF color_Lower_A color_Lower_B := fun R (x : (Int × (Int × Unit))) K => color_Lower_m K (hide color_Lower_F x.1 x.2.1)
theorem color_Lower_known : Known Try.prog 28 color_Lower_A color_Lower_B true color_Lower_G := known_of (envL_ok sums4_ok ll0_ok cs0_ok) (n := 1000) rfl fun R (x : (Int × (Int × Unit))) K => by
  show _ = color_Lower_m K (hide color_Lower_F x.1 x.2.1)
  rw [hide_eq]
  exact color_Lower_run x.1 x.2.1 K

noncomputable def linguistref15_Pen_F (x0 : Int) (x1 : Int) (x2 : Int) (x3 : Int) : Option (Int × Int × Int) := (bif (x0 == (1 : Int)) then (some (((-1 : Int)), ((-1 : Int)), (bitsOp BinOp.and IntKind.i64 x3 (57 : Int)))) else (bif (x0 == (2 : Int)) then (optK ((hide linguistref1_Lower_F x1 (8 : Int))) fun y0 => (optK ((hide linguistref1_Lower_F x2 (8 : Int))) fun y1 => (some (y0, y1, (bitsOp BinOp.and IntKind.i64 x3 (57 : Int)))))) else (some (((-1 : Int)), ((-1 : Int)), (0 : Int)))))
noncomputable def linguistref15_Pen_A : SkL := (.cons (.int .i64) (.cons (.agg (.cons (.int .i64) (.cons (.int .i64) (.cons (.int .i64) .nil)))) .nil))
noncomputable def linguistref15_Pen_B : Sk := (.agg (.cons (.int .i64) (.cons (.int .i64) (.cons (.int .i64) .nil))))
def linguistref15_Pen_m {R : Type} (K : (Int × (Int × (Int × Unit))) → Option R) (o : Option (Int × Int × Int)) : Option R := optK o fun y => K (y.1, (y.2.1, (y.2.2, ())))
theorem linguistref15_Pen_run {R : Type} (x0 : Int) (x1 : Int) (x2 : Int) (x3 : Int) (K : (Int × (Int × (Int × Unit))) → Option R) : acall (envL sums4 ll0 cs0 (fun _ _ => false)) 1000 20 (linguistref15_Pen_A.enc (x0, ((x1, (x2, (x3, ()))), ()))) [] (resK linguistref15_Pen_B true K) = linguistref15_Pen_m K (linguistref15_Pen_F x0 x1 x2 x3) := by
  unfold linguistref15_Pen_F
  exact Eq.trans (by kernel_rfl) (cond_push (linguistref15_Pen_m K) _ rfl (cond_push (linguistref15_Pen_m K) _ (optK_push (linguistref15_Pen_m K) rfl _ fun y0 => (optK_push (linguistref15_Pen_m K) rfl _ fun y1 => rfl)) rfl))
noncomputable def linguistref15_Pen_G : GoF linguistref15_Pen_A linguistref15_Pen_B := fun R (x : (Int × ((Int × (Int × (Int × Unit))) × Unit))) K => linguistref15_Pen_m K (hide linguistref15_Pen_F x.1 x.2.1.1 x.2.1.2.1 x.2.1.2.2.1)
theorem linguistref15_Pen_known : Known Try.prog 20 linguistref15_Pen_A linguistref15_Pen_B true linguistref15_Pen_G := known_of (envL_ok sums4_ok ll0_ok cs0_ok) (n := 1000) rfl fun R (x : (Int × ((Int × (Int × (Int × Unit))) × Unit))) K => by
  show _ = linguistref15_Pen_m K (hide linguistref15_Pen_F x.1 x.2.1.1 x.2.1.2.1 x.2.1.2.2.1)
  rw [hide_eq]
  exact linguistref15_Pen_run x.1 x.2.1.1 x.2.1.2.1 x.2.1.2.2.1 K
end Go.Proofs.YtlpmhldejeaefaaAbs

-- Written by a program of this session (dec.py); Lean checks it.
namespace Go.Proofs.YtlpmhldejeaefaaAbs
open Go Go.Proofs
set_option linter.unusedVariables false
set_option maxHeartbeats 2000000
noncomputable def sums5 : SumT := (33, sumH linguistkeep_Grid_Grid_A linguistkeep_Grid_Grid_B true linguistkeep_Grid_Grid_G) :: (11, sumH lower_Rune_A lower_Rune_B true lower_Rune_G) :: (28, sumH color_Lower_A color_Lower_B true color_Lower_G) :: (20, sumH linguistref15_Pen_A linguistref15_Pen_B true linguistref15_Pen_G) :: sums4
theorem sums5_ok : AllSum Try.prog sums5 := ⟨sumH_ok rfl rfl linguistkeep_Grid_Grid_known, ⟨sumH_ok rfl rfl lower_Rune_known, ⟨sumH_ok rfl rfl color_Lower_known, ⟨sumH_ok rfl rfl linguistref15_Pen_known, sums4_ok⟩⟩⟩⟩
end Go.Proofs.YtlpmhldejeaefaaAbs

-- Written by a program of this session (dec.py); Lean checks it.
namespace Go.Proofs.YtlpmhldejeaefaaAbs
open Go Go.Proofs
set_option linter.unusedVariables false
set_option maxHeartbeats 2000000
noncomputable def linguistkeep_Screen_Screen_b13 : Code := ((Try.f15.body.map fun b => tailsAt b 13).getD []).headD .skip
theorem linguistkeep_Screen_Screen_b13_is : (Try.f15.body.map fun b => tailsAt b 13) = some [linguistkeep_Screen_Screen_b13] := by kernel_rfl
noncomputable def linguistkeep_Screen_Screen_t13 : SkSt := ⟨(.gap 1 (.cst (.ptr 0 0) (.cst (.ptr 1 0) (.cst (.ptr 2 0) (.cst (.ptr 3 0) (.cons (.int .i64) (.gap 116 .nil))))))), (.var 40 (.cons (.int .i64) (.cons (.int .i64) (.cons (.list (.one (.int .i64))) (.cons (.list (.one (.int .i64))) (.cons (.int .i64) (.cons (.int .i64) (.cons (.int .i64) (.cons (.int .i64) (.cons (.int .i64) (.cons (.int .i64) (.cons (.int .i64) (.cons (.int .i64) (.cons (.int .u64) .nil))))))))))))) (.var 48 (.cons (.int .i64) (.cons (.int .i64) (.cst (.own 4 26 (.cons (.int .i32) (.cons (.int .i64) (.cons (.int .i64) (.cons (.int .i64) (.one (.int .i64))))))) (.cons (.int .i64) (.cons (.int .i64) (.cons .bool (.cons (.int .i64) (.cons (.int .i64) (.cons (.int .i64) (.cons (.int .i64) (.cons (.int .i64) (.cons (.int .u64) (.cons (.int .u8) (.cons (.int .u8) (.cons (.int .i64) (.cons .bool (.cons .bool (.cons .bool (.cons .bool (.cons .bool (.cons (.int .i64) (.cons (.int .i64) (.cons (.int .i64) (.cons (.int .i64) (.cons (.int .i64) (.cons (.int .u8) (.cons (.int .u8) (.cons (.int .i64) (.cons .bool .nil))))))))))))))))))))))))))))) (.var 43 (.cons (.int .i64) (.cons (.int .i64) (.cons (.list (.cons (.int .i32) (.cons (.int .i64) (.cons (.int .i64) (.cons (.int .i64) (.one (.int .i64))))))) .nil))) (.var 48 (.cons (.int .i64) (.cons (.int .i64) (.cons (.list (.cons (.int .i32) (.cons (.int .i64) (.cons (.int .i64) (.cons (.int .i64) (.one (.int .i64))))))) (.cons (.int .i64) (.cons (.int .i64) (.cons .bool (.cons (.int .i64) (.cons (.int .i64) (.cons (.int .i64) (.cons (.int .i64) (.cons (.int .i64) (.cons (.int .u64) (.cons (.int .u8) (.cons (.int .u8) (.cons (.int .i64) (.cons .bool (.cons .bool (.cons .bool (.cons .bool (.cons .bool (.cons (.int .i64) (.cons (.int .i64) (.cons (.int .i64) (.cons (.int .i64) (.cons (.int .i64) (.cons (.int .u8) (.cons (.int .u8) (.cons (.int .i64) (.cons .bool .nil))))))))))))))))))))))))))))) (.arr 26 (.cons (.int .i32) (.cons (.int .i64) (.cons (.int .i64) (.cons (.int .i64) (.one (.int .i64)))))) .nil)))))⟩
noncomputable def linguistkeep_Screen_Screen_y13_0 : SkSt := ⟨(.gap 2 (.cst (.ptr 0 0) (.gap 119 .nil))), (.var 48 (.cons (.int .i64) (.cons (.int .i64) (.cons (.list (.cons (.int .i32) (.cons (.int .i64) (.cons (.int .i64) (.cons (.int .i64) (.one (.int .i64))))))) (.cons (.int .i64) (.cons (.int .i64) (.cons .bool (.cons (.int .i64) (.cons (.int .i64) (.cons (.int .i64) (.cons (.int .i64) (.cons (.int .i64) (.cons (.int .u64) (.cons (.int .u8) (.cons (.int .u8) (.cons (.int .i64) (.cons .bool (.cons .bool (.cons .bool (.cons .bool (.cons .bool (.cons (.int .i64) (.cons (.int .i64) (.cons (.int .i64) (.cons (.int .i64) (.cons (.int .i64) (.cons (.int .u8) (.cons (.int .u8) (.cons (.int .i64) (.cons .bool .nil))))))))))))))))))))))))))))) .nil)⟩
noncomputable def linguistkeep_Screen_Screen_ys13 : List (Ex × SkSt) := [(.ret, linguistkeep_Screen_Screen_y13_0)]
noncomputable def linguistkeep_Screen_Screen_J13 (a0 : Int) (a1 : Int) (a2 : Int) (a3 : List (Int)) (a4 : List (Int)) (a5 : Int) (a6 : Int) (a7 : Int) (a8 : Int) (a9 : Int) (a10 : Int) (a11 : Int) (a12 : Int) (a13 : Int) (a14 : Int) (a15 : Int) (a16 : Int) (a17 : Int) (a18 : Bool) (a19 : Int) (a20 : Int) (a21 : Int) (a22 : Int) (a23 : Int) (a24 : Int) (a25 : Int) (a26 : Int) (a27 : Int) (a28 : Bool) (a29 : Bool) (a30 : Bool) (a31 : Bool) (a32 : Bool) (a33 : Int) (a34 : Int) (a35 : Int) (a36 : Int) (a37 : Int) (a38 : Int) (a39 : Int) (a40 : Int) (a41 : Bool) (a42 : Int) (a43 : Int) (a44 : List (Int × Int × Int × Int × Int)) (a45 : Int) (a46 : Int) (a47 : List (Int × Int × Int × Int × Int)) (a48 : Int) (a49 : Int) (a50 : Bool) (a51 : Int) (a52 : Int) (a53 : Int) (a54 : Int) (a55 : Int) (a56 : Int) (a57 : Int) (a58 : Int) (a59 : Int) (a60 : Bool) (a61 : Bool) (a62 : Bool) (a63 : Bool) (a64 : Bool) (a65 : Int) (a66 : Int) (a67 : Int) (a68 : Int) (a69 : Int) (a70 : Int) (a71 : Int) (a72 : Int) (a73 : Bool) (a74 : List (Int × Int × Int × Int × Int)) : Option (Int × Int × (List (Int × Int × Int × Int × Int)) × Int × Int × Bool × Int × Int × Int × Int × Int × Int × Int × Int × Int × Bool × Bool × Bool × Bool × Bool × Int × Int × Int × Int × Int × Int × Int × Int × Bool) := (optK ((hide linguistbook_Within_F a6 (0 : Int) (IntKind.i64.wrap (a42 - (1 : Int))))) fun y9 => (optK ((hide linguistbook_Within_F a5 (0 : Int) (IntKind.i64.wrap (a43 - (1 : Int))))) fun y10 => (optK ((hide linguistkeep_Pen_Pen_F a9 (0 : Int) (0 : Int))) fun y11 => (some (a45, a46, a47, a48, a49, a50, a51, a52, a53, a54, a55, a56, a57, a58, a59, a60, a61, a62, a63, a64, y9, y10, (y11.1), (y11.2.1), (y11.2.2), ((66 : Int)), ((48 : Int)), (0 : Int), (bitsOp BinOp.and IntKind.i64 a0 (256 : Int) == (256 : Int)))))))
noncomputable def linguistkeep_Screen_Screen_k13 {R : Type} (K : Ex → St → Option R) (o : Option (Int × Int × (List (Int × Int × Int × Int × Int)) × Int × Int × Bool × Int × Int × Int × Int × Int × Int × Int × Int × Int × Bool × Bool × Bool × Bool × Bool × Int × Int × Int × Int × Int × Int × Int × Int × Bool)) : Option R := optK o fun y => K (.ret) (linguistkeep_Screen_Screen_y13_0.enc ((), ((y.1, (y.2.1, (y.2.2.1, (y.2.2.2.1, (y.2.2.2.2.1, (y.2.2.2.2.2.1, (y.2.2.2.2.2.2.1, (y.2.2.2.2.2.2.2.1, (y.2.2.2.2.2.2.2.2.1, (y.2.2.2.2.2.2.2.2.2.1, (y.2.2.2.2.2.2.2.2.2.2.1, (y.2.2.2.2.2.2.2.2.2.2.2.1, (y.2.2.2.2.2.2.2.2.2.2.2.2.1, (y.2.2.2.2.2.2.2.2.2.2.2.2.2.1, (y.2.2.2.2.2.2.2.2.2.2.2.2.2.2.1, (y.2.2.2.2.2.2.2.2.2.2.2.2.2.2.2.1, (y.2.2.2.2.2.2.2.2.2.2.2.2.2.2.2.2.1, (y.2.2.2.2.2.2.2.2.2.2.2.2.2.2.2.2.2.1, (y.2.2.2.2.2.2.2.2.2.2.2.2.2.2.2.2.2.2.1, (y.2.2.2.2.2.2.2.2.2.2.2.2.2.2.2.2.2.2.2.1, (y.2.2.2.2.2.2.2.2.2.2.2.2.2.2.2.2.2.2.2.2.1, (y.2.2.2.2.2.2.2.2.2.2.2.2.2.2.2.2.2.2.2.2.2.1, (y.2.2.2.2.2.2.2.2.2.2.2.2.2.2.2.2.2.2.2.2.2.2.1, (y.2.2.2.2.2.2.2.2.2.2.2.2.2.2.2.2.2.2.2.2.2.2.2.1, (y.2.2.2.2.2.2.2.2.2.2.2.2.2.2.2.2.2.2.2.2.2.2.2.2.1, (y.2.2.2.2.2.2.2.2.2.2.2.2.2.2.2.2.2.2.2.2.2.2.2.2.2.1, (y.2.2.2.2.2.2.2.2.2.2.2.2.2.2.2.2.2.2.2.2.2.2.2.2.2.2.1, (y.2.2.2.2.2.2.2.2.2.2.2.2.2.2.2.2.2.2.2.2.2.2.2.2.2.2.2.1, (y.2.2.2.2.2.2.2.2.2.2.2.2.2.2.2.2.2.2.2.2.2.2.2.2.2.2.2.2, ()))))))))))))))))))))))))))))), ())))
theorem linguistkeep_Screen_Screen_j13 {R : Type} (K : Ex → St → Option R) (a0 : Int) (a1 : Int) (a2 : Int) (a3 : List (Int)) (a4 : List (Int)) (a5 : Int) (a6 : Int) (a7 : Int) (a8 : Int) (a9 : Int) (a10 : Int) (a11 : Int) (a12 : Int) (a13 : Int) (a14 : Int) (a15 : Int) (a16 : Int) (a17 : Int) (a18 : Bool) (a19 : Int) (a20 : Int) (a21 : Int) (a22 : Int) (a23 : Int) (a24 : Int) (a25 : Int) (a26 : Int) (a27 : Int) (a28 : Bool) (a29 : Bool) (a30 : Bool) (a31 : Bool) (a32 : Bool) (a33 : Int) (a34 : Int) (a35 : Int) (a36 : Int) (a37 : Int) (a38 : Int) (a39 : Int) (a40 : Int) (a41 : Bool) (a42 : Int) (a43 : Int) (a44 : List (Int × Int × Int × Int × Int)) (a45 : Int) (a46 : Int) (a47 : List (Int × Int × Int × Int × Int)) (a48 : Int) (a49 : Int) (a50 : Bool) (a51 : Int) (a52 : Int) (a53 : Int) (a54 : Int) (a55 : Int) (a56 : Int) (a57 : Int) (a58 : Int) (a59 : Int) (a60 : Bool) (a61 : Bool) (a62 : Bool) (a63 : Bool) (a64 : Bool) (a65 : Int) (a66 : Int) (a67 : Int) (a68 : Int) (a69 : Int) (a70 : Int) (a71 : Int) (a72 : Int) (a73 : Bool) (a74 : List (Int × Int × Int × Int × Int)) : exec (envL sums5 ll0 cs0 (fun _ _ => false)) 15 (acall (envL sums5 ll0 cs0 (fun _ _ => false)) 1000) 0 linguistkeep_Screen_Screen_b13 (linguistkeep_Screen_Screen_t13.enc ((a0, ()), ((a1, (a2, (a3, (a4, (a5, (a6, (a7, (a8, (a9, (a10, (a11, (a12, (a13, ()))))))))))))), ((a14, (a15, (a16, (a17, (a18, (a19, (a20, (a21, (a22, (a23, (a24, (a25, (a26, (a27, (a28, (a29, (a30, (a31, (a32, (a33, (a34, (a35, (a36, (a37, (a38, (a39, (a40, (a41, ())))))))))))))))))))))))))))), ((a42, (a43, (a44, ()))), ((a45, (a46, (a47, (a48, (a49, (a50, (a51, (a52, (a53, (a54, (a55, (a56, (a57, (a58, (a59, (a60, (a61, (a62, (a63, (a64, (a65, (a66, (a67, (a68, (a69, (a70, (a71, (a72, (a73, ()))))))))))))))))))))))))))))), (a74, ()))))))) (exitK linguistkeep_Screen_Screen_ys13 0 K) = linguistkeep_Screen_Screen_k13 K (linguistkeep_Screen_Screen_J13 a0 a1 a2 a3 a4 a5 a6 a7 a8 a9 a10 a11 a12 a13 a14 a15 a16 a17 a18 a19 a20 a21 a22 a23 a24 a25 a26 a27 a28 a29 a30 a31 a32 a33 a34 a35 a36 a37 a38 a39 a40 a41 a42 a43 a44 a45 a46 a47 a48 a49 a50 a51 a52 a53 a54 a55 a56 a57 a58 a59 a60 a61 a62 a63 a64 a65 a66 a67 a68 a69 a70 a71 a72 a73 a74) := by
    unfold linguistkeep_Screen_Screen_J13
    exact Eq.trans (by kernel_rfl) (optK_push (linguistkeep_Screen_Screen_k13 K) rfl _ fun y9 => (optK_push (linguistkeep_Screen_Screen_k13 K) rfl _ fun y10 => (optK_push (linguistkeep_Screen_Screen_k13 K) rfl _ fun y11 => rfl)))
noncomputable def linguistkeep_Screen_Screen_D13 : GoL linguistkeep_Screen_Screen_t13 := fun R (x : ((Int × Unit) × ((Int × (Int × (List (Int) × (List (Int) × (Int × (Int × (Int × (Int × (Int × (Int × (Int × (Int × (Int × Unit))))))))))))) × ((Int × (Int × (Int × (Int × (Bool × (Int × (Int × (Int × (Int × (Int × (Int × (Int × (Int × (Int × (Bool × (Bool × (Bool × (Bool × (Bool × (Int × (Int × (Int × (Int × (Int × (Int × (Int × (Int × (Bool × Unit)))))))))))))))))))))))))))) × ((Int × (Int × (List (Int × Int × Int × Int × Int) × Unit))) × ((Int × (Int × (List (Int × Int × Int × Int × Int) × (Int × (Int × (Bool × (Int × (Int × (Int × (Int × (Int × (Int × (Int × (Int × (Int × (Bool × (Bool × (Bool × (Bool × (Bool × (Int × (Int × (Int × (Int × (Int × (Int × (Int × (Int × (Bool × Unit))))))))))))))))))))))))))))) × (List (Int × Int × Int × Int × Int) × Unit))))))) K => linguistkeep_Screen_Screen_k13 K (hide linguistkeep_Screen_Screen_J13 x.1.1 x.2.1.1 x.2.1.2.1 x.2.1.2.2.1 x.2.1.2.2.2.1 x.2.1.2.2.2.2.1 x.2.1.2.2.2.2.2.1 x.2.1.2.2.2.2.2.2.1 x.2.1.2.2.2.2.2.2.2.1 x.2.1.2.2.2.2.2.2.2.2.1 x.2.1.2.2.2.2.2.2.2.2.2.1 x.2.1.2.2.2.2.2.2.2.2.2.2.1 x.2.1.2.2.2.2.2.2.2.2.2.2.2.1 x.2.1.2.2.2.2.2.2.2.2.2.2.2.2.1 x.2.2.1.1 x.2.2.1.2.1 x.2.2.1.2.2.1 x.2.2.1.2.2.2.1 x.2.2.1.2.2.2.2.1 x.2.2.1.2.2.2.2.2.1 x.2.2.1.2.2.2.2.2.2.1 x.2.2.1.2.2.2.2.2.2.2.1 x.2.2.1.2.2.2.2.2.2.2.2.1 x.2.2.1.2.2.2.2.2.2.2.2.2.1 x.2.2.1.2.2.2.2.2.2.2.2.2.2.1 x.2.2.1.2.2.2.2.2.2.2.2.2.2.2.1 x.2.2.1.2.2.2.2.2.2.2.2.2.2.2.2.1 x.2.2.1.2.2.2.2.2.2.2.2.2.2.2.2.2.1 x.2.2.1.2.2.2.2.2.2.2.2.2.2.2.2.2.2.1 x.2.2.1.2.2.2.2.2.2.2.2.2.2.2.2.2.2.2.1 x.2.2.1.2.2.2.2.2.2.2.2.2.2.2.2.2.2.2.2.1 x.2.2.1.2.2.2.2.2.2.2.2.2.2.2.2.2.2.2.2.2.1 x.2.2.1.2.2.2.2.2.2.2.2.2.2.2.2.2.2.2.2.2.2.1 x.2.2.1.2.2.2.2.2.2.2.2.2.2.2.2.2.2.2.2.2.2.2.1 x.2.2.1.2.2.2.2.2.2.2.2.2.2.2.2.2.2.2.2.2.2.2.2.1 x.2.2.1.2.2.2.2.2.2.2.2.2.2.2.2.2.2.2.2.2.2.2.2.2.1 x.2.2.1.2.2.2.2.2.2.2.2.2.2.2.2.2.2.2.2.2.2.2.2.2.2.1 x.2.2.1.2.2.2.2.2.2.2.2.2.2.2.2.2.2.2.2.2.2.2.2.2.2.2.1 x.2.2.1.2.2.2.2.2.2.2.2.2.2.2.2.2.2.2.2.2.2.2.2.2.2.2.2.1 x.2.2.1.2.2.2.2.2.2.2.2.2.2.2.2.2.2.2.2.2.2.2.2.2.2.2.2.2.1 x.2.2.1.2.2.2.2.2.2.2.2.2.2.2.2.2.2.2.2.2.2.2.2.2.2.2.2.2.2.1 x.2.2.1.2.2.2.2.2.2.2.2.2.2.2.2.2.2.2.2.2.2.2.2.2.2.2.2.2.2.2.1 x.2.2.2.1.1 x.2.2.2.1.2.1 x.2.2.2.1.2.2.1 x.2.2.2.2.1.1 x.2.2.2.2.1.2.1 x.2.2.2.2.1.2.2.1 x.2.2.2.2.1.2.2.2.1 x.2.2.2.2.1.2.2.2.2.1 x.2.2.2.2.1.2.2.2.2.2.1 x.2.2.2.2.1.2.2.2.2.2.2.1 x.2.2.2.2.1.2.2.2.2.2.2.2.1 x.2.2.2.2.1.2.2.2.2.2.2.2.2.1 x.2.2.2.2.1.2.2.2.2.2.2.2.2.2.1 x.2.2.2.2.1.2.2.2.2.2.2.2.2.2.2.1 x.2.2.2.2.1.2.2.2.2.2.2.2.2.2.2.2.1 x.2.2.2.2.1.2.2.2.2.2.2.2.2.2.2.2.2.1 x.2.2.2.2.1.2.2.2.2.2.2.2.2.2.2.2.2.2.1 x.2.2.2.2.1.2.2.2.2.2.2.2.2.2.2.2.2.2.2.1 x.2.2.2.2.1.2.2.2.2.2.2.2.2.2.2.2.2.2.2.2.1 x.2.2.2.2.1.2.2.2.2.2.2.2.2.2.2.2.2.2.2.2.2.1 x.2.2.2.2.1.2.2.2.2.2.2.2.2.2.2.2.2.2.2.2.2.2.1 x.2.2.2.2.1.2.2.2.2.2.2.2.2.2.2.2.2.2.2.2.2.2.2.1 x.2.2.2.2.1.2.2.2.2.2.2.2.2.2.2.2.2.2.2.2.2.2.2.2.1 x.2.2.2.2.1.2.2.2.2.2.2.2.2.2.2.2.2.2.2.2.2.2.2.2.2.1 x.2.2.2.2.1.2.2.2.2.2.2.2.2.2.2.2.2.2.2.2.2.2.2.2.2.2.1 x.2.2.2.2.1.2.2.2.2.2.2.2.2.2.2.2.2.2.2.2.2.2.2.2.2.2.2.1 x.2.2.2.2.1.2.2.2.2.2.2.2.2.2.2.2.2.2.2.2.2.2.2.2.2.2.2.2.1 x.2.2.2.2.1.2.2.2.2.2.2.2.2.2.2.2.2.2.2.2.2.2.2.2.2.2.2.2.2.1 x.2.2.2.2.1.2.2.2.2.2.2.2.2.2.2.2.2.2.2.2.2.2.2.2.2.2.2.2.2.2.1 x.2.2.2.2.1.2.2.2.2.2.2.2.2.2.2.2.2.2.2.2.2.2.2.2.2.2.2.2.2.2.2.1 x.2.2.2.2.1.2.2.2.2.2.2.2.2.2.2.2.2.2.2.2.2.2.2.2.2.2.2.2.2.2.2.2.1 x.2.2.2.2.1.2.2.2.2.2.2.2.2.2.2.2.2.2.2.2.2.2.2.2.2.2.2.2.2.2.2.2.2.1 x.2.2.2.2.2.1)
theorem linguistkeep_Screen_Screen_C13 : CutOk Try.prog 15 13 (loopH linguistkeep_Screen_Screen_t13 0 linguistkeep_Screen_Screen_D13) := cut_known (envL_ok sums5_ok ll0_ok cs0_ok) (N := 1000) Try.func15 rfl linguistkeep_Screen_Screen_b13_is (xs := linguistkeep_Screen_Screen_ys13) fun R (x : ((Int × Unit) × ((Int × (Int × (List (Int) × (List (Int) × (Int × (Int × (Int × (Int × (Int × (Int × (Int × (Int × (Int × Unit))))))))))))) × ((Int × (Int × (Int × (Int × (Bool × (Int × (Int × (Int × (Int × (Int × (Int × (Int × (Int × (Int × (Bool × (Bool × (Bool × (Bool × (Bool × (Int × (Int × (Int × (Int × (Int × (Int × (Int × (Int × (Bool × Unit)))))))))))))))))))))))))))) × ((Int × (Int × (List (Int × Int × Int × Int × Int) × Unit))) × ((Int × (Int × (List (Int × Int × Int × Int × Int) × (Int × (Int × (Bool × (Int × (Int × (Int × (Int × (Int × (Int × (Int × (Int × (Int × (Bool × (Bool × (Bool × (Bool × (Bool × (Int × (Int × (Int × (Int × (Int × (Int × (Int × (Int × (Bool × Unit))))))))))))))))))))))))))))) × (List (Int × Int × Int × Int × Int) × Unit))))))) K => by
  show linguistkeep_Screen_Screen_k13 K (hide linguistkeep_Screen_Screen_J13 x.1.1 x.2.1.1 x.2.1.2.1 x.2.1.2.2.1 x.2.1.2.2.2.1 x.2.1.2.2.2.2.1 x.2.1.2.2.2.2.2.1 x.2.1.2.2.2.2.2.2.1 x.2.1.2.2.2.2.2.2.2.1 x.2.1.2.2.2.2.2.2.2.2.1 x.2.1.2.2.2.2.2.2.2.2.2.1 x.2.1.2.2.2.2.2.2.2.2.2.2.1 x.2.1.2.2.2.2.2.2.2.2.2.2.2.1 x.2.1.2.2.2.2.2.2.2.2.2.2.2.2.1 x.2.2.1.1 x.2.2.1.2.1 x.2.2.1.2.2.1 x.2.2.1.2.2.2.1 x.2.2.1.2.2.2.2.1 x.2.2.1.2.2.2.2.2.1 x.2.2.1.2.2.2.2.2.2.1 x.2.2.1.2.2.2.2.2.2.2.1 x.2.2.1.2.2.2.2.2.2.2.2.1 x.2.2.1.2.2.2.2.2.2.2.2.2.1 x.2.2.1.2.2.2.2.2.2.2.2.2.2.1 x.2.2.1.2.2.2.2.2.2.2.2.2.2.2.1 x.2.2.1.2.2.2.2.2.2.2.2.2.2.2.2.1 x.2.2.1.2.2.2.2.2.2.2.2.2.2.2.2.2.1 x.2.2.1.2.2.2.2.2.2.2.2.2.2.2.2.2.2.1 x.2.2.1.2.2.2.2.2.2.2.2.2.2.2.2.2.2.2.1 x.2.2.1.2.2.2.2.2.2.2.2.2.2.2.2.2.2.2.2.1 x.2.2.1.2.2.2.2.2.2.2.2.2.2.2.2.2.2.2.2.2.1 x.2.2.1.2.2.2.2.2.2.2.2.2.2.2.2.2.2.2.2.2.2.1 x.2.2.1.2.2.2.2.2.2.2.2.2.2.2.2.2.2.2.2.2.2.2.1 x.2.2.1.2.2.2.2.2.2.2.2.2.2.2.2.2.2.2.2.2.2.2.2.1 x.2.2.1.2.2.2.2.2.2.2.2.2.2.2.2.2.2.2.2.2.2.2.2.2.1 x.2.2.1.2.2.2.2.2.2.2.2.2.2.2.2.2.2.2.2.2.2.2.2.2.2.1 x.2.2.1.2.2.2.2.2.2.2.2.2.2.2.2.2.2.2.2.2.2.2.2.2.2.2.1 x.2.2.1.2.2.2.2.2.2.2.2.2.2.2.2.2.2.2.2.2.2.2.2.2.2.2.2.1 x.2.2.1.2.2.2.2.2.2.2.2.2.2.2.2.2.2.2.2.2.2.2.2.2.2.2.2.2.1 x.2.2.1.2.2.2.2.2.2.2.2.2.2.2.2.2.2.2.2.2.2.2.2.2.2.2.2.2.2.1 x.2.2.1.2.2.2.2.2.2.2.2.2.2.2.2.2.2.2.2.2.2.2.2.2.2.2.2.2.2.2.1 x.2.2.2.1.1 x.2.2.2.1.2.1 x.2.2.2.1.2.2.1 x.2.2.2.2.1.1 x.2.2.2.2.1.2.1 x.2.2.2.2.1.2.2.1 x.2.2.2.2.1.2.2.2.1 x.2.2.2.2.1.2.2.2.2.1 x.2.2.2.2.1.2.2.2.2.2.1 x.2.2.2.2.1.2.2.2.2.2.2.1 x.2.2.2.2.1.2.2.2.2.2.2.2.1 x.2.2.2.2.1.2.2.2.2.2.2.2.2.1 x.2.2.2.2.1.2.2.2.2.2.2.2.2.2.1 x.2.2.2.2.1.2.2.2.2.2.2.2.2.2.2.1 x.2.2.2.2.1.2.2.2.2.2.2.2.2.2.2.2.1 x.2.2.2.2.1.2.2.2.2.2.2.2.2.2.2.2.2.1 x.2.2.2.2.1.2.2.2.2.2.2.2.2.2.2.2.2.2.1 x.2.2.2.2.1.2.2.2.2.2.2.2.2.2.2.2.2.2.2.1 x.2.2.2.2.1.2.2.2.2.2.2.2.2.2.2.2.2.2.2.2.1 x.2.2.2.2.1.2.2.2.2.2.2.2.2.2.2.2.2.2.2.2.2.1 x.2.2.2.2.1.2.2.2.2.2.2.2.2.2.2.2.2.2.2.2.2.2.1 x.2.2.2.2.1.2.2.2.2.2.2.2.2.2.2.2.2.2.2.2.2.2.2.1 x.2.2.2.2.1.2.2.2.2.2.2.2.2.2.2.2.2.2.2.2.2.2.2.2.1 x.2.2.2.2.1.2.2.2.2.2.2.2.2.2.2.2.2.2.2.2.2.2.2.2.2.1 x.2.2.2.2.1.2.2.2.2.2.2.2.2.2.2.2.2.2.2.2.2.2.2.2.2.2.1 x.2.2.2.2.1.2.2.2.2.2.2.2.2.2.2.2.2.2.2.2.2.2.2.2.2.2.2.1 x.2.2.2.2.1.2.2.2.2.2.2.2.2.2.2.2.2.2.2.2.2.2.2.2.2.2.2.2.1 x.2.2.2.2.1.2.2.2.2.2.2.2.2.2.2.2.2.2.2.2.2.2.2.2.2.2.2.2.2.1 x.2.2.2.2.1.2.2.2.2.2.2.2.2.2.2.2.2.2.2.2.2.2.2.2.2.2.2.2.2.2.1 x.2.2.2.2.1.2.2.2.2.2.2.2.2.2.2.2.2.2.2.2.2.2.2.2.2.2.2.2.2.2.2.1 x.2.2.2.2.1.2.2.2.2.2.2.2.2.2.2.2.2.2.2.2.2.2.2.2.2.2.2.2.2.2.2.2.1 x.2.2.2.2.1.2.2.2.2.2.2.2.2.2.2.2.2.2.2.2.2.2.2.2.2.2.2.2.2.2.2.2.2.1 x.2.2.2.2.2.1) = _
  rw [hide_eq]
  exact (linguistkeep_Screen_Screen_j13 K x.1.1 x.2.1.1 x.2.1.2.1 x.2.1.2.2.1 x.2.1.2.2.2.1 x.2.1.2.2.2.2.1 x.2.1.2.2.2.2.2.1 x.2.1.2.2.2.2.2.2.1 x.2.1.2.2.2.2.2.2.2.1 x.2.1.2.2.2.2.2.2.2.2.1 x.2.1.2.2.2.2.2.2.2.2.2.1 x.2.1.2.2.2.2.2.2.2.2.2.2.1 x.2.1.2.2.2.2.2.2.2.2.2.2.2.1 x.2.1.2.2.2.2.2.2.2.2.2.2.2.2.1 x.2.2.1.1 x.2.2.1.2.1 x.2.2.1.2.2.1 x.2.2.1.2.2.2.1 x.2.2.1.2.2.2.2.1 x.2.2.1.2.2.2.2.2.1 x.2.2.1.2.2.2.2.2.2.1 x.2.2.1.2.2.2.2.2.2.2.1 x.2.2.1.2.2.2.2.2.2.2.2.1 x.2.2.1.2.2.2.2.2.2.2.2.2.1 x.2.2.1.2.2.2.2.2.2.2.2.2.2.1 x.2.2.1.2.2.2.2.2.2.2.2.2.2.2.1 x.2.2.1.2.2.2.2.2.2.2.2.2.2.2.2.1 x.2.2.1.2.2.2.2.2.2.2.2.2.2.2.2.2.1 x.2.2.1.2.2.2.2.2.2.2.2.2.2.2.2.2.2.1 x.2.2.1.2.2.2.2.2.2.2.2.2.2.2.2.2.2.2.1 x.2.2.1.2.2.2.2.2.2.2.2.2.2.2.2.2.2.2.2.1 x.2.2.1.2.2.2.2.2.2.2.2.2.2.2.2.2.2.2.2.2.1 x.2.2.1.2.2.2.2.2.2.2.2.2.2.2.2.2.2.2.2.2.2.1 x.2.2.1.2.2.2.2.2.2.2.2.2.2.2.2.2.2.2.2.2.2.2.1 x.2.2.1.2.2.2.2.2.2.2.2.2.2.2.2.2.2.2.2.2.2.2.2.1 x.2.2.1.2.2.2.2.2.2.2.2.2.2.2.2.2.2.2.2.2.2.2.2.2.1 x.2.2.1.2.2.2.2.2.2.2.2.2.2.2.2.2.2.2.2.2.2.2.2.2.2.1 x.2.2.1.2.2.2.2.2.2.2.2.2.2.2.2.2.2.2.2.2.2.2.2.2.2.2.1 x.2.2.1.2.2.2.2.2.2.2.2.2.2.2.2.2.2.2.2.2.2.2.2.2.2.2.2.1 x.2.2.1.2.2.2.2.2.2.2.2.2.2.2.2.2.2.2.2.2.2.2.2.2.2.2.2.2.1 x.2.2.1.2.2.2.2.2.2.2.2.2.2.2.2.2.2.2.2.2.2.2.2.2.2.2.2.2.2.1 x.2.2.1.2.2.2.2.2.2.2.2.2.2.2.2.2.2.2.2.2.2.2.2.2.2.2.2.2.2.2.1 x.2.2.2.1.1 x.2.2.2.1.2.1 x.2.2.2.1.2.2.1 x.2.2.2.2.1.1 x.2.2.2.2.1.2.1 x.2.2.2.2.1.2.2.1 x.2.2.2.2.1.2.2.2.1 x.2.2.2.2.1.2.2.2.2.1 x.2.2.2.2.1.2.2.2.2.2.1 x.2.2.2.2.1.2.2.2.2.2.2.1 x.2.2.2.2.1.2.2.2.2.2.2.2.1 x.2.2.2.2.1.2.2.2.2.2.2.2.2.1 x.2.2.2.2.1.2.2.2.2.2.2.2.2.2.1 x.2.2.2.2.1.2.2.2.2.2.2.2.2.2.2.1 x.2.2.2.2.1.2.2.2.2.2.2.2.2.2.2.2.1 x.2.2.2.2.1.2.2.2.2.2.2.2.2.2.2.2.2.1 x.2.2.2.2.1.2.2.2.2.2.2.2.2.2.2.2.2.2.1 x.2.2.2.2.1.2.2.2.2.2.2.2.2.2.2.2.2.2.2.1 x.2.2.2.2.1.2.2.2.2.2.2.2.2.2.2.2.2.2.2.2.1 x.2.2.2.2.1.2.2.2.2.2.2.2.2.2.2.2.2.2.2.2.2.1 x.2.2.2.2.1.2.2.2.2.2.2.2.2.2.2.2.2.2.2.2.2.2.1 x.2.2.2.2.1.2.2.2.2.2.2.2.2.2.2.2.2.2.2.2.2.2.2.1 x.2.2.2.2.1.2.2.2.2.2.2.2.2.2.2.2.2.2.2.2.2.2.2.2.1 x.2.2.2.2.1.2.2.2.2.2.2.2.2.2.2.2.2.2.2.2.2.2.2.2.2.1 x.2.2.2.2.1.2.2.2.2.2.2.2.2.2.2.2.2.2.2.2.2.2.2.2.2.2.1 x.2.2.2.2.1.2.2.2.2.2.2.2.2.2.2.2.2.2.2.2.2.2.2.2.2.2.2.1 x.2.2.2.2.1.2.2.2.2.2.2.2.2.2.2.2.2.2.2.2.2.2.2.2.2.2.2.2.1 x.2.2.2.2.1.2.2.2.2.2.2.2.2.2.2.2.2.2.2.2.2.2.2.2.2.2.2.2.2.1 x.2.2.2.2.1.2.2.2.2.2.2.2.2.2.2.2.2.2.2.2.2.2.2.2.2.2.2.2.2.2.1 x.2.2.2.2.1.2.2.2.2.2.2.2.2.2.2.2.2.2.2.2.2.2.2.2.2.2.2.2.2.2.2.1 x.2.2.2.2.1.2.2.2.2.2.2.2.2.2.2.2.2.2.2.2.2.2.2.2.2.2.2.2.2.2.2.2.1 x.2.2.2.2.1.2.2.2.2.2.2.2.2.2.2.2.2.2.2.2.2.2.2.2.2.2.2.2.2.2.2.2.2.1 x.2.2.2.2.2.1).symm
noncomputable def linguistkeep_Screen_Screen_d13 : LoopF := loopH linguistkeep_Screen_Screen_t13 0 linguistkeep_Screen_Screen_D13
noncomputable def linguistkeep_Screen_Screen_cs1 : LoopT := ((15, 13), linguistkeep_Screen_Screen_d13) :: cs0
theorem linguistkeep_Screen_Screen_cs1_ok : AllCut Try.prog linguistkeep_Screen_Screen_cs1 := ⟨linguistkeep_Screen_Screen_C13, cs0_ok⟩
noncomputable def linguistkeep_Screen_Screen_b11 : Code := ((Try.f15.body.map fun b => tailsAt b 11).getD []).headD .skip
theorem linguistkeep_Screen_Screen_b11_is : (Try.f15.body.map fun b => tailsAt b 11) = some [linguistkeep_Screen_Screen_b11] := by kernel_rfl
noncomputable def linguistkeep_Screen_Screen_t11 : SkSt := ⟨(.gap 1 (.cst (.ptr 0 0) (.cst (.ptr 1 0) (.cst (.ptr 2 0) (.cst (.ptr 3 0) (.cons (.int .i64) (.gap 116 .nil))))))), (.var 40 (.cons (.int .i64) (.cons (.int .i64) (.cons (.list (.one (.int .i64))) (.cons (.list (.one (.int .i64))) (.cons (.int .i64) (.cons (.int .i64) (.cons (.int .i64) (.cons (.int .i64) (.cons (.int .i64) (.cons (.int .i64) (.cons (.int .i64) (.cons (.int .i64) (.cons (.int .u64) .nil))))))))))))) (.var 48 (.cons (.int .i64) (.cons (.int .i64) (.cst (.own 4 26 (.cons (.int .i32) (.cons (.int .i64) (.cons (.int .i64) (.cons (.int .i64) (.one (.int .i64))))))) (.cons (.int .i64) (.cons (.int .i64) (.cons .bool (.cons (.int .i64) (.cons (.int .i64) (.cons (.int .i64) (.cons (.int .i64) (.cons (.int .i64) (.cons (.int .u64) (.cons (.int .u8) (.cons (.int .u8) (.cons (.int .i64) (.cons .bool (.cons .bool (.cons .bool (.cons .bool (.cons .bool (.cons (.int .i64) (.cons (.int .i64) (.cons (.int .i64) (.cons (.int .i64) (.cons (.int .i64) (.cons (.int .u8) (.cons (.int .u8) (.cons (.int .i64) (.cons .bool .nil))))))))))))))))))))))))))))) (.var 43 (.cons (.int .i64) (.cons (.int .i64) (.cons (.list (.cons (.int .i32) (.cons (.int .i64) (.cons (.int .i64) (.cons (.int .i64) (.one (.int .i64))))))) .nil))) (.var 48 (.cons (.int .i64) (.cons (.int .i64) (.cons (.list (.cons (.int .i32) (.cons (.int .i64) (.cons (.int .i64) (.cons (.int .i64) (.one (.int .i64))))))) (.cons (.int .i64) (.cons (.int .i64) (.cons .bool (.cons (.int .i64) (.cons (.int .i64) (.cons (.int .i64) (.cons (.int .i64) (.cons (.int .i64) (.cons (.int .u64) (.cons (.int .u8) (.cons (.int .u8) (.cons (.int .i64) (.cons .bool (.cons .bool (.cons .bool (.cons .bool (.cons .bool (.cons (.int .i64) (.cons (.int .i64) (.cons (.int .i64) (.cons (.int .i64) (.cons (.int .i64) (.cons (.int .u8) (.cons (.int .u8) (.cons (.int .i64) (.cons .bool .nil))))))))))))))))))))))))))))) (.arr 26 (.cons (.int .i32) (.cons (.int .i64) (.cons (.int .i64) (.cons (.int .i64) (.one (.int .i64)))))) .nil)))))⟩
noncomputable def linguistkeep_Screen_Screen_y11_0 : SkSt := ⟨(.gap 2 (.cst (.ptr 0 0) (.gap 119 .nil))), (.var 48 (.cons (.int .i64) (.cons (.int .i64) (.cons (.list (.cons (.int .i32) (.cons (.int .i64) (.cons (.int .i64) (.cons (.int .i64) (.one (.int .i64))))))) (.cons (.int .i64) (.cons (.int .i64) (.cons .bool (.cons (.int .i64) (.cons (.int .i64) (.cons (.int .i64) (.cons (.int .i64) (.cons (.int .i64) (.cons (.int .u64) (.cons (.int .u8) (.cons (.int .u8) (.cons (.int .i64) (.cons .bool (.cons .bool (.cons .bool (.cons .bool (.cons .bool (.cons (.int .i64) (.cons (.int .i64) (.cons (.int .i64) (.cons (.int .i64) (.cons (.int .i64) (.cons (.int .u8) (.cons (.int .u8) (.cons (.int .i64) (.cons .bool .nil))))))))))))))))))))))))))))) .nil)⟩
noncomputable def linguistkeep_Screen_Screen_ys11 : List (Ex × SkSt) := [(.ret, linguistkeep_Screen_Screen_y11_0)]
noncomputable def linguistkeep_Screen_Screen_J11 (a0 : Int) (a1 : Int) (a2 : Int) (a3 : List (Int)) (a4 : List (Int)) (a5 : Int) (a6 : Int) (a7 : Int) (a8 : Int) (a9 : Int) (a10 : Int) (a11 : Int) (a12 : Int) (a13 : Int) (a14 : Int) (a15 : Int) (a16 : Int) (a17 : Int) (a18 : Bool) (a19 : Int) (a20 : Int) (a21 : Int) (a22 : Int) (a23 : Int) (a24 : Int) (a25 : Int) (a26 : Int) (a27 : Int) (a28 : Bool) (a29 : Bool) (a30 : Bool) (a31 : Bool) (a32 : Bool) (a33 : Int) (a34 : Int) (a35 : Int) (a36 : Int) (a37 : Int) (a38 : Int) (a39 : Int) (a40 : Int) (a41 : Bool) (a42 : Int) (a43 : Int) (a44 : List (Int × Int × Int × Int × Int)) (a45 : Int) (a46 : Int) (a47 : List (Int × Int × Int × Int × Int)) (a48 : Int) (a49 : Int) (a50 : Bool) (a51 : Int) (a52 : Int) (a53 : Int) (a54 : Int) (a55 : Int) (a56 : Int) (a57 : Int) (a58 : Int) (a59 : Int) (a60 : Bool) (a61 : Bool) (a62 : Bool) (a63 : Bool) (a64 : Bool) (a65 : Int) (a66 : Int) (a67 : Int) (a68 : Int) (a69 : Int) (a70 : Int) (a71 : Int) (a72 : Int) (a73 : Bool) (a74 : List (Int × Int × Int × Int × Int)) : Option (Int × Int × (List (Int × Int × Int × Int × Int)) × Int × Int × Bool × Int × Int × Int × Int × Int × Int × Int × Int × Int × Bool × Bool × Bool × Bool × Bool × Int × Int × Int × Int × Int × Int × Int × Int × Bool) := (bif (bitsOp BinOp.and IntKind.i64 a0 (128 : Int) == (128 : Int)) then (optK (hide linguistkeep_Screen_Screen_J13 a0 a1 a2 a3 a4 a5 a6 a7 a8 a9 a10 a11 a12 a13 a14 a15 a16 a17 a18 a19 a20 a21 a22 a23 a24 a25 a26 a27 a28 a29 a30 a31 a32 a33 a34 a35 a36 a37 a38 a39 a40 a41 a42 a43 a44 a45 a46 a47 a48 a49 a50 a51 a52 a53 a54 a55 a56 a57 a58 ((1 : Int)) a60 a61 a62 a63 a64 a65 a66 a67 a68 a69 a70 a71 a72 a73 a74) fun y14 => (some ((y14.1), (y14.2.1), (y14.2.2.1), (y14.2.2.2.1), (y14.2.2.2.2.1), (y14.2.2.2.2.2.1), (y14.2.2.2.2.2.2.1), (y14.2.2.2.2.2.2.2.1), (y14.2.2.2.2.2.2.2.2.1), (y14.2.2.2.2.2.2.2.2.2.1), (y14.2.2.2.2.2.2.2.2.2.2.1), (y14.2.2.2.2.2.2.2.2.2.2.2.1), (y14.2.2.2.2.2.2.2.2.2.2.2.2.1), (y14.2.2.2.2.2.2.2.2.2.2.2.2.2.1), (y14.2.2.2.2.2.2.2.2.2.2.2.2.2.2.1), (y14.2.2.2.2.2.2.2.2.2.2.2.2.2.2.2.1), (y14.2.2.2.2.2.2.2.2.2.2.2.2.2.2.2.2.1), (y14.2.2.2.2.2.2.2.2.2.2.2.2.2.2.2.2.2.1), (y14.2.2.2.2.2.2.2.2.2.2.2.2.2.2.2.2.2.2.1), (y14.2.2.2.2.2.2.2.2.2.2.2.2.2.2.2.2.2.2.2.1), (y14.2.2.2.2.2.2.2.2.2.2.2.2.2.2.2.2.2.2.2.2.1), (y14.2.2.2.2.2.2.2.2.2.2.2.2.2.2.2.2.2.2.2.2.2.1), (y14.2.2.2.2.2.2.2.2.2.2.2.2.2.2.2.2.2.2.2.2.2.2.1), (y14.2.2.2.2.2.2.2.2.2.2.2.2.2.2.2.2.2.2.2.2.2.2.2.1), (y14.2.2.2.2.2.2.2.2.2.2.2.2.2.2.2.2.2.2.2.2.2.2.2.2.1), (y14.2.2.2.2.2.2.2.2.2.2.2.2.2.2.2.2.2.2.2.2.2.2.2.2.2.1), (y14.2.2.2.2.2.2.2.2.2.2.2.2.2.2.2.2.2.2.2.2.2.2.2.2.2.2.1), (y14.2.2.2.2.2.2.2.2.2.2.2.2.2.2.2.2.2.2.2.2.2.2.2.2.2.2.2.1), (y14.2.2.2.2.2.2.2.2.2.2.2.2.2.2.2.2.2.2.2.2.2.2.2.2.2.2.2.2)))) else (optK (hide linguistkeep_Screen_Screen_J13 a0 a1 a2 a3 a4 a5 a6 a7 a8 a9 a10 a11 a12 a13 a14 a15 a16 a17 a18 a19 a20 a21 a22 a23 a24 a25 a26 a27 a28 a29 a30 a31 a32 a33 a34 a35 a36 a37 a38 a39 a40 a41 a42 a43 a44 a45 a46 a47 a48 a49 a50 a51 a52 a53 a54 a55 a56 a57 a58 a59 a60 a61 a62 a63 a64 a65 a66 a67 a68 a69 a70 a71 a72 a73 a74) fun y15 => (some ((y15.1), (y15.2.1), (y15.2.2.1), (y15.2.2.2.1), (y15.2.2.2.2.1), (y15.2.2.2.2.2.1), (y15.2.2.2.2.2.2.1), (y15.2.2.2.2.2.2.2.1), (y15.2.2.2.2.2.2.2.2.1), (y15.2.2.2.2.2.2.2.2.2.1), (y15.2.2.2.2.2.2.2.2.2.2.1), (y15.2.2.2.2.2.2.2.2.2.2.2.1), (y15.2.2.2.2.2.2.2.2.2.2.2.2.1), (y15.2.2.2.2.2.2.2.2.2.2.2.2.2.1), (y15.2.2.2.2.2.2.2.2.2.2.2.2.2.2.1), (y15.2.2.2.2.2.2.2.2.2.2.2.2.2.2.2.1), (y15.2.2.2.2.2.2.2.2.2.2.2.2.2.2.2.2.1), (y15.2.2.2.2.2.2.2.2.2.2.2.2.2.2.2.2.2.1), (y15.2.2.2.2.2.2.2.2.2.2.2.2.2.2.2.2.2.2.1), (y15.2.2.2.2.2.2.2.2.2.2.2.2.2.2.2.2.2.2.2.1), (y15.2.2.2.2.2.2.2.2.2.2.2.2.2.2.2.2.2.2.2.2.1), (y15.2.2.2.2.2.2.2.2.2.2.2.2.2.2.2.2.2.2.2.2.2.1), (y15.2.2.2.2.2.2.2.2.2.2.2.2.2.2.2.2.2.2.2.2.2.2.1), (y15.2.2.2.2.2.2.2.2.2.2.2.2.2.2.2.2.2.2.2.2.2.2.2.1), (y15.2.2.2.2.2.2.2.2.2.2.2.2.2.2.2.2.2.2.2.2.2.2.2.2.1), (y15.2.2.2.2.2.2.2.2.2.2.2.2.2.2.2.2.2.2.2.2.2.2.2.2.2.1), (y15.2.2.2.2.2.2.2.2.2.2.2.2.2.2.2.2.2.2.2.2.2.2.2.2.2.2.1), (y15.2.2.2.2.2.2.2.2.2.2.2.2.2.2.2.2.2.2.2.2.2.2.2.2.2.2.2.1), (y15.2.2.2.2.2.2.2.2.2.2.2.2.2.2.2.2.2.2.2.2.2.2.2.2.2.2.2.2)))))
noncomputable def linguistkeep_Screen_Screen_k11 {R : Type} (K : Ex → St → Option R) (o : Option (Int × Int × (List (Int × Int × Int × Int × Int)) × Int × Int × Bool × Int × Int × Int × Int × Int × Int × Int × Int × Int × Bool × Bool × Bool × Bool × Bool × Int × Int × Int × Int × Int × Int × Int × Int × Bool)) : Option R := optK o fun y => K (.ret) (linguistkeep_Screen_Screen_y11_0.enc ((), ((y.1, (y.2.1, (y.2.2.1, (y.2.2.2.1, (y.2.2.2.2.1, (y.2.2.2.2.2.1, (y.2.2.2.2.2.2.1, (y.2.2.2.2.2.2.2.1, (y.2.2.2.2.2.2.2.2.1, (y.2.2.2.2.2.2.2.2.2.1, (y.2.2.2.2.2.2.2.2.2.2.1, (y.2.2.2.2.2.2.2.2.2.2.2.1, (y.2.2.2.2.2.2.2.2.2.2.2.2.1, (y.2.2.2.2.2.2.2.2.2.2.2.2.2.1, (y.2.2.2.2.2.2.2.2.2.2.2.2.2.2.1, (y.2.2.2.2.2.2.2.2.2.2.2.2.2.2.2.1, (y.2.2.2.2.2.2.2.2.2.2.2.2.2.2.2.2.1, (y.2.2.2.2.2.2.2.2.2.2.2.2.2.2.2.2.2.1, (y.2.2.2.2.2.2.2.2.2.2.2.2.2.2.2.2.2.2.1, (y.2.2.2.2.2.2.2.2.2.2.2.2.2.2.2.2.2.2.2.1, (y.2.2.2.2.2.2.2.2.2.2.2.2.2.2.2.2.2.2.2.2.1, (y.2.2.2.2.2.2.2.2.2.2.2.2.2.2.2.2.2.2.2.2.2.1, (y.2.2.2.2.2.2.2.2.2.2.2.2.2.2.2.2.2.2.2.2.2.2.1, (y.2.2.2.2.2.2.2.2.2.2.2.2.2.2.2.2.2.2.2.2.2.2.2.1, (y.2.2.2.2.2.2.2.2.2.2.2.2.2.2.2.2.2.2.2.2.2.2.2.2.1, (y.2.2.2.2.2.2.2.2.2.2.2.2.2.2.2.2.2.2.2.2.2.2.2.2.2.1, (y.2.2.2.2.2.2.2.2.2.2.2.2.2.2.2.2.2.2.2.2.2.2.2.2.2.2.1, (y.2.2.2.2.2.2.2.2.2.2.2.2.2.2.2.2.2.2.2.2.2.2.2.2.2.2.2.1, (y.2.2.2.2.2.2.2.2.2.2.2.2.2.2.2.2.2.2.2.2.2.2.2.2.2.2.2.2, ()))))))))))))))))))))))))))))), ())))
theorem linguistkeep_Screen_Screen_j11 {R : Type} (K : Ex → St → Option R) (a0 : Int) (a1 : Int) (a2 : Int) (a3 : List (Int)) (a4 : List (Int)) (a5 : Int) (a6 : Int) (a7 : Int) (a8 : Int) (a9 : Int) (a10 : Int) (a11 : Int) (a12 : Int) (a13 : Int) (a14 : Int) (a15 : Int) (a16 : Int) (a17 : Int) (a18 : Bool) (a19 : Int) (a20 : Int) (a21 : Int) (a22 : Int) (a23 : Int) (a24 : Int) (a25 : Int) (a26 : Int) (a27 : Int) (a28 : Bool) (a29 : Bool) (a30 : Bool) (a31 : Bool) (a32 : Bool) (a33 : Int) (a34 : Int) (a35 : Int) (a36 : Int) (a37 : Int) (a38 : Int) (a39 : Int) (a40 : Int) (a41 : Bool) (a42 : Int) (a43 : Int) (a44 : List (Int × Int × Int × Int × Int)) (a45 : Int) (a46 : Int) (a47 : List (Int × Int × Int × Int × Int)) (a48 : Int) (a49 : Int) (a50 : Bool) (a51 : Int) (a52 : Int) (a53 : Int) (a54 : Int) (a55 : Int) (a56 : Int) (a57 : Int) (a58 : Int) (a59 : Int) (a60 : Bool) (a61 : Bool) (a62 : Bool) (a63 : Bool) (a64 : Bool) (a65 : Int) (a66 : Int) (a67 : Int) (a68 : Int) (a69 : Int) (a70 : Int) (a71 : Int) (a72 : Int) (a73 : Bool) (a74 : List (Int × Int × Int × Int × Int)) : exec (envL sums5 ll0 linguistkeep_Screen_Screen_cs1 (fun _ _ => false)) 15 (acall (envL sums5 ll0 linguistkeep_Screen_Screen_cs1 (fun _ _ => false)) 1000) 0 linguistkeep_Screen_Screen_b11 (linguistkeep_Screen_Screen_t11.enc ((a0, ()), ((a1, (a2, (a3, (a4, (a5, (a6, (a7, (a8, (a9, (a10, (a11, (a12, (a13, ()))))))))))))), ((a14, (a15, (a16, (a17, (a18, (a19, (a20, (a21, (a22, (a23, (a24, (a25, (a26, (a27, (a28, (a29, (a30, (a31, (a32, (a33, (a34, (a35, (a36, (a37, (a38, (a39, (a40, (a41, ())))))))))))))))))))))))))))), ((a42, (a43, (a44, ()))), ((a45, (a46, (a47, (a48, (a49, (a50, (a51, (a52, (a53, (a54, (a55, (a56, (a57, (a58, (a59, (a60, (a61, (a62, (a63, (a64, (a65, (a66, (a67, (a68, (a69, (a70, (a71, (a72, (a73, ()))))))))))))))))))))))))))))), (a74, ()))))))) (exitK linguistkeep_Screen_Screen_ys11 0 K) = linguistkeep_Screen_Screen_k11 K (linguistkeep_Screen_Screen_J11 a0 a1 a2 a3 a4 a5 a6 a7 a8 a9 a10 a11 a12 a13 a14 a15 a16 a17 a18 a19 a20 a21 a22 a23 a24 a25 a26 a27 a28 a29 a30 a31 a32 a33 a34 a35 a36 a37 a38 a39 a40 a41 a42 a43 a44 a45 a46 a47 a48 a49 a50 a51 a52 a53 a54 a55 a56 a57 a58 a59 a60 a61 a62 a63 a64 a65 a66 a67 a68 a69 a70 a71 a72 a73 a74) := by
    unfold linguistkeep_Screen_Screen_J11
    exact Eq.trans (by kernel_rfl) (cond_push (linguistkeep_Screen_Screen_k11 K) _ (optK_push (linguistkeep_Screen_Screen_k11 K) rfl _ fun y14 => rfl) (optK_push (linguistkeep_Screen_Screen_k11 K) rfl _ fun y15 => rfl))
noncomputable def linguistkeep_Screen_Screen_D11 : GoL linguistkeep_Screen_Screen_t11 := fun R (x : ((Int × Unit) × ((Int × (Int × (List (Int) × (List (Int) × (Int × (Int × (Int × (Int × (Int × (Int × (Int × (Int × (Int × Unit))))))))))))) × ((Int × (Int × (Int × (Int × (Bool × (Int × (Int × (Int × (Int × (Int × (Int × (Int × (Int × (Int × (Bool × (Bool × (Bool × (Bool × (Bool × (Int × (Int × (Int × (Int × (Int × (Int × (Int × (Int × (Bool × Unit)))))))))))))))))))))))))))) × ((Int × (Int × (List (Int × Int × Int × Int × Int) × Unit))) × ((Int × (Int × (List (Int × Int × Int × Int × Int) × (Int × (Int × (Bool × (Int × (Int × (Int × (Int × (Int × (Int × (Int × (Int × (Int × (Bool × (Bool × (Bool × (Bool × (Bool × (Int × (Int × (Int × (Int × (Int × (Int × (Int × (Int × (Bool × Unit))))))))))))))))))))))))))))) × (List (Int × Int × Int × Int × Int) × Unit))))))) K => linguistkeep_Screen_Screen_k11 K (hide linguistkeep_Screen_Screen_J11 x.1.1 x.2.1.1 x.2.1.2.1 x.2.1.2.2.1 x.2.1.2.2.2.1 x.2.1.2.2.2.2.1 x.2.1.2.2.2.2.2.1 x.2.1.2.2.2.2.2.2.1 x.2.1.2.2.2.2.2.2.2.1 x.2.1.2.2.2.2.2.2.2.2.1 x.2.1.2.2.2.2.2.2.2.2.2.1 x.2.1.2.2.2.2.2.2.2.2.2.2.1 x.2.1.2.2.2.2.2.2.2.2.2.2.2.1 x.2.1.2.2.2.2.2.2.2.2.2.2.2.2.1 x.2.2.1.1 x.2.2.1.2.1 x.2.2.1.2.2.1 x.2.2.1.2.2.2.1 x.2.2.1.2.2.2.2.1 x.2.2.1.2.2.2.2.2.1 x.2.2.1.2.2.2.2.2.2.1 x.2.2.1.2.2.2.2.2.2.2.1 x.2.2.1.2.2.2.2.2.2.2.2.1 x.2.2.1.2.2.2.2.2.2.2.2.2.1 x.2.2.1.2.2.2.2.2.2.2.2.2.2.1 x.2.2.1.2.2.2.2.2.2.2.2.2.2.2.1 x.2.2.1.2.2.2.2.2.2.2.2.2.2.2.2.1 x.2.2.1.2.2.2.2.2.2.2.2.2.2.2.2.2.1 x.2.2.1.2.2.2.2.2.2.2.2.2.2.2.2.2.2.1 x.2.2.1.2.2.2.2.2.2.2.2.2.2.2.2.2.2.2.1 x.2.2.1.2.2.2.2.2.2.2.2.2.2.2.2.2.2.2.2.1 x.2.2.1.2.2.2.2.2.2.2.2.2.2.2.2.2.2.2.2.2.1 x.2.2.1.2.2.2.2.2.2.2.2.2.2.2.2.2.2.2.2.2.2.1 x.2.2.1.2.2.2.2.2.2.2.2.2.2.2.2.2.2.2.2.2.2.2.1 x.2.2.1.2.2.2.2.2.2.2.2.2.2.2.2.2.2.2.2.2.2.2.2.1 x.2.2.1.2.2.2.2.2.2.2.2.2.2.2.2.2.2.2.2.2.2.2.2.2.1 x.2.2.1.2.2.2.2.2.2.2.2.2.2.2.2.2.2.2.2.2.2.2.2.2.2.1 x.2.2.1.2.2.2.2.2.2.2.2.2.2.2.2.2.2.2.2.2.2.2.2.2.2.2.1 x.2.2.1.2.2.2.2.2.2.2.2.2.2.2.2.2.2.2.2.2.2.2.2.2.2.2.2.1 x.2.2.1.2.2.2.2.2.2.2.2.2.2.2.2.2.2.2.2.2.2.2.2.2.2.2.2.2.1 x.2.2.1.2.2.2.2.2.2.2.2.2.2.2.2.2.2.2.2.2.2.2.2.2.2.2.2.2.2.1 x.2.2.1.2.2.2.2.2.2.2.2.2.2.2.2.2.2.2.2.2.2.2.2.2.2.2.2.2.2.2.1 x.2.2.2.1.1 x.2.2.2.1.2.1 x.2.2.2.1.2.2.1 x.2.2.2.2.1.1 x.2.2.2.2.1.2.1 x.2.2.2.2.1.2.2.1 x.2.2.2.2.1.2.2.2.1 x.2.2.2.2.1.2.2.2.2.1 x.2.2.2.2.1.2.2.2.2.2.1 x.2.2.2.2.1.2.2.2.2.2.2.1 x.2.2.2.2.1.2.2.2.2.2.2.2.1 x.2.2.2.2.1.2.2.2.2.2.2.2.2.1 x.2.2.2.2.1.2.2.2.2.2.2.2.2.2.1 x.2.2.2.2.1.2.2.2.2.2.2.2.2.2.2.1 x.2.2.2.2.1.2.2.2.2.2.2.2.2.2.2.2.1 x.2.2.2.2.1.2.2.2.2.2.2.2.2.2.2.2.2.1 x.2.2.2.2.1.2.2.2.2.2.2.2.2.2.2.2.2.2.1 x.2.2.2.2.1.2.2.2.2.2.2.2.2.2.2.2.2.2.2.1 x.2.2.2.2.1.2.2.2.2.2.2.2.2.2.2.2.2.2.2.2.1 x.2.2.2.2.1.2.2.2.2.2.2.2.2.2.2.2.2.2.2.2.2.1 x.2.2.2.2.1.2.2.2.2.2.2.2.2.2.2.2.2.2.2.2.2.2.1 x.2.2.2.2.1.2.2.2.2.2.2.2.2.2.2.2.2.2.2.2.2.2.2.1 x.2.2.2.2.1.2.2.2.2.2.2.2.2.2.2.2.2.2.2.2.2.2.2.2.1 x.2.2.2.2.1.2.2.2.2.2.2.2.2.2.2.2.2.2.2.2.2.2.2.2.2.1 x.2.2.2.2.1.2.2.2.2.2.2.2.2.2.2.2.2.2.2.2.2.2.2.2.2.2.1 x.2.2.2.2.1.2.2.2.2.2.2.2.2.2.2.2.2.2.2.2.2.2.2.2.2.2.2.1 x.2.2.2.2.1.2.2.2.2.2.2.2.2.2.2.2.2.2.2.2.2.2.2.2.2.2.2.2.1 x.2.2.2.2.1.2.2.2.2.2.2.2.2.2.2.2.2.2.2.2.2.2.2.2.2.2.2.2.2.1 x.2.2.2.2.1.2.2.2.2.2.2.2.2.2.2.2.2.2.2.2.2.2.2.2.2.2.2.2.2.2.1 x.2.2.2.2.1.2.2.2.2.2.2.2.2.2.2.2.2.2.2.2.2.2.2.2.2.2.2.2.2.2.2.1 x.2.2.2.2.1.2.2.2.2.2.2.2.2.2.2.2.2.2.2.2.2.2.2.2.2.2.2.2.2.2.2.2.1 x.2.2.2.2.1.2.2.2.2.2.2.2.2.2.2.2.2.2.2.2.2.2.2.2.2.2.2.2.2.2.2.2.2.1 x.2.2.2.2.2.1)
theorem linguistkeep_Screen_Screen_C11 : CutOk Try.prog 15 11 (loopH linguistkeep_Screen_Screen_t11 0 linguistkeep_Screen_Screen_D11) := cut_known (envL_ok sums5_ok ll0_ok linguistkeep_Screen_Screen_cs1_ok) (N := 1000) Try.func15 rfl linguistkeep_Screen_Screen_b11_is (xs := linguistkeep_Screen_Screen_ys11) fun R (x : ((Int × Unit) × ((Int × (Int × (List (Int) × (List (Int) × (Int × (Int × (Int × (Int × (Int × (Int × (Int × (Int × (Int × Unit))))))))))))) × ((Int × (Int × (Int × (Int × (Bool × (Int × (Int × (Int × (Int × (Int × (Int × (Int × (Int × (Int × (Bool × (Bool × (Bool × (Bool × (Bool × (Int × (Int × (Int × (Int × (Int × (Int × (Int × (Int × (Bool × Unit)))))))))))))))))))))))))))) × ((Int × (Int × (List (Int × Int × Int × Int × Int) × Unit))) × ((Int × (Int × (List (Int × Int × Int × Int × Int) × (Int × (Int × (Bool × (Int × (Int × (Int × (Int × (Int × (Int × (Int × (Int × (Int × (Bool × (Bool × (Bool × (Bool × (Bool × (Int × (Int × (Int × (Int × (Int × (Int × (Int × (Int × (Bool × Unit))))))))))))))))))))))))))))) × (List (Int × Int × Int × Int × Int) × Unit))))))) K => by
  show linguistkeep_Screen_Screen_k11 K (hide linguistkeep_Screen_Screen_J11 x.1.1 x.2.1.1 x.2.1.2.1 x.2.1.2.2.1 x.2.1.2.2.2.1 x.2.1.2.2.2.2.1 x.2.1.2.2.2.2.2.1 x.2.1.2.2.2.2.2.2.1 x.2.1.2.2.2.2.2.2.2.1 x.2.1.2.2.2.2.2.2.2.2.1 x.2.1.2.2.2.2.2.2.2.2.2.1 x.2.1.2.2.2.2.2.2.2.2.2.2.1 x.2.1.2.2.2.2.2.2.2.2.2.2.2.1 x.2.1.2.2.2.2.2.2.2.2.2.2.2.2.1 x.2.2.1.1 x.2.2.1.2.1 x.2.2.1.2.2.1 x.2.2.1.2.2.2.1 x.2.2.1.2.2.2.2.1 x.2.2.1.2.2.2.2.2.1 x.2.2.1.2.2.2.2.2.2.1 x.2.2.1.2.2.2.2.2.2.2.1 x.2.2.1.2.2.2.2.2.2.2.2.1 x.2.2.1.2.2.2.2.2.2.2.2.2.1 x.2.2.1.2.2.2.2.2.2.2.2.2.2.1 x.2.2.1.2.2.2.2.2.2.2.2.2.2.2.1 x.2.2.1.2.2.2.2.2.2.2.2.2.2.2.2.1 x.2.2.1.2.2.2.2.2.2.2.2.2.2.2.2.2.1 x.2.2.1.2.2.2.2.2.2.2.2.2.2.2.2.2.2.1 x.2.2.1.2.2.2.2.2.2.2.2.2.2.2.2.2.2.2.1 x.2.2.1.2.2.2.2.2.2.2.2.2.2.2.2.2.2.2.2.1 x.2.2.1.2.2.2.2.2.2.2.2.2.2.2.2.2.2.2.2.2.1 x.2.2.1.2.2.2.2.2.2.2.2.2.2.2.2.2.2.2.2.2.2.1 x.2.2.1.2.2.2.2.2.2.2.2.2.2.2.2.2.2.2.2.2.2.2.1 x.2.2.1.2.2.2.2.2.2.2.2.2.2.2.2.2.2.2.2.2.2.2.2.1 x.2.2.1.2.2.2.2.2.2.2.2.2.2.2.2.2.2.2.2.2.2.2.2.2.1 x.2.2.1.2.2.2.2.2.2.2.2.2.2.2.2.2.2.2.2.2.2.2.2.2.2.1 x.2.2.1.2.2.2.2.2.2.2.2.2.2.2.2.2.2.2.2.2.2.2.2.2.2.2.1 x.2.2.1.2.2.2.2.2.2.2.2.2.2.2.2.2.2.2.2.2.2.2.2.2.2.2.2.1 x.2.2.1.2.2.2.2.2.2.2.2.2.2.2.2.2.2.2.2.2.2.2.2.2.2.2.2.2.1 x.2.2.1.2.2.2.2.2.2.2.2.2.2.2.2.2.2.2.2.2.2.2.2.2.2.2.2.2.2.1 x.2.2.1.2.2.2.2.2.2.2.2.2.2.2.2.2.2.2.2.2.2.2.2.2.2.2.2.2.2.2.1 x.2.2.2.1.1 x.2.2.2.1.2.1 x.2.2.2.1.2.2.1 x.2.2.2.2.1.1 x.2.2.2.2.1.2.1 x.2.2.2.2.1.2.2.1 x.2.2.2.2.1.2.2.2.1 x.2.2.2.2.1.2.2.2.2.1 x.2.2.2.2.1.2.2.2.2.2.1 x.2.2.2.2.1.2.2.2.2.2.2.1 x.2.2.2.2.1.2.2.2.2.2.2.2.1 x.2.2.2.2.1.2.2.2.2.2.2.2.2.1 x.2.2.2.2.1.2.2.2.2.2.2.2.2.2.1 x.2.2.2.2.1.2.2.2.2.2.2.2.2.2.2.1 x.2.2.2.2.1.2.2.2.2.2.2.2.2.2.2.2.1 x.2.2.2.2.1.2.2.2.2.2.2.2.2.2.2.2.2.1 x.2.2.2.2.1.2.2.2.2.2.2.2.2.2.2.2.2.2.1 x.2.2.2.2.1.2.2.2.2.2.2.2.2.2.2.2.2.2.2.1 x.2.2.2.2.1.2.2.2.2.2.2.2.2.2.2.2.2.2.2.2.1 x.2.2.2.2.1.2.2.2.2.2.2.2.2.2.2.2.2.2.2.2.2.1 x.2.2.2.2.1.2.2.2.2.2.2.2.2.2.2.2.2.2.2.2.2.2.1 x.2.2.2.2.1.2.2.2.2.2.2.2.2.2.2.2.2.2.2.2.2.2.2.1 x.2.2.2.2.1.2.2.2.2.2.2.2.2.2.2.2.2.2.2.2.2.2.2.2.1 x.2.2.2.2.1.2.2.2.2.2.2.2.2.2.2.2.2.2.2.2.2.2.2.2.2.1 x.2.2.2.2.1.2.2.2.2.2.2.2.2.2.2.2.2.2.2.2.2.2.2.2.2.2.1 x.2.2.2.2.1.2.2.2.2.2.2.2.2.2.2.2.2.2.2.2.2.2.2.2.2.2.2.1 x.2.2.2.2.1.2.2.2.2.2.2.2.2.2.2.2.2.2.2.2.2.2.2.2.2.2.2.2.1 x.2.2.2.2.1.2.2.2.2.2.2.2.2.2.2.2.2.2.2.2.2.2.2.2.2.2.2.2.2.1 x.2.2.2.2.1.2.2.2.2.2.2.2.2.2.2.2.2.2.2.2.2.2.2.2.2.2.2.2.2.2.1 x.2.2.2.2.1.2.2.2.2.2.2.2.2.2.2.2.2.2.2.2.2.2.2.2.2.2.2.2.2.2.2.1 x.2.2.2.2.1.2.2.2.2.2.2.2.2.2.2.2.2.2.2.2.2.2.2.2.2.2.2.2.2.2.2.2.1 x.2.2.2.2.1.2.2.2.2.2.2.2.2.2.2.2.2.2.2.2.2.2.2.2.2.2.2.2.2.2.2.2.2.1 x.2.2.2.2.2.1) = _
  rw [hide_eq]
  exact (linguistkeep_Screen_Screen_j11 K x.1.1 x.2.1.1 x.2.1.2.1 x.2.1.2.2.1 x.2.1.2.2.2.1 x.2.1.2.2.2.2.1 x.2.1.2.2.2.2.2.1 x.2.1.2.2.2.2.2.2.1 x.2.1.2.2.2.2.2.2.2.1 x.2.1.2.2.2.2.2.2.2.2.1 x.2.1.2.2.2.2.2.2.2.2.2.1 x.2.1.2.2.2.2.2.2.2.2.2.2.1 x.2.1.2.2.2.2.2.2.2.2.2.2.2.1 x.2.1.2.2.2.2.2.2.2.2.2.2.2.2.1 x.2.2.1.1 x.2.2.1.2.1 x.2.2.1.2.2.1 x.2.2.1.2.2.2.1 x.2.2.1.2.2.2.2.1 x.2.2.1.2.2.2.2.2.1 x.2.2.1.2.2.2.2.2.2.1 x.2.2.1.2.2.2.2.2.2.2.1 x.2.2.1.2.2.2.2.2.2.2.2.1 x.2.2.1.2.2.2.2.2.2.2.2.2.1 x.2.2.1.2.2.2.2.2.2.2.2.2.2.1 x.2.2.1.2.2.2.2.2.2.2.2.2.2.2.1 x.2.2.1.2.2.2.2.2.2.2.2.2.2.2.2.1 x.2.2.1.2.2.2.2.2.2.2.2.2.2.2.2.2.1 x.2.2.1.2.2.2.2.2.2.2.2.2.2.2.2.2.2.1 x.2.2.1.2.2.2.2.2.2.2.2.2.2.2.2.2.2.2.1 x.2.2.1.2.2.2.2.2.2.2.2.2.2.2.2.2.2.2.2.1 x.2.2.1.2.2.2.2.2.2.2.2.2.2.2.2.2.2.2.2.2.1 x.2.2.1.2.2.2.2.2.2.2.2.2.2.2.2.2.2.2.2.2.2.1 x.2.2.1.2.2.2.2.2.2.2.2.2.2.2.2.2.2.2.2.2.2.2.1 x.2.2.1.2.2.2.2.2.2.2.2.2.2.2.2.2.2.2.2.2.2.2.2.1 x.2.2.1.2.2.2.2.2.2.2.2.2.2.2.2.2.2.2.2.2.2.2.2.2.1 x.2.2.1.2.2.2.2.2.2.2.2.2.2.2.2.2.2.2.2.2.2.2.2.2.2.1 x.2.2.1.2.2.2.2.2.2.2.2.2.2.2.2.2.2.2.2.2.2.2.2.2.2.2.1 x.2.2.1.2.2.2.2.2.2.2.2.2.2.2.2.2.2.2.2.2.2.2.2.2.2.2.2.1 x.2.2.1.2.2.2.2.2.2.2.2.2.2.2.2.2.2.2.2.2.2.2.2.2.2.2.2.2.1 x.2.2.1.2.2.2.2.2.2.2.2.2.2.2.2.2.2.2.2.2.2.2.2.2.2.2.2.2.2.1 x.2.2.1.2.2.2.2.2.2.2.2.2.2.2.2.2.2.2.2.2.2.2.2.2.2.2.2.2.2.2.1 x.2.2.2.1.1 x.2.2.2.1.2.1 x.2.2.2.1.2.2.1 x.2.2.2.2.1.1 x.2.2.2.2.1.2.1 x.2.2.2.2.1.2.2.1 x.2.2.2.2.1.2.2.2.1 x.2.2.2.2.1.2.2.2.2.1 x.2.2.2.2.1.2.2.2.2.2.1 x.2.2.2.2.1.2.2.2.2.2.2.1 x.2.2.2.2.1.2.2.2.2.2.2.2.1 x.2.2.2.2.1.2.2.2.2.2.2.2.2.1 x.2.2.2.2.1.2.2.2.2.2.2.2.2.2.1 x.2.2.2.2.1.2.2.2.2.2.2.2.2.2.2.1 x.2.2.2.2.1.2.2.2.2.2.2.2.2.2.2.2.1 x.2.2.2.2.1.2.2.2.2.2.2.2.2.2.2.2.2.1 x.2.2.2.2.1.2.2.2.2.2.2.2.2.2.2.2.2.2.1 x.2.2.2.2.1.2.2.2.2.2.2.2.2.2.2.2.2.2.2.1 x.2.2.2.2.1.2.2.2.2.2.2.2.2.2.2.2.2.2.2.2.1 x.2.2.2.2.1.2.2.2.2.2.2.2.2.2.2.2.2.2.2.2.2.1 x.2.2.2.2.1.2.2.2.2.2.2.2.2.2.2.2.2.2.2.2.2.2.1 x.2.2.2.2.1.2.2.2.2.2.2.2.2.2.2.2.2.2.2.2.2.2.2.1 x.2.2.2.2.1.2.2.2.2.2.2.2.2.2.2.2.2.2.2.2.2.2.2.2.1 x.2.2.2.2.1.2.2.2.2.2.2.2.2.2.2.2.2.2.2.2.2.2.2.2.2.1 x.2.2.2.2.1.2.2.2.2.2.2.2.2.2.2.2.2.2.2.2.2.2.2.2.2.2.1 x.2.2.2.2.1.2.2.2.2.2.2.2.2.2.2.2.2.2.2.2.2.2.2.2.2.2.2.1 x.2.2.2.2.1.2.2.2.2.2.2.2.2.2.2.2.2.2.2.2.2.2.2.2.2.2.2.2.1 x.2.2.2.2.1.2.2.2.2.2.2.2.2.2.2.2.2.2.2.2.2.2.2.2.2.2.2.2.2.1 x.2.2.2.2.1.2.2.2.2.2.2.2.2.2.2.2.2.2.2.2.2.2.2.2.2.2.2.2.2.2.1 x.2.2.2.2.1.2.2.2.2.2.2.2.2.2.2.2.2.2.2.2.2.2.2.2.2.2.2.2.2.2.2.1 x.2.2.2.2.1.2.2.2.2.2.2.2.2.2.2.2.2.2.2.2.2.2.2.2.2.2.2.2.2.2.2.2.1 x.2.2.2.2.1.2.2.2.2.2.2.2.2.2.2.2.2.2.2.2.2.2.2.2.2.2.2.2.2.2.2.2.2.1 x.2.2.2.2.2.1).symm
noncomputable def linguistkeep_Screen_Screen_d11 : LoopF := loopH linguistkeep_Screen_Screen_t11 0 linguistkeep_Screen_Screen_D11
noncomputable def linguistkeep_Screen_Screen_cs2 : LoopT := ((15, 11), linguistkeep_Screen_Screen_d11) :: linguistkeep_Screen_Screen_cs1
theorem linguistkeep_Screen_Screen_cs2_ok : AllCut Try.prog linguistkeep_Screen_Screen_cs2 := ⟨linguistkeep_Screen_Screen_C11, linguistkeep_Screen_Screen_cs1_ok⟩
noncomputable def linguistkeep_Screen_Screen_b6 : Code := ((Try.f15.body.map fun b => tailsAt b 6).getD []).headD .skip
theorem linguistkeep_Screen_Screen_b6_is : (Try.f15.body.map fun b => tailsAt b 6) = some [linguistkeep_Screen_Screen_b6] := by kernel_rfl
noncomputable def linguistkeep_Screen_Screen_t6 : SkSt := ⟨(.gap 1 (.cst (.ptr 0 0) (.cst (.ptr 1 0) (.cst (.ptr 2 0) (.cst (.ptr 3 0) (.gap 117 .nil)))))), (.var 40 (.cons (.int .i64) (.cons (.int .i64) (.cons (.list (.one (.int .i64))) (.cons (.list (.one (.int .i64))) (.cons (.int .i64) (.cons (.int .i64) (.cons (.int .i64) (.cons (.int .i64) (.cons (.int .i64) (.cons (.int .i64) (.cons (.int .i64) (.cons (.int .i64) (.cons (.int .u64) .nil))))))))))))) (.var 48 (.cons (.int .i64) (.cons (.int .i64) (.cst (.own 4 26 (.cons (.int .i32) (.cons (.int .i64) (.cons (.int .i64) (.cons (.int .i64) (.one (.int .i64))))))) (.cons (.int .i64) (.cons (.int .i64) (.cons .bool (.cons (.int .i64) (.cons (.int .i64) (.cons (.int .i64) (.cons (.int .i64) (.cons (.int .i64) (.cons (.int .u64) (.cons (.int .u8) (.cons (.int .u8) (.cons (.int .i64) (.cons .bool (.cons .bool (.cons .bool (.cons .bool (.cons .bool (.cons (.int .i64) (.cons (.int .i64) (.cons (.int .i64) (.cons (.int .i64) (.cons (.int .i64) (.cons (.int .u8) (.cons (.int .u8) (.cons (.int .i64) (.cons .bool .nil))))))))))))))))))))))))))))) (.var 43 (.cons (.int .i64) (.cons (.int .i64) (.cons (.list (.cons (.int .i32) (.cons (.int .i64) (.cons (.int .i64) (.cons (.int .i64) (.one (.int .i64))))))) .nil))) (.var 48 (.cons (.int .i64) (.cons (.int .i64) (.cons (.list (.cons (.int .i32) (.cons (.int .i64) (.cons (.int .i64) (.cons (.int .i64) (.one (.int .i64))))))) (.cons (.int .i64) (.cons (.int .i64) (.cons .bool (.cons (.int .i64) (.cons (.int .i64) (.cons (.int .i64) (.cons (.int .i64) (.cons (.int .i64) (.cons (.int .u64) (.cons (.int .u8) (.cons (.int .u8) (.cons (.int .i64) (.cons .bool (.cons .bool (.cons .bool (.cons .bool (.cons .bool (.cons (.int .i64) (.cons (.int .i64) (.cons (.int .i64) (.cons (.int .i64) (.cons (.int .i64) (.cons (.int .u8) (.cons (.int .u8) (.cons (.int .i64) (.cons .bool .nil))))))))))))))))))))))))))))) (.arr 26 (.cons (.int .i32) (.cons (.int .i64) (.cons (.int .i64) (.cons (.int .i64) (.one (.int .i64)))))) .nil)))))⟩
noncomputable def linguistkeep_Screen_Screen_y6_0 : SkSt := ⟨(.gap 2 (.cst (.ptr 0 0) (.gap 119 .nil))), (.var 48 (.cons (.int .i64) (.cons (.int .i64) (.cons (.list (.cons (.int .i32) (.cons (.int .i64) (.cons (.int .i64) (.cons (.int .i64) (.one (.int .i64))))))) (.cons (.int .i64) (.cons (.int .i64) (.cons .bool (.cons (.int .i64) (.cons (.int .i64) (.cons (.int .i64) (.cons (.int .i64) (.cons (.int .i64) (.cons (.int .u64) (.cons (.int .u8) (.cons (.int .u8) (.cons (.int .i64) (.cons .bool (.cons .bool (.cons .bool (.cons .bool (.cons .bool (.cons (.int .i64) (.cons (.int .i64) (.cons (.int .i64) (.cons (.int .i64) (.cons (.int .i64) (.cons (.int .u8) (.cons (.int .u8) (.cons (.int .i64) (.cons .bool .nil))))))))))))))))))))))))))))) .nil)⟩
noncomputable def linguistkeep_Screen_Screen_ys6 : List (Ex × SkSt) := [(.ret, linguistkeep_Screen_Screen_y6_0)]
noncomputable def linguistkeep_Screen_Screen_J6 (a0 : Int) (a1 : Int) (a2 : List (Int)) (a3 : List (Int)) (a4 : Int) (a5 : Int) (a6 : Int) (a7 : Int) (a8 : Int) (a9 : Int) (a10 : Int) (a11 : Int) (a12 : Int) (a13 : Int) (a14 : Int) (a15 : Int) (a16 : Int) (a17 : Bool) (a18 : Int) (a19 : Int) (a20 : Int) (a21 : Int) (a22 : Int) (a23 : Int) (a24 : Int) (a25 : Int) (a26 : Int) (a27 : Bool) (a28 : Bool) (a29 : Bool) (a30 : Bool) (a31 : Bool) (a32 : Int) (a33 : Int) (a34 : Int) (a35 : Int) (a36 : Int) (a37 : Int) (a38 : Int) (a39 : Int) (a40 : Bool) (a41 : Int) (a42 : Int) (a43 : List (Int × Int × Int × Int × Int)) (a44 : Int) (a45 : Int) (a46 : List (Int × Int × Int × Int × Int)) (a47 : Int) (a48 : Int) (a49 : Bool) (a50 : Int) (a51 : Int) (a52 : Int) (a53 : Int) (a54 : Int) (a55 : Int) (a56 : Int) (a57 : Int) (a58 : Int) (a59 : Bool) (a60 : Bool) (a61 : Bool) (a62 : Bool) (a63 : Bool) (a64 : Int) (a65 : Int) (a66 : Int) (a67 : Int) (a68 : Int) (a69 : Int) (a70 : Int) (a71 : Int) (a72 : Bool) (a73 : List (Int × Int × Int × Int × Int)) : Option (Int × Int × (List (Int × Int × Int × Int × Int)) × Int × Int × Bool × Int × Int × Int × Int × Int × Int × Int × Int × Int × Bool × Bool × Bool × Bool × Bool × Int × Int × Int × Int × Int × Int × Int × Int × Bool) := (bif (bitsOp BinOp.and IntKind.i64 a8 (1 : Int) == (0 : Int)) then (bif (a48 == IntKind.i64.wrap (a42 - (1 : Int))) then (bif (bitsOp BinOp.and IntKind.i64 a8 (64 : Int) == (64 : Int)) then (optK (hide linguistkeep_Screen_Screen_J11 a8 a0 a1 a2 a3 a4 a5 a6 a7 a8 a9 a10 a11 a12 a13 a14 a15 a16 a17 a18 a19 a20 a21 a22 a23 a24 a25 a26 a27 a28 a29 a30 a31 a32 a33 a34 a35 a36 a37 a38 a39 a40 a41 a42 a43 a44 a45 a46 a47 a48 (bitsOp BinOp.and IntKind.i64 a8 (32 : Int) == (32 : Int)) a50 a51 a52 a53 a54 a55 ((48 : Int)) a57 a58 (bitsOp BinOp.and IntKind.i64 a8 (1 : Int) == (0 : Int)) (bitsOp BinOp.and IntKind.i64 a8 (2 : Int) == (2 : Int)) (bitsOp BinOp.and IntKind.i64 a8 (4 : Int) == (0 : Int)) (bitsOp BinOp.and IntKind.i64 a8 (8 : Int) == (8 : Int)) (bitsOp BinOp.and IntKind.i64 a8 (16 : Int) == (16 : Int)) a64 a65 a66 a67 a68 a69 a70 a71 a72 a73) fun y22 => (some ((y22.1), (y22.2.1), (y22.2.2.1), (y22.2.2.2.1), (y22.2.2.2.2.1), (y22.2.2.2.2.2.1), (y22.2.2.2.2.2.2.1), (y22.2.2.2.2.2.2.2.1), (y22.2.2.2.2.2.2.2.2.1), (y22.2.2.2.2.2.2.2.2.2.1), (y22.2.2.2.2.2.2.2.2.2.2.1), (y22.2.2.2.2.2.2.2.2.2.2.2.1), (y22.2.2.2.2.2.2.2.2.2.2.2.2.1), (y22.2.2.2.2.2.2.2.2.2.2.2.2.2.1), (y22.2.2.2.2.2.2.2.2.2.2.2.2.2.2.1), (y22.2.2.2.2.2.2.2.2.2.2.2.2.2.2.2.1), (y22.2.2.2.2.2.2.2.2.2.2.2.2.2.2.2.2.1), (y22.2.2.2.2.2.2.2.2.2.2.2.2.2.2.2.2.2.1), (y22.2.2.2.2.2.2.2.2.2.2.2.2.2.2.2.2.2.2.1), (y22.2.2.2.2.2.2.2.2.2.2.2.2.2.2.2.2.2.2.2.1), (y22.2.2.2.2.2.2.2.2.2.2.2.2.2.2.2.2.2.2.2.2.1), (y22.2.2.2.2.2.2.2.2.2.2.2.2.2.2.2.2.2.2.2.2.2.1), (y22.2.2.2.2.2.2.2.2.2.2.2.2.2.2.2.2.2.2.2.2.2.2.1), (y22.2.2.2.2.2.2.2.2.2.2.2.2.2.2.2.2.2.2.2.2.2.2.2.1), (y22.2.2.2.2.2.2.2.2.2.2.2.2.2.2.2.2.2.2.2.2.2.2.2.2.1), (y22.2.2.2.2.2.2.2.2.2.2.2.2.2.2.2.2.2.2.2.2.2.2.2.2.2.1), (y22.2.2.2.2.2.2.2.2.2.2.2.2.2.2.2.2.2.2.2.2.2.2.2.2.2.2.1), (y22.2.2.2.2.2.2.2.2.2.2.2.2.2.2.2.2.2.2.2.2.2.2.2.2.2.2.2.1), (y22.2.2.2.2.2.2.2.2.2.2.2.2.2.2.2.2.2.2.2.2.2.2.2.2.2.2.2.2)))) else (optK (hide linguistkeep_Screen_Screen_J11 a8 a0 a1 a2 a3 a4 a5 a6 a7 a8 a9 a10 a11 a12 a13 a14 a15 a16 a17 a18 a19 a20 a21 a22 a23 a24 a25 a26 a27 a28 a29 a30 a31 a32 a33 a34 a35 a36 a37 a38 a39 a40 a41 a42 a43 a44 a45 a46 a47 a48 (bitsOp BinOp.and IntKind.i64 a8 (32 : Int) == (32 : Int)) a50 a51 a52 a53 a54 a55 a56 a57 a58 (bitsOp BinOp.and IntKind.i64 a8 (1 : Int) == (0 : Int)) (bitsOp BinOp.and IntKind.i64 a8 (2 : Int) == (2 : Int)) (bitsOp BinOp.and IntKind.i64 a8 (4 : Int) == (0 : Int)) (bitsOp BinOp.and IntKind.i64 a8 (8 : Int) == (8 : Int)) (bitsOp BinOp.and IntKind.i64 a8 (16 : Int) == (16 : Int)) a64 a65 a66 a67 a68 a69 a70 a71 a72 a73) fun y23 => (some ((y23.1), (y23.2.1), (y23.2.2.1), (y23.2.2.2.1), (y23.2.2.2.2.1), (y23.2.2.2.2.2.1), (y23.2.2.2.2.2.2.1), (y23.2.2.2.2.2.2.2.1), (y23.2.2.2.2.2.2.2.2.1), (y23.2.2.2.2.2.2.2.2.2.1), (y23.2.2.2.2.2.2.2.2.2.2.1), (y23.2.2.2.2.2.2.2.2.2.2.2.1), (y23.2.2.2.2.2.2.2.2.2.2.2.2.1), (y23.2.2.2.2.2.2.2.2.2.2.2.2.2.1), (y23.2.2.2.2.2.2.2.2.2.2.2.2.2.2.1), (y23.2.2.2.2.2.2.2.2.2.2.2.2.2.2.2.1), (y23.2.2.2.2.2.2.2.2.2.2.2.2.2.2.2.2.1), (y23.2.2.2.2.2.2.2.2.2.2.2.2.2.2.2.2.2.1), (y23.2.2.2.2.2.2.2.2.2.2.2.2.2.2.2.2.2.2.1), (y23.2.2.2.2.2.2.2.2.2.2.2.2.2.2.2.2.2.2.2.1), (y23.2.2.2.2.2.2.2.2.2.2.2.2.2.2.2.2.2.2.2.2.1), (y23.2.2.2.2.2.2.2.2.2.2.2.2.2.2.2.2.2.2.2.2.2.1), (y23.2.2.2.2.2.2.2.2.2.2.2.2.2.2.2.2.2.2.2.2.2.2.1), (y23.2.2.2.2.2.2.2.2.2.2.2.2.2.2.2.2.2.2.2.2.2.2.2.1), (y23.2.2.2.2.2.2.2.2.2.2.2.2.2.2.2.2.2.2.2.2.2.2.2.2.1), (y23.2.2.2.2.2.2.2.2.2.2.2.2.2.2.2.2.2.2.2.2.2.2.2.2.2.1), (y23.2.2.2.2.2.2.2.2.2.2.2.2.2.2.2.2.2.2.2.2.2.2.2.2.2.2.1), (y23.2.2.2.2.2.2.2.2.2.2.2.2.2.2.2.2.2.2.2.2.2.2.2.2.2.2.2.1), (y23.2.2.2.2.2.2.2.2.2.2.2.2.2.2.2.2.2.2.2.2.2.2.2.2.2.2.2.2))))) else (bif (bitsOp BinOp.and IntKind.i64 a8 (64 : Int) == (64 : Int)) then (optK (hide linguistkeep_Screen_Screen_J11 a8 a0 a1 a2 a3 a4 a5 a6 a7 a8 a9 a10 a11 a12 a13 a14 a15 a16 a17 a18 a19 a20 a21 a22 a23 a24 a25 a26 a27 a28 a29 a30 a31 a32 a33 a34 a35 a36 a37 a38 a39 a40 a41 a42 a43 a44 a45 a46 a47 a48 (false) a50 a51 a52 a53 a54 a55 ((48 : Int)) a57 a58 (bitsOp BinOp.and IntKind.i64 a8 (1 : Int) == (0 : Int)) (bitsOp BinOp.and IntKind.i64 a8 (2 : Int) == (2 : Int)) (bitsOp BinOp.and IntKind.i64 a8 (4 : Int) == (0 : Int)) (bitsOp BinOp.and IntKind.i64 a8 (8 : Int) == (8 : Int)) (bitsOp BinOp.and IntKind.i64 a8 (16 : Int) == (16 : Int)) a64 a65 a66 a67 a68 a69 a70 a71 a72 a73) fun y24 => (some ((y24.1), (y24.2.1), (y24.2.2.1), (y24.2.2.2.1), (y24.2.2.2.2.1), (y24.2.2.2.2.2.1), (y24.2.2.2.2.2.2.1), (y24.2.2.2.2.2.2.2.1), (y24.2.2.2.2.2.2.2.2.1), (y24.2.2.2.2.2.2.2.2.2.1), (y24.2.2.2.2.2.2.2.2.2.2.1), (y24.2.2.2.2.2.2.2.2.2.2.2.1), (y24.2.2.2.2.2.2.2.2.2.2.2.2.1), (y24.2.2.2.2.2.2.2.2.2.2.2.2.2.1), (y24.2.2.2.2.2.2.2.2.2.2.2.2.2.2.1), (y24.2.2.2.2.2.2.2.2.2.2.2.2.2.2.2.1), (y24.2.2.2.2.2.2.2.2.2.2.2.2.2.2.2.2.1), (y24.2.2.2.2.2.2.2.2.2.2.2.2.2.2.2.2.2.1), (y24.2.2.2.2.2.2.2.2.2.2.2.2.2.2.2.2.2.2.1), (y24.2.2.2.2.2.2.2.2.2.2.2.2.2.2.2.2.2.2.2.1), (y24.2.2.2.2.2.2.2.2.2.2.2.2.2.2.2.2.2.2.2.2.1), (y24.2.2.2.2.2.2.2.2.2.2.2.2.2.2.2.2.2.2.2.2.2.1), (y24.2.2.2.2.2.2.2.2.2.2.2.2.2.2.2.2.2.2.2.2.2.2.1), (y24.2.2.2.2.2.2.2.2.2.2.2.2.2.2.2.2.2.2.2.2.2.2.2.1), (y24.2.2.2.2.2.2.2.2.2.2.2.2.2.2.2.2.2.2.2.2.2.2.2.2.1), (y24.2.2.2.2.2.2.2.2.2.2.2.2.2.2.2.2.2.2.2.2.2.2.2.2.2.1), (y24.2.2.2.2.2.2.2.2.2.2.2.2.2.2.2.2.2.2.2.2.2.2.2.2.2.2.1), (y24.2.2.2.2.2.2.2.2.2.2.2.2.2.2.2.2.2.2.2.2.2.2.2.2.2.2.2.1), (y24.2.2.2.2.2.2.2.2.2.2.2.2.2.2.2.2.2.2.2.2.2.2.2.2.2.2.2.2)))) else (optK (hide linguistkeep_Screen_Screen_J11 a8 a0 a1 a2 a3 a4 a5 a6 a7 a8 a9 a10 a11 a12 a13 a14 a15 a16 a17 a18 a19 a20 a21 a22 a23 a24 a25 a26 a27 a28 a29 a30 a31 a32 a33 a34 a35 a36 a37 a38 a39 a40 a41 a42 a43 a44 a45 a46 a47 a48 (false) a50 a51 a52 a53 a54 a55 a56 a57 a58 (bitsOp BinOp.and IntKind.i64 a8 (1 : Int) == (0 : Int)) (bitsOp BinOp.and IntKind.i64 a8 (2 : Int) == (2 : Int)) (bitsOp BinOp.and IntKind.i64 a8 (4 : Int) == (0 : Int)) (bitsOp BinOp.and IntKind.i64 a8 (8 : Int) == (8 : Int)) (bitsOp BinOp.and IntKind.i64 a8 (16 : Int) == (16 : Int)) a64 a65 a66 a67 a68 a69 a70 a71 a72 a73) fun y25 => (some ((y25.1), (y25.2.1), (y25.2.2.1), (y25.2.2.2.1), (y25.2.2.2.2.1), (y25.2.2.2.2.2.1), (y25.2.2.2.2.2.2.1), (y25.2.2.2.2.2.2.2.1), (y25.2.2.2.2.2.2.2.2.1), (y25.2.2.2.2.2.2.2.2.2.1), (y25.2.2.2.2.2.2.2.2.2.2.1), (y25.2.2.2.2.2.2.2.2.2.2.2.1), (y25.2.2.2.2.2.2.2.2.2.2.2.2.1), (y25.2.2.2.2.2.2.2.2.2.2.2.2.2.1), (y25.2.2.2.2.2.2.2.2.2.2.2.2.2.2.1), (y25.2.2.2.2.2.2.2.2.2.2.2.2.2.2.2.1), (y25.2.2.2.2.2.2.2.2.2.2.2.2.2.2.2.2.1), (y25.2.2.2.2.2.2.2.2.2.2.2.2.2.2.2.2.2.1), (y25.2.2.2.2.2.2.2.2.2.2.2.2.2.2.2.2.2.2.1), (y25.2.2.2.2.2.2.2.2.2.2.2.2.2.2.2.2.2.2.2.1), (y25.2.2.2.2.2.2.2.2.2.2.2.2.2.2.2.2.2.2.2.2.1), (y25.2.2.2.2.2.2.2.2.2.2.2.2.2.2.2.2.2.2.2.2.2.1), (y25.2.2.2.2.2.2.2.2.2.2.2.2.2.2.2.2.2.2.2.2.2.2.1), (y25.2.2.2.2.2.2.2.2.2.2.2.2.2.2.2.2.2.2.2.2.2.2.2.1), (y25.2.2.2.2.2.2.2.2.2.2.2.2.2.2.2.2.2.2.2.2.2.2.2.2.1), (y25.2.2.2.2.2.2.2.2.2.2.2.2.2.2.2.2.2.2.2.2.2.2.2.2.2.1), (y25.2.2.2.2.2.2.2.2.2.2.2.2.2.2.2.2.2.2.2.2.2.2.2.2.2.2.1), (y25.2.2.2.2.2.2.2.2.2.2.2.2.2.2.2.2.2.2.2.2.2.2.2.2.2.2.2.1), (y25.2.2.2.2.2.2.2.2.2.2.2.2.2.2.2.2.2.2.2.2.2.2.2.2.2.2.2.2)))))) else (bif (bitsOp BinOp.and IntKind.i64 a8 (64 : Int) == (64 : Int)) then (optK (hide linguistkeep_Screen_Screen_J11 a8 a0 a1 a2 a3 a4 a5 a6 a7 a8 a9 a10 a11 a12 a13 a14 a15 a16 a17 a18 a19 a20 a21 a22 a23 a24 a25 a26 a27 a28 a29 a30 a31 a32 a33 a34 a35 a36 a37 a38 a39 a40 a41 a42 a43 a44 a45 a46 a47 a48 (false) a50 a51 a52 a53 a54 a55 ((48 : Int)) a57 a58 (bitsOp BinOp.and IntKind.i64 a8 (1 : Int) == (0 : Int)) (bitsOp BinOp.and IntKind.i64 a8 (2 : Int) == (2 : Int)) (bitsOp BinOp.and IntKind.i64 a8 (4 : Int) == (0 : Int)) (bitsOp BinOp.and IntKind.i64 a8 (8 : Int) == (8 : Int)) (bitsOp BinOp.and IntKind.i64 a8 (16 : Int) == (16 : Int)) a64 a65 a66 a67 a68 a69 a70 a71 a72 a73) fun y26 => (some ((y26.1), (y26.2.1), (y26.2.2.1), (y26.2.2.2.1), (y26.2.2.2.2.1), (y26.2.2.2.2.2.1), (y26.2.2.2.2.2.2.1), (y26.2.2.2.2.2.2.2.1), (y26.2.2.2.2.2.2.2.2.1), (y26.2.2.2.2.2.2.2.2.2.1), (y26.2.2.2.2.2.2.2.2.2.2.1), (y26.2.2.2.2.2.2.2.2.2.2.2.1), (y26.2.2.2.2.2.2.2.2.2.2.2.2.1), (y26.2.2.2.2.2.2.2.2.2.2.2.2.2.1), (y26.2.2.2.2.2.2.2.2.2.2.2.2.2.2.1), (y26.2.2.2.2.2.2.2.2.2.2.2.2.2.2.2.1), (y26.2.2.2.2.2.2.2.2.2.2.2.2.2.2.2.2.1), (y26.2.2.2.2.2.2.2.2.2.2.2.2.2.2.2.2.2.1), (y26.2.2.2.2.2.2.2.2.2.2.2.2.2.2.2.2.2.2.1), (y26.2.2.2.2.2.2.2.2.2.2.2.2.2.2.2.2.2.2.2.1), (y26.2.2.2.2.2.2.2.2.2.2.2.2.2.2.2.2.2.2.2.2.1), (y26.2.2.2.2.2.2.2.2.2.2.2.2.2.2.2.2.2.2.2.2.2.1), (y26.2.2.2.2.2.2.2.2.2.2.2.2.2.2.2.2.2.2.2.2.2.2.1), (y26.2.2.2.2.2.2.2.2.2.2.2.2.2.2.2.2.2.2.2.2.2.2.2.1), (y26.2.2.2.2.2.2.2.2.2.2.2.2.2.2.2.2.2.2.2.2.2.2.2.2.1), (y26.2.2.2.2.2.2.2.2.2.2.2.2.2.2.2.2.2.2.2.2.2.2.2.2.2.1), (y26.2.2.2.2.2.2.2.2.2.2.2.2.2.2.2.2.2.2.2.2.2.2.2.2.2.2.1), (y26.2.2.2.2.2.2.2.2.2.2.2.2.2.2.2.2.2.2.2.2.2.2.2.2.2.2.2.1), (y26.2.2.2.2.2.2.2.2.2.2.2.2.2.2.2.2.2.2.2.2.2.2.2.2.2.2.2.2)))) else (optK (hide linguistkeep_Screen_Screen_J11 a8 a0 a1 a2 a3 a4 a5 a6 a7 a8 a9 a10 a11 a12 a13 a14 a15 a16 a17 a18 a19 a20 a21 a22 a23 a24 a25 a26 a27 a28 a29 a30 a31 a32 a33 a34 a35 a36 a37 a38 a39 a40 a41 a42 a43 a44 a45 a46 a47 a48 (false) a50 a51 a52 a53 a54 a55 a56 a57 a58 (bitsOp BinOp.and IntKind.i64 a8 (1 : Int) == (0 : Int)) (bitsOp BinOp.and IntKind.i64 a8 (2 : Int) == (2 : Int)) (bitsOp BinOp.and IntKind.i64 a8 (4 : Int) == (0 : Int)) (bitsOp BinOp.and IntKind.i64 a8 (8 : Int) == (8 : Int)) (bitsOp BinOp.and IntKind.i64 a8 (16 : Int) == (16 : Int)) a64 a65 a66 a67 a68 a69 a70 a71 a72 a73) fun y27 => (some ((y27.1), (y27.2.1), (y27.2.2.1), (y27.2.2.2.1), (y27.2.2.2.2.1), (y27.2.2.2.2.2.1), (y27.2.2.2.2.2.2.1), (y27.2.2.2.2.2.2.2.1), (y27.2.2.2.2.2.2.2.2.1), (y27.2.2.2.2.2.2.2.2.2.1), (y27.2.2.2.2.2.2.2.2.2.2.1), (y27.2.2.2.2.2.2.2.2.2.2.2.1), (y27.2.2.2.2.2.2.2.2.2.2.2.2.1), (y27.2.2.2.2.2.2.2.2.2.2.2.2.2.1), (y27.2.2.2.2.2.2.2.2.2.2.2.2.2.2.1), (y27.2.2.2.2.2.2.2.2.2.2.2.2.2.2.2.1), (y27.2.2.2.2.2.2.2.2.2.2.2.2.2.2.2.2.1), (y27.2.2.2.2.2.2.2.2.2.2.2.2.2.2.2.2.2.1), (y27.2.2.2.2.2.2.2.2.2.2.2.2.2.2.2.2.2.2.1), (y27.2.2.2.2.2.2.2.2.2.2.2.2.2.2.2.2.2.2.2.1), (y27.2.2.2.2.2.2.2.2.2.2.2.2.2.2.2.2.2.2.2.2.1), (y27.2.2.2.2.2.2.2.2.2.2.2.2.2.2.2.2.2.2.2.2.2.1), (y27.2.2.2.2.2.2.2.2.2.2.2.2.2.2.2.2.2.2.2.2.2.2.1), (y27.2.2.2.2.2.2.2.2.2.2.2.2.2.2.2.2.2.2.2.2.2.2.2.1), (y27.2.2.2.2.2.2.2.2.2.2.2.2.2.2.2.2.2.2.2.2.2.2.2.2.1), (y27.2.2.2.2.2.2.2.2.2.2.2.2.2.2.2.2.2.2.2.2.2.2.2.2.2.1), (y27.2.2.2.2.2.2.2.2.2.2.2.2.2.2.2.2.2.2.2.2.2.2.2.2.2.2.1), (y27.2.2.2.2.2.2.2.2.2.2.2.2.2.2.2.2.2.2.2.2.2.2.2.2.2.2.2.1), (y27.2.2.2.2.2.2.2.2.2.2.2.2.2.2.2.2.2.2.2.2.2.2.2.2.2.2.2.2))))))
noncomputable def linguistkeep_Screen_Screen_k6 {R : Type} (K : Ex → St → Option R) (o : Option (Int × Int × (List (Int × Int × Int × Int × Int)) × Int × Int × Bool × Int × Int × Int × Int × Int × Int × Int × Int × Int × Bool × Bool × Bool × Bool × Bool × Int × Int × Int × Int × Int × Int × Int × Int × Bool)) : Option R := optK o fun y => K (.ret) (linguistkeep_Screen_Screen_y6_0.enc ((), ((y.1, (y.2.1, (y.2.2.1, (y.2.2.2.1, (y.2.2.2.2.1, (y.2.2.2.2.2.1, (y.2.2.2.2.2.2.1, (y.2.2.2.2.2.2.2.1, (y.2.2.2.2.2.2.2.2.1, (y.2.2.2.2.2.2.2.2.2.1, (y.2.2.2.2.2.2.2.2.2.2.1, (y.2.2.2.2.2.2.2.2.2.2.2.1, (y.2.2.2.2.2.2.2.2.2.2.2.2.1, (y.2.2.2.2.2.2.2.2.2.2.2.2.2.1, (y.2.2.2.2.2.2.2.2.2.2.2.2.2.2.1, (y.2.2.2.2.2.2.2.2.2.2.2.2.2.2.2.1, (y.2.2.2.2.2.2.2.2.2.2.2.2.2.2.2.2.1, (y.2.2.2.2.2.2.2.2.2.2.2.2.2.2.2.2.2.1, (y.2.2.2.2.2.2.2.2.2.2.2.2.2.2.2.2.2.2.1, (y.2.2.2.2.2.2.2.2.2.2.2.2.2.2.2.2.2.2.2.1, (y.2.2.2.2.2.2.2.2.2.2.2.2.2.2.2.2.2.2.2.2.1, (y.2.2.2.2.2.2.2.2.2.2.2.2.2.2.2.2.2.2.2.2.2.1, (y.2.2.2.2.2.2.2.2.2.2.2.2.2.2.2.2.2.2.2.2.2.2.1, (y.2.2.2.2.2.2.2.2.2.2.2.2.2.2.2.2.2.2.2.2.2.2.2.1, (y.2.2.2.2.2.2.2.2.2.2.2.2.2.2.2.2.2.2.2.2.2.2.2.2.1, (y.2.2.2.2.2.2.2.2.2.2.2.2.2.2.2.2.2.2.2.2.2.2.2.2.2.1, (y.2.2.2.2.2.2.2.2.2.2.2.2.2.2.2.2.2.2.2.2.2.2.2.2.2.2.1, (y.2.2.2.2.2.2.2.2.2.2.2.2.2.2.2.2.2.2.2.2.2.2.2.2.2.2.2.1, (y.2.2.2.2.2.2.2.2.2.2.2.2.2.2.2.2.2.2.2.2.2.2.2.2.2.2.2.2, ()))))))))))))))))))))))))))))), ())))
theorem linguistkeep_Screen_Screen_j6 {R : Type} (K : Ex → St → Option R) (a0 : Int) (a1 : Int) (a2 : List (Int)) (a3 : List (Int)) (a4 : Int) (a5 : Int) (a6 : Int) (a7 : Int) (a8 : Int) (a9 : Int) (a10 : Int) (a11 : Int) (a12 : Int) (a13 : Int) (a14 : Int) (a15 : Int) (a16 : Int) (a17 : Bool) (a18 : Int) (a19 : Int) (a20 : Int) (a21 : Int) (a22 : Int) (a23 : Int) (a24 : Int) (a25 : Int) (a26 : Int) (a27 : Bool) (a28 : Bool) (a29 : Bool) (a30 : Bool) (a31 : Bool) (a32 : Int) (a33 : Int) (a34 : Int) (a35 : Int) (a36 : Int) (a37 : Int) (a38 : Int) (a39 : Int) (a40 : Bool) (a41 : Int) (a42 : Int) (a43 : List (Int × Int × Int × Int × Int)) (a44 : Int) (a45 : Int) (a46 : List (Int × Int × Int × Int × Int)) (a47 : Int) (a48 : Int) (a49 : Bool) (a50 : Int) (a51 : Int) (a52 : Int) (a53 : Int) (a54 : Int) (a55 : Int) (a56 : Int) (a57 : Int) (a58 : Int) (a59 : Bool) (a60 : Bool) (a61 : Bool) (a62 : Bool) (a63 : Bool) (a64 : Int) (a65 : Int) (a66 : Int) (a67 : Int) (a68 : Int) (a69 : Int) (a70 : Int) (a71 : Int) (a72 : Bool) (a73 : List (Int × Int × Int × Int × Int)) : exec (envL sums5 ll0 linguistkeep_Screen_Screen_cs2 (fun _ _ => false)) 15 (acall (envL sums5 ll0 linguistkeep_Screen_Screen_cs2 (fun _ _ => false)) 1000) 0 linguistkeep_Screen_Screen_b6 (linguistkeep_Screen_Screen_t6.enc ((), ((a0, (a1, (a2, (a3, (a4, (a5, (a6, (a7, (a8, (a9, (a10, (a11, (a12, ()))))))))))))), ((a13, (a14, (a15, (a16, (a17, (a18, (a19, (a20, (a21, (a22, (a23, (a24, (a25, (a26, (a27, (a28, (a29, (a30, (a31, (a32, (a33, (a34, (a35, (a36, (a37, (a38, (a39, (a40, ())))))))))))))))))))))))))))), ((a41, (a42, (a43, ()))), ((a44, (a45, (a46, (a47, (a48, (a49, (a50, (a51, (a52, (a53, (a54, (a55, (a56, (a57, (a58, (a59, (a60, (a61, (a62, (a63, (a64, (a65, (a66, (a67, (a68, (a69, (a70, (a71, (a72, ()))))))))))))))))))))))))))))), (a73, ()))))))) (exitK linguistkeep_Screen_Screen_ys6 0 K) = linguistkeep_Screen_Screen_k6 K (linguistkeep_Screen_Screen_J6 a0 a1 a2 a3 a4 a5 a6 a7 a8 a9 a10 a11 a12 a13 a14 a15 a16 a17 a18 a19 a20 a21 a22 a23 a24 a25 a26 a27 a28 a29 a30 a31 a32 a33 a34 a35 a36 a37 a38 a39 a40 a41 a42 a43 a44 a45 a46 a47 a48 a49 a50 a51 a52 a53 a54 a55 a56 a57 a58 a59 a60 a61 a62 a63 a64 a65 a66 a67 a68 a69 a70 a71 a72 a73) := by
    unfold linguistkeep_Screen_Screen_J6
    exact Eq.trans (by kernel_rfl) (cond_push (linguistkeep_Screen_Screen_k6 K) _ (cond_push (linguistkeep_Screen_Screen_k6 K) _ (cond_push (linguistkeep_Screen_Screen_k6 K) _ (optK_push (linguistkeep_Screen_Screen_k6 K) rfl _ fun y22 => rfl) (optK_push (linguistkeep_Screen_Screen_k6 K) rfl _ fun y23 => rfl)) (cond_push (linguistkeep_Screen_Screen_k6 K) _ (optK_push (linguistkeep_Screen_Screen_k6 K) rfl _ fun y24 => rfl) (optK_push (linguistkeep_Screen_Screen_k6 K) rfl _ fun y25 => rfl))) (cond_push (linguistkeep_Screen_Screen_k6 K) _ (optK_push (linguistkeep_Screen_Screen_k6 K) rfl _ fun y26 => rfl) (optK_push (linguistkeep_Screen_Screen_k6 K) rfl _ fun y27 => rfl)))
noncomputable def linguistkeep_Screen_Screen_D6 : GoL linguistkeep_Screen_Screen_t6 := fun R (x : (Unit × ((Int × (Int × (List (Int) × (List (Int) × (Int × (Int × (Int × (Int × (Int × (Int × (Int × (Int × (Int × Unit))))))))))))) × ((Int × (Int × (Int × (Int × (Bool × (Int × (Int × (Int × (Int × (Int × (Int × (Int × (Int × (Int × (Bool × (Bool × (Bool × (Bool × (Bool × (Int × (Int × (Int × (Int × (Int × (Int × (Int × (Int × (Bool × Unit)))))))))))))))))))))))))))) × ((Int × (Int × (List (Int × Int × Int × Int × Int) × Unit))) × ((Int × (Int × (List (Int × Int × Int × Int × Int) × (Int × (Int × (Bool × (Int × (Int × (Int × (Int × (Int × (Int × (Int × (Int × (Int × (Bool × (Bool × (Bool × (Bool × (Bool × (Int × (Int × (Int × (Int × (Int × (Int × (Int × (Int × (Bool × Unit))))))))))))))))))))))))))))) × (List (Int × Int × Int × Int × Int) × Unit))))))) K => linguistkeep_Screen_Screen_k6 K (hide linguistkeep_Screen_Screen_J6 x.2.1.1 x.2.1.2.1 x.2.1.2.2.1 x.2.1.2.2.2.1 x.2.1.2.2.2.2.1 x.2.1.2.2.2.2.2.1 x.2.1.2.2.2.2.2.2.1 x.2.1.2.2.2.2.2.2.2.1 x.2.1.2.2.2.2.2.2.2.2.1 x.2.1.2.2.2.2.2.2.2.2.2.1 x.2.1.2.2.2.2.2.2.2.2.2.2.1 x.2.1.2.2.2.2.2.2.2.2.2.2.2.1 x.2.1.2.2.2.2.2.2.2.2.2.2.2.2.1 x.2.2.1.1 x.2.2.1.2.1 x.2.2.1.2.2.1 x.2.2.1.2.2.2.1 x.2.2.1.2.2.2.2.1 x.2.2.1.2.2.2.2.2.1 x.2.2.1.2.2.2.2.2.2.1 x.2.2.1.2.2.2.2.2.2.2.1 x.2.2.1.2.2.2.2.2.2.2.2.1 x.2.2.1.2.2.2.2.2.2.2.2.2.1 x.2.2.1.2.2.2.2.2.2.2.2.2.2.1 x.2.2.1.2.2.2.2.2.2.2.2.2.2.2.1 x.2.2.1.2.2.2.2.2.2.2.2.2.2.2.2.1 x.2.2.1.2.2.2.2.2.2.2.2.2.2.2.2.2.1 x.2.2.1.2.2.2.2.2.2.2.2.2.2.2.2.2.2.1 x.2.2.1.2.2.2.2.2.2.2.2.2.2.2.2.2.2.2.1 x.2.2.1.2.2.2.2.2.2.2.2.2.2.2.2.2.2.2.2.1 x.2.2.1.2.2.2.2.2.2.2.2.2.2.2.2.2.2.2.2.2.1 x.2.2.1.2.2.2.2.2.2.2.2.2.2.2.2.2.2.2.2.2.2.1 x.2.2.1.2.2.2.2.2.2.2.2.2.2.2.2.2.2.2.2.2.2.2.1 x.2.2.1.2.2.2.2.2.2.2.2.2.2.2.2.2.2.2.2.2.2.2.2.1 x.2.2.1.2.2.2.2.2.2.2.2.2.2.2.2.2.2.2.2.2.2.2.2.2.1 x.2.2.1.2.2.2.2.2.2.2.2.2.2.2.2.2.2.2.2.2.2.2.2.2.2.1 x.2.2.1.2.2.2.2.2.2.2.2.2.2.2.2.2.2.2.2.2.2.2.2.2.2.2.1 x.2.2.1.2.2.2.2.2.2.2.2.2.2.2.2.2.2.2.2.2.2.2.2.2.2.2.2.1 x.2.2.1.2.2.2.2.2.2.2.2.2.2.2.2.2.2.2.2.2.2.2.2.2.2.2.2.2.1 x.2.2.1.2.2.2.2.2.2.2.2.2.2.2.2.2.2.2.2.2.2.2.2.2.2.2.2.2.2.1 x.2.2.1.2.2.2.2.2.2.2.2.2.2.2.2.2.2.2.2.2.2.2.2.2.2.2.2.2.2.2.1 x.2.2.2.1.1 x.2.2.2.1.2.1 x.2.2.2.1.2.2.1 x.2.2.2.2.1.1 x.2.2.2.2.1.2.1 x.2.2.2.2.1.2.2.1 x.2.2.2.2.1.2.2.2.1 x.2.2.2.2.1.2.2.2.2.1 x.2.2.2.2.1.2.2.2.2.2.1 x.2.2.2.2.1.2.2.2.2.2.2.1 x.2.2.2.2.1.2.2.2.2.2.2.2.1 x.2.2.2.2.1.2.2.2.2.2.2.2.2.1 x.2.2.2.2.1.2.2.2.2.2.2.2.2.2.1 x.2.2.2.2.1.2.2.2.2.2.2.2.2.2.2.1 x.2.2.2.2.1.2.2.2.2.2.2.2.2.2.2.2.1 x.2.2.2.2.1.2.2.2.2.2.2.2.2.2.2.2.2.1 x.2.2.2.2.1.2.2.2.2.2.2.2.2.2.2.2.2.2.1 x.2.2.2.2.1.2.2.2.2.2.2.2.2.2.2.2.2.2.2.1 x.2.2.2.2.1.2.2.2.2.2.2.2.2.2.2.2.2.2.2.2.1 x.2.2.2.2.1.2.2.2.2.2.2.2.2.2.2.2.2.2.2.2.2.1 x.2.2.2.2.1.2.2.2.2.2.2.2.2.2.2.2.2.2.2.2.2.2.1 x.2.2.2.2.1.2.2.2.2.2.2.2.2.2.2.2.2.2.2.2.2.2.2.1 x.2.2.2.2.1.2.2.2.2.2.2.2.2.2.2.2.2.2.2.2.2.2.2.2.1 x.2.2.2.2.1.2.2.2.2.2.2.2.2.2.2.2.2.2.2.2.2.2.2.2.2.1 x.2.2.2.2.1.2.2.2.2.2.2.2.2.2.2.2.2.2.2.2.2.2.2.2.2.2.1 x.2.2.2.2.1.2.2.2.2.2.2.2.2.2.2.2.2.2.2.2.2.2.2.2.2.2.2.1 x.2.2.2.2.1.2.2.2.2.2.2.2.2.2.2.2.2.2.2.2.2.2.2.2.2.2.2.2.1 x.2.2.2.2.1.2.2.2.2.2.2.2.2.2.2.2.2.2.2.2.2.2.2.2.2.2.2.2.2.1 x.2.2.2.2.1.2.2.2.2.2.2.2.2.2.2.2.2.2.2.2.2.2.2.2.2.2.2.2.2.2.1 x.2.2.2.2.1.2.2.2.2.2.2.2.2.2.2.2.2.2.2.2.2.2.2.2.2.2.2.2.2.2.2.1 x.2.2.2.2.1.2.2.2.2.2.2.2.2.2.2.2.2.2.2.2.2.2.2.2.2.2.2.2.2.2.2.2.1 x.2.2.2.2.1.2.2.2.2.2.2.2.2.2.2.2.2.2.2.2.2.2.2.2.2.2.2.2.2.2.2.2.2.1 x.2.2.2.2.2.1)
theorem linguistkeep_Screen_Screen_C6 : CutOk Try.prog 15 6 (loopH linguistkeep_Screen_Screen_t6 0 linguistkeep_Screen_Screen_D6) := cut_known (envL_ok sums5_ok ll0_ok linguistkeep_Screen_Screen_cs2_ok) (N := 1000) Try.func15 rfl linguistkeep_Screen_Screen_b6_is (xs := linguistkeep_Screen_Screen_ys6) fun R (x : (Unit × ((Int × (Int × (List (Int) × (List (Int) × (Int × (Int × (Int × (Int × (Int × (Int × (Int × (Int × (Int × Unit))))))))))))) × ((Int × (Int × (Int × (Int × (Bool × (Int × (Int × (Int × (Int × (Int × (Int × (Int × (Int × (Int × (Bool × (Bool × (Bool × (Bool × (Bool × (Int × (Int × (Int × (Int × (Int × (Int × (Int × (Int × (Bool × Unit)))))))))))))))))))))))))))) × ((Int × (Int × (List (Int × Int × Int × Int × Int) × Unit))) × ((Int × (Int × (List (Int × Int × Int × Int × Int) × (Int × (Int × (Bool × (Int × (Int × (Int × (Int × (Int × (Int × (Int × (Int × (Int × (Bool × (Bool × (Bool × (Bool × (Bool × (Int × (Int × (Int × (Int × (Int × (Int × (Int × (Int × (Bool × Unit))))))))))))))))))))))))))))) × (List (Int × Int × Int × Int × Int) × Unit))))))) K => by
  show linguistkeep_Screen_Screen_k6 K (hide linguistkeep_Screen_Screen_J6 x.2.1.1 x.2.1.2.1 x.2.1.2.2.1 x.2.1.2.2.2.1 x.2.1.2.2.2.2.1 x.2.1.2.2.2.2.2.1 x.2.1.2.2.2.2.2.2.1 x.2.1.2.2.2.2.2.2.2.1 x.2.1.2.2.2.2.2.2.2.2.1 x.2.1.2.2.2.2.2.2.2.2.2.1 x.2.1.2.2.2.2.2.2.2.2.2.2.1 x.2.1.2.2.2.2.2.2.2.2.2.2.2.1 x.2.1.2.2.2.2.2.2.2.2.2.2.2.2.1 x.2.2.1.1 x.2.2.1.2.1 x.2.2.1.2.2.1 x.2.2.1.2.2.2.1 x.2.2.1.2.2.2.2.1 x.2.2.1.2.2.2.2.2.1 x.2.2.1.2.2.2.2.2.2.1 x.2.2.1.2.2.2.2.2.2.2.1 x.2.2.1.2.2.2.2.2.2.2.2.1 x.2.2.1.2.2.2.2.2.2.2.2.2.1 x.2.2.1.2.2.2.2.2.2.2.2.2.2.1 x.2.2.1.2.2.2.2.2.2.2.2.2.2.2.1 x.2.2.1.2.2.2.2.2.2.2.2.2.2.2.2.1 x.2.2.1.2.2.2.2.2.2.2.2.2.2.2.2.2.1 x.2.2.1.2.2.2.2.2.2.2.2.2.2.2.2.2.2.1 x.2.2.1.2.2.2.2.2.2.2.2.2.2.2.2.2.2.2.1 x.2.2.1.2.2.2.2.2.2.2.2.2.2.2.2.2.2.2.2.1 x.2.2.1.2.2.2.2.2.2.2.2.2.2.2.2.2.2.2.2.2.1 x.2.2.1.2.2.2.2.2.2.2.2.2.2.2.2.2.2.2.2.2.2.1 x.2.2.1.2.2.2.2.2.2.2.2.2.2.2.2.2.2.2.2.2.2.2.1 x.2.2.1.2.2.2.2.2.2.2.2.2.2.2.2.2.2.2.2.2.2.2.2.1 x.2.2.1.2.2.2.2.2.2.2.2.2.2.2.2.2.2.2.2.2.2.2.2.2.1 x.2.2.1.2.2.2.2.2.2.2.2.2.2.2.2.2.2.2.2.2.2.2.2.2.2.1 x.2.2.1.2.2.2.2.2.2.2.2.2.2.2.2.2.2.2.2.2.2.2.2.2.2.2.1 x.2.2.1.2.2.2.2.2.2.2.2.2.2.2.2.2.2.2.2.2.2.2.2.2.2.2.2.1 x.2.2.1.2.2.2.2.2.2.2.2.2.2.2.2.2.2.2.2.2.2.2.2.2.2.2.2.2.1 x.2.2.1.2.2.2.2.2.2.2.2.2.2.2.2.2.2.2.2.2.2.2.2.2.2.2.2.2.2.1 x.2.2.1.2.2.2.2.2.2.2.2.2.2.2.2.2.2.2.2.2.2.2.2.2.2.2.2.2.2.2.1 x.2.2.2.1.1 x.2.2.2.1.2.1 x.2.2.2.1.2.2.1 x.2.2.2.2.1.1 x.2.2.2.2.1.2.1 x.2.2.2.2.1.2.2.1 x.2.2.2.2.1.2.2.2.1 x.2.2.2.2.1.2.2.2.2.1 x.2.2.2.2.1.2.2.2.2.2.1 x.2.2.2.2.1.2.2.2.2.2.2.1 x.2.2.2.2.1.2.2.2.2.2.2.2.1 x.2.2.2.2.1.2.2.2.2.2.2.2.2.1 x.2.2.2.2.1.2.2.2.2.2.2.2.2.2.1 x.2.2.2.2.1.2.2.2.2.2.2.2.2.2.2.1 x.2.2.2.2.1.2.2.2.2.2.2.2.2.2.2.2.1 x.2.2.2.2.1.2.2.2.2.2.2.2.2.2.2.2.2.1 x.2.2.2.2.1.2.2.2.2.2.2.2.2.2.2.2.2.2.1 x.2.2.2.2.1.2.2.2.2.2.2.2.2.2.2.2.2.2.2.1 x.2.2.2.2.1.2.2.2.2.2.2.2.2.2.2.2.2.2.2.2.1 x.2.2.2.2.1.2.2.2.2.2.2.2.2.2.2.2.2.2.2.2.2.1 x.2.2.2.2.1.2.2.2.2.2.2.2.2.2.2.2.2.2.2.2.2.2.1 x.2.2.2.2.1.2.2.2.2.2.2.2.2.2.2.2.2.2.2.2.2.2.2.1 x.2.2.2.2.1.2.2.2.2.2.2.2.2.2.2.2.2.2.2.2.2.2.2.2.1 x.2.2.2.2.1.2.2.2.2.2.2.2.2.2.2.2.2.2.2.2.2.2.2.2.2.1 x.2.2.2.2.1.2.2.2.2.2.2.2.2.2.2.2.2.2.2.2.2.2.2.2.2.2.1 x.2.2.2.2.1.2.2.2.2.2.2.2.2.2.2.2.2.2.2.2.2.2.2.2.2.2.2.1 x.2.2.2.2.1.2.2.2.2.2.2.2.2.2.2.2.2.2.2.2.2.2.2.2.2.2.2.2.1 x.2.2.2.2.1.2.2.2.2.2.2.2.2.2.2.2.2.2.2.2.2.2.2.2.2.2.2.2.2.1 x.2.2.2.2.1.2.2.2.2.2.2.2.2.2.2.2.2.2.2.2.2.2.2.2.2.2.2.2.2.2.1 x.2.2.2.2.1.2.2.2.2.2.2.2.2.2.2.2.2.2.2.2.2.2.2.2.2.2.2.2.2.2.2.1 x.2.2.2.2.1.2.2.2.2.2.2.2.2.2.2.2.2.2.2.2.2.2.2.2.2.2.2.2.2.2.2.2.1 x.2.2.2.2.1.2.2.2.2.2.2.2.2.2.2.2.2.2.2.2.2.2.2.2.2.2.2.2.2.2.2.2.2.1 x.2.2.2.2.2.1) = _
  rw [hide_eq]
  exact (linguistkeep_Screen_Screen_j6 K x.2.1.1 x.2.1.2.1 x.2.1.2.2.1 x.2.1.2.2.2.1 x.2.1.2.2.2.2.1 x.2.1.2.2.2.2.2.1 x.2.1.2.2.2.2.2.2.1 x.2.1.2.2.2.2.2.2.2.1 x.2.1.2.2.2.2.2.2.2.2.1 x.2.1.2.2.2.2.2.2.2.2.2.1 x.2.1.2.2.2.2.2.2.2.2.2.2.1 x.2.1.2.2.2.2.2.2.2.2.2.2.2.1 x.2.1.2.2.2.2.2.2.2.2.2.2.2.2.1 x.2.2.1.1 x.2.2.1.2.1 x.2.2.1.2.2.1 x.2.2.1.2.2.2.1 x.2.2.1.2.2.2.2.1 x.2.2.1.2.2.2.2.2.1 x.2.2.1.2.2.2.2.2.2.1 x.2.2.1.2.2.2.2.2.2.2.1 x.2.2.1.2.2.2.2.2.2.2.2.1 x.2.2.1.2.2.2.2.2.2.2.2.2.1 x.2.2.1.2.2.2.2.2.2.2.2.2.2.1 x.2.2.1.2.2.2.2.2.2.2.2.2.2.2.1 x.2.2.1.2.2.2.2.2.2.2.2.2.2.2.2.1 x.2.2.1.2.2.2.2.2.2.2.2.2.2.2.2.2.1 x.2.2.1.2.2.2.2.2.2.2.2.2.2.2.2.2.2.1 x.2.2.1.2.2.2.2.2.2.2.2.2.2.2.2.2.2.2.1 x.2.2.1.2.2.2.2.2.2.2.2.2.2.2.2.2.2.2.2.1 x.2.2.1.2.2.2.2.2.2.2.2.2.2.2.2.2.2.2.2.2.1 x.2.2.1.2.2.2.2.2.2.2.2.2.2.2.2.2.2.2.2.2.2.1 x.2.2.1.2.2.2.2.2.2.2.2.2.2.2.2.2.2.2.2.2.2.2.1 x.2.2.1.2.2.2.2.2.2.2.2.2.2.2.2.2.2.2.2.2.2.2.2.1 x.2.2.1.2.2.2.2.2.2.2.2.2.2.2.2.2.2.2.2.2.2.2.2.2.1 x.2.2.1.2.2.2.2.2.2.2.2.2.2.2.2.2.2.2.2.2.2.2.2.2.2.1 x.2.2.1.2.2.2.2.2.2.2.2.2.2.2.2.2.2.2.2.2.2.2.2.2.2.2.1 x.2.2.1.2.2.2.2.2.2.2.2.2.2.2.2.2.2.2.2.2.2.2.2.2.2.2.2.1 x.2.2.1.2.2.2.2.2.2.2.2.2.2.2.2.2.2.2.2.2.2.2.2.2.2.2.2.2.1 x.2.2.1.2.2.2.2.2.2.2.2.2.2.2.2.2.2.2.2.2.2.2.2.2.2.2.2.2.2.1 x.2.2.1.2.2.2.2.2.2.2.2.2.2.2.2.2.2.2.2.2.2.2.2.2.2.2.2.2.2.2.1 x.2.2.2.1.1 x.2.2.2.1.2.1 x.2.2.2.1.2.2.1 x.2.2.2.2.1.1 x.2.2.2.2.1.2.1 x.2.2.2.2.1.2.2.1 x.2.2.2.2.1.2.2.2.1 x.2.2.2.2.1.2.2.2.2.1 x.2.2.2.2.1.2.2.2.2.2.1 x.2.2.2.2.1.2.2.2.2.2.2.1 x.2.2.2.2.1.2.2.2.2.2.2.2.1 x.2.2.2.2.1.2.2.2.2.2.2.2.2.1 x.2.2.2.2.1.2.2.2.2.2.2.2.2.2.1 x.2.2.2.2.1.2.2.2.2.2.2.2.2.2.2.1 x.2.2.2.2.1.2.2.2.2.2.2.2.2.2.2.2.1 x.2.2.2.2.1.2.2.2.2.2.2.2.2.2.2.2.2.1 x.2.2.2.2.1.2.2.2.2.2.2.2.2.2.2.2.2.2.1 x.2.2.2.2.1.2.2.2.2.2.2.2.2.2.2.2.2.2.2.1 x.2.2.2.2.1.2.2.2.2.2.2.2.2.2.2.2.2.2.2.2.1 x.2.2.2.2.1.2.2.2.2.2.2.2.2.2.2.2.2.2.2.2.2.1 x.2.2.2.2.1.2.2.2.2.2.2.2.2.2.2.2.2.2.2.2.2.2.1 x.2.2.2.2.1.2.2.2.2.2.2.2.2.2.2.2.2.2.2.2.2.2.2.1 x.2.2.2.2.1.2.2.2.2.2.2.2.2.2.2.2.2.2.2.2.2.2.2.2.1 x.2.2.2.2.1.2.2.2.2.2.2.2.2.2.2.2.2.2.2.2.2.2.2.2.2.1 x.2.2.2.2.1.2.2.2.2.2.2.2.2.2.2.2.2.2.2.2.2.2.2.2.2.2.1 x.2.2.2.2.1.2.2.2.2.2.2.2.2.2.2.2.2.2.2.2.2.2.2.2.2.2.2.1 x.2.2.2.2.1.2.2.2.2.2.2.2.2.2.2.2.2.2.2.2.2.2.2.2.2.2.2.2.1 x.2.2.2.2.1.2.2.2.2.2.2.2.2.2.2.2.2.2.2.2.2.2.2.2.2.2.2.2.2.1 x.2.2.2.2.1.2.2.2.2.2.2.2.2.2.2.2.2.2.2.2.2.2.2.2.2.2.2.2.2.2.1 x.2.2.2.2.1.2.2.2.2.2.2.2.2.2.2.2.2.2.2.2.2.2.2.2.2.2.2.2.2.2.2.1 x.2.2.2.2.1.2.2.2.2.2.2.2.2.2.2.2.2.2.2.2.2.2.2.2.2.2.2.2.2.2.2.2.1 x.2.2.2.2.1.2.2.2.2.2.2.2.2.2.2.2.2.2.2.2.2.2.2.2.2.2.2.2.2.2.2.2.2.1 x.2.2.2.2.2.1).symm
noncomputable def linguistkeep_Screen_Screen_d6 : LoopF := loopH linguistkeep_Screen_Screen_t6 0 linguistkeep_Screen_Screen_D6
noncomputable def linguistkeep_Screen_Screen_cs3 : LoopT := ((15, 6), linguistkeep_Screen_Screen_d6) :: linguistkeep_Screen_Screen_cs2
theorem linguistkeep_Screen_Screen_cs3_ok : AllCut Try.prog linguistkeep_Screen_Screen_cs3 := ⟨linguistkeep_Screen_Screen_C6, linguistkeep_Screen_Screen_cs2_ok⟩
noncomputable def linguistkeep_Screen_Screen_F (x0 : Int) (x1 : Int) (x2 : List (Int)) (x3 : List (Int)) (x4 : Int) (x5 : Int) (x6 : Int) (x7 : Int) (x8 : Int) (x9 : Int) (x10 : Int) (x11 : Int) (x12 : Int) : Option (Int × Int × (List (Int × Int × Int × Int × Int)) × Int × Int × Bool × Int × Int × Int × Int × Int × Int × Int × Int × Int × Bool × Bool × Bool × Bool × Bool × Int × Int × Int × Int × Int × Int × Int × Int × Bool) := (optK ((hide linguistkeep_Grid_Grid_F x0 x1 x2 x3)) fun y0 => (optK ((hide linguistbook_Within_F x4 (0 : Int) (IntKind.i64.wrap (y0.1 - (1 : Int))))) fun y1 => (optK ((hide linguistbook_Within_F x5 (0 : Int) (IntKind.i64.wrap (y0.2.1 - (1 : Int))))) fun y2 => (optK ((hide linguistkeep_Pen_Pen_F x9 x10 x11)) fun y3 => (bif (decide (y0.1 > (1 : Int))) then (optK ((hide linguistbook_Within_F x6 (0 : Int) (IntKind.i64.wrap (y0.1 - (2 : Int))))) fun y4 => (optK ((hide linguistbook_Within_F x7 (IntKind.i64.wrap (y4 + (1 : Int))) (IntKind.i64.wrap (y0.1 - (1 : Int))))) fun y5 => (optK (hide linguistkeep_Screen_Screen_J6 x0 x1 x2 x3 x4 x5 x6 x7 x8 x9 x10 x11 x12 (0 : Int) (0 : Int) (0 : Int) (0 : Int) (false) (0 : Int) (0 : Int) (0 : Int) (0 : Int) (0 : Int) (0 : Int) (0 : Int) (0 : Int) (0 : Int) (false) (false) (false) (false) (false) (0 : Int) (0 : Int) (0 : Int) (0 : Int) (0 : Int) (0 : Int) (0 : Int) (0 : Int) (false) (y0.1) (y0.2.1) (y0.2.2) (y0.1) (y0.2.1) (y0.2.2) y1 y2 (false) y4 y5 (y3.1) (y3.2.1) (y3.2.2) x12 ((66 : Int)) ((66 : Int)) (0 : Int) (false) (false) (false) (false) (false) (0 : Int) (0 : Int) (0 : Int) (0 : Int) (0 : Int) (0 : Int) (0 : Int) (0 : Int) (false) ([])) fun y28 => (some ((y28.1), (y28.2.1), (y28.2.2.1), (y28.2.2.2.1), (y28.2.2.2.2.1), (y28.2.2.2.2.2.1), (y28.2.2.2.2.2.2.1), (y28.2.2.2.2.2.2.2.1), (y28.2.2.2.2.2.2.2.2.1), (y28.2.2.2.2.2.2.2.2.2.1), (y28.2.2.2.2.2.2.2.2.2.2.1), (y28.2.2.2.2.2.2.2.2.2.2.2.1), (y28.2.2.2.2.2.2.2.2.2.2.2.2.1), (y28.2.2.2.2.2.2.2.2.2.2.2.2.2.1), (y28.2.2.2.2.2.2.2.2.2.2.2.2.2.2.1), (y28.2.2.2.2.2.2.2.2.2.2.2.2.2.2.2.1), (y28.2.2.2.2.2.2.2.2.2.2.2.2.2.2.2.2.1), (y28.2.2.2.2.2.2.2.2.2.2.2.2.2.2.2.2.2.1), (y28.2.2.2.2.2.2.2.2.2.2.2.2.2.2.2.2.2.2.1), (y28.2.2.2.2.2.2.2.2.2.2.2.2.2.2.2.2.2.2.2.1), (y28.2.2.2.2.2.2.2.2.2.2.2.2.2.2.2.2.2.2.2.2.1), (y28.2.2.2.2.2.2.2.2.2.2.2.2.2.2.2.2.2.2.2.2.2.1), (y28.2.2.2.2.2.2.2.2.2.2.2.2.2.2.2.2.2.2.2.2.2.2.1), (y28.2.2.2.2.2.2.2.2.2.2.2.2.2.2.2.2.2.2.2.2.2.2.2.1), (y28.2.2.2.2.2.2.2.2.2.2.2.2.2.2.2.2.2.2.2.2.2.2.2.2.1), (y28.2.2.2.2.2.2.2.2.2.2.2.2.2.2.2.2.2.2.2.2.2.2.2.2.2.1), (y28.2.2.2.2.2.2.2.2.2.2.2.2.2.2.2.2.2.2.2.2.2.2.2.2.2.2.1), (y28.2.2.2.2.2.2.2.2.2.2.2.2.2.2.2.2.2.2.2.2.2.2.2.2.2.2.2.1), (y28.2.2.2.2.2.2.2.2.2.2.2.2.2.2.2.2.2.2.2.2.2.2.2.2.2.2.2.2)))))) else (optK (hide linguistkeep_Screen_Screen_J6 x0 x1 x2 x3 x4 x5 x6 x7 x8 x9 x10 x11 x12 (0 : Int) (0 : Int) (0 : Int) (0 : Int) (false) (0 : Int) (0 : Int) (0 : Int) (0 : Int) (0 : Int) (0 : Int) (0 : Int) (0 : Int) (0 : Int) (false) (false) (false) (false) (false) (0 : Int) (0 : Int) (0 : Int) (0 : Int) (0 : Int) (0 : Int) (0 : Int) (0 : Int) (false) (y0.1) (y0.2.1) (y0.2.2) (y0.1) (y0.2.1) (y0.2.2) y1 y2 (false) (0 : Int) (IntKind.i64.wrap (y0.1 - (1 : Int))) (y3.1) (y3.2.1) (y3.2.2) x12 ((66 : Int)) ((66 : Int)) (0 : Int) (false) (false) (false) (false) (false) (0 : Int) (0 : Int) (0 : Int) (0 : Int) (0 : Int) (0 : Int) (0 : Int) (0 : Int) (false) ([])) fun y29 => (some ((y29.1), (y29.2.1), (y29.2.2.1), (y29.2.2.2.1), (y29.2.2.2.2.1), (y29.2.2.2.2.2.1), (y29.2.2.2.2.2.2.1), (y29.2.2.2.2.2.2.2.1), (y29.2.2.2.2.2.2.2.2.1), (y29.2.2.2.2.2.2.2.2.2.1), (y29.2.2.2.2.2.2.2.2.2.2.1), (y29.2.2.2.2.2.2.2.2.2.2.2.1), (y29.2.2.2.2.2.2.2.2.2.2.2.2.1), (y29.2.2.2.2.2.2.2.2.2.2.2.2.2.1), (y29.2.2.2.2.2.2.2.2.2.2.2.2.2.2.1), (y29.2.2.2.2.2.2.2.2.2.2.2.2.2.2.2.1), (y29.2.2.2.2.2.2.2.2.2.2.2.2.2.2.2.2.1), (y29.2.2.2.2.2.2.2.2.2.2.2.2.2.2.2.2.2.1), (y29.2.2.2.2.2.2.2.2.2.2.2.2.2.2.2.2.2.2.1), (y29.2.2.2.2.2.2.2.2.2.2.2.2.2.2.2.2.2.2.2.1), (y29.2.2.2.2.2.2.2.2.2.2.2.2.2.2.2.2.2.2.2.2.1), (y29.2.2.2.2.2.2.2.2.2.2.2.2.2.2.2.2.2.2.2.2.2.1), (y29.2.2.2.2.2.2.2.2.2.2.2.2.2.2.2.2.2.2.2.2.2.2.1), (y29.2.2.2.2.2.2.2.2.2.2.2.2.2.2.2.2.2.2.2.2.2.2.2.1), (y29.2.2.2.2.2.2.2.2.2.2.2.2.2.2.2.2.2.2.2.2.2.2.2.2.1), (y29.2.2.2.2.2.2.2.2.2.2.2.2.2.2.2.2.2.2.2.2.2.2.2.2.2.1), (y29.2.2.2.2.2.2.2.2.2.2.2.2.2.2.2.2.2.2.2.2.2.2.2.2.2.2.1), (y29.2.2.2.2.2.2.2.2.2.2.2.2.2.2.2.2.2.2.2.2.2.2.2.2.2.2.2.1), (y29.2.2.2.2.2.2.2.2.2.2.2.2.2.2.2.2.2.2.2.2.2.2.2.2.2.2.2.2)))))))))
noncomputable def linguistkeep_Screen_Screen_A : SkL := (.cons (.agg (.cons (.int .i64) (.cons (.int .i64) (.cons (.list (.one (.int .i64))) (.cons (.list (.one (.int .i64))) (.cons (.int .i64) (.cons (.int .i64) (.cons (.int .i64) (.cons (.int .i64) (.cons (.int .i64) (.cons (.int .i64) (.cons (.int .i64) (.cons (.int .i64) (.cons (.int .u64) .nil)))))))))))))) .nil)
noncomputable def linguistkeep_Screen_Screen_B : Sk := (.agg (.cons (.int .i64) (.cons (.int .i64) (.cons (.list (.cons (.int .i32) (.cons (.int .i64) (.cons (.int .i64) (.cons (.int .i64) (.one (.int .i64))))))) (.cons (.int .i64) (.cons (.int .i64) (.cons .bool (.cons (.int .i64) (.cons (.int .i64) (.cons (.int .i64) (.cons (.int .i64) (.cons (.int .i64) (.cons (.int .u64) (.cons (.int .u8) (.cons (.int .u8) (.cons (.int .i64) (.cons .bool (.cons .bool (.cons .bool (.cons .bool (.cons .bool (.cons (.int .i64) (.cons (.int .i64) (.cons (.int .i64) (.cons (.int .i64) (.cons (.int .i64) (.cons (.int .u8) (.cons (.int .u8) (.cons (.int .i64) (.cons .bool .nil))))))))))))))))))))))))))))))
def linguistkeep_Screen_Screen_m {R : Type} (K : (Int × (Int × (List (Int × Int × Int × Int × Int) × (Int × (Int × (Bool × (Int × (Int × (Int × (Int × (Int × (Int × (Int × (Int × (Int × (Bool × (Bool × (Bool × (Bool × (Bool × (Int × (Int × (Int × (Int × (Int × (Int × (Int × (Int × (Bool × Unit))))))))))))))))))))))))))))) → Option R) (o : Option (Int × Int × (List (Int × Int × Int × Int × Int)) × Int × Int × Bool × Int × Int × Int × Int × Int × Int × Int × Int × Int × Bool × Bool × Bool × Bool × Bool × Int × Int × Int × Int × Int × Int × Int × Int × Bool)) : Option R := optK o fun y => K (y.1, (y.2.1, (y.2.2.1, (y.2.2.2.1, (y.2.2.2.2.1, (y.2.2.2.2.2.1, (y.2.2.2.2.2.2.1, (y.2.2.2.2.2.2.2.1, (y.2.2.2.2.2.2.2.2.1, (y.2.2.2.2.2.2.2.2.2.1, (y.2.2.2.2.2.2.2.2.2.2.1, (y.2.2.2.2.2.2.2.2.2.2.2.1, (y.2.2.2.2.2.2.2.2.2.2.2.2.1, (y.2.2.2.2.2.2.2.2.2.2.2.2.2.1, (y.2.2.2.2.2.2.2.2.2.2.2.2.2.2.1, (y.2.2.2.2.2.2.2.2.2.2.2.2.2.2.2.1, (y.2.2.2.2.2.2.2.2.2.2.2.2.2.2.2.2.1, (y.2.2.2.2.2.2.2.2.2.2.2.2.2.2.2.2.2.1, (y.2.2.2.2.2.2.2.2.2.2.2.2.2.2.2.2.2.2.1, (y.2.2.2.2.2.2.2.2.2.2.2.2.2.2.2.2.2.2.2.1, (y.2.2.2.2.2.2.2.2.2.2.2.2.2.2.2.2.2.2.2.2.1, (y.2.2.2.2.2.2.2.2.2.2.2.2.2.2.2.2.2.2.2.2.2.1, (y.2.2.2.2.2.2.2.2.2.2.2.2.2.2.2.2.2.2.2.2.2.2.1, (y.2.2.2.2.2.2.2.2.2.2.2.2.2.2.2.2.2.2.2.2.2.2.2.1, (y.2.2.2.2.2.2.2.2.2.2.2.2.2.2.2.2.2.2.2.2.2.2.2.2.1, (y.2.2.2.2.2.2.2.2.2.2.2.2.2.2.2.2.2.2.2.2.2.2.2.2.2.1, (y.2.2.2.2.2.2.2.2.2.2.2.2.2.2.2.2.2.2.2.2.2.2.2.2.2.2.1, (y.2.2.2.2.2.2.2.2.2.2.2.2.2.2.2.2.2.2.2.2.2.2.2.2.2.2.2.1, (y.2.2.2.2.2.2.2.2.2.2.2.2.2.2.2.2.2.2.2.2.2.2.2.2.2.2.2.2, ())))))))))))))))))))))))))))))
theorem linguistkeep_Screen_Screen_run {R : Type} (x0 : Int) (x1 : Int) (x2 : List (Int)) (x3 : List (Int)) (x4 : Int) (x5 : Int) (x6 : Int) (x7 : Int) (x8 : Int) (x9 : Int) (x10 : Int) (x11 : Int) (x12 : Int) (K : (Int × (Int × (List (Int × Int × Int × Int × Int) × (Int × (Int × (Bool × (Int × (Int × (Int × (Int × (Int × (Int × (Int × (Int × (Int × (Bool × (Bool × (Bool × (Bool × (Bool × (Int × (Int × (Int × (Int × (Int × (Int × (Int × (Int × (Bool × Unit))))))))))))))))))))))))))))) → Option R) : acall (envL sums5 ll0 linguistkeep_Screen_Screen_cs3 (fun _ _ => false)) 1000 15 (linguistkeep_Screen_Screen_A.enc ((x0, (x1, (x2, (x3, (x4, (x5, (x6, (x7, (x8, (x9, (x10, (x11, (x12, ()))))))))))))), ())) [] (resK linguistkeep_Screen_Screen_B false K) = linguistkeep_Screen_Screen_m K (linguistkeep_Screen_Screen_F x0 x1 x2 x3 x4 x5 x6 x7 x8 x9 x10 x11 x12) := by
  unfold linguistkeep_Screen_Screen_F
  exact Eq.trans (by kernel_rfl) (optK_push (linguistkeep_Screen_Screen_m K) rfl _ fun y0 => (optK_push (linguistkeep_Screen_Screen_m K) rfl _ fun y1 => (optK_push (linguistkeep_Screen_Screen_m K) rfl _ fun y2 => (optK_push (linguistkeep_Screen_Screen_m K) rfl _ fun y3 => (cond_push (linguistkeep_Screen_Screen_m K) _ (optK_push (linguistkeep_Screen_Screen_m K) rfl _ fun y4 => (optK_push (linguistkeep_Screen_Screen_m K) rfl _ fun y5 => (optK_push (linguistkeep_Screen_Screen_m K) rfl _ fun y28 => rfl))) (optK_push (linguistkeep_Screen_Screen_m K) rfl _ fun y29 => rfl))))))
noncomputable def linguistkeep_Screen_Screen_G : GoF linguistkeep_Screen_Screen_A linguistkeep_Screen_Screen_B := fun R (x : ((Int × (Int × (List (Int) × (List (Int) × (Int × (Int × (Int × (Int × (Int × (Int × (Int × (Int × (Int × Unit))))))))))))) × Unit)) K => linguistkeep_Screen_Screen_m K (hide linguistkeep_Screen_Screen_F x.1.1 x.1.2.1 x.1.2.2.1 x.1.2.2.2.1 x.1.2.2.2.2.1 x.1.2.2.2.2.2.1 x.1.2.2.2.2.2.2.1 x.1.2.2.2.2.2.2.2.1 x.1.2.2.2.2.2.2.2.2.1 x.1.2.2.2.2.2.2.2.2.2.1 x.1.2.2.2.2.2.2.2.2.2.2.1 x.1.2.2.2.2.2.2.2.2.2.2.2.1 x.1.2.2.2.2.2.2.2.2.2.2.2.2.1)
theorem linguistkeep_Screen_Screen_known : Known Try.prog 15 linguistkeep_Screen_Screen_A linguistkeep_Screen_Screen_B false linguistkeep_Screen_Screen_G := known_of (envL_ok sums5_ok ll0_ok linguistkeep_Screen_Screen_cs3_ok) (n := 1000) rfl fun R (x : ((Int × (Int × (List (Int) × (List (Int) × (Int × (Int × (Int × (Int × (Int × (Int × (Int × (Int × (Int × Unit))))))))))))) × Unit)) K => by
  show _ = linguistkeep_Screen_Screen_m K (hide linguistkeep_Screen_Screen_F x.1.1 x.1.2.1 x.1.2.2.1 x.1.2.2.2.1 x.1.2.2.2.2.1 x.1.2.2.2.2.2.1 x.1.2.2.2.2.2.2.1 x.1.2.2.2.2.2.2.2.1 x.1.2.2.2.2.2.2.2.2.1 x.1.2.2.2.2.2.2.2.2.2.1 x.1.2.2.2.2.2.2.2.2.2.2.1 x.1.2.2.2.2.2.2.2.2.2.2.2.1 x.1.2.2.2.2.2.2.2.2.2.2.2.2.1)
  rw [hide_eq]
  exact linguistkeep_Screen_Screen_run x.1.1 x.1.2.1 x.1.2.2.1 x.1.2.2.2.1 x.1.2.2.2.2.1 x.1.2.2.2.2.2.1 x.1.2.2.2.2.2.2.1 x.1.2.2.2.2.2.2.2.1 x.1.2.2.2.2.2.2.2.2.1 x.1.2.2.2.2.2.2.2.2.2.1 x.1.2.2.2.2.2.2.2.2.2.2.1 x.1.2.2.2.2.2.2.2.2.2.2.2.1 x.1.2.2.2.2.2.2.2.2.2.2.2.2.1 K

noncomputable def lower_Pen_F (x0 : Int) (x1 : Int) (x2 : Int) (x3 : Int) : Option (Int × Int × Int) := (optK ((hide cell_Plain_F)) fun y0 => (bif (x0 == (2 : Int)) then (optK ((hide color_Lower_F x1 (8 : Int))) fun y1 => (optK ((hide color_Lower_F x2 (8 : Int))) fun y2 => (some (y1, y2, (bitsOp BinOp.and IntKind.i64 x3 (57 : Int)))))) else (bif (x0 == (1 : Int)) then (some ((y0.1), (y0.2.1), (bitsOp BinOp.and IntKind.i64 x3 (57 : Int)))) else (some ((y0.1), (y0.2.1), (y0.2.2))))))
noncomputable def lower_Pen_A : SkL := (.cons (.int .i64) (.cons (.agg (.cons (.int .i64) (.cons (.int .i64) (.cons (.int .i64) .nil)))) .nil))
noncomputable def lower_Pen_B : Sk := (.agg (.cons (.int .i64) (.cons (.int .i64) (.cons (.int .i64) .nil))))
def lower_Pen_m {R : Type} (K : (Int × (Int × (Int × Unit))) → Option R) (o : Option (Int × Int × Int)) : Option R := optK o fun y => K (y.1, (y.2.1, (y.2.2, ())))
theorem lower_Pen_run {R : Type} (x0 : Int) (x1 : Int) (x2 : Int) (x3 : Int) (K : (Int × (Int × (Int × Unit))) → Option R) : acall (envL sums5 ll0 cs0 (fun _ _ => false)) 1000 10 (lower_Pen_A.enc (x0, ((x1, (x2, (x3, ()))), ()))) [] (resK lower_Pen_B true K) = lower_Pen_m K (lower_Pen_F x0 x1 x2 x3) := by
  unfold lower_Pen_F
  exact Eq.trans (by kernel_rfl) (optK_push (lower_Pen_m K) rfl _ fun y0 => (cond_push (lower_Pen_m K) _ (optK_push (lower_Pen_m K) rfl _ fun y1 => (optK_push (lower_Pen_m K) rfl _ fun y2 => rfl)) (cond_push (lower_Pen_m K) _ rfl rfl)))
noncomputable def lower_Pen_G : GoF lower_Pen_A lower_Pen_B := fun R (x : (Int × ((Int × (Int × (Int × Unit))) × Unit))) K => lower_Pen_m K (hide lower_Pen_F x.1 x.2.1.1 x.2.1.2.1 x.2.1.2.2.1)
theorem lower_Pen_known : Known Try.prog 10 lower_Pen_A lower_Pen_B true lower_Pen_G := known_of (envL_ok sums5_ok ll0_ok cs0_ok) (n := 1000) rfl fun R (x : (Int × ((Int × (Int × (Int × Unit))) × Unit))) K => by
  show _ = lower_Pen_m K (hide lower_Pen_F x.1 x.2.1.1 x.2.1.2.1 x.2.1.2.2.1)
  rw [hide_eq]
  exact lower_Pen_run x.1 x.2.1.1 x.2.1.2.1 x.2.1.2.2.1 K

noncomputable def linguistref15_Cell_F (x0 : Int) (x1 : Int) (x2 : Int) (x3 : Int) (x4 : Int) (x5 : Int) : Option (Int × Int × Int × Int × Int) := (bif (x2 == (2 : Int)) then (optK ((hide linguistref15_Pen_F x0 x3 x4 x5)) fun y0 => (some (((32 : Int)), (0 : Int), (y0.1), (y0.2.1), (y0.2.2)))) else (optK ((hide linguistref15_Rune_F x0 x1)) fun y1 => (optK ((hide linguistref15_Pen_F x0 x3 x4 x5)) fun y2 => (some (y1, (0 : Int), (y2.1), (y2.2.1), (y2.2.2))))))
noncomputable def linguistref15_Cell_A : SkL := (.cons (.int .i64) (.cons (.agg (.cons (.int .i32) (.cons (.int .i64) (.cons (.int .i64) (.cons (.int .i64) (.cons (.int .i64) .nil)))))) .nil))
noncomputable def linguistref15_Cell_B : Sk := (.agg (.cons (.int .i32) (.cons (.int .i64) (.cons (.int .i64) (.cons (.int .i64) (.cons (.int .i64) .nil))))))
def linguistref15_Cell_m {R : Type} (K : (Int × (Int × (Int × (Int × (Int × Unit))))) → Option R) (o : Option (Int × Int × Int × Int × Int)) : Option R := optK o fun y => K (y.1, (y.2.1, (y.2.2.1, (y.2.2.2.1, (y.2.2.2.2, ())))))
theorem linguistref15_Cell_run {R : Type} (x0 : Int) (x1 : Int) (x2 : Int) (x3 : Int) (x4 : Int) (x5 : Int) (K : (Int × (Int × (Int × (Int × (Int × Unit))))) → Option R) : acall (envL sums5 ll0 cs0 (fun _ _ => false)) 1000 35 (linguistref15_Cell_A.enc (x0, ((x1, (x2, (x3, (x4, (x5, ()))))), ()))) [] (resK linguistref15_Cell_B true K) = linguistref15_Cell_m K (linguistref15_Cell_F x0 x1 x2 x3 x4 x5) := by
  unfold linguistref15_Cell_F
  exact Eq.trans (by kernel_rfl) (cond_push (linguistref15_Cell_m K) _ (optK_push (linguistref15_Cell_m K) rfl _ fun y0 => rfl) (optK_push (linguistref15_Cell_m K) rfl _ fun y1 => (optK_push (linguistref15_Cell_m K) rfl _ fun y2 => rfl)))
noncomputable def linguistref15_Cell_G : GoF linguistref15_Cell_A linguistref15_Cell_B := fun R (x : (Int × ((Int × (Int × (Int × (Int × (Int × Unit))))) × Unit))) K => linguistref15_Cell_m K (hide linguistref15_Cell_F x.1 x.2.1.1 x.2.1.2.1 x.2.1.2.2.1 x.2.1.2.2.2.1 x.2.1.2.2.2.2.1)
theorem linguistref15_Cell_known : Known Try.prog 35 linguistref15_Cell_A linguistref15_Cell_B true linguistref15_Cell_G := known_of (envL_ok sums5_ok ll0_ok cs0_ok) (n := 1000) rfl fun R (x : (Int × ((Int × (Int × (Int × (Int × (Int × Unit))))) × Unit))) K => by
  show _ = linguistref15_Cell_m K (hide linguistref15_Cell_F x.1 x.2.1.1 x.2.1.2.1 x.2.1.2.2.1 x.2.1.2.2.2.1 x.2.1.2.2.2.2.1)
  rw [hide_eq]
  exact linguistref15_Cell_run x.1 x.2.1.1 x.2.1.2.1 x.2.1.2.2.1 x.2.1.2.2.2.1 x.2.1.2.2.2.2.1 K
end Go.Proofs.YtlpmhldejeaefaaAbs

-- Written by a program of this session (dec.py); Lean checks it.
namespace Go.Proofs.YtlpmhldejeaefaaAbs
open Go Go.Proofs
set_option linter.unusedVariables false
set_option maxHeartbeats 2000000
noncomputable def sums6 : SumT := (15, sumH linguistkeep_Screen_Screen_A linguistkeep_Screen_Screen_B false linguistkeep_Screen_Screen_G) :: (10, sumH lower_Pen_A lower_Pen_B true lower_Pen_G) :: (35, sumH linguistref15_Cell_A linguistref15_Cell_B true linguistref15_Cell_G) :: sums5
theorem sums6_ok : AllSum Try.prog sums6 := ⟨sumH_ok rfl rfl linguistkeep_Screen_Screen_known, ⟨sumH_ok rfl rfl lower_Pen_known, ⟨sumH_ok rfl rfl linguistref15_Cell_known, sums5_ok⟩⟩⟩
end Go.Proofs.YtlpmhldejeaefaaAbs

-- Written by a program of this session (dec.py); Lean checks it.
namespace Go.Proofs.YtlpmhldejeaefaaAbs
open Go Go.Proofs
set_option linter.unusedVariables false
set_option maxHeartbeats 2000000
noncomputable def lower_Cell_b4 : Code := ((Try.f9.body.map fun b => tailsAt b 4).getD []).headD .skip
theorem lower_Cell_b4_is : (Try.f9.body.map fun b => tailsAt b 4) = some [lower_Cell_b4] := by kernel_rfl
noncomputable def lower_Cell_t4 : SkSt := ⟨(.cons (.int .i64) (.gap 2 (.cst (.ptr 0 0) (.cst (.ptr 1 0) (.cons (.int .i32) (.gap 13 .nil)))))), (.var 26 (.cons (.int .i32) (.cons (.int .i64) (.cons (.int .i64) (.cons (.int .i64) (.cons (.int .i64) .nil))))) (.var 26 (.cons (.int .i32) (.cons (.int .i64) (.cons (.int .i64) (.cons (.int .i64) (.cons (.int .i64) .nil))))) .nil))⟩
noncomputable def lower_Cell_y4_0 : SkSt := ⟨(.gap 4 (.cst (.ptr 0 0) (.gap 14 .nil))), (.var 26 (.cons (.int .i32) (.cons (.int .i64) (.cons (.int .i64) (.cons (.int .i64) (.cons (.int .i64) .nil))))) .nil)⟩
noncomputable def lower_Cell_ys4 : List (Ex × SkSt) := [(.ret, lower_Cell_y4_0)]
noncomputable def lower_Cell_J4 (a0 : Int) (a1 : Int) (a2 : Int) (a3 : Int) (a4 : Int) (a5 : Int) (a6 : Int) (a7 : Int) (a8 : Int) (a9 : Int) (a10 : Int) (a11 : Int) : Option (Int × Int × Int × Int × Int) := (optK ((hide lower_Pen_F a0 a4 a5 a6)) fun y2 => (some (a1, (0 : Int), (y2.1), (y2.2.1), (y2.2.2))))
noncomputable def lower_Cell_k4 {R : Type} (K : Ex → St → Option R) (o : Option (Int × Int × Int × Int × Int)) : Option R := optK o fun y => K (.ret) (lower_Cell_y4_0.enc ((), ((y.1, (y.2.1, (y.2.2.1, (y.2.2.2.1, (y.2.2.2.2, ()))))), ())))
theorem lower_Cell_j4 {R : Type} (K : Ex → St → Option R) (a0 : Int) (a1 : Int) (a2 : Int) (a3 : Int) (a4 : Int) (a5 : Int) (a6 : Int) (a7 : Int) (a8 : Int) (a9 : Int) (a10 : Int) (a11 : Int) : exec (envL sums6 ll0 cs0 (fun _ _ => false)) 9 (acall (envL sums6 ll0 cs0 (fun _ _ => false)) 1000) 0 lower_Cell_b4 (lower_Cell_t4.enc ((a0, (a1, ())), ((a2, (a3, (a4, (a5, (a6, ()))))), ((a7, (a8, (a9, (a10, (a11, ()))))), ())))) (exitK lower_Cell_ys4 0 K) = lower_Cell_k4 K (lower_Cell_J4 a0 a1 a2 a3 a4 a5 a6 a7 a8 a9 a10 a11) := by
    unfold lower_Cell_J4
    exact Eq.trans (by kernel_rfl) (optK_push (lower_Cell_k4 K) rfl _ fun y2 => rfl)
noncomputable def lower_Cell_D4 : GoL lower_Cell_t4 := fun R (x : ((Int × (Int × Unit)) × ((Int × (Int × (Int × (Int × (Int × Unit))))) × ((Int × (Int × (Int × (Int × (Int × Unit))))) × Unit)))) K => lower_Cell_k4 K (hide lower_Cell_J4 x.1.1 x.1.2.1 x.2.1.1 x.2.1.2.1 x.2.1.2.2.1 x.2.1.2.2.2.1 x.2.1.2.2.2.2.1 x.2.2.1.1 x.2.2.1.2.1 x.2.2.1.2.2.1 x.2.2.1.2.2.2.1 x.2.2.1.2.2.2.2.1)
theorem lower_Cell_C4 : CutOk Try.prog 9 4 (loopH lower_Cell_t4 0 lower_Cell_D4) := cut_known (envL_ok sums6_ok ll0_ok cs0_ok) (N := 1000) Try.func9 rfl lower_Cell_b4_is (xs := lower_Cell_ys4) fun R (x : ((Int × (Int × Unit)) × ((Int × (Int × (Int × (Int × (Int × Unit))))) × ((Int × (Int × (Int × (Int × (Int × Unit))))) × Unit)))) K => by
  show lower_Cell_k4 K (hide lower_Cell_J4 x.1.1 x.1.2.1 x.2.1.1 x.2.1.2.1 x.2.1.2.2.1 x.2.1.2.2.2.1 x.2.1.2.2.2.2.1 x.2.2.1.1 x.2.2.1.2.1 x.2.2.1.2.2.1 x.2.2.1.2.2.2.1 x.2.2.1.2.2.2.2.1) = _
  rw [hide_eq]
  exact (lower_Cell_j4 K x.1.1 x.1.2.1 x.2.1.1 x.2.1.2.1 x.2.1.2.2.1 x.2.1.2.2.2.1 x.2.1.2.2.2.2.1 x.2.2.1.1 x.2.2.1.2.1 x.2.2.1.2.2.1 x.2.2.1.2.2.2.1 x.2.2.1.2.2.2.2.1).symm
noncomputable def lower_Cell_d4 : LoopF := loopH lower_Cell_t4 0 lower_Cell_D4
noncomputable def lower_Cell_cs1 : LoopT := ((9, 4), lower_Cell_d4) :: cs0
theorem lower_Cell_cs1_ok : AllCut Try.prog lower_Cell_cs1 := ⟨lower_Cell_C4, cs0_ok⟩
noncomputable def lower_Cell_F (x0 : Int) (x1 : Int) (x2 : Int) (x3 : Int) (x4 : Int) (x5 : Int) : Option (Int × Int × Int × Int × Int) := (optK ((hide lower_Rune_F x0 x1)) fun y0 => (bif (x2 == (2 : Int)) then (optK (hide lower_Cell_J4 x0 ((32 : Int)) x1 x2 x3 x4 x5 (0 : Int) (0 : Int) (0 : Int) (0 : Int) (0 : Int)) fun y3 => (some ((y3.1), (y3.2.1), (y3.2.2.1), (y3.2.2.2.1), (y3.2.2.2.2)))) else (optK (hide lower_Cell_J4 x0 y0 x1 x2 x3 x4 x5 (0 : Int) (0 : Int) (0 : Int) (0 : Int) (0 : Int)) fun y4 => (some ((y4.1), (y4.2.1), (y4.2.2.1), (y4.2.2.2.1), (y4.2.2.2.2))))))
noncomputable def lower_Cell_A : SkL := (.cons (.int .i64) (.cons (.agg (.cons (.int .i32) (.cons (.int .i64) (.cons (.int .i64) (.cons (.int .i64) (.cons (.int .i64) .nil)))))) .nil))
noncomputable def lower_Cell_B : Sk := (.agg (.cons (.int .i32) (.cons (.int .i64) (.cons (.int .i64) (.cons (.int .i64) (.cons (.int .i64) .nil))))))
def lower_Cell_m {R : Type} (K : (Int × (Int × (Int × (Int × (Int × Unit))))) → Option R) (o : Option (Int × Int × Int × Int × Int)) : Option R := optK o fun y => K (y.1, (y.2.1, (y.2.2.1, (y.2.2.2.1, (y.2.2.2.2, ())))))
theorem lower_Cell_run {R : Type} (x0 : Int) (x1 : Int) (x2 : Int) (x3 : Int) (x4 : Int) (x5 : Int) (K : (Int × (Int × (Int × (Int × (Int × Unit))))) → Option R) : acall (envL sums6 ll0 lower_Cell_cs1 (fun _ _ => false)) 1000 9 (lower_Cell_A.enc (x0, ((x1, (x2, (x3, (x4, (x5, ()))))), ()))) [] (resK lower_Cell_B true K) = lower_Cell_m K (lower_Cell_F x0 x1 x2 x3 x4 x5) := by
  unfold lower_Cell_F
  exact Eq.trans (by kernel_rfl) (optK_push (lower_Cell_m K) rfl _ fun y0 => (cond_push (lower_Cell_m K) _ (optK_push (lower_Cell_m K) rfl _ fun y3 => rfl) (optK_push (lower_Cell_m K) rfl _ fun y4 => rfl)))
noncomputable def lower_Cell_G : GoF lower_Cell_A lower_Cell_B := fun R (x : (Int × ((Int × (Int × (Int × (Int × (Int × Unit))))) × Unit))) K => lower_Cell_m K (hide lower_Cell_F x.1 x.2.1.1 x.2.1.2.1 x.2.1.2.2.1 x.2.1.2.2.2.1 x.2.1.2.2.2.2.1)
theorem lower_Cell_known : Known Try.prog 9 lower_Cell_A lower_Cell_B true lower_Cell_G := known_of (envL_ok sums6_ok ll0_ok lower_Cell_cs1_ok) (n := 1000) rfl fun R (x : (Int × ((Int × (Int × (Int × (Int × (Int × Unit))))) × Unit))) K => by
  show _ = lower_Cell_m K (hide lower_Cell_F x.1 x.2.1.1 x.2.1.2.1 x.2.1.2.2.1 x.2.1.2.2.2.1 x.2.1.2.2.2.2.1)
  rw [hide_eq]
  exact lower_Cell_run x.1 x.2.1.1 x.2.1.2.1 x.2.1.2.2.1 x.2.1.2.2.2.1 x.2.1.2.2.2.2.1 K

noncomputable def linguistref15_View_c3 : Code := ((Try.f18.body.map fun b => loopsAt b 3).getD []).headD .skip
theorem linguistref15_View_c3_is : (Try.f18.body.map fun b => loopsAt b 3) = some [linguistref15_View_c3] := by kernel_rfl
noncomputable def linguistref15_View_s3 : SkSt := ⟨(.cons (.int .i64) (.gap 3 (.cst (.ptr 0 0) (.cst (.ptr 1 0) (.gap 22 (.cons (.list (.cons (.int .i32) (.cons (.int .i64) (.cons (.int .i64) (.cons (.int .i64) (.one (.int .i64))))))) (.cons (.int .i64) (.cons (.int .i64) (.gap 15 .nil))))))))), (.var 52 (.cons (.int .i64) (.cons (.int .i64) (.cst (.own 2 26 (.cons (.int .i32) (.cons (.int .i64) (.cons (.int .i64) (.cons (.int .i64) (.one (.int .i64))))))) (.cons (.int .i64) (.cons (.int .i64) (.cons .bool .nil)))))) (.var 52 (.cons (.int .i64) (.cons (.int .i64) (.cst (.own 3 26 (.cons (.int .i32) (.cons (.int .i64) (.cons (.int .i64) (.cons (.int .i64) (.one (.int .i64))))))) (.cons (.int .i64) (.cons (.int .i64) (.cons .bool .nil)))))) (.arr 26 (.cons (.int .i32) (.cons (.int .i64) (.cons (.int .i64) (.cons (.int .i64) (.one (.int .i64)))))) (.arr 26 (.cons (.int .i32) (.cons (.int .i64) (.cons (.int .i64) (.cons (.int .i64) (.one (.int .i64)))))) .nil))))⟩
noncomputable def linguistref15_View_x3_0 : SkSt := ⟨(.gap 4 (.cst (.ptr 0 0) (.cst (.ptr 1 0) (.gap 40 .nil)))), (.var 52 (.cons (.int .i64) (.cons (.int .i64) (.cst (.own 2 26 (.cons (.int .i32) (.cons (.int .i64) (.cons (.int .i64) (.cons (.int .i64) (.one (.int .i64))))))) (.cons (.int .i64) (.cons (.int .i64) (.cons .bool .nil)))))) (.var 52 (.cons (.int .i64) (.cons (.int .i64) (.cst (.own 3 26 (.cons (.int .i32) (.cons (.int .i64) (.cons (.int .i64) (.cons (.int .i64) (.one (.int .i64))))))) (.cons (.int .i64) (.cons (.int .i64) (.cons .bool .nil)))))) (.arr 26 (.cons (.int .i32) (.cons (.int .i64) (.cons (.int .i64) (.cons (.int .i64) (.one (.int .i64)))))) (.arr 26 (.cons (.int .i32) (.cons (.int .i64) (.cons (.int .i64) (.cons (.int .i64) (.one (.int .i64)))))) .nil))))⟩
noncomputable def linguistref15_View_xs3 : List (Ex × SkSt) := [(.exit 0, linguistref15_View_x3_0)]
noncomputable def linguistref15_View_L3 : Nat → Int → List (Int × Int × Int × Int × Int) → Int → Int → Int → Int → Int → Int → Bool → Int → Int → Int → Int → Bool → List (Int × Int × Int × Int × Int) → List (Int × Int × Int × Int × Int) → Option (Int × Int × Int × Int × Bool × Int × Int × Int × Int × Bool × (List (Int × Int × Int × Int × Int)) × (List (Int × Int × Int × Int × Int)))
  | 0, _, _, _, _, _, _, _, _, _, _, _, _, _, _, _, _ => none
  | n + 1, a0, a1, a2, a3, a4, a5, a6, a7, a8, a9, a10, a11, a12, a13, a14, a15 => (bif (decide (a3 < a2)) then (bif (decide ((0 : Int) ≤ a3) && decide (a3 < Int.ofNat a1.length) && true) then (optK ((hide linguistref15_Cell_F a0 (a1.getD a3.toNat ((0 : Int), (0 : Int), (0 : Int), (0 : Int), (0 : Int))).1 (a1.getD a3.toNat ((0 : Int), (0 : Int), (0 : Int), (0 : Int), (0 : Int))).2.1 (a1.getD a3.toNat ((0 : Int), (0 : Int), (0 : Int), (0 : Int), (0 : Int))).2.2.1 (a1.getD a3.toNat ((0 : Int), (0 : Int), (0 : Int), (0 : Int), (0 : Int))).2.2.2.1 (a1.getD a3.toNat ((0 : Int), (0 : Int), (0 : Int), (0 : Int), (0 : Int))).2.2.2.2)) fun y1 => (bif (true && ((a15.length + [(y1.1, y1.2.1, y1.2.2.1, y1.2.2.2.1, y1.2.2.2.2)].length).ble (274877906944 : Nat) && true)) then (linguistref15_View_L3 n a0 a1 a2 (IntKind.i64.wrap (a3 + (1 : Int))) a4 a5 a6 a7 a8 a9 a10 a11 a12 a13 a14 (a15 ++ [(y1.1, y1.2.1, y1.2.2.1, y1.2.2.2.1, y1.2.2.2.2)])) else none)) else none) else (some (a4, a5, a6, a7, a8, a9, a10, a11, a12, a13, a14, a15)))
noncomputable def linguistref15_View_I3 {R : Type} (K : Ex → St → Option R) : Nat → St → Option R := iterN (exec (envL sums6 ll0 cs0 (fun _ _ => false)) 18 (acall (envL sums6 ll0 cs0 (fun _ _ => false)) 1000) 0 linguistref15_View_c3) (normTo linguistref15_View_s3 0) (exitK linguistref15_View_xs3 0 K)
noncomputable def linguistref15_View_m3 {R : Type} (K : Ex → St → Option R) (o : Option (Int × Int × Int × Int × Bool × Int × Int × Int × Int × Bool × (List (Int × Int × Int × Int × Int)) × (List (Int × Int × Int × Int × Int)))) : Option R := optK o fun y => K (.exit 0) (linguistref15_View_x3_0.enc ((), ((y.1, (y.2.1, (y.2.2.1, (y.2.2.2.1, (y.2.2.2.2.1, ()))))), ((y.2.2.2.2.2.1, (y.2.2.2.2.2.2.1, (y.2.2.2.2.2.2.2.1, (y.2.2.2.2.2.2.2.2.1, (y.2.2.2.2.2.2.2.2.2.1, ()))))), (y.2.2.2.2.2.2.2.2.2.2.1, (y.2.2.2.2.2.2.2.2.2.2.2, ()))))))
theorem linguistref15_View_l3 {R : Type} (K : Ex → St → Option R) : ∀ (n : Nat), ∀ (a0 : Int) (a1 : List (Int × Int × Int × Int × Int)) (a2 : Int) (a3 : Int) (a4 : Int) (a5 : Int) (a6 : Int) (a7 : Int) (a8 : Bool) (a9 : Int) (a10 : Int) (a11 : Int) (a12 : Int) (a13 : Bool) (a14 : List (Int × Int × Int × Int × Int)) (a15 : List (Int × Int × Int × Int × Int)), linguistref15_View_I3 K n (linguistref15_View_s3.enc ((a0, (a1, (a2, (a3, ())))), ((a4, (a5, (a6, (a7, (a8, ()))))), ((a9, (a10, (a11, (a12, (a13, ()))))), (a14, (a15, ())))))) = linguistref15_View_m3 K (linguistref15_View_L3 n a0 a1 a2 a3 a4 a5 a6 a7 a8 a9 a10 a11 a12 a13 a14 a15) := by
  intro n
  induction n with
  | zero => intros; rfl
  | succ n ih =>
    intro a0 a1 a2 a3 a4 a5 a6 a7 a8 a9 a10 a11 a12 a13 a14 a15
    rw [linguistref15_View_L3]
    exact Eq.trans (by kernel_rfl) (cond_push (linguistref15_View_m3 K) _ (cond_push (linguistref15_View_m3 K) _ (optK_push (linguistref15_View_m3 K) rfl _ fun y1 => (cond_push (linguistref15_View_m3 K) _ (ih a0 a1 a2 (IntKind.i64.wrap (a3 + (1 : Int))) a4 a5 a6 a7 a8 a9 a10 a11 a12 a13 a14 (a15 ++ [(y1.1, y1.2.1, y1.2.2.1, y1.2.2.2.1, y1.2.2.2.2)])) rfl)) rfl) rfl)
def linguistref15_View_fu3 (a0 : Int) (a1 : List (Int × Int × Int × Int × Int)) (a2 : Int) (a3 : Int) (a4 : Int) (a5 : Int) (a6 : Int) (a7 : Int) (a8 : Bool) (a9 : Int) (a10 : Int) (a11 : Int) (a12 : Int) (a13 : Bool) (a14 : List (Int × Int × Int × Int × Int)) (a15 : List (Int × Int × Int × Int × Int)) : Nat := Int.natAbs a0 + List.length a1 + Int.natAbs a2 + Int.natAbs a3 + Int.natAbs a4 + Int.natAbs a5 + Int.natAbs a6 + Int.natAbs a7 + 0 + Int.natAbs a9 + Int.natAbs a10 + Int.natAbs a11 + Int.natAbs a12 + 0 + List.length a14 + List.length a15 + 5000
noncomputable def linguistref15_View_G3 : GoL linguistref15_View_s3 := fun R (x : ((Int × (List (Int × Int × Int × Int × Int) × (Int × (Int × Unit)))) × ((Int × (Int × (Int × (Int × (Bool × Unit))))) × ((Int × (Int × (Int × (Int × (Bool × Unit))))) × (List (Int × Int × Int × Int × Int) × (List (Int × Int × Int × Int × Int) × Unit)))))) K => linguistref15_View_m3 K (hide linguistref15_View_L3 (linguistref15_View_fu3 x.1.1 x.1.2.1 x.1.2.2.1 x.1.2.2.2.1 x.2.1.1 x.2.1.2.1 x.2.1.2.2.1 x.2.1.2.2.2.1 x.2.1.2.2.2.2.1 x.2.2.1.1 x.2.2.1.2.1 x.2.2.1.2.2.1 x.2.2.1.2.2.2.1 x.2.2.1.2.2.2.2.1 x.2.2.2.1 x.2.2.2.2.1) x.1.1 x.1.2.1 x.1.2.2.1 x.1.2.2.2.1 x.2.1.1 x.2.1.2.1 x.2.1.2.2.1 x.2.1.2.2.2.1 x.2.1.2.2.2.2.1 x.2.2.1.1 x.2.2.1.2.1 x.2.2.1.2.2.1 x.2.2.1.2.2.2.1 x.2.2.1.2.2.2.2.1 x.2.2.2.1 x.2.2.2.2.1)
theorem linguistref15_View_H3 : LoopOk Try.prog 18 3 (loopH linguistref15_View_s3 0 linguistref15_View_G3) := loop_known (envL_ok sums6_ok ll0_ok cs0_ok) Try.func18 rfl linguistref15_View_c3_is (xs := linguistref15_View_xs3) (fuel := fun (x : ((Int × (List (Int × Int × Int × Int × Int) × (Int × (Int × Unit)))) × ((Int × (Int × (Int × (Int × (Bool × Unit))))) × ((Int × (Int × (Int × (Int × (Bool × Unit))))) × (List (Int × Int × Int × Int × Int) × (List (Int × Int × Int × Int × Int) × Unit)))))) => linguistref15_View_fu3 x.1.1 x.1.2.1 x.1.2.2.1 x.1.2.2.2.1 x.2.1.1 x.2.1.2.1 x.2.1.2.2.1 x.2.1.2.2.2.1 x.2.1.2.2.2.2.1 x.2.2.1.1 x.2.2.1.2.1 x.2.2.1.2.2.1 x.2.2.1.2.2.2.1 x.2.2.1.2.2.2.2.1 x.2.2.2.1 x.2.2.2.2.1) fun R (x : ((Int × (List (Int × Int × Int × Int × Int) × (Int × (Int × Unit)))) × ((Int × (Int × (Int × (Int × (Bool × Unit))))) × ((Int × (Int × (Int × (Int × (Bool × Unit))))) × (List (Int × Int × Int × Int × Int) × (List (Int × Int × Int × Int × Int) × Unit)))))) K => by
  show linguistref15_View_m3 K (hide linguistref15_View_L3 (linguistref15_View_fu3 x.1.1 x.1.2.1 x.1.2.2.1 x.1.2.2.2.1 x.2.1.1 x.2.1.2.1 x.2.1.2.2.1 x.2.1.2.2.2.1 x.2.1.2.2.2.2.1 x.2.2.1.1 x.2.2.1.2.1 x.2.2.1.2.2.1 x.2.2.1.2.2.2.1 x.2.2.1.2.2.2.2.1 x.2.2.2.1 x.2.2.2.2.1) x.1.1 x.1.2.1 x.1.2.2.1 x.1.2.2.2.1 x.2.1.1 x.2.1.2.1 x.2.1.2.2.1 x.2.1.2.2.2.1 x.2.1.2.2.2.2.1 x.2.2.1.1 x.2.2.1.2.1 x.2.2.1.2.2.1 x.2.2.1.2.2.2.1 x.2.2.1.2.2.2.2.1 x.2.2.2.1 x.2.2.2.2.1) = _
  rw [hide_eq]
  exact (linguistref15_View_l3 K (linguistref15_View_fu3 x.1.1 x.1.2.1 x.1.2.2.1 x.1.2.2.2.1 x.2.1.1 x.2.1.2.1 x.2.1.2.2.1 x.2.1.2.2.2.1 x.2.1.2.2.2.2.1 x.2.2.1.1 x.2.2.1.2.1 x.2.2.1.2.2.1 x.2.2.1.2.2.2.1 x.2.2.1.2.2.2.2.1 x.2.2.2.1 x.2.2.2.2.1) x.1.1 x.1.2.1 x.1.2.2.1 x.1.2.2.2.1 x.2.1.1 x.2.1.2.1 x.2.1.2.2.1 x.2.1.2.2.2.1 x.2.1.2.2.2.2.1 x.2.2.1.1 x.2.2.1.2.1 x.2.2.1.2.2.1 x.2.2.1.2.2.2.1 x.2.2.1.2.2.2.2.1 x.2.2.2.1 x.2.2.2.2.1).symm
noncomputable def linguistref15_View_h3 : LoopF := loopH linguistref15_View_s3 0 linguistref15_View_G3
noncomputable def linguistref15_View_ll1 : LoopT := ((18, 3), linguistref15_View_h3) :: ll0
theorem linguistref15_View_ll1_ok : AllLoop Try.prog linguistref15_View_ll1 := ⟨linguistref15_View_H3, ll0_ok⟩
noncomputable def linguistref15_View_F (x0 : Int) (x1 : Int) (x2 : Int) (x3 : List (Int × Int × Int × Int × Int)) (x4 : Int) (x5 : Int) (x6 : Bool) (x7 : Int) (x8 : Int) (x9 : Int) (x10 : Int) (x11 : Int) (x12 : Int) (x13 : Int) (x14 : Int) (x15 : Int) (x16 : Bool) (x17 : Bool) (x18 : Bool) (x19 : Bool) (x20 : Bool) (x21 : Int) (x22 : Int) (x23 : Int) (x24 : Int) (x25 : Int) (x26 : Int) (x27 : Int) (x28 : Int) (x29 : Bool) : Option (Int × Int × (List (Int × Int × Int × Int × Int)) × Int × Int × Bool) := (bif x18 then (optK (hide linguistref15_View_L3 (linguistref15_View_fu3 x0 x3 (Int.ofNat x3.length) (0 : Int) (0 : Int) (0 : Int) (0 : Int) (0 : Int) (false) x1 x2 x4 x5 (true) ([]) ([])) x0 x3 (Int.ofNat x3.length) (0 : Int) (0 : Int) (0 : Int) (0 : Int) (0 : Int) (false) x1 x2 x4 x5 (true) ([]) ([])) fun y2 => (some ((y2.2.2.2.2.2.1), (y2.2.2.2.2.2.2.1), (y2.2.2.2.2.2.2.2.2.2.2.2), (y2.2.2.2.2.2.2.2.1), (y2.2.2.2.2.2.2.2.2.1), (y2.2.2.2.2.2.2.2.2.2.1)))) else (optK (hide linguistref15_View_L3 (linguistref15_View_fu3 x0 x3 (Int.ofNat x3.length) (0 : Int) (0 : Int) (0 : Int) (0 : Int) (0 : Int) (false) x1 x2 x4 x5 (x0 != (2 : Int)) ([]) ([])) x0 x3 (Int.ofNat x3.length) (0 : Int) (0 : Int) (0 : Int) (0 : Int) (0 : Int) (false) x1 x2 x4 x5 (x0 != (2 : Int)) ([]) ([])) fun y3 => (some ((y3.2.2.2.2.2.1), (y3.2.2.2.2.2.2.1), (y3.2.2.2.2.2.2.2.2.2.2.2), (y3.2.2.2.2.2.2.2.1), (y3.2.2.2.2.2.2.2.2.1), (y3.2.2.2.2.2.2.2.2.2.1)))))
noncomputable def linguistref15_View_A : SkL := (.cons (.int .i64) (.cons (.agg (.cons (.int .i64) (.cons (.int .i64) (.cons (.list (.cons (.int .i32) (.cons (.int .i64) (.cons (.int .i64) (.cons (.int .i64) (.one (.int .i64))))))) (.cons (.int .i64) (.cons (.int .i64) (.cons .bool (.cons (.int .i64) (.cons (.int .i64) (.cons (.int .i64) (.cons (.int .i64) (.cons (.int .i64) (.cons (.int .u64) (.cons (.int .u8) (.cons (.int .u8) (.cons (.int .i64) (.cons .bool (.cons .bool (.cons .bool (.cons .bool (.cons .bool (.cons (.int .i64) (.cons (.int .i64) (.cons (.int .i64) (.cons (.int .i64) (.cons (.int .i64) (.cons (.int .u8) (.cons (.int .u8) (.cons (.int .i64) (.cons .bool .nil)))))))))))))))))))))))))))))) .nil))
noncomputable def linguistref15_View_B : Sk := (.agg (.cons (.int .i64) (.cons (.int .i64) (.cons (.list (.cons (.int .i32) (.cons (.int .i64) (.cons (.int .i64) (.cons (.int .i64) (.one (.int .i64))))))) (.cons (.int .i64) (.cons (.int .i64) (.cons .bool .nil)))))))
def linguistref15_View_m {R : Type} (K : (Int × (Int × (List (Int × Int × Int × Int × Int) × (Int × (Int × (Bool × Unit)))))) → Option R) (o : Option (Int × Int × (List (Int × Int × Int × Int × Int)) × Int × Int × Bool)) : Option R := optK o fun y => K (y.1, (y.2.1, (y.2.2.1, (y.2.2.2.1, (y.2.2.2.2.1, (y.2.2.2.2.2, ()))))))
theorem linguistref15_View_run {R : Type} (x0 : Int) (x1 : Int) (x2 : Int) (x3 : List (Int × Int × Int × Int × Int)) (x4 : Int) (x5 : Int) (x6 : Bool) (x7 : Int) (x8 : Int) (x9 : Int) (x10 : Int) (x11 : Int) (x12 : Int) (x13 : Int) (x14 : Int) (x15 : Int) (x16 : Bool) (x17 : Bool) (x18 : Bool) (x19 : Bool) (x20 : Bool) (x21 : Int) (x22 : Int) (x23 : Int) (x24 : Int) (x25 : Int) (x26 : Int) (x27 : Int) (x28 : Int) (x29 : Bool) (K : (Int × (Int × (List (Int × Int × Int × Int × Int) × (Int × (Int × (Bool × Unit)))))) → Option R) : acall (envL sums6 linguistref15_View_ll1 cs0 (fun _ _ => false)) 1000 18 (linguistref15_View_A.enc (x0, ((x1, (x2, (x3, (x4, (x5, (x6, (x7, (x8, (x9, (x10, (x11, (x12, (x13, (x14, (x15, (x16, (x17, (x18, (x19, (x20, (x21, (x22, (x23, (x24, (x25, (x26, (x27, (x28, (x29, ()))))))))))))))))))))))))))))), ()))) [] (resK linguistref15_View_B true K) = linguistref15_View_m K (linguistref15_View_F x0 x1 x2 x3 x4 x5 x6 x7 x8 x9 x10 x11 x12 x13 x14 x15 x16 x17 x18 x19 x20 x21 x22 x23 x24 x25 x26 x27 x28 x29) := by
  unfold linguistref15_View_F
  exact Eq.trans (by kernel_rfl) (cond_push (linguistref15_View_m K) _ (optK_push (linguistref15_View_m K) rfl _ fun y2 => rfl) (optK_push (linguistref15_View_m K) rfl _ fun y3 => rfl))
noncomputable def linguistref15_View_G : GoF linguistref15_View_A linguistref15_View_B := fun R (x : (Int × ((Int × (Int × (List (Int × Int × Int × Int × Int) × (Int × (Int × (Bool × (Int × (Int × (Int × (Int × (Int × (Int × (Int × (Int × (Int × (Bool × (Bool × (Bool × (Bool × (Bool × (Int × (Int × (Int × (Int × (Int × (Int × (Int × (Int × (Bool × Unit))))))))))))))))))))))))))))) × Unit))) K => linguistref15_View_m K (hide linguistref15_View_F x.1 x.2.1.1 x.2.1.2.1 x.2.1.2.2.1 x.2.1.2.2.2.1 x.2.1.2.2.2.2.1 x.2.1.2.2.2.2.2.1 x.2.1.2.2.2.2.2.2.1 x.2.1.2.2.2.2.2.2.2.1 x.2.1.2.2.2.2.2.2.2.2.1 x.2.1.2.2.2.2.2.2.2.2.2.1 x.2.1.2.2.2.2.2.2.2.2.2.2.1 x.2.1.2.2.2.2.2.2.2.2.2.2.2.1 x.2.1.2.2.2.2.2.2.2.2.2.2.2.2.1 x.2.1.2.2.2.2.2.2.2.2.2.2.2.2.2.1 x.2.1.2.2.2.2.2.2.2.2.2.2.2.2.2.2.1 x.2.1.2.2.2.2.2.2.2.2.2.2.2.2.2.2.2.1 x.2.1.2.2.2.2.2.2.2.2.2.2.2.2.2.2.2.2.1 x.2.1.2.2.2.2.2.2.2.2.2.2.2.2.2.2.2.2.2.1 x.2.1.2.2.2.2.2.2.2.2.2.2.2.2.2.2.2.2.2.2.1 x.2.1.2.2.2.2.2.2.2.2.2.2.2.2.2.2.2.2.2.2.2.1 x.2.1.2.2.2.2.2.2.2.2.2.2.2.2.2.2.2.2.2.2.2.2.1 x.2.1.2.2.2.2.2.2.2.2.2.2.2.2.2.2.2.2.2.2.2.2.2.1 x.2.1.2.2.2.2.2.2.2.2.2.2.2.2.2.2.2.2.2.2.2.2.2.2.1 x.2.1.2.2.2.2.2.2.2.2.2.2.2.2.2.2.2.2.2.2.2.2.2.2.2.1 x.2.1.2.2.2.2.2.2.2.2.2.2.2.2.2.2.2.2.2.2.2.2.2.2.2.2.1 x.2.1.2.2.2.2.2.2.2.2.2.2.2.2.2.2.2.2.2.2.2.2.2.2.2.2.2.1 x.2.1.2.2.2.2.2.2.2.2.2.2.2.2.2.2.2.2.2.2.2.2.2.2.2.2.2.2.1 x.2.1.2.2.2.2.2.2.2.2.2.2.2.2.2.2.2.2.2.2.2.2.2.2.2.2.2.2.2.1 x.2.1.2.2.2.2.2.2.2.2.2.2.2.2.2.2.2.2.2.2.2.2.2.2.2.2.2.2.2.2.1)
theorem linguistref15_View_known : Known Try.prog 18 linguistref15_View_A linguistref15_View_B true linguistref15_View_G := known_of (envL_ok sums6_ok linguistref15_View_ll1_ok cs0_ok) (n := 1000) rfl fun R (x : (Int × ((Int × (Int × (List (Int × Int × Int × Int × Int) × (Int × (Int × (Bool × (Int × (Int × (Int × (Int × (Int × (Int × (Int × (Int × (Int × (Bool × (Bool × (Bool × (Bool × (Bool × (Int × (Int × (Int × (Int × (Int × (Int × (Int × (Int × (Bool × Unit))))))))))))))))))))))))))))) × Unit))) K => by
  show _ = linguistref15_View_m K (hide linguistref15_View_F x.1 x.2.1.1 x.2.1.2.1 x.2.1.2.2.1 x.2.1.2.2.2.1 x.2.1.2.2.2.2.1 x.2.1.2.2.2.2.2.1 x.2.1.2.2.2.2.2.2.1 x.2.1.2.2.2.2.2.2.2.1 x.2.1.2.2.2.2.2.2.2.2.1 x.2.1.2.2.2.2.2.2.2.2.2.1 x.2.1.2.2.2.2.2.2.2.2.2.2.1 x.2.1.2.2.2.2.2.2.2.2.2.2.2.1 x.2.1.2.2.2.2.2.2.2.2.2.2.2.2.1 x.2.1.2.2.2.2.2.2.2.2.2.2.2.2.2.1 x.2.1.2.2.2.2.2.2.2.2.2.2.2.2.2.2.1 x.2.1.2.2.2.2.2.2.2.2.2.2.2.2.2.2.2.1 x.2.1.2.2.2.2.2.2.2.2.2.2.2.2.2.2.2.2.1 x.2.1.2.2.2.2.2.2.2.2.2.2.2.2.2.2.2.2.2.1 x.2.1.2.2.2.2.2.2.2.2.2.2.2.2.2.2.2.2.2.2.1 x.2.1.2.2.2.2.2.2.2.2.2.2.2.2.2.2.2.2.2.2.2.1 x.2.1.2.2.2.2.2.2.2.2.2.2.2.2.2.2.2.2.2.2.2.2.1 x.2.1.2.2.2.2.2.2.2.2.2.2.2.2.2.2.2.2.2.2.2.2.2.1 x.2.1.2.2.2.2.2.2.2.2.2.2.2.2.2.2.2.2.2.2.2.2.2.2.1 x.2.1.2.2.2.2.2.2.2.2.2.2.2.2.2.2.2.2.2.2.2.2.2.2.2.1 x.2.1.2.2.2.2.2.2.2.2.2.2.2.2.2.2.2.2.2.2.2.2.2.2.2.2.1 x.2.1.2.2.2.2.2.2.2.2.2.2.2.2.2.2.2.2.2.2.2.2.2.2.2.2.2.1 x.2.1.2.2.2.2.2.2.2.2.2.2.2.2.2.2.2.2.2.2.2.2.2.2.2.2.2.2.1 x.2.1.2.2.2.2.2.2.2.2.2.2.2.2.2.2.2.2.2.2.2.2.2.2.2.2.2.2.2.1 x.2.1.2.2.2.2.2.2.2.2.2.2.2.2.2.2.2.2.2.2.2.2.2.2.2.2.2.2.2.2.1)
  rw [hide_eq]
  exact linguistref15_View_run x.1 x.2.1.1 x.2.1.2.1 x.2.1.2.2.1 x.2.1.2.2.2.1 x.2.1.2.2.2.2.1 x.2.1.2.2.2.2.2.1 x.2.1.2.2.2.2.2.2.1 x.2.1.2.2.2.2.2.2.2.1 x.2.1.2.2.2.2.2.2.2.2.1 x.2.1.2.2.2.2.2.2.2.2.2.1 x.2.1.2.2.2.2.2.2.2.2.2.2.1 x.2.1.2.2.2.2.2.2.2.2.2.2.2.1 x.2.1.2.2.2.2.2.2.2.2.2.2.2.2.1 x.2.1.2.2.2.2.2.2.2.2.2.2.2.2.2.1 x.2.1.2.2.2.2.2.2.2.2.2.2.2.2.2.2.1 x.2.1.2.2.2.2.2.2.2.2.2.2.2.2.2.2.2.1 x.2.1.2.2.2.2.2.2.2.2.2.2.2.2.2.2.2.2.1 x.2.1.2.2.2.2.2.2.2.2.2.2.2.2.2.2.2.2.2.1 x.2.1.2.2.2.2.2.2.2.2.2.2.2.2.2.2.2.2.2.2.1 x.2.1.2.2.2.2.2.2.2.2.2.2.2.2.2.2.2.2.2.2.2.1 x.2.1.2.2.2.2.2.2.2.2.2.2.2.2.2.2.2.2.2.2.2.2.1 x.2.1.2.2.2.2.2.2.2.2.2.2.2.2.2.2.2.2.2.2.2.2.2.1 x.2.1.2.2.2.2.2.2.2.2.2.2.2.2.2.2.2.2.2.2.2.2.2.2.1 x.2.1.2.2.2.2.2.2.2.2.2.2.2.2.2.2.2.2.2.2.2.2.2.2.2.1 x.2.1.2.2.2.2.2.2.2.2.2.2.2.2.2.2.2.2.2.2.2.2.2.2.2.2.1 x.2.1.2.2.2.2.2.2.2.2.2.2.2.2.2.2.2.2.2.2.2.2.2.2.2.2.2.1 x.2.1.2.2.2.2.2.2.2.2.2.2.2.2.2.2.2.2.2.2.2.2.2.2.2.2.2.2.1 x.2.1.2.2.2.2.2.2.2.2.2.2.2.2.2.2.2.2.2.2.2.2.2.2.2.2.2.2.2.1 x.2.1.2.2.2.2.2.2.2.2.2.2.2.2.2.2.2.2.2.2.2.2.2.2.2.2.2.2.2.2.1 K
end Go.Proofs.YtlpmhldejeaefaaAbs

-- Written by a program of this session (dec.py); Lean checks it.
namespace Go.Proofs.YtlpmhldejeaefaaAbs
open Go Go.Proofs
set_option linter.unusedVariables false
set_option maxHeartbeats 2000000
noncomputable def sums7 : SumT := (9, sumH lower_Cell_A lower_Cell_B true lower_Cell_G) :: (18, sumH linguistref15_View_A linguistref15_View_B true linguistref15_View_G) :: sums6
theorem sums7_ok : AllSum Try.prog sums7 := ⟨sumH_ok rfl rfl lower_Cell_known, ⟨sumH_ok rfl rfl linguistref15_View_known, sums6_ok⟩⟩
end Go.Proofs.YtlpmhldejeaefaaAbs

-- Written by a program of this session (dec.py); Lean checks it.
namespace Go.Proofs.YtlpmhldejeaefaaAbs
open Go Go.Proofs
set_option linter.unusedVariables false
set_option maxHeartbeats 2000000
noncomputable def lower_View_c4 : Code := ((Try.f17.body.map fun b => loopsAt b 4).getD []).headD .skip
theorem lower_View_c4_is : (Try.f17.body.map fun b => loopsAt b 4) = some [lower_View_c4] := by kernel_rfl
noncomputable def lower_View_s4 : SkSt := ⟨(.cons (.int .i64) (.gap 2 (.cst (.ptr 0 0) (.cst (.ptr 1 0) (.cst (.ptr 2 0) (.gap 9 (.cst (.own 3 26 (.cons (.int .i32) (.cons (.int .i64) (.cons (.int .i64) (.cons (.int .i64) (.one (.int .i64))))))) (.cons (.int .i64) (.cons (.int .i64) (.gap 24 .nil)))))))))), (.var 48 (.cons (.int .i64) (.cons (.int .i64) (.cons (.list (.cons (.int .i32) (.cons (.int .i64) (.cons (.int .i64) (.cons (.int .i64) (.one (.int .i64))))))) (.cons (.int .i64) (.cons (.int .i64) (.cons .bool (.cons (.int .i64) (.cons (.int .i64) (.cons (.int .i64) (.cons (.int .i64) (.cons (.int .i64) (.cons (.int .u64) (.cons (.int .u8) (.cons (.int .u8) (.cons (.int .i64) (.cons .bool (.cons .bool (.cons .bool (.cons .bool (.cons .bool (.cons (.int .i64) (.cons (.int .i64) (.cons (.int .i64) (.cons (.int .i64) (.cons (.int .i64) (.cons (.int .u8) (.cons (.int .u8) (.cons (.int .i64) (.cons .bool .nil))))))))))))))))))))))))))))) (.var 52 (.cons (.int .i64) (.cons (.int .i64) (.cst (.own 4 26 (.cons (.int .i32) (.cons (.int .i64) (.cons (.int .i64) (.cons (.int .i64) (.one (.int .i64))))))) (.cons (.int .i64) (.cons (.int .i64) (.cons .bool .nil)))))) (.var 43 (.cons (.int .i64) (.cons (.int .i64) (.cst (.own 3 26 (.cons (.int .i32) (.cons (.int .i64) (.cons (.int .i64) (.cons (.int .i64) (.one (.int .i64))))))) .nil))) (.arr 26 (.cons (.int .i32) (.cons (.int .i64) (.cons (.int .i64) (.cons (.int .i64) (.one (.int .i64)))))) (.arr 26 (.cons (.int .i32) (.cons (.int .i64) (.cons (.int .i64) (.cons (.int .i64) (.one (.int .i64)))))) .nil)))))⟩
noncomputable def lower_View_x4_0 : SkSt := ⟨(.cons (.int .i64) (.gap 2 (.cst (.ptr 0 0) (.cst (.ptr 1 0) (.cst (.ptr 2 0) (.gap 36 .nil)))))), (.var 48 (.cons (.int .i64) (.cons (.int .i64) (.cons (.list (.cons (.int .i32) (.cons (.int .i64) (.cons (.int .i64) (.cons (.int .i64) (.one (.int .i64))))))) (.cons (.int .i64) (.cons (.int .i64) (.cons .bool (.cons (.int .i64) (.cons (.int .i64) (.cons (.int .i64) (.cons (.int .i64) (.cons (.int .i64) (.cons (.int .u64) (.cons (.int .u8) (.cons (.int .u8) (.cons (.int .i64) (.cons .bool (.cons .bool (.cons .bool (.cons .bool (.cons .bool (.cons (.int .i64) (.cons (.int .i64) (.cons (.int .i64) (.cons (.int .i64) (.cons (.int .i64) (.cons (.int .u8) (.cons (.int .u8) (.cons (.int .i64) (.cons .bool .nil))))))))))))))))))))))))))))) (.var 52 (.cons (.int .i64) (.cons (.int .i64) (.cst (.own 3 26 (.cons (.int .i32) (.cons (.int .i64) (.cons (.int .i64) (.cons (.int .i64) (.one (.int .i64))))))) (.cons (.int .i64) (.cons (.int .i64) (.cons .bool .nil)))))) (.var 43 (.cons (.int .i64) (.cons (.int .i64) (.cst (.own 4 26 (.cons (.int .i32) (.cons (.int .i64) (.cons (.int .i64) (.cons (.int .i64) (.one (.int .i64))))))) .nil))) (.arr 26 (.cons (.int .i32) (.cons (.int .i64) (.cons (.int .i64) (.cons (.int .i64) (.one (.int .i64)))))) (.arr 26 (.cons (.int .i32) (.cons (.int .i64) (.cons (.int .i64) (.cons (.int .i64) (.one (.int .i64)))))) .nil)))))⟩
noncomputable def lower_View_xs4 : List (Ex × SkSt) := [(.exit 0, lower_View_x4_0)]
noncomputable def lower_View_L4 : Nat → Int → Int → Int → Int → Int → List (Int × Int × Int × Int × Int) → Int → Int → Bool → Int → Int → Int → Int → Int → Int → Int → Int → Int → Bool → Bool → Bool → Bool → Bool → Int → Int → Int → Int → Int → Int → Int → Int → Bool → Int → Int → Int → Int → Bool → Int → Int → List (Int × Int × Int × Int × Int) → List (Int × Int × Int × Int × Int) → Option (Int × Int × Int × (List (Int × Int × Int × Int × Int)) × Int × Int × Bool × Int × Int × Int × Int × Int × Int × Int × Int × Int × Bool × Bool × Bool × Bool × Bool × Int × Int × Int × Int × Int × Int × Int × Int × Bool × Int × Int × Int × Int × Bool × Int × Int × (List (Int × Int × Int × Int × Int)) × (List (Int × Int × Int × Int × Int)))
  | 0, _, _, _, _, _, _, _, _, _, _, _, _, _, _, _, _, _, _, _, _, _, _, _, _, _, _, _, _, _, _, _, _, _, _, _, _, _, _, _, _, _ => none
  | n + 1, a0, a1, a2, a3, a4, a5, a6, a7, a8, a9, a10, a11, a12, a13, a14, a15, a16, a17, a18, a19, a20, a21, a22, a23, a24, a25, a26, a27, a28, a29, a30, a31, a32, a33, a34, a35, a36, a37, a38, a39, a40 => (bif (decide (a2 < a1)) then (bif (decide ((0 : Int) ≤ a2) && decide (a2 < Int.ofNat a39.length) && true) then (optK ((hide lower_Cell_F a0 (a39.getD a2.toNat ((0 : Int), (0 : Int), (0 : Int), (0 : Int), (0 : Int))).1 (a39.getD a2.toNat ((0 : Int), (0 : Int), (0 : Int), (0 : Int), (0 : Int))).2.1 (a39.getD a2.toNat ((0 : Int), (0 : Int), (0 : Int), (0 : Int), (0 : Int))).2.2.1 (a39.getD a2.toNat ((0 : Int), (0 : Int), (0 : Int), (0 : Int), (0 : Int))).2.2.2.1 (a39.getD a2.toNat ((0 : Int), (0 : Int), (0 : Int), (0 : Int), (0 : Int))).2.2.2.2)) fun y1 => (bif (decide ((0 : Int) ≤ a2) && decide (a2 < Int.ofNat a39.length) && true) then (lower_View_L4 n a0 a1 (IntKind.i64.wrap (a2 + (1 : Int))) a3 a4 a5 a6 a7 a8 a9 a10 a11 a12 a13 a14 a15 a16 a17 a18 a19 a20 a21 a22 a23 a24 a25 a26 a27 a28 a29 a30 a31 a32 a33 a34 a35 a36 a37 a38 (a39.set a2.toNat (y1.1, y1.2.1, y1.2.2.1, y1.2.2.2.1, y1.2.2.2.2)) a40) else none)) else none) else (some (a0, a3, a4, a5, a6, a7, a8, a9, a10, a11, a12, a13, a14, a15, a16, a17, a18, a19, a20, a21, a22, a23, a24, a25, a26, a27, a28, a29, a30, a31, a32, a33, a34, a35, a36, a37, a38, a40, a39)))
noncomputable def lower_View_I4 {R : Type} (K : Ex → St → Option R) : Nat → St → Option R := iterN (exec (envL sums7 ll0 cs0 (fun _ _ => false)) 17 (acall (envL sums7 ll0 cs0 (fun _ _ => false)) 1000) 0 lower_View_c4) (normTo lower_View_s4 0) (exitK lower_View_xs4 0 K)
noncomputable def lower_View_m4 {R : Type} (K : Ex → St → Option R) (o : Option (Int × Int × Int × (List (Int × Int × Int × Int × Int)) × Int × Int × Bool × Int × Int × Int × Int × Int × Int × Int × Int × Int × Bool × Bool × Bool × Bool × Bool × Int × Int × Int × Int × Int × Int × Int × Int × Bool × Int × Int × Int × Int × Bool × Int × Int × (List (Int × Int × Int × Int × Int)) × (List (Int × Int × Int × Int × Int)))) : Option R := optK o fun y => K (.exit 0) (lower_View_x4_0.enc ((y.1, ()), ((y.2.1, (y.2.2.1, (y.2.2.2.1, (y.2.2.2.2.1, (y.2.2.2.2.2.1, (y.2.2.2.2.2.2.1, (y.2.2.2.2.2.2.2.1, (y.2.2.2.2.2.2.2.2.1, (y.2.2.2.2.2.2.2.2.2.1, (y.2.2.2.2.2.2.2.2.2.2.1, (y.2.2.2.2.2.2.2.2.2.2.2.1, (y.2.2.2.2.2.2.2.2.2.2.2.2.1, (y.2.2.2.2.2.2.2.2.2.2.2.2.2.1, (y.2.2.2.2.2.2.2.2.2.2.2.2.2.2.1, (y.2.2.2.2.2.2.2.2.2.2.2.2.2.2.2.1, (y.2.2.2.2.2.2.2.2.2.2.2.2.2.2.2.2.1, (y.2.2.2.2.2.2.2.2.2.2.2.2.2.2.2.2.2.1, (y.2.2.2.2.2.2.2.2.2.2.2.2.2.2.2.2.2.2.1, (y.2.2.2.2.2.2.2.2.2.2.2.2.2.2.2.2.2.2.2.1, (y.2.2.2.2.2.2.2.2.2.2.2.2.2.2.2.2.2.2.2.2.1, (y.2.2.2.2.2.2.2.2.2.2.2.2.2.2.2.2.2.2.2.2.2.1, (y.2.2.2.2.2.2.2.2.2.2.2.2.2.2.2.2.2.2.2.2.2.2.1, (y.2.2.2.2.2.2.2.2.2.2.2.2.2.2.2.2.2.2.2.2.2.2.2.1, (y.2.2.2.2.2.2.2.2.2.2.2.2.2.2.2.2.2.2.2.2.2.2.2.2.1, (y.2.2.2.2.2.2.2.2.2.2.2.2.2.2.2.2.2.2.2.2.2.2.2.2.2.1, (y.2.2.2.2.2.2.2.2.2.2.2.2.2.2.2.2.2.2.2.2.2.2.2.2.2.2.1, (y.2.2.2.2.2.2.2.2.2.2.2.2.2.2.2.2.2.2.2.2.2.2.2.2.2.2.2.1, (y.2.2.2.2.2.2.2.2.2.2.2.2.2.2.2.2.2.2.2.2.2.2.2.2.2.2.2.2.1, (y.2.2.2.2.2.2.2.2.2.2.2.2.2.2.2.2.2.2.2.2.2.2.2.2.2.2.2.2.2.1, ()))))))))))))))))))))))))))))), ((y.2.2.2.2.2.2.2.2.2.2.2.2.2.2.2.2.2.2.2.2.2.2.2.2.2.2.2.2.2.2.1, (y.2.2.2.2.2.2.2.2.2.2.2.2.2.2.2.2.2.2.2.2.2.2.2.2.2.2.2.2.2.2.2.1, (y.2.2.2.2.2.2.2.2.2.2.2.2.2.2.2.2.2.2.2.2.2.2.2.2.2.2.2.2.2.2.2.2.1, (y.2.2.2.2.2.2.2.2.2.2.2.2.2.2.2.2.2.2.2.2.2.2.2.2.2.2.2.2.2.2.2.2.2.1, (y.2.2.2.2.2.2.2.2.2.2.2.2.2.2.2.2.2.2.2.2.2.2.2.2.2.2.2.2.2.2.2.2.2.2.1, ()))))), ((y.2.2.2.2.2.2.2.2.2.2.2.2.2.2.2.2.2.2.2.2.2.2.2.2.2.2.2.2.2.2.2.2.2.2.2.1, (y.2.2.2.2.2.2.2.2.2.2.2.2.2.2.2.2.2.2.2.2.2.2.2.2.2.2.2.2.2.2.2.2.2.2.2.2.1, ())), (y.2.2.2.2.2.2.2.2.2.2.2.2.2.2.2.2.2.2.2.2.2.2.2.2.2.2.2.2.2.2.2.2.2.2.2.2.2.1, (y.2.2.2.2.2.2.2.2.2.2.2.2.2.2.2.2.2.2.2.2.2.2.2.2.2.2.2.2.2.2.2.2.2.2.2.2.2.2, ())))))))
theorem lower_View_l4 {R : Type} (K : Ex → St → Option R) : ∀ (n : Nat), ∀ (a0 : Int) (a1 : Int) (a2 : Int) (a3 : Int) (a4 : Int) (a5 : List (Int × Int × Int × Int × Int)) (a6 : Int) (a7 : Int) (a8 : Bool) (a9 : Int) (a10 : Int) (a11 : Int) (a12 : Int) (a13 : Int) (a14 : Int) (a15 : Int) (a16 : Int) (a17 : Int) (a18 : Bool) (a19 : Bool) (a20 : Bool) (a21 : Bool) (a22 : Bool) (a23 : Int) (a24 : Int) (a25 : Int) (a26 : Int) (a27 : Int) (a28 : Int) (a29 : Int) (a30 : Int) (a31 : Bool) (a32 : Int) (a33 : Int) (a34 : Int) (a35 : Int) (a36 : Bool) (a37 : Int) (a38 : Int) (a39 : List (Int × Int × Int × Int × Int)) (a40 : List (Int × Int × Int × Int × Int)), lower_View_I4 K n (lower_View_s4.enc ((a0, (a1, (a2, ()))), ((a3, (a4, (a5, (a6, (a7, (a8, (a9, (a10, (a11, (a12, (a13, (a14, (a15, (a16, (a17, (a18, (a19, (a20, (a21, (a22, (a23, (a24, (a25, (a26, (a27, (a28, (a29, (a30, (a31, ()))))))))))))))))))))))))))))), ((a32, (a33, (a34, (a35, (a36, ()))))), ((a37, (a38, ())), (a39, (a40, ()))))))) = lower_View_m4 K (lower_View_L4 n a0 a1 a2 a3 a4 a5 a6 a7 a8 a9 a10 a11 a12 a13 a14 a15 a16 a17 a18 a19 a20 a21 a22 a23 a24 a25 a26 a27 a28 a29 a30 a31 a32 a33 a34 a35 a36 a37 a38 a39 a40) := by
  intro n
  induction n with
  | zero => intros; rfl
  | succ n ih =>
    intro a0 a1 a2 a3 a4 a5 a6 a7 a8 a9 a10 a11 a12 a13 a14 a15 a16 a17 a18 a19 a20 a21 a22 a23 a24 a25 a26 a27 a28 a29 a30 a31 a32 a33 a34 a35 a36 a37 a38 a39 a40
    rw [lower_View_L4]
    exact Eq.trans (by kernel_rfl) (cond_push (lower_View_m4 K) _ (cond_push (lower_View_m4 K) _ (optK_push (lower_View_m4 K) rfl _ fun y1 => (cond_push (lower_View_m4 K) _ (ih a0 a1 (IntKind.i64.wrap (a2 + (1 : Int))) a3 a4 a5 a6 a7 a8 a9 a10 a11 a12 a13 a14 a15 a16 a17 a18 a19 a20 a21 a22 a23 a24 a25 a26 a27 a28 a29 a30 a31 a32 a33 a34 a35 a36 a37 a38 (a39.set a2.toNat (y1.1, y1.2.1, y1.2.2.1, y1.2.2.2.1, y1.2.2.2.2)) a40) rfl)) rfl) rfl)
def lower_View_fu4 (a0 : Int) (a1 : Int) (a2 : Int) (a3 : Int) (a4 : Int) (a5 : List (Int × Int × Int × Int × Int)) (a6 : Int) (a7 : Int) (a8 : Bool) (a9 : Int) (a10 : Int) (a11 : Int) (a12 : Int) (a13 : Int) (a14 : Int) (a15 : Int) (a16 : Int) (a17 : Int) (a18 : Bool) (a19 : Bool) (a20 : Bool) (a21 : Bool) (a22 : Bool) (a23 : Int) (a24 : Int) (a25 : Int) (a26 : Int) (a27 : Int) (a28 : Int) (a29 : Int) (a30 : Int) (a31 : Bool) (a32 : Int) (a33 : Int) (a34 : Int) (a35 : Int) (a36 : Bool) (a37 : Int) (a38 : Int) (a39 : List (Int × Int × Int × Int × Int)) (a40 : List (Int × Int × Int × Int × Int)) : Nat := Int.natAbs a0 + Int.natAbs a1 + Int.natAbs a2 + Int.natAbs a3 + Int.natAbs a4 + List.length a5 + Int.natAbs a6 + Int.natAbs a7 + 0 + Int.natAbs a9 + Int.natAbs a10 + Int.natAbs a11 + Int.natAbs a12 + Int.natAbs a13 + Int.natAbs a14 + Int.natAbs a15 + Int.natAbs a16 + Int.natAbs a17 + 0 + 0 + 0 + 0 + 0 + Int.natAbs a23 + Int.natAbs a24 + Int.natAbs a25 + Int.natAbs a26 + Int.natAbs a27 + Int.natAbs a28 + Int.natAbs a29 + Int.natAbs a30 + 0 + Int.natAbs a32 + Int.natAbs a33 + Int.natAbs a34 + Int.natAbs a35 + 0 + Int.natAbs a37 + Int.natAbs a38 + List.length a39 + List.length a40 + 5000
noncomputable def lower_View_G4 : GoL lower_View_s4 := fun R (x : ((Int × (Int × (Int × Unit))) × ((Int × (Int × (List (Int × Int × Int × Int × Int) × (Int × (Int × (Bool × (Int × (Int × (Int × (Int × (Int × (Int × (Int × (Int × (Int × (Bool × (Bool × (Bool × (Bool × (Bool × (Int × (Int × (Int × (Int × (Int × (Int × (Int × (Int × (Bool × Unit))))))))))))))))))))))))))))) × ((Int × (Int × (Int × (Int × (Bool × Unit))))) × ((Int × (Int × Unit)) × (List (Int × Int × Int × Int × Int) × (List (Int × Int × Int × Int × Int) × Unit))))))) K => lower_View_m4 K (hide lower_View_L4 (lower_View_fu4 x.1.1 x.1.2.1 x.1.2.2.1 x.2.1.1 x.2.1.2.1 x.2.1.2.2.1 x.2.1.2.2.2.1 x.2.1.2.2.2.2.1 x.2.1.2.2.2.2.2.1 x.2.1.2.2.2.2.2.2.1 x.2.1.2.2.2.2.2.2.2.1 x.2.1.2.2.2.2.2.2.2.2.1 x.2.1.2.2.2.2.2.2.2.2.2.1 x.2.1.2.2.2.2.2.2.2.2.2.2.1 x.2.1.2.2.2.2.2.2.2.2.2.2.2.1 x.2.1.2.2.2.2.2.2.2.2.2.2.2.2.1 x.2.1.2.2.2.2.2.2.2.2.2.2.2.2.2.1 x.2.1.2.2.2.2.2.2.2.2.2.2.2.2.2.2.1 x.2.1.2.2.2.2.2.2.2.2.2.2.2.2.2.2.2.1 x.2.1.2.2.2.2.2.2.2.2.2.2.2.2.2.2.2.2.1 x.2.1.2.2.2.2.2.2.2.2.2.2.2.2.2.2.2.2.2.1 x.2.1.2.2.2.2.2.2.2.2.2.2.2.2.2.2.2.2.2.2.1 x.2.1.2.2.2.2.2.2.2.2.2.2.2.2.2.2.2.2.2.2.2.1 x.2.1.2.2.2.2.2.2.2.2.2.2.2.2.2.2.2.2.2.2.2.2.1 x.2.1.2.2.2.2.2.2.2.2.2.2.2.2.2.2.2.2.2.2.2.2.2.1 x.2.1.2.2.2.2.2.2.2.2.2.2.2.2.2.2.2.2.2.2.2.2.2.2.1 x.2.1.2.2.2.2.2.2.2.2.2.2.2.2.2.2.2.2.2.2.2.2.2.2.2.1 x.2.1.2.2.2.2.2.2.2.2.2.2.2.2.2.2.2.2.2.2.2.2.2.2.2.2.1 x.2.1.2.2.2.2.2.2.2.2.2.2.2.2.2.2.2.2.2.2.2.2.2.2.2.2.2.1 x.2.1.2.2.2.2.2.2.2.2.2.2.2.2.2.2.2.2.2.2.2.2.2.2.2.2.2.2.1 x.2.1.2.2.2.2.2.2.2.2.2.2.2.2.2.2.2.2.2.2.2.2.2.2.2.2.2.2.2.1 x.2.1.2.2.2.2.2.2.2.2.2.2.2.2.2.2.2.2.2.2.2.2.2.2.2.2.2.2.2.2.1 x.2.2.1.1 x.2.2.1.2.1 x.2.2.1.2.2.1 x.2.2.1.2.2.2.1 x.2.2.1.2.2.2.2.1 x.2.2.2.1.1 x.2.2.2.1.2.1 x.2.2.2.2.1 x.2.2.2.2.2.1) x.1.1 x.1.2.1 x.1.2.2.1 x.2.1.1 x.2.1.2.1 x.2.1.2.2.1 x.2.1.2.2.2.1 x.2.1.2.2.2.2.1 x.2.1.2.2.2.2.2.1 x.2.1.2.2.2.2.2.2.1 x.2.1.2.2.2.2.2.2.2.1 x.2.1.2.2.2.2.2.2.2.2.1 x.2.1.2.2.2.2.2.2.2.2.2.1 x.2.1.2.2.2.2.2.2.2.2.2.2.1 x.2.1.2.2.2.2.2.2.2.2.2.2.2.1 x.2.1.2.2.2.2.2.2.2.2.2.2.2.2.1 x.2.1.2.2.2.2.2.2.2.2.2.2.2.2.2.1 x.2.1.2.2.2.2.2.2.2.2.2.2.2.2.2.2.1 x.2.1.2.2.2.2.2.2.2.2.2.2.2.2.2.2.2.1 x.2.1.2.2.2.2.2.2.2.2.2.2.2.2.2.2.2.2.1 x.2.1.2.2.2.2.2.2.2.2.2.2.2.2.2.2.2.2.2.1 x.2.1.2.2.2.2.2.2.2.2.2.2.2.2.2.2.2.2.2.2.1 x.2.1.2.2.2.2.2.2.2.2.2.2.2.2.2.2.2.2.2.2.2.1 x.2.1.2.2.2.2.2.2.2.2.2.2.2.2.2.2.2.2.2.2.2.2.1 x.2.1.2.2.2.2.2.2.2.2.2.2.2.2.2.2.2.2.2.2.2.2.2.1 x.2.1.2.2.2.2.2.2.2.2.2.2.2.2.2.2.2.2.2.2.2.2.2.2.1 x.2.1.2.2.2.2.2.2.2.2.2.2.2.2.2.2.2.2.2.2.2.2.2.2.2.1 x.2.1.2.2.2.2.2.2.2.2.2.2.2.2.2.2.2.2.2.2.2.2.2.2.2.2.1 x.2.1.2.2.2.2.2.2.2.2.2.2.2.2.2.2.2.2.2.2.2.2.2.2.2.2.2.1 x.2.1.2.2.2.2.2.2.2.2.2.2.2.2.2.2.2.2.2.2.2.2.2.2.2.2.2.2.1 x.2.1.2.2.2.2.2.2.2.2.2.2.2.2.2.2.2.2.2.2.2.2.2.2.2.2.2.2.2.1 x.2.1.2.2.2.2.2.2.2.2.2.2.2.2.2.2.2.2.2.2.2.2.2.2.2.2.2.2.2.2.1 x.2.2.1.1 x.2.2.1.2.1 x.2.2.1.2.2.1 x.2.2.1.2.2.2.1 x.2.2.1.2.2.2.2.1 x.2.2.2.1.1 x.2.2.2.1.2.1 x.2.2.2.2.1 x.2.2.2.2.2.1)
theorem lower_View_H4 : LoopOk Try.prog 17 4 (loopH lower_View_s4 0 lower_View_G4) := loop_known (envL_ok sums7_ok ll0_ok cs0_ok) Try.func17 rfl lower_View_c4_is (xs := lower_View_xs4) (fuel := fun (x : ((Int × (Int × (Int × Unit))) × ((Int × (Int × (List (Int × Int × Int × Int × Int) × (Int × (Int × (Bool × (Int × (Int × (Int × (Int × (Int × (Int × (Int × (Int × (Int × (Bool × (Bool × (Bool × (Bool × (Bool × (Int × (Int × (Int × (Int × (Int × (Int × (Int × (Int × (Bool × Unit))))))))))))))))))))))))))))) × ((Int × (Int × (Int × (Int × (Bool × Unit))))) × ((Int × (Int × Unit)) × (List (Int × Int × Int × Int × Int) × (List (Int × Int × Int × Int × Int) × Unit))))))) => lower_View_fu4 x.1.1 x.1.2.1 x.1.2.2.1 x.2.1.1 x.2.1.2.1 x.2.1.2.2.1 x.2.1.2.2.2.1 x.2.1.2.2.2.2.1 x.2.1.2.2.2.2.2.1 x.2.1.2.2.2.2.2.2.1 x.2.1.2.2.2.2.2.2.2.1 x.2.1.2.2.2.2.2.2.2.2.1 x.2.1.2.2.2.2.2.2.2.2.2.1 x.2.1.2.2.2.2.2.2.2.2.2.2.1 x.2.1.2.2.2.2.2.2.2.2.2.2.2.1 x.2.1.2.2.2.2.2.2.2.2.2.2.2.2.1 x.2.1.2.2.2.2.2.2.2.2.2.2.2.2.2.1 x.2.1.2.2.2.2.2.2.2.2.2.2.2.2.2.2.1 x.2.1.2.2.2.2.2.2.2.2.2.2.2.2.2.2.2.1 x.2.1.2.2.2.2.2.2.2.2.2.2.2.2.2.2.2.2.1 x.2.1.2.2.2.2.2.2.2.2.2.2.2.2.2.2.2.2.2.1 x.2.1.2.2.2.2.2.2.2.2.2.2.2.2.2.2.2.2.2.2.1 x.2.1.2.2.2.2.2.2.2.2.2.2.2.2.2.2.2.2.2.2.2.1 x.2.1.2.2.2.2.2.2.2.2.2.2.2.2.2.2.2.2.2.2.2.2.1 x.2.1.2.2.2.2.2.2.2.2.2.2.2.2.2.2.2.2.2.2.2.2.2.1 x.2.1.2.2.2.2.2.2.2.2.2.2.2.2.2.2.2.2.2.2.2.2.2.2.1 x.2.1.2.2.2.2.2.2.2.2.2.2.2.2.2.2.2.2.2.2.2.2.2.2.2.1 x.2.1.2.2.2.2.2.2.2.2.2.2.2.2.2.2.2.2.2.2.2.2.2.2.2.2.1 x.2.1.2.2.2.2.2.2.2.2.2.2.2.2.2.2.2.2.2.2.2.2.2.2.2.2.2.1 x.2.1.2.2.2.2.2.2.2.2.2.2.2.2.2.2.2.2.2.2.2.2.2.2.2.2.2.2.1 x.2.1.2.2.2.2.2.2.2.2.2.2.2.2.2.2.2.2.2.2.2.2.2.2.2.2.2.2.2.1 x.2.1.2.2.2.2.2.2.2.2.2.2.2.2.2.2.2.2.2.2.2.2.2.2.2.2.2.2.2.2.1 x.2.2.1.1 x.2.2.1.2.1 x.2.2.1.2.2.1 x.2.2.1.2.2.2.1 x.2.2.1.2.2.2.2.1 x.2.2.2.1.1 x.2.2.2.1.2.1 x.2.2.2.2.1 x.2.2.2.2.2.1) fun R (x : ((Int × (Int × (Int × Unit))) × ((Int × (Int × (List (Int × Int × Int × Int × Int) × (Int × (Int × (Bool × (Int × (Int × (Int × (Int × (Int × (Int × (Int × (Int × (Int × (Bool × (Bool × (Bool × (Bool × (Bool × (Int × (Int × (Int × (Int × (Int × (Int × (Int × (Int × (Bool × Unit))))))))))))))))))))))))))))) × ((Int × (Int × (Int × (Int × (Bool × Unit))))) × ((Int × (Int × Unit)) × (List (Int × Int × Int × Int × Int) × (List (Int × Int × Int × Int × Int) × Unit))))))) K => by
  show lower_View_m4 K (hide lower_View_L4 (lower_View_fu4 x.1.1 x.1.2.1 x.1.2.2.1 x.2.1.1 x.2.1.2.1 x.2.1.2.2.1 x.2.1.2.2.2.1 x.2.1.2.2.2.2.1 x.2.1.2.2.2.2.2.1 x.2.1.2.2.2.2.2.2.1 x.2.1.2.2.2.2.2.2.2.1 x.2.1.2.2.2.2.2.2.2.2.1 x.2.1.2.2.2.2.2.2.2.2.2.1 x.2.1.2.2.2.2.2.2.2.2.2.2.1 x.2.1.2.2.2.2.2.2.2.2.2.2.2.1 x.2.1.2.2.2.2.2.2.2.2.2.2.2.2.1 x.2.1.2.2.2.2.2.2.2.2.2.2.2.2.2.1 x.2.1.2.2.2.2.2.2.2.2.2.2.2.2.2.2.1 x.2.1.2.2.2.2.2.2.2.2.2.2.2.2.2.2.2.1 x.2.1.2.2.2.2.2.2.2.2.2.2.2.2.2.2.2.2.1 x.2.1.2.2.2.2.2.2.2.2.2.2.2.2.2.2.2.2.2.1 x.2.1.2.2.2.2.2.2.2.2.2.2.2.2.2.2.2.2.2.2.1 x.2.1.2.2.2.2.2.2.2.2.2.2.2.2.2.2.2.2.2.2.2.1 x.2.1.2.2.2.2.2.2.2.2.2.2.2.2.2.2.2.2.2.2.2.2.1 x.2.1.2.2.2.2.2.2.2.2.2.2.2.2.2.2.2.2.2.2.2.2.2.1 x.2.1.2.2.2.2.2.2.2.2.2.2.2.2.2.2.2.2.2.2.2.2.2.2.1 x.2.1.2.2.2.2.2.2.2.2.2.2.2.2.2.2.2.2.2.2.2.2.2.2.2.1 x.2.1.2.2.2.2.2.2.2.2.2.2.2.2.2.2.2.2.2.2.2.2.2.2.2.2.1 x.2.1.2.2.2.2.2.2.2.2.2.2.2.2.2.2.2.2.2.2.2.2.2.2.2.2.2.1 x.2.1.2.2.2.2.2.2.2.2.2.2.2.2.2.2.2.2.2.2.2.2.2.2.2.2.2.2.1 x.2.1.2.2.2.2.2.2.2.2.2.2.2.2.2.2.2.2.2.2.2.2.2.2.2.2.2.2.2.1 x.2.1.2.2.2.2.2.2.2.2.2.2.2.2.2.2.2.2.2.2.2.2.2.2.2.2.2.2.2.2.1 x.2.2.1.1 x.2.2.1.2.1 x.2.2.1.2.2.1 x.2.2.1.2.2.2.1 x.2.2.1.2.2.2.2.1 x.2.2.2.1.1 x.2.2.2.1.2.1 x.2.2.2.2.1 x.2.2.2.2.2.1) x.1.1 x.1.2.1 x.1.2.2.1 x.2.1.1 x.2.1.2.1 x.2.1.2.2.1 x.2.1.2.2.2.1 x.2.1.2.2.2.2.1 x.2.1.2.2.2.2.2.1 x.2.1.2.2.2.2.2.2.1 x.2.1.2.2.2.2.2.2.2.1 x.2.1.2.2.2.2.2.2.2.2.1 x.2.1.2.2.2.2.2.2.2.2.2.1 x.2.1.2.2.2.2.2.2.2.2.2.2.1 x.2.1.2.2.2.2.2.2.2.2.2.2.2.1 x.2.1.2.2.2.2.2.2.2.2.2.2.2.2.1 x.2.1.2.2.2.2.2.2.2.2.2.2.2.2.2.1 x.2.1.2.2.2.2.2.2.2.2.2.2.2.2.2.2.1 x.2.1.2.2.2.2.2.2.2.2.2.2.2.2.2.2.2.1 x.2.1.2.2.2.2.2.2.2.2.2.2.2.2.2.2.2.2.1 x.2.1.2.2.2.2.2.2.2.2.2.2.2.2.2.2.2.2.2.1 x.2.1.2.2.2.2.2.2.2.2.2.2.2.2.2.2.2.2.2.2.1 x.2.1.2.2.2.2.2.2.2.2.2.2.2.2.2.2.2.2.2.2.2.1 x.2.1.2.2.2.2.2.2.2.2.2.2.2.2.2.2.2.2.2.2.2.2.1 x.2.1.2.2.2.2.2.2.2.2.2.2.2.2.2.2.2.2.2.2.2.2.2.1 x.2.1.2.2.2.2.2.2.2.2.2.2.2.2.2.2.2.2.2.2.2.2.2.2.1 x.2.1.2.2.2.2.2.2.2.2.2.2.2.2.2.2.2.2.2.2.2.2.2.2.2.1 x.2.1.2.2.2.2.2.2.2.2.2.2.2.2.2.2.2.2.2.2.2.2.2.2.2.2.1 x.2.1.2.2.2.2.2.2.2.2.2.2.2.2.2.2.2.2.2.2.2.2.2.2.2.2.2.1 x.2.1.2.2.2.2.2.2.2.2.2.2.2.2.2.2.2.2.2.2.2.2.2.2.2.2.2.2.1 x.2.1.2.2.2.2.2.2.2.2.2.2.2.2.2.2.2.2.2.2.2.2.2.2.2.2.2.2.2.1 x.2.1.2.2.2.2.2.2.2.2.2.2.2.2.2.2.2.2.2.2.2.2.2.2.2.2.2.2.2.2.1 x.2.2.1.1 x.2.2.1.2.1 x.2.2.1.2.2.1 x.2.2.1.2.2.2.1 x.2.2.1.2.2.2.2.1 x.2.2.2.1.1 x.2.2.2.1.2.1 x.2.2.2.2.1 x.2.2.2.2.2.1) = _
  rw [hide_eq]
  exact (lower_View_l4 K (lower_View_fu4 x.1.1 x.1.2.1 x.1.2.2.1 x.2.1.1 x.2.1.2.1 x.2.1.2.2.1 x.2.1.2.2.2.1 x.2.1.2.2.2.2.1 x.2.1.2.2.2.2.2.1 x.2.1.2.2.2.2.2.2.1 x.2.1.2.2.2.2.2.2.2.1 x.2.1.2.2.2.2.2.2.2.2.1 x.2.1.2.2.2.2.2.2.2.2.2.1 x.2.1.2.2.2.2.2.2.2.2.2.2.1 x.2.1.2.2.2.2.2.2.2.2.2.2.2.1 x.2.1.2.2.2.2.2.2.2.2.2.2.2.2.1 x.2.1.2.2.2.2.2.2.2.2.2.2.2.2.2.1 x.2.1.2.2.2.2.2.2.2.2.2.2.2.2.2.2.1 x.2.1.2.2.2.2.2.2.2.2.2.2.2.2.2.2.2.1 x.2.1.2.2.2.2.2.2.2.2.2.2.2.2.2.2.2.2.1 x.2.1.2.2.2.2.2.2.2.2.2.2.2.2.2.2.2.2.2.1 x.2.1.2.2.2.2.2.2.2.2.2.2.2.2.2.2.2.2.2.2.1 x.2.1.2.2.2.2.2.2.2.2.2.2.2.2.2.2.2.2.2.2.2.1 x.2.1.2.2.2.2.2.2.2.2.2.2.2.2.2.2.2.2.2.2.2.2.1 x.2.1.2.2.2.2.2.2.2.2.2.2.2.2.2.2.2.2.2.2.2.2.2.1 x.2.1.2.2.2.2.2.2.2.2.2.2.2.2.2.2.2.2.2.2.2.2.2.2.1 x.2.1.2.2.2.2.2.2.2.2.2.2.2.2.2.2.2.2.2.2.2.2.2.2.2.1 x.2.1.2.2.2.2.2.2.2.2.2.2.2.2.2.2.2.2.2.2.2.2.2.2.2.2.1 x.2.1.2.2.2.2.2.2.2.2.2.2.2.2.2.2.2.2.2.2.2.2.2.2.2.2.2.1 x.2.1.2.2.2.2.2.2.2.2.2.2.2.2.2.2.2.2.2.2.2.2.2.2.2.2.2.2.1 x.2.1.2.2.2.2.2.2.2.2.2.2.2.2.2.2.2.2.2.2.2.2.2.2.2.2.2.2.2.1 x.2.1.2.2.2.2.2.2.2.2.2.2.2.2.2.2.2.2.2.2.2.2.2.2.2.2.2.2.2.2.1 x.2.2.1.1 x.2.2.1.2.1 x.2.2.1.2.2.1 x.2.2.1.2.2.2.1 x.2.2.1.2.2.2.2.1 x.2.2.2.1.1 x.2.2.2.1.2.1 x.2.2.2.2.1 x.2.2.2.2.2.1) x.1.1 x.1.2.1 x.1.2.2.1 x.2.1.1 x.2.1.2.1 x.2.1.2.2.1 x.2.1.2.2.2.1 x.2.1.2.2.2.2.1 x.2.1.2.2.2.2.2.1 x.2.1.2.2.2.2.2.2.1 x.2.1.2.2.2.2.2.2.2.1 x.2.1.2.2.2.2.2.2.2.2.1 x.2.1.2.2.2.2.2.2.2.2.2.1 x.2.1.2.2.2.2.2.2.2.2.2.2.1 x.2.1.2.2.2.2.2.2.2.2.2.2.2.1 x.2.1.2.2.2.2.2.2.2.2.2.2.2.2.1 x.2.1.2.2.2.2.2.2.2.2.2.2.2.2.2.1 x.2.1.2.2.2.2.2.2.2.2.2.2.2.2.2.2.1 x.2.1.2.2.2.2.2.2.2.2.2.2.2.2.2.2.2.1 x.2.1.2.2.2.2.2.2.2.2.2.2.2.2.2.2.2.2.1 x.2.1.2.2.2.2.2.2.2.2.2.2.2.2.2.2.2.2.2.1 x.2.1.2.2.2.2.2.2.2.2.2.2.2.2.2.2.2.2.2.2.1 x.2.1.2.2.2.2.2.2.2.2.2.2.2.2.2.2.2.2.2.2.2.1 x.2.1.2.2.2.2.2.2.2.2.2.2.2.2.2.2.2.2.2.2.2.2.1 x.2.1.2.2.2.2.2.2.2.2.2.2.2.2.2.2.2.2.2.2.2.2.2.1 x.2.1.2.2.2.2.2.2.2.2.2.2.2.2.2.2.2.2.2.2.2.2.2.2.1 x.2.1.2.2.2.2.2.2.2.2.2.2.2.2.2.2.2.2.2.2.2.2.2.2.2.1 x.2.1.2.2.2.2.2.2.2.2.2.2.2.2.2.2.2.2.2.2.2.2.2.2.2.2.1 x.2.1.2.2.2.2.2.2.2.2.2.2.2.2.2.2.2.2.2.2.2.2.2.2.2.2.2.1 x.2.1.2.2.2.2.2.2.2.2.2.2.2.2.2.2.2.2.2.2.2.2.2.2.2.2.2.2.1 x.2.1.2.2.2.2.2.2.2.2.2.2.2.2.2.2.2.2.2.2.2.2.2.2.2.2.2.2.2.1 x.2.1.2.2.2.2.2.2.2.2.2.2.2.2.2.2.2.2.2.2.2.2.2.2.2.2.2.2.2.2.1 x.2.2.1.1 x.2.2.1.2.1 x.2.2.1.2.2.1 x.2.2.1.2.2.2.1 x.2.2.1.2.2.2.2.1 x.2.2.2.1.1 x.2.2.2.1.2.1 x.2.2.2.2.1 x.2.2.2.2.2.1).symm
noncomputable def lower_View_h4 : LoopF := loopH lower_View_s4 0 lower_View_G4
noncomputable def lower_View_ll1 : LoopT := ((17, 4), lower_View_h4) :: ll0
theorem lower_View_ll1_ok : AllLoop Try.prog lower_View_ll1 := ⟨lower_View_H4, ll0_ok⟩
noncomputable def lower_View_F (x0 : Int) (x1 : Int) (x2 : Int) (x3 : List (Int × Int × Int × Int × Int)) (x4 : Int) (x5 : Int) (x6 : Bool) (x7 : Int) (x8 : Int) (x9 : Int) (x10 : Int) (x11 : Int) (x12 : Int) (x13 : Int) (x14 : Int) (x15 : Int) (x16 : Bool) (x17 : Bool) (x18 : Bool) (x19 : Bool) (x20 : Bool) (x21 : Int) (x22 : Int) (x23 : Int) (x24 : Int) (x25 : Int) (x26 : Int) (x27 : Int) (x28 : Int) (x29 : Bool) : Option (Int × Int × (List (Int × Int × Int × Int × Int)) × Int × Int × Bool) := (bif (x3.length.ble (274877906944 : Nat)) then (optK (hide lower_View_L4 (lower_View_fu4 x0 (Int.ofNat x3.length) (0 : Int) x1 x2 x3 x4 x5 x6 x7 x8 x9 x10 x11 x12 x13 x14 x15 x16 x17 x18 x19 x20 x21 x22 x23 x24 x25 x26 x27 x28 x29 (0 : Int) (0 : Int) (0 : Int) (0 : Int) (false) x1 x2 x3 ([])) x0 (Int.ofNat x3.length) (0 : Int) x1 x2 x3 x4 x5 x6 x7 x8 x9 x10 x11 x12 x13 x14 x15 x16 x17 x18 x19 x20 x21 x22 x23 x24 x25 x26 x27 x28 x29 (0 : Int) (0 : Int) (0 : Int) (0 : Int) (false) x1 x2 x3 ([])) fun y2 => (bif (y2.2.2.2.2.2.2.2.2.2.2.2.2.2.2.2.2.2.2.1) then (some ((y2.2.2.2.2.2.2.2.2.2.2.2.2.2.2.2.2.2.2.2.2.2.2.2.2.2.2.2.2.2.2.2.2.2.2.2.1), (y2.2.2.2.2.2.2.2.2.2.2.2.2.2.2.2.2.2.2.2.2.2.2.2.2.2.2.2.2.2.2.2.2.2.2.2.2.1), (y2.2.2.2.2.2.2.2.2.2.2.2.2.2.2.2.2.2.2.2.2.2.2.2.2.2.2.2.2.2.2.2.2.2.2.2.2.2.2), (y2.2.2.2.2.1), (y2.2.2.2.2.2.1), (true))) else (some ((y2.2.2.2.2.2.2.2.2.2.2.2.2.2.2.2.2.2.2.2.2.2.2.2.2.2.2.2.2.2.2.2.2.2.2.2.1), (y2.2.2.2.2.2.2.2.2.2.2.2.2.2.2.2.2.2.2.2.2.2.2.2.2.2.2.2.2.2.2.2.2.2.2.2.2.1), (y2.2.2.2.2.2.2.2.2.2.2.2.2.2.2.2.2.2.2.2.2.2.2.2.2.2.2.2.2.2.2.2.2.2.2.2.2.2.2), (y2.2.2.2.2.1), (y2.2.2.2.2.2.1), (y2.1 != (2 : Int)))))) else none)
noncomputable def lower_View_A : SkL := (.cons (.int .i64) (.cons (.agg (.cons (.int .i64) (.cons (.int .i64) (.cons (.list (.cons (.int .i32) (.cons (.int .i64) (.cons (.int .i64) (.cons (.int .i64) (.one (.int .i64))))))) (.cons (.int .i64) (.cons (.int .i64) (.cons .bool (.cons (.int .i64) (.cons (.int .i64) (.cons (.int .i64) (.cons (.int .i64) (.cons (.int .i64) (.cons (.int .u64) (.cons (.int .u8) (.cons (.int .u8) (.cons (.int .i64) (.cons .bool (.cons .bool (.cons .bool (.cons .bool (.cons .bool (.cons (.int .i64) (.cons (.int .i64) (.cons (.int .i64) (.cons (.int .i64) (.cons (.int .i64) (.cons (.int .u8) (.cons (.int .u8) (.cons (.int .i64) (.cons .bool .nil)))))))))))))))))))))))))))))) .nil))
noncomputable def lower_View_B : Sk := (.agg (.cons (.int .i64) (.cons (.int .i64) (.cons (.list (.cons (.int .i32) (.cons (.int .i64) (.cons (.int .i64) (.cons (.int .i64) (.one (.int .i64))))))) (.cons (.int .i64) (.cons (.int .i64) (.cons .bool .nil)))))))
def lower_View_m {R : Type} (K : (Int × (Int × (List (Int × Int × Int × Int × Int) × (Int × (Int × (Bool × Unit)))))) → Option R) (o : Option (Int × Int × (List (Int × Int × Int × Int × Int)) × Int × Int × Bool)) : Option R := optK o fun y => K (y.1, (y.2.1, (y.2.2.1, (y.2.2.2.1, (y.2.2.2.2.1, (y.2.2.2.2.2, ()))))))
theorem lower_View_run {R : Type} (x0 : Int) (x1 : Int) (x2 : Int) (x3 : List (Int × Int × Int × Int × Int)) (x4 : Int) (x5 : Int) (x6 : Bool) (x7 : Int) (x8 : Int) (x9 : Int) (x10 : Int) (x11 : Int) (x12 : Int) (x13 : Int) (x14 : Int) (x15 : Int) (x16 : Bool) (x17 : Bool) (x18 : Bool) (x19 : Bool) (x20 : Bool) (x21 : Int) (x22 : Int) (x23 : Int) (x24 : Int) (x25 : Int) (x26 : Int) (x27 : Int) (x28 : Int) (x29 : Bool) (K : (Int × (Int × (List (Int × Int × Int × Int × Int) × (Int × (Int × (Bool × Unit)))))) → Option R) : acall (envL sums7 lower_View_ll1 cs0 (fun _ _ => false)) 1000 17 (lower_View_A.enc (x0, ((x1, (x2, (x3, (x4, (x5, (x6, (x7, (x8, (x9, (x10, (x11, (x12, (x13, (x14, (x15, (x16, (x17, (x18, (x19, (x20, (x21, (x22, (x23, (x24, (x25, (x26, (x27, (x28, (x29, ()))))))))))))))))))))))))))))), ()))) [] (resK lower_View_B true K) = lower_View_m K (lower_View_F x0 x1 x2 x3 x4 x5 x6 x7 x8 x9 x10 x11 x12 x13 x14 x15 x16 x17 x18 x19 x20 x21 x22 x23 x24 x25 x26 x27 x28 x29) := by
  unfold lower_View_F
  exact Eq.trans (by kernel_rfl) (cond_push (lower_View_m K) _ (optK_push (lower_View_m K) rfl _ fun y2 => (cond_push (lower_View_m K) _ rfl rfl)) rfl)
noncomputable def lower_View_G : GoF lower_View_A lower_View_B := fun R (x : (Int × ((Int × (Int × (List (Int × Int × Int × Int × Int) × (Int × (Int × (Bool × (Int × (Int × (Int × (Int × (Int × (Int × (Int × (Int × (Int × (Bool × (Bool × (Bool × (Bool × (Bool × (Int × (Int × (Int × (Int × (Int × (Int × (Int × (Int × (Bool × Unit))))))))))))))))))))))))))))) × Unit))) K => lower_View_m K (hide lower_View_F x.1 x.2.1.1 x.2.1.2.1 x.2.1.2.2.1 x.2.1.2.2.2.1 x.2.1.2.2.2.2.1 x.2.1.2.2.2.2.2.1 x.2.1.2.2.2.2.2.2.1 x.2.1.2.2.2.2.2.2.2.1 x.2.1.2.2.2.2.2.2.2.2.1 x.2.1.2.2.2.2.2.2.2.2.2.1 x.2.1.2.2.2.2.2.2.2.2.2.2.1 x.2.1.2.2.2.2.2.2.2.2.2.2.2.1 x.2.1.2.2.2.2.2.2.2.2.2.2.2.2.1 x.2.1.2.2.2.2.2.2.2.2.2.2.2.2.2.1 x.2.1.2.2.2.2.2.2.2.2.2.2.2.2.2.2.1 x.2.1.2.2.2.2.2.2.2.2.2.2.2.2.2.2.2.1 x.2.1.2.2.2.2.2.2.2.2.2.2.2.2.2.2.2.2.1 x.2.1.2.2.2.2.2.2.2.2.2.2.2.2.2.2.2.2.2.1 x.2.1.2.2.2.2.2.2.2.2.2.2.2.2.2.2.2.2.2.2.1 x.2.1.2.2.2.2.2.2.2.2.2.2.2.2.2.2.2.2.2.2.2.1 x.2.1.2.2.2.2.2.2.2.2.2.2.2.2.2.2.2.2.2.2.2.2.1 x.2.1.2.2.2.2.2.2.2.2.2.2.2.2.2.2.2.2.2.2.2.2.2.1 x.2.1.2.2.2.2.2.2.2.2.2.2.2.2.2.2.2.2.2.2.2.2.2.2.1 x.2.1.2.2.2.2.2.2.2.2.2.2.2.2.2.2.2.2.2.2.2.2.2.2.2.1 x.2.1.2.2.2.2.2.2.2.2.2.2.2.2.2.2.2.2.2.2.2.2.2.2.2.2.1 x.2.1.2.2.2.2.2.2.2.2.2.2.2.2.2.2.2.2.2.2.2.2.2.2.2.2.2.1 x.2.1.2.2.2.2.2.2.2.2.2.2.2.2.2.2.2.2.2.2.2.2.2.2.2.2.2.2.1 x.2.1.2.2.2.2.2.2.2.2.2.2.2.2.2.2.2.2.2.2.2.2.2.2.2.2.2.2.2.1 x.2.1.2.2.2.2.2.2.2.2.2.2.2.2.2.2.2.2.2.2.2.2.2.2.2.2.2.2.2.2.1)
theorem lower_View_known : Known Try.prog 17 lower_View_A lower_View_B true lower_View_G := known_of (envL_ok sums7_ok lower_View_ll1_ok cs0_ok) (n := 1000) rfl fun R (x : (Int × ((Int × (Int × (List (Int × Int × Int × Int × Int) × (Int × (Int × (Bool × (Int × (Int × (Int × (Int × (Int × (Int × (Int × (Int × (Int × (Bool × (Bool × (Bool × (Bool × (Bool × (Int × (Int × (Int × (Int × (Int × (Int × (Int × (Int × (Bool × Unit))))))))))))))))))))))))))))) × Unit))) K => by
  show _ = lower_View_m K (hide lower_View_F x.1 x.2.1.1 x.2.1.2.1 x.2.1.2.2.1 x.2.1.2.2.2.1 x.2.1.2.2.2.2.1 x.2.1.2.2.2.2.2.1 x.2.1.2.2.2.2.2.2.1 x.2.1.2.2.2.2.2.2.2.1 x.2.1.2.2.2.2.2.2.2.2.1 x.2.1.2.2.2.2.2.2.2.2.2.1 x.2.1.2.2.2.2.2.2.2.2.2.2.1 x.2.1.2.2.2.2.2.2.2.2.2.2.2.1 x.2.1.2.2.2.2.2.2.2.2.2.2.2.2.1 x.2.1.2.2.2.2.2.2.2.2.2.2.2.2.2.1 x.2.1.2.2.2.2.2.2.2.2.2.2.2.2.2.2.1 x.2.1.2.2.2.2.2.2.2.2.2.2.2.2.2.2.2.1 x.2.1.2.2.2.2.2.2.2.2.2.2.2.2.2.2.2.2.1 x.2.1.2.2.2.2.2.2.2.2.2.2.2.2.2.2.2.2.2.1 x.2.1.2.2.2.2.2.2.2.2.2.2.2.2.2.2.2.2.2.2.1 x.2.1.2.2.2.2.2.2.2.2.2.2.2.2.2.2.2.2.2.2.2.1 x.2.1.2.2.2.2.2.2.2.2.2.2.2.2.2.2.2.2.2.2.2.2.1 x.2.1.2.2.2.2.2.2.2.2.2.2.2.2.2.2.2.2.2.2.2.2.2.1 x.2.1.2.2.2.2.2.2.2.2.2.2.2.2.2.2.2.2.2.2.2.2.2.2.1 x.2.1.2.2.2.2.2.2.2.2.2.2.2.2.2.2.2.2.2.2.2.2.2.2.2.1 x.2.1.2.2.2.2.2.2.2.2.2.2.2.2.2.2.2.2.2.2.2.2.2.2.2.2.1 x.2.1.2.2.2.2.2.2.2.2.2.2.2.2.2.2.2.2.2.2.2.2.2.2.2.2.2.1 x.2.1.2.2.2.2.2.2.2.2.2.2.2.2.2.2.2.2.2.2.2.2.2.2.2.2.2.2.1 x.2.1.2.2.2.2.2.2.2.2.2.2.2.2.2.2.2.2.2.2.2.2.2.2.2.2.2.2.2.1 x.2.1.2.2.2.2.2.2.2.2.2.2.2.2.2.2.2.2.2.2.2.2.2.2.2.2.2.2.2.2.1)
  rw [hide_eq]
  exact lower_View_run x.1 x.2.1.1 x.2.1.2.1 x.2.1.2.2.1 x.2.1.2.2.2.1 x.2.1.2.2.2.2.1 x.2.1.2.2.2.2.2.1 x.2.1.2.2.2.2.2.2.1 x.2.1.2.2.2.2.2.2.2.1 x.2.1.2.2.2.2.2.2.2.2.1 x.2.1.2.2.2.2.2.2.2.2.2.1 x.2.1.2.2.2.2.2.2.2.2.2.2.1 x.2.1.2.2.2.2.2.2.2.2.2.2.2.1 x.2.1.2.2.2.2.2.2.2.2.2.2.2.2.1 x.2.1.2.2.2.2.2.2.2.2.2.2.2.2.2.1 x.2.1.2.2.2.2.2.2.2.2.2.2.2.2.2.2.1 x.2.1.2.2.2.2.2.2.2.2.2.2.2.2.2.2.2.1 x.2.1.2.2.2.2.2.2.2.2.2.2.2.2.2.2.2.2.1 x.2.1.2.2.2.2.2.2.2.2.2.2.2.2.2.2.2.2.2.1 x.2.1.2.2.2.2.2.2.2.2.2.2.2.2.2.2.2.2.2.2.1 x.2.1.2.2.2.2.2.2.2.2.2.2.2.2.2.2.2.2.2.2.2.1 x.2.1.2.2.2.2.2.2.2.2.2.2.2.2.2.2.2.2.2.2.2.2.1 x.2.1.2.2.2.2.2.2.2.2.2.2.2.2.2.2.2.2.2.2.2.2.2.1 x.2.1.2.2.2.2.2.2.2.2.2.2.2.2.2.2.2.2.2.2.2.2.2.2.1 x.2.1.2.2.2.2.2.2.2.2.2.2.2.2.2.2.2.2.2.2.2.2.2.2.2.1 x.2.1.2.2.2.2.2.2.2.2.2.2.2.2.2.2.2.2.2.2.2.2.2.2.2.2.1 x.2.1.2.2.2.2.2.2.2.2.2.2.2.2.2.2.2.2.2.2.2.2.2.2.2.2.2.1 x.2.1.2.2.2.2.2.2.2.2.2.2.2.2.2.2.2.2.2.2.2.2.2.2.2.2.2.2.1 x.2.1.2.2.2.2.2.2.2.2.2.2.2.2.2.2.2.2.2.2.2.2.2.2.2.2.2.2.2.1 x.2.1.2.2.2.2.2.2.2.2.2.2.2.2.2.2.2.2.2.2.2.2.2.2.2.2.2.2.2.2.1 K
end Go.Proofs.YtlpmhldejeaefaaAbs

-- Written by a program of this session (dec.py); Lean checks it.
namespace Go.Proofs.YtlpmhldejeaefaaAbs
open Go Go.Proofs
set_option linter.unusedVariables false
set_option maxHeartbeats 2000000
noncomputable def sums8 : SumT := (17, sumH lower_View_A lower_View_B true lower_View_G) :: sums7
theorem sums8_ok : AllSum Try.prog sums8 := ⟨sumH_ok rfl rfl lower_View_known, sums7_ok⟩
end Go.Proofs.YtlpmhldejeaefaaAbs

/- Plain laws: numbers, widths of runes, halves of wide runes, rows mended. -/
namespace Go.Proofs.YtlpmhldejeaefaaAbs
set_option linter.unusedVariables false
set_option linter.unusedSimpArgs false
open Go Go.Proofs
abbrev Cell := Int × Int × Int × Int × Int
abbrev dC : Cell := (0, 0, 0, 0, 0)
theorem optK_s {α R : Type} (v : α) (K : α → Option R) : optK (some v) K = K v := rfl
theorem w64 {n : Int} (h0 : -9223372036854775808 ≤ n) (h1 : n < 9223372036854775808) : IntKind.i64.wrap n = n := by rw [IntKind.wrap_i64]; omega
theorem w32 {n : Int} (h0 : -2147483648 ≤ n) (h1 : n < 2147483648) : IntKind.i32.wrap n = n := by rw [IntKind.wrap_i32]; omega
def wideP (x : Int) : Bool := decide (4352 ≤ x ∧ x ≤ 4447) || decide (11904 ≤ x ∧ x ≤ 42191) || decide (44032 ≤ x ∧ x ≤ 55203) || decide (63744 ≤ x ∧ x ≤ 64255) || decide (65072 ≤ x ∧ x ≤ 65135) || decide (65280 ≤ x ∧ x ≤ 65376) || decide (65504 ≤ x ∧ x ≤ 65510) || decide (127744 ≤ x ∧ x ≤ 129791) || decide (131072 ≤ x ∧ x ≤ 262141)
def narrowP (x : Int) : Bool := decide (x < 32) || decide (127 ≤ x ∧ x ≤ 159) || decide (768 ≤ x ∧ x ≤ 879) || decide (55296 ≤ x ∧ x ≤ 57343) || decide (1114111 < x)
theorem ofNat_lt {a b : Nat} : decide ((Int.ofNat a) < Int.ofNat b) = decide (a < b) := by
  by_cases h : a < b <;> simp [h]
theorem wrap_succ {i : Nat} (h : i < 4611686018427387904) : IntKind.i64.wrap (Int.ofNat i + 1) = Int.ofNat (i + 1) := by
  rw [w64 (by simp; omega) (by simp; omega)]; simp
def widthP (x : Int) : Int := bif narrowP x then 0 else bif wideP x then 2 else 1
/-! ### halves -/
def halfB (l : List Cell) (i : Nat) : Bool :=
  bif (l.getD i dC).2.1 == 1 then (decide (i + 1 = l.length) || ((l.getD (i + 1) dC).2.1 != 2)) else
  bif (l.getD i dC).2.1 == 2 then (decide (i = 0) || ((l.getD (i - 1) dC).2.1 != 1)) else false
/-! ### rows mended -/
def blankOf (x : Cell) : Cell := (32, 0, x.2.2)
def mendAt (l : List Cell) (i : Nat) : Cell := bif halfB l i then blankOf (l.getD i dC) else l.getD i dC
def mend (l : List Cell) : List Cell := (List.range l.length).map (mendAt l)
theorem mend_length (l : List Cell) : (mend l).length = l.length := by simp [mend]
theorem mend_getD (l : List Cell) (i : Nat) (h : i < l.length) : (mend l).getD i dC = mendAt l i := by simp [mend, h]
theorem mend_get (l : List Cell) (i : Nat) (h : i < l.length) : (mend l)[i]'(by rw [mend_length]; exact h) = mendAt l i := by simp [mend]
theorem take_set_drop {α : Type} (a b : List α) (i : Nat) (x : α) (h : i < b.length) (hab : a.length = b.length) (hx : a[i]'(by omega) = x) : (a.take i ++ b.drop i).set i x = a.take (i + 1) ++ b.drop (i + 1) := by
  have h1 : (a.take i).length = i := by simp; omega
  rw [List.set_append_right _ _ (by omega), h1, Nat.sub_self, List.drop_eq_getElem_cons h, List.set_cons_zero, ← List.take_append_getElem (l := a) (i := i) (by omega), hx, List.append_assoc]
  rfl
end Go.Proofs.YtlpmhldejeaefaaAbs

/- Plain laws: what is put into a grid, what is there. -/
namespace Go.Proofs.YtlpmhldejeaefaaAbs
set_option linter.unusedVariables false
set_option linter.unusedSimpArgs false
open Go Go.Proofs
section
variable {α : Type}
theorem set3 {A R B : List α} (c : Nat) (y : α) (hc : c < R.length) : (A ++ R ++ B).set (A.length + c) y = A ++ R.set c y ++ B := by
  rw [List.append_assoc, List.set_append_right _ _ (by omega), Nat.add_sub_cancel_left, List.set_append_left _ _ hc, List.append_assoc]
theorem split3 (l : List α) (o w : Nat) (h : o + w ≤ l.length) : l = l.take o ++ (l.drop o).take w ++ l.drop (o + w) := by
  rw [List.append_assoc, ← List.drop_drop, List.take_append_drop, List.take_append_drop]
end
theorem bnds_ok {a b n : Nat} (h1 : a ≤ b) (h2 : b ≤ n) : bnds (some (Int.ofNat a)) (some (Int.ofNat b)) n = true := by
  simp [bnds]; omega
theorem cutList_ok {α : Type} {l : List α} {a b : Nat} (h1 : a ≤ b) : cutList l (some (Int.ofNat a)) (some (Int.ofNat b)) = (l.drop a).take (b - a) := by
  simp [cutList, List.drop_take]
theorem mul_bound {r w h : Nat} (hr : r < h) : r * w + w ≤ h * w := by
  have : (r + 1) * w ≤ h * w := Nat.mul_le_mul_right w hr
  rw [Nat.add_mul, Nat.one_mul] at this; exact this
theorem small_mul {h w : Nat} (h1 : h ≤ 64) (h2 : w ≤ 64) : h * w ≤ 4096 := Nat.mul_le_mul h1 h2
theorem row_lo (r w : Nat) (hr : r ≤ 64) (hw : w ≤ 64) : IntKind.i64.wrap (Int.ofNat r * Int.ofNat w) = Int.ofNat (r * w) := by
  have := small_mul hr hw
  have e : Int.ofNat r * Int.ofNat w = Int.ofNat (r * w) := by simp
  rw [e, w64 (by simp; omega) (by simp; omega)]
theorem row_hi (r w : Nat) (hr : r ≤ 63) (hw : w ≤ 64) : IntKind.i64.wrap (IntKind.i64.wrap (Int.ofNat r + 1) * Int.ofNat w) = Int.ofNat (r * w + w) := by
  rw [wrap_succ (by omega), row_lo (r + 1) w (by omega) hw, Nat.add_mul, Nat.one_mul]
theorem toNat_ofNat' (n : Nat) : (Int.ofNat n).toNat = n := rfl
abbrev Pen := Int × Int × Int
def putRow (row : List Cell) (c : Nat) (x : Int) (p : Pen) : List Cell :=
  if widthP x = 2 then (row.set c (x, 1, p)).set (c + 1) (0, 2, p) else row.set c (x, 0, p)
theorem putRow_length (row : List Cell) (c : Nat) (x : Int) (p : Pen) : (putRow row c x p).length = row.length := by
  unfold putRow; split <;> simp
def inRow (w : Nat) (l : List Cell) (r : Nat) (f : List Cell → List Cell) : List Cell := l.take (r * w) ++ f ((l.drop (r * w)).take w) ++ l.drop (r * w + w)
def put (h w : Nat) (l : List Cell) (r c : Int) (x : Int) (p : Pen) : List Cell :=
  if widthP x = 0 ∨ ¬ (0 ≤ r ∧ r < h ∧ 0 ≤ c ∧ c < w) ∨ (w : Int) < c + widthP x then l else inRow w l r.toNat fun row => mend (putRow row c.toNat x p)
theorem width_cases (x : Int) : widthP x = 0 ∨ widthP x = 1 ∨ widthP x = 2 := by
  unfold widthP
  cases narrowP x <;> cases wideP x <;> simp
end Go.Proofs.YtlpmhldejeaefaaAbs

/- Plain laws: cells at places, new grids, grids held against each other, numbers brought into bounds. -/
namespace Go.Proofs.YtlpmhldejeaefaaAbs
set_option linter.unusedVariables false
set_option linter.unusedSimpArgs false
open Go Go.Proofs
/-! ### repeated -/
/-! ### held against each other -/
theorem cell_beq (a b : Cell) : (a.1 == b.1 && (a.2.1 == b.2.1 && (a.2.2.1 == b.2.2.1 && (a.2.2.2.1 == b.2.2.2.1 && (a.2.2.2.2 == b.2.2.2.2 && true))))) = decide (a = b) := by
  obtain ⟨a1, a2, a3, a4, a5⟩ := a
  obtain ⟨b1, b2, b3, b4, b5⟩ := b
  by_cases h : ((a1, a2, a3, a4, a5) : Cell) = (b1, b2, b3, b4, b5)
  · have k := h
    injection k with k1 k; injection k with k2 k; injection k with k3 k; injection k with k4 k5
    subst k1 k2 k3 k4 k5
    simp
  · rw [decide_eq_false h]
    simp only [Prod.mk.injEq] at h
    simp only [Bool.and_true, Bool.and_eq_false_iff, beq_eq_false_iff_ne, ne_eq]
    by_cases c1 : a1 = b1 <;> by_cases c2 : a2 = b2 <;> by_cases c3 : a3 = b3 <;> by_cases c4 : a4 = b4 <;> simp_all
/-! ### numbers brought into bounds -/
theorem within_eq (n lo hi : Int) (hn : -9223372036854775808 ≤ n) (hn2 : n < 9223372036854775808) (h0 : -1000000 ≤ lo) (h1 : lo ≤ hi) (h2 : hi < 4611686018427387904) :
    ∃ r, hide linguistbook_Within_F n lo hi = some r ∧ lo ≤ r ∧ r ≤ hi := by
  rw [hide_eq]; unfold linguistbook_Within_F
  rw [w64 (n := hi - lo) (by omega) (by omega), w64 (n := hi - lo + 1) (by omega) (by omega)]
  have e0 : (hi - lo + 1 == 0) = false := beq_false_of_ne (by omega)
  have b1 : n.tmod (hi - lo + 1) < hi - lo + 1 := Int.tmod_lt_of_pos _ (by omega)
  have b2 : -(hi - lo + 1) < n.tmod (hi - lo + 1) := by
    have := Int.lt_tmod_of_pos n (show 0 < hi - lo + 1 by omega); omega
  rw [e0]
  generalize n.tmod (hi - lo + 1) = m at *
  simp only [cond_false]
  by_cases hm : m < 0
  · rw [decide_eq_true hm]
    simp only [cond_true]
    rw [w64 (n := m + hi) (by omega) (by omega), w64 (n := m + hi - lo) (by omega) (by omega), w64 (n := m + hi - lo + 1) (by omega) (by omega), w64 (by omega) (by omega)]
    exact ⟨_, rfl, by omega, by omega⟩
  · rw [decide_eq_false hm]
    simp only [cond_false]
    rw [w64 (by omega) (by omega)]
    exact ⟨_, rfl, by omega, by omega⟩
end Go.Proofs.YtlpmhldejeaefaaAbs

/- Plain laws: cells wiped, grids cut to a size, pens out of numbers. -/
namespace Go.Proofs.YtlpmhldejeaefaaAbs
set_option linter.unusedVariables false
set_option linter.unusedSimpArgs false
open Go Go.Proofs
/-! ### places filled -/
end Go.Proofs.YtlpmhldejeaefaaAbs

/- Plain laws: texts of rows, pens out of numbers. -/
namespace Go.Proofs.YtlpmhldejeaefaaAbs
set_option linter.unusedVariables false
set_option linter.unusedSimpArgs false
open Go Go.Proofs
/-! ### texts -/
/-! ### pens -/
def rightColour (v : Int) : Prop := (-1 ≤ v ∧ v ≤ 255) ∨ (16777216 ≤ v ∧ v < 33554432)
def rightPen (p : Pen) : Prop := rightColour p.1 ∧ rightColour p.2.1 ∧ 0 ≤ p.2.2 ∧ p.2.2 ≤ 255
def in64 (n : Int) : Prop := -9223372036854775808 ≤ n ∧ n < 9223372036854775808
end Go.Proofs.YtlpmhldejeaefaaAbs

/- Plain laws: grids cut to a size. -/
namespace Go.Proofs.YtlpmhldejeaefaaAbs
set_option linter.unusedVariables false
set_option linter.unusedSimpArgs false
open Go Go.Proofs
def rowOf (w : Nat) (l : List Cell) (r : Nat) : List Cell := (l.drop (r * w)).take w
theorem rowOf_length {h w : Nat} {l : List Cell} (hl : l.length = h * w) {r : Nat} (hr : r < h) : (rowOf w l r).length = w := by
  have := mul_bound (w := w) hr
  unfold rowOf; simp; omega
end Go.Proofs.YtlpmhldejeaefaaAbs

/- Plain laws: right rows. -/
namespace Go.Proofs.YtlpmhldejeaefaaAbs
set_option linter.unusedVariables false
set_option linter.unusedSimpArgs false
open Go Go.Proofs
def kd (l : List Cell) (i : Nat) : Int := (l.getD i dC).2.1
theorem half_iff (l : List Cell) (i : Nat) : halfB l i = true ↔ (kd l i = 1 ∧ (i + 1 = l.length ∨ kd l (i + 1) ≠ 2)) ∨ (kd l i = 2 ∧ (i = 0 ∨ kd l (i - 1) ≠ 1)) := by
  unfold halfB
  show (bif kd l i == 1 then (decide (i + 1 = l.length) || (kd l (i + 1) != 2)) else bif kd l i == 2 then (decide (i = 0) || (kd l (i - 1) != 1)) else false) = true ↔ _
  by_cases h1 : kd l i = 1
  · simp [h1]
  · by_cases h2 : kd l i = 2 <;> simp [h1, h2]
def rightR (l : List Cell) : Prop := ∀ i, i < l.length → halfB l i = false
theorem mend_right {l : List Cell} (h : rightR l) : mend l = l := by
  apply List.ext_getElem (mend_length l)
  intro i h1 h2
  rw [mend_get l i h2]
  unfold mendAt
  rw [h i h2]
  simp [h2]
theorem kd_mend (l : List Cell) (i : Nat) (h : i < l.length) : kd (mend l) i = if halfB l i = true then 0 else kd l i := by
  unfold kd
  rw [mend_getD l i h]
  unfold mendAt
  cases hh : halfB l i
  · simp
  · simp [blankOf]
theorem right_mend (l : List Cell) : rightR (mend l) := by
  intro i hi
  rw [mend_length] at hi
  cases hb : halfB (mend l) i
  · rfl
  · rw [half_iff, mend_length] at hb
    exfalso
    have k0 := kd_mend l i hi
    have n0 : halfB l i = true → False := by
      intro h
      rw [if_pos h] at k0
      rcases hb with ⟨h1, _⟩ | ⟨h1, _⟩ <;> omega
    rw [if_neg n0] at k0
    rw [half_iff] at n0
    rcases hb with ⟨h1, h2⟩ | ⟨h1, h2⟩
    · rw [k0] at h1
      have a1 : i + 1 ≠ l.length := fun h => n0 (Or.inl ⟨h1, Or.inl h⟩)
      have a2 : kd l (i + 1) = 2 := by
        apply Decidable.byContradiction
        intro h
        exact n0 (Or.inl ⟨h1, Or.inr h⟩)
      rcases h2 with h2 | h2
      · exact a1 h2
      · apply h2
        rw [kd_mend l (i + 1) (by omega), if_neg, a2]
        rw [half_iff]
        rintro (⟨h3, _⟩ | ⟨_, h3 | h3⟩)
        · omega
        · omega
        · exact h3 (by simpa using h1)
    · rw [k0] at h1
      have a1 : i ≠ 0 := fun h => n0 (Or.inr ⟨h1, Or.inl h⟩)
      have a2 : kd l (i - 1) = 1 := by
        apply Decidable.byContradiction
        intro h
        exact n0 (Or.inr ⟨h1, Or.inr h⟩)
      rcases h2 with h2 | h2
      · exact a1 h2
      · apply h2
        rw [kd_mend l (i - 1) (by omega), if_neg, a2]
        rw [half_iff]
        have e : i - 1 + 1 = i := by omega
        rw [e]
        rintro (⟨_, h3 | h3⟩ | ⟨h3, _⟩)
        · omega
        · exact h3 h1
        · omega
theorem right_singles {l : List Cell} (h : ∀ x ∈ l, x.2.1 = 0) : rightR l := by
  intro i hi
  cases hb : halfB l i
  · rfl
  · rw [half_iff] at hb
    have : kd l i = 0 := by unfold kd; rw [List.getD_eq_getElem?_getD, List.getElem?_eq_getElem hi]; exact h _ (List.getElem_mem hi)
    omega
end Go.Proofs.YtlpmhldejeaefaaAbs

/- Plain laws: the document's width of a rune. -/
namespace Go.Proofs.YtlpmhldejeaefaaAbs
set_option linter.unusedVariables false
set_option linter.unusedSimpArgs false
open Go Go.Proofs
theorem refw_loop (x : Int) (l : List (Int × Int)) (hl : l.length < 4611686018427387904) : ∀ (n i : Nat), i ≤ l.length → l.length - i < n →
    linguistref1_Width_L5 n x l (Int.ofNat l.length) (Int.ofNat i) = some (if (l.drop i).any (fun p => decide (p.1 ≤ x ∧ x ≤ p.2)) then .inl 2 else .inr ()) := by
  intro n
  induction n with
  | zero => intro i h1 h2; omega
  | succ n ih =>
    intro i h1 h2
    rw [linguistref1_Width_L5]
    by_cases hi : i < l.length
    · have e0 : decide ((0 : Int) ≤ Int.ofNat i) = true := by simp
      rw [ofNat_lt, e0]
      simp only [hi, decide_true, cond_true, Bool.and_self]
      rw [List.drop_eq_getElem_cons hi, List.any_cons]
      have e1 : l.getD (Int.ofNat i).toNat (0, 0) = l[i] := by simp [hi]
      rw [e1, wrap_succ (by omega), ih (i + 1) (by omega) (by omega)]
      by_cases a : l[i].1 ≤ x
      · by_cases b : x ≤ l[i].2
        · have e2 : decide (l[i].1 ≤ x ∧ x ≤ l[i].2) = true := decide_eq_true ⟨a, b⟩
          rw [e2]; simp [a, b]
        · have e2 : decide (l[i].1 ≤ x ∧ x ≤ l[i].2) = false := decide_eq_false fun k => b k.2
          rw [e2, Bool.false_or]; simp [a, b]
      · have e2 : decide (l[i].1 ≤ x ∧ x ≤ l[i].2) = false := decide_eq_false fun k => a k.1
        rw [e2, Bool.false_or]; simp [a]
    · have : i = l.length := by omega
      subst this
      simp
theorem refw_eq {x : Int} (hx : -2147483648 ≤ x ∧ x < 2147483648) : hide linguistref1_Width_F x = some (widthP x) := by
  rw [hide_eq]; unfold linguistref1_Width_F
  rw [w64 (by omega) (by omega)]
  have h := refw_loop x [((4352 : Int), (4447 : Int)), ((11904 : Int), (42191 : Int)), ((44032 : Int), (55203 : Int)), ((63744 : Int), (64255 : Int)), ((65072 : Int), (65135 : Int)), ((65280 : Int), (65376 : Int)), ((65504 : Int), (65510 : Int)), ((127744 : Int), (129791 : Int)), ((131072 : Int), (262141 : Int))] (by decide)
    (linguistref1_Width_fu5 x [((4352 : Int), (4447 : Int)), ((11904 : Int), (42191 : Int)), ((44032 : Int), (55203 : Int)), ((63744 : Int), (64255 : Int)), ((65072 : Int), (65135 : Int)), ((65280 : Int), (65376 : Int)), ((65504 : Int), (65510 : Int)), ((127744 : Int), (129791 : Int)), ((131072 : Int), (262141 : Int))] 9 0) 0 (by omega) (by unfold linguistref1_Width_fu5; simp)
  have e9 : (Int.ofNat 9 : Int) = 9 := rfl
  have e0 : (Int.ofNat 0 : Int) = 0 := rfl
  simp only [List.length_cons, List.length_nil, e0, Nat.zero_add, Nat.reduceAdd, e9] at h
  simp only [hide_eq, h]
  simp only [List.drop_zero, List.any_cons, List.any_nil, Bool.or_false, optK_s]
  have hw : (decide (4352 ≤ x ∧ x ≤ 4447) || (decide (11904 ≤ x ∧ x ≤ 42191) || (decide (44032 ≤ x ∧ x ≤ 55203) || (decide (63744 ≤ x ∧ x ≤ 64255) || (decide (65072 ≤ x ∧ x ≤ 65135) || (decide (65280 ≤ x ∧ x ≤ 65376) || (decide (65504 ≤ x ∧ x ≤ 65510) || (decide (127744 ≤ x ∧ x ≤ 129791) || decide (131072 ≤ x ∧ x ≤ 262141))))))))) = wideP x := by
    unfold wideP; simp only [Bool.or_assoc]
  rw [hw]
  have e : ∀ c : Bool, (sumK (if c = true then Sum.inl 2 else Sum.inr () : Int ⊕ Unit) (fun y2a => some y2a) fun y2b => some 1 : Option Int) = some (bif c then 2 else 1) := fun c => by cases c <;> rfl
  simp only [e]
  unfold widthP narrowP
  generalize wideP x = wp
  by_cases a1 : x < 32
  · simp [a1]
  by_cases a2 : x ≥ 127
  · by_cases a3 : x < 160
    · have : x ≤ 159 := by omega
      simp [a1, a2, a3, this]
    by_cases a4 : x ≥ 768
    · by_cases a5 : x ≤ 879
      · simp [a1, a2, a3, a4, a5]
      · by_cases a6 : x > 1114111
        · have : ¬ x ≤ 159 := by omega
          simp [a1, a2, a3, a4, a5, a6]
        · by_cases a7 : x ≥ 55296
          · by_cases a8 : x ≤ 57343
            · simp [a1, a2, a3, a4, a5, a6, a7, a8]
            · have : ¬ x ≤ 159 := by omega
              simp [a1, a2, a3, a4, a5, a6, a7, a8, this]
          · have : ¬ x ≤ 159 := by omega
            simp [a1, a2, a3, a4, a5, a6, a7, this]
    · have b1 : ¬ x ≤ 159 := by omega
      have b2 : ¬ x > 1114111 := by omega
      have b3 : ¬ x ≥ 55296 := by omega
      simp [a1, a2, a3, a4, b1, b2, b3]
  · have b2 : ¬ x > 1114111 := by omega
    have b3 : ¬ x ≥ 55296 := by omega
    have b4 : ¬ x ≥ 768 := by omega
    simp [a1, a2, b2, b3, b4]
end Go.Proofs.YtlpmhldejeaefaaAbs

/- Plain laws: what put leaves as it was. -/
namespace Go.Proofs.YtlpmhldejeaefaaAbs
set_option linter.unusedVariables false
set_option linter.unusedSimpArgs false
open Go Go.Proofs
end Go.Proofs.YtlpmhldejeaefaaAbs

/- Plain laws: right grids, row by row. -/
namespace Go.Proofs.YtlpmhldejeaefaaAbs
set_option linter.unusedVariables false
set_option linter.unusedSimpArgs false
open Go Go.Proofs
theorem rowOf_getD {w : Nat} {l : List Cell} {r i : Nat} (hi : i < w) : (rowOf w l r).getD i dC = l.getD (r * w + i) dC := by
  unfold rowOf
  simp [List.getD_eq_getElem?_getD, List.getElem?_take_of_lt hi, List.getElem?_drop]
section
variable {h w : Nat} {l : List Cell} {r : Nat} {f : List Cell → List Cell}
theorem inRow_length (hl : l.length = h * w) (hr : r < h) (hf : (f (rowOf w l r)).length = w) : (inRow w l r f).length = h * w := by
  have := mul_bound (w := w) hr
  unfold inRow
  have hf' : (f ((l.drop (r * w)).take w)).length = w := hf
  simp only [List.length_append, List.length_take, List.length_drop, hf']
  omega
theorem inRow_same (hl : l.length = h * w) (hr : r < h) (hf : (f (rowOf w l r)).length = w) : rowOf w (inRow w l r f) r = f (rowOf w l r) := by
  have hb := mul_bound (w := w) hr
  have hA : (l.take (r * w)).length = r * w := by simp; omega
  show ((l.take (r * w) ++ f (rowOf w l r) ++ l.drop (r * w + w)).drop (r * w)).take w = _
  rw [List.append_assoc, List.drop_append_of_le_length (by omega), List.drop_of_length_le (by omega), List.nil_append, List.take_append_of_le_length (by omega), List.take_of_length_le (by omega)]
theorem inRow_other (hl : l.length = h * w) (hr : r < h) (hf : (f (rowOf w l r)).length = w) {r' : Nat} (hr' : r' < h) (hne : r' ≠ r) : rowOf w (inRow w l r f) r' = rowOf w l r' := by
  have hb := mul_bound (w := w) hr
  have hb' := mul_bound (w := w) hr'
  have hA : (l.take (r * w)).length = r * w := by simp; omega
  show ((l.take (r * w) ++ f (rowOf w l r) ++ l.drop (r * w + w)).drop (r' * w)).take w = (l.drop (r' * w)).take w
  by_cases hlt : r' < r
  · have hb2 := mul_bound (w := w) hlt
    rw [List.append_assoc, List.drop_append_of_le_length (by omega), List.take_append_of_le_length (by rw [List.length_drop]; omega), List.drop_take, List.take_take]
    congr 1
    omega
  · have hb2 := mul_bound (w := w) (show r < r' by omega)
    have hX : (l.take (r * w) ++ f (rowOf w l r)).length = r * w + w := by rw [List.length_append, hA, hf]
    rw [List.drop_append, List.drop_of_length_le (by omega), List.nil_append, List.drop_drop, hX]
    congr 2
    omega
end
def RG (h w : Nat) (l : List Cell) : Prop := l.length = h * w ∧ ∀ r, r < h → rightR (rowOf w l r)
theorem RG.inRow {h w : Nat} {l : List Cell} {r : Nat} {f : List Cell → List Cell} (k : RG h w l) (hr : r < h) (hf : (f (rowOf w l r)).length = w) (hR : rightR (f (rowOf w l r))) : RG h w (inRow w l r f) := by
  refine ⟨inRow_length k.1 hr hf, fun r' hr' => ?_⟩
  by_cases e : r' = r
  · subst e; rw [inRow_same k.1 hr hf]; exact hR
  · rw [inRow_other k.1 hr hf hr' e]; exact k.2 r' hr'
theorem RG.put {h w : Nat} {l : List Cell} (k : RG h w l) (r c x : Int) (p : Pen) : RG h w (put h w l r c x p) := by
  unfold Go.Proofs.YtlpmhldejeaefaaAbs.put
  split
  · exact k
  · rename_i hn
    have hr : r.toNat < h := by omega
    exact k.inRow hr (by rw [mend_length, putRow_length, rowOf_length k.1 hr]) (right_mend _)
end Go.Proofs.YtlpmhldejeaefaaAbs

/- Plain laws: wiped, resized there and back. -/
namespace Go.Proofs.YtlpmhldejeaefaaAbs
set_option linter.unusedVariables false
set_option linter.unusedSimpArgs false
open Go Go.Proofs
end Go.Proofs.YtlpmhldejeaefaaAbs

/- Plain laws: rows whose cells may be. -/
namespace Go.Proofs.YtlpmhldejeaefaaAbs
set_option linter.unusedVariables false
set_option linter.unusedSimpArgs false
open Go Go.Proofs
theorem getD_set {α : Type} (l : List α) (i j : Nat) (y d : α) : (l.set i y).getD j d = if i = j ∧ j < l.length then y else l.getD j d := by
  by_cases h : i = j
  · subst h
    by_cases hl : i < l.length
    · simp [hl]
    · simp [List.getD_eq_getElem?_getD, hl]
  · rw [if_neg (fun k => h k.1)]
    simp [List.getD_eq_getElem?_getD, List.getElem?_set_ne h]
theorem getD_append_r {α : Type} {a b : List α} {i : Nat} (d : α) (h : a.length ≤ i) : (a ++ b).getD i d = b.getD (i - a.length) d := by
  simp [List.getD_eq_getElem?_getD, List.getElem?_append_right h]
theorem getD_drop {α : Type} {a : List α} {i n : Nat} (d : α) : (a.drop n).getD i d = a.getD (n + i) d := by
  simp [List.getD_eq_getElem?_getD, List.getElem?_drop]
theorem getD_rep {α : Type} {i n : Nat} (y d : α) (h : i < n) : (List.replicate n y).getD i d = y := by
  simp [List.getD_eq_getElem?_getD, List.getElem?_replicate, h]
theorem ext_getD {α : Type} {a b : List α} (d : α) (hl : a.length = b.length) (h : ∀ i, i < a.length → a.getD i d = b.getD i d) : a = b := by
  apply List.ext_getElem hl
  intro i h1 h2
  have := h i h1
  simpa [List.getD_eq_getElem?_getD, h1, h2] using this
def cellS (x : Cell) : Prop := rightPen x.2.2 ∧ ((x.2.1 = 0 ∧ widthP x.1 = 1) ∨ (x.2.1 = 1 ∧ widthP x.1 = 2) ∨ (x.2.1 = 2 ∧ x.1 = 0))
def lk (x y : Cell) : Prop := x.2.1 = 1 → y.2.1 = 2 → y.2.2 = x.2.2
def Semi (l : List Cell) : Prop := ∀ i, i < l.length → cellS (l.getD i dC) ∧ (i + 1 < l.length → lk (l.getD i dC) (l.getD (i + 1) dC))
theorem cellS_single {x : Int} {p : Pen} (hw : widthP x = 1) (hp : rightPen p) : cellS (x, 0, p) := ⟨hp, .inl ⟨rfl, hw⟩⟩
theorem width_blank : widthP 32 = 1 := by decide
theorem cellS_blank {p : Pen} (hp : rightPen p) : cellS (32, 0, p) := cellS_single width_blank hp
theorem rightPen_plain : rightPen (-1, -1, 0) := by unfold rightPen rightColour; simp
/-- Single cells may stand in place of others. -/
theorem semi_mix {l m : List Cell} (hl : m.length = l.length) (h : Semi l) (hm : ∀ i, i < m.length → m.getD i dC = l.getD i dC ∨ (cellS (m.getD i dC) ∧ (m.getD i dC).2.1 = 0)) : Semi m := by
  intro i hi
  have a := hm i hi
  refine ⟨?_, fun hi1 => ?_⟩
  · rcases a with a | a
    · rw [a]; exact (h i (by omega)).1
    · exact a.1
  · have b := hm (i + 1) hi1
    intro k1 k2
    rcases a with a | a
    · rcases b with b | b
      · rw [a] at k1 ⊢; rw [b] at k2 ⊢
        exact (h i (by omega)).2 (by omega) k1 k2
      · rw [b.2] at k2; cases k2
    · rw [a.2] at k1; cases k1
theorem semi_mend {l : List Cell} (h : Semi l) : Semi (mend l) := by
  refine semi_mix (mend_length l) h fun i hi => ?_
  rw [mend_length] at hi
  rw [mend_getD l i hi]
  unfold mendAt
  cases halfB l i
  · exact .inl rfl
  · exact .inr ⟨cellS_blank (h i hi).1.1, rfl⟩
theorem semi_set {l : List Cell} (h : Semi l) (c : Nat) {x : Int} {p : Pen} (hw : widthP x = 1) (hp : rightPen p) : Semi (l.set c (x, 0, p)) := by
  refine semi_mix (by simp) h fun i hi => ?_
  rw [getD_set]
  split
  · exact .inr ⟨cellS_single hw hp, rfl⟩
  · exact .inl rfl
theorem semi_put {l : List Cell} (h : Semi l) (c : Nat) {x : Int} {p : Pen} (hw : widthP x = 1 ∨ widthP x = 2) (hp : rightPen p) : Semi (putRow l c x p) := by
  unfold putRow
  rcases hw with hw | hw
  · rw [if_neg (by rw [hw]; decide)]
    exact semi_set h c hw hp
  · rw [if_pos hw]
    intro i hi
    simp only [List.length_set] at hi
    have g : ∀ j, ((l.set c (x, 1, p)).set (c + 1) (0, 2, p)).getD j dC = if c + 1 = j ∧ j < l.length then (0, 2, p) else if c = j ∧ j < l.length then (x, 1, p) else l.getD j dC := fun j => by
      rw [getD_set, getD_set, List.length_set]
    simp only [List.length_set]
    refine ⟨?_, fun hi1 => ?_⟩
    · rw [g]
      split
      · exact ⟨hp, .inr (.inr ⟨rfl, rfl⟩)⟩
      · split
        · exact ⟨hp, .inr (.inl ⟨rfl, hw⟩)⟩
        · exact (h i hi).1
    · rw [g, g]
      by_cases a1 : c + 1 = i
      · rw [if_pos ⟨a1, hi⟩]; intro k; cases k
      · rw [if_neg (fun k => a1 k.1)]
        by_cases a2 : c = i
        · subst a2
          rw [if_pos ⟨rfl, hi⟩, if_pos ⟨rfl, hi1⟩]; intro _ _; rfl
        · rw [if_neg (fun k => a2 k.1), if_neg (fun k => a2 (by omega))]
          by_cases a3 : c = i + 1
          · rw [if_pos ⟨a3, hi1⟩]; intro _ k; cases k
          · rw [if_neg (fun k => a3 k.1)]; exact (h i hi).2 hi1
/-! ### grids that may be -/
def GG (h w : Nat) (l : List Cell) : Prop := RG h w l ∧ ∀ r, r < h → Semi (rowOf w l r)
theorem GG.inRow {h w : Nat} {l : List Cell} {r : Nat} {f : List Cell → List Cell} (k : GG h w l) (hr : r < h) (hf : (f (rowOf w l r)).length = w) (hR : rightR (f (rowOf w l r))) (hS : Semi (f (rowOf w l r))) : GG h w (inRow w l r f) := by
  refine ⟨k.1.inRow hr hf hR, fun r' hr' => ?_⟩
  by_cases e : r' = r
  · subst e; rw [inRow_same k.1.1 hr hf]; exact hS
  · rw [inRow_other k.1.1 hr hf hr' e]; exact k.2 r' hr'
theorem GG.put {h w : Nat} {l : List Cell} (k : GG h w l) (r c x : Int) {p : Pen} (hp : rightPen p) : GG h w (put h w l r c x p) := by
  unfold Go.Proofs.YtlpmhldejeaefaaAbs.put
  split
  · exact k
  · rename_i hn
    have hr : r.toNat < h := by omega
    have hw : widthP x = 1 ∨ widthP x = 2 := by have := width_cases x; omega
    exact k.inRow hr (by rw [mend_length, putRow_length, rowOf_length k.1.1 hr]) (right_mend _) (semi_mend (semi_put (k.2 _ hr) _ hw hp))
end Go.Proofs.YtlpmhldejeaefaaAbs

/- Plain laws: grids held right; grids made of numbers. -/
namespace Go.Proofs.YtlpmhldejeaefaaAbs
set_option linter.unusedVariables false
set_option linter.unusedSimpArgs false
open Go Go.Proofs
/-! ### books -/
theorem bookSame_loop (a b : List Cell) (hl : a.length = b.length) (hb : a.length < 4611686018427387904) : ∀ (n i : Nat), i ≤ a.length → a.length - i < n →
    linguistbook_Same_api_Cell_L4 n a b (Int.ofNat i) = some (if a.drop i = b.drop i then .inr () else .inl false) := by
  intro n
  induction n with
  | zero => intro i h1 h2; omega
  | succ n ih =>
    intro i h1 h2
    rw [linguistbook_Same_api_Cell_L4]
    by_cases hi : i < a.length
    · have e0 : decide ((0 : Int) ≤ Int.ofNat i) = true := by simp
      rw [ofNat_lt, ofNat_lt, e0, toNat_ofNat', cell_beq, wrap_succ (by omega), ih (i + 1) (by omega) (by omega)]
      have e2 : a.getD i dC = a[i] := by simp [hi]
      have e3 : b.getD i dC = b[i]'(by omega) := by simp [show i < b.length by omega]
      have hi2 : i < b.length := by omega
      simp only [hi, hi2, decide_true, Bool.and_self, cond_true, e2, e3]
      have hc : (a.drop i = b.drop i) ↔ (a[i] = b[i] ∧ a.drop (i + 1) = b.drop (i + 1)) := by
        rw [List.drop_eq_getElem_cons hi, List.drop_eq_getElem_cons hi2]
        exact ⟨fun k => by injection k with k1 k2; exact ⟨k1, k2⟩, fun k => by rw [k.1, k.2]⟩
      by_cases he : a[i] = b[i]
      · rw [decide_eq_true he]
        by_cases hd : a.drop (i + 1) = b.drop (i + 1)
        · rw [if_pos hd, if_pos (hc.2 ⟨he, hd⟩)]; rfl
        · rw [if_neg hd, if_neg (fun k => hd (hc.1 k).2)]; rfl
      · rw [decide_eq_false he, if_neg (fun k => he (hc.1 k).1)]; rfl
    · have : i = a.length := by omega
      subst this
      have e : decide (Int.ofNat a.length < Int.ofNat a.length) = false := by simp
      rw [e, List.drop_length, hl, List.drop_length]
      rfl
theorem bookSame_eq (a b : List Cell) (hb : a.length < 4611686018427387904) : hide linguistbook_Same_api_Cell_F a b = some (decide (a = b)) := by
  rw [hide_eq]; unfold linguistbook_Same_api_Cell_F
  by_cases hl : a.length = b.length
  · have : (Int.ofNat a.length != Int.ofNat b.length) = false := by rw [hl]; simp
    rw [this]
    simp only [cond_false, hide_eq]
    have h := bookSame_loop a b hl hb (linguistbook_Same_api_Cell_fu4 a b (Int.ofNat 0)) 0 (by omega) (by unfold linguistbook_Same_api_Cell_fu4; omega)
    rw [show (0 : Int) = Int.ofNat 0 from rfl, h]
    simp only [List.drop_zero, optK_s]
    by_cases he : a = b
    · simp [he, sumK]
    · simp [he, sumK]
  · have : (Int.ofNat a.length != Int.ofNat b.length) = true := by
      rw [bne_iff_ne]; intro k; exact hl (Int.ofNat.inj k)
    rw [this, decide_eq_false (fun k => hl (by rw [k]))]
    rfl

/-! ### grids out of numbers -/
theorem wide_no {x : Int} (h : x < 4352) : wideP x = false := by
  unfold wideP
  simp only [Bool.or_eq_false_iff, decide_eq_false_iff_not]
  omega
theorem width_ascii {x : Int} (h0 : 32 ≤ x) (h1 : x ≤ 126) : widthP x = 1 := by
  unfold widthP
  have a : narrowP x = false := by
    unfold narrowP
    simp only [Bool.or_eq_false_iff, decide_eq_false_iff_not]
    omega
  rw [a, wide_no (by omega)]; rfl
end Go.Proofs.YtlpmhldejeaefaaAbs

/- Plain laws: the document's own grids: made, mended, set, wiped. -/
namespace Go.Proofs.YtlpmhldejeaefaaAbs
set_option linter.unusedVariables false
set_option linter.unusedSimpArgs false
open Go Go.Proofs
theorem refNew_loop {a5 a6 a7 a8 p0 p1 p2 : Int} {a9 : List Cell} {N : Nat} (hN : N ≤ 4096) : ∀ (n i : Nat), i ≤ N → N - i < n →
    linguistref7_New_L3 n (Int.ofNat N) (Int.ofNat i) p0 p1 p2 a5 a6 a7 a8 a9 (List.replicate i (32, 0, p0, p1, p2)) = some (a5, a6, a7, a8, a9, List.replicate N (32, 0, p0, p1, p2)) := by
  intro n
  induction n with
  | zero => intro i h1 h2; omega
  | succ n ih =>
    intro i h1 h2
    rw [linguistref7_New_L3, ofNat_lt]
    by_cases hi : i < N
    · have l1 : (i + 1).ble 274877906944 = true := Nat.ble_eq_true_of_le (by omega)
      rw [decide_eq_true hi, wrap_succ (by omega)]
      simp only [List.length_replicate, List.length_cons, List.length_nil, Nat.zero_add, l1, Bool.and_self, cond_true]
      have := ih (i + 1) (by omega) (by omega)
      rw [List.replicate_succ'] at this
      exact this
    · have : i = N := by omega
      subst this
      rw [decide_eq_false hi]; rfl
theorem refNew_eq {h w : Nat} (hh : h ≤ 60) (hw : w ≤ 60) (p0 p1 p2 : Int) : hide linguistref7_New_F (Int.ofNat h) (Int.ofNat w) p0 p1 p2 = some (Int.ofNat h, Int.ofNat w, List.replicate (h * w) (32, 0, p0, p1, p2)) := by
  have hsm := small_mul (show h ≤ 64 by omega) (show w ≤ 64 by omega)
  rw [hide_eq]; unfold linguistref7_New_F
  rw [row_lo h w (by omega) (by omega), hide_eq]
  have := refNew_loop (a5 := 0) (a6 := 0) (a7 := Int.ofNat h) (a8 := Int.ofNat w) (p0 := p0) (p1 := p1) (p2 := p2) (a9 := []) hsm (linguistref7_New_fu3 (Int.ofNat (h * w)) 0 p0 p1 p2 0 0 (Int.ofNat h) (Int.ofNat w) [] []) 0 (by omega) (by unfold linguistref7_New_fu3; have : (Int.ofNat (h * w)).natAbs = h * w := rfl; omega)
  rw [show (0 : Int) = Int.ofNat 0 from rfl] at *
  rw [List.replicate_zero] at this
  rw [this]; rfl
theorem refSet_loop {R a6 a7 : Int} {a9 A M B row : List Cell} {r w : Nat} (hA : A.length = r * w) (hrow : row.length = w) (hM : M.length = w) (hr : r ≤ 60) (hw : w ≤ 60) : ∀ (n i : Nat), i ≤ w → w - i < n →
    linguistref7_set_L3 n (Int.ofNat r) row (Int.ofNat w) (Int.ofNat i) R (Int.ofNat w) a6 a7 (A ++ (row.take i ++ M.drop i) ++ B) a9 = some (R, Int.ofNat w, a6, a7, A ++ row ++ B, a9) := by
  have hsm := small_mul (show r ≤ 64 by omega) (show w ≤ 64 by omega)
  intro n
  induction n with
  | zero => intro i h1 h2; omega
  | succ n ih =>
    intro i h1 h2
    rw [linguistref7_set_L3, ofNat_lt]
    by_cases hi : i < w
    · have e0 : decide ((0 : Int) ≤ Int.ofNat i) = true := by simp
      have e1 : (Int.ofNat i).toNat = i := rfl
      have e2 : IntKind.i64.wrap (Int.ofNat (r * w) + Int.ofNat i) = Int.ofNat (r * w + i) := w64 (by show _ ≤ ((r * w : Nat) : Int) + (i : Int); omega) (by show ((r * w : Nat) : Int) + (i : Int) < _; omega)
      have e3 : decide ((0 : Int) ≤ Int.ofNat (r * w + i)) = true := decide_eq_true (by show (0 : Int) ≤ ((r * w + i : Nat) : Int); omega)
      have e4 : (Int.ofNat (r * w + i)).toNat = A.length + i := by rw [hA]; rfl
      have hl : (A ++ (row.take i ++ M.drop i) ++ B).length = r * w + w + B.length := by simp; omega
      have e5 : r * w + i < r * w + w + B.length := by omega
      rw [decide_eq_true hi, row_lo r w (by omega) (by omega), e2, e4, hl]
      simp only [ofNat_lt, e0, e1, e3, e5, hrow, hi, decide_true, Bool.and_self, cond_true]
      have e6 : row[i]'(by omega) = ((row.getD i dC).1, (row.getD i dC).2.1, (row.getD i dC).2.2.1, (row.getD i dC).2.2.2.1, (row.getD i dC).2.2.2.2) := by
        have : row.getD i dC = row[i]'(by omega) := by simp [show i < row.length by omega]
        rw [this]
      rw [set3 i _ (by simp; omega), take_set_drop row M i _ (by omega) (by omega) e6, wrap_succ (by omega)]
      exact ih (i + 1) (by omega) (by omega)
    · have : i = w := by omega
      subst this
      rw [decide_eq_false hi, List.take_of_length_le (by omega), List.drop_of_length_le (by omega), List.append_nil]
      rfl
theorem refSet_eq {R C : Int} {h w : Nat} (hR : R = Int.ofNat h) (hC : C = Int.ofNat w) (hh : h ≤ 60) (hw : w ≤ 60) {l : List Cell} (hl : l.length = h * w) {r : Nat} (hr : r < h) {row : List Cell} (hrow : row.length = w) :
    hide linguistref7_set_F R C l (Int.ofNat r) row = some (R, C, inRow w l r fun _ => row) := by
  have hsm := small_mul (show h ≤ 64 by omega) (show w ≤ 64 by omega)
  have hb := mul_bound (w := w) hr
  subst hC
  rw [hide_eq]; unfold linguistref7_set_F
  have e : (l.length.ble 274877906944) = true := Nat.ble_eq_true_of_le (by omega)
  rw [e]
  simp only [hide_eq, cond_true, Bool.and_self]
  have hs := split3 l (r * w) w (by omega)
  have hA : (l.take (r * w)).length = r * w := by simp; omega
  have hM : ((l.drop (r * w)).take w).length = w := by simp; omega
  have k := refSet_loop (R := R) (a6 := 0) (a7 := 0) (a9 := []) (B := l.drop (r * w + w)) hA hrow hM (by omega) hw (linguistref7_set_fu3 (Int.ofNat r) row (Int.ofNat w) 0 R (Int.ofNat w) 0 0 l []) 0 (by omega) (by unfold linguistref7_set_fu3; have : (Int.ofNat w).natAbs = w := rfl; omega)
  rw [List.take_zero, List.drop_zero, List.nil_append, ← hs] at k
  rw [hrow]
  rw [show (0 : Int) = Int.ofNat 0 from rfl] at *
  rw [k]; rfl
end Go.Proofs.YtlpmhldejeaefaaAbs

/- Plain laws: the document's own grids: what is put, cut to a size. -/
namespace Go.Proofs.YtlpmhldejeaefaaAbs
set_option linter.unusedVariables false
set_option linter.unusedSimpArgs false
open Go Go.Proofs
theorem right_1 {l : List Cell} (h : rightR l) {i : Nat} (hi : i < l.length) (k : kd l i = 1) : i + 1 < l.length ∧ kd l (i + 1) = 2 := by
  have : ¬ halfB l i = true := by rw [h i hi]; simp
  rw [half_iff] at this
  refine ⟨?_, Decidable.byContradiction fun q => this (.inl ⟨k, .inr q⟩)⟩
  rcases Nat.lt_or_ge (i + 1) l.length with a | a
  · exact a
  · exact absurd (.inl ⟨k, .inl (by omega)⟩) this
theorem right_2 {l : List Cell} (h : rightR l) {i : Nat} (hi : i < l.length) (k : kd l i = 2) : 1 ≤ i ∧ kd l (i - 1) = 1 := by
  have : ¬ halfB l i = true := by rw [h i hi]; simp
  rw [half_iff] at this
  refine ⟨?_, Decidable.byContradiction fun q => this (.inr ⟨k, .inr q⟩)⟩
  rcases Nat.eq_zero_or_pos i with a | a
  · exact absurd (.inr ⟨k, .inl a⟩) this
  · exact a
/-- What the document does to a row in place of mending. -/
def refPutRow (row : List Cell) (c : Nat) (x : Int) (p : Pen) (n : Nat) : List Cell :=
  let l := putRow row c x p
  let l := if 0 < c ∧ kd row c = 2 then l.set (c - 1) (blankOf (row.getD (c - 1) dC)) else l
  if c + n < row.length ∧ kd row (c + n - 1) = 1 then l.set (c + n) (blankOf (row.getD (c + n) dC)) else l
theorem putRow_at {row : List Cell} {c : Nat} {x : Int} {p : Pen} {n : Nat} (hn : widthP x = (n : Int)) (h12 : n = 1 ∨ n = 2) (hc : c + n ≤ row.length) (j : Nat) :
    (putRow row c x p).getD j dC = if j = c then (x, (n : Int) - 1, p) else if n = 2 ∧ j = c + 1 then (0, 2, p) else row.getD j dC := by
  unfold putRow
  rcases h12 with h | h
  · subst h
    rw [if_neg (by rw [hn]; decide), getD_set]
    by_cases e : j = c
    · rw [if_pos ⟨e.symm, by omega⟩, if_pos e]; rfl
    · rw [if_neg (fun k => e k.1.symm), if_neg e, if_neg (fun k => by omega)]
  · subst h
    rw [if_pos (show widthP x = 2 from hn), getD_set, getD_set, List.length_set]
    by_cases e : j = c
    · rw [if_neg (fun k => by omega), if_pos ⟨e.symm, by omega⟩, if_pos e]; rfl
    · rw [if_neg (c := j = c) e]
      by_cases e2 : j = c + 1
      · rw [if_pos ⟨e2.symm, by omega⟩, if_pos ⟨rfl, e2⟩]
      · rw [if_neg (fun k => e2 k.1.symm), if_neg (fun k => e k.1.symm), if_neg (fun k => e2 k.2)]
theorem putRow_ref {row : List Cell} (hR : rightR row) {c : Nat} {x : Int} {p : Pen} {n : Nat} (hn : widthP x = (n : Int)) (h12 : n = 1 ∨ n = 2) (hc : c + n ≤ row.length) : mend (putRow row c x p) = refPutRow row c x p n := by
  have P := putRow_at (p := p) hn h12 hc
  have K : ∀ j, kd (putRow row c x p) j = if j = c then (n : Int) - 1 else if n = 2 ∧ j = c + 1 then 2 else kd row j := fun j => by
    unfold kd; rw [P]; split
    · rfl
    · split <;> rfl
  have L : (putRow row c x p).length = row.length := putRow_length row c x p
  refine ext_getD dC ?_ fun i hi => ?_
  · rw [mend_length, L]; unfold refPutRow; simp only; split <;> split <;> simp [L]
  rw [mend_length, L] at hi
  rw [mend_getD _ _ (by omega)]
  have RHS : (refPutRow row c x p n).getD i dC = if c + n < row.length ∧ kd row (c + n - 1) = 1 ∧ i = c + n then blankOf (row.getD i dC) else if 0 < c ∧ kd row c = 2 ∧ i + 1 = c then blankOf (row.getD i dC) else (putRow row c x p).getD i dC := by
    unfold refPutRow
    simp only
    by_cases a : c + n < row.length ∧ kd row (c + n - 1) = 1
    · rw [if_pos a, getD_set]
      by_cases a' : i = c + n
      · subst a'
        rw [if_pos ⟨rfl, by split <;> simp [L] <;> omega⟩, if_pos ⟨a.1, a.2, rfl⟩]
      · rw [if_neg (fun k => a' k.1.symm), if_neg (c := c + n < row.length ∧ kd row (c + n - 1) = 1 ∧ i = c + n) (fun k => a' k.2.2)]
        by_cases b : 0 < c ∧ kd row c = 2
        · rw [if_pos b, getD_set]
          by_cases b' : i + 1 = c
          · rw [if_pos ⟨by omega, by omega⟩, if_pos ⟨b.1, b.2, b'⟩, show c - 1 = i by omega]
          · rw [if_neg (fun k => b' (by omega)), if_neg (fun k => b' k.2.2)]
        · rw [if_neg b, if_neg (fun k => b ⟨k.1, k.2.1⟩)]
    · rw [if_neg a, if_neg (c := c + n < row.length ∧ kd row (c + n - 1) = 1 ∧ i = c + n) (fun k => a ⟨k.1, k.2.1⟩)]
      by_cases b : 0 < c ∧ kd row c = 2
      · rw [if_pos b, getD_set]
        by_cases b' : i + 1 = c
        · rw [if_pos ⟨by omega, by omega⟩, if_pos ⟨b.1, b.2, b'⟩, show c - 1 = i by omega]
        · rw [if_neg (fun k => b' (by omega)), if_neg (fun k => b' k.2.2)]
      · rw [if_neg b, if_neg (fun k => b ⟨k.1, k.2.1⟩)]
  rw [RHS]
  unfold mendAt
  have H := half_iff (putRow row c x p) i
  rw [L] at H
  -- when a half stands alone
  have key : halfB (putRow row c x p) i = true ↔ (c + n < row.length ∧ kd row (c + n - 1) = 1 ∧ i = c + n) ∨ (0 < c ∧ kd row c = 2 ∧ i + 1 = c) := by
    rw [H, K i, K (i + 1), K (i - 1)]
    by_cases i1 : i = c
    · subst i1
      rw [if_pos rfl, if_neg (by omega : ¬ i + 1 = i)]
      constructor
      · rintro (⟨a, b⟩ | ⟨a, b⟩)
        · exfalso
          have n2 : n = 2 := by omega
          rw [if_pos ⟨n2, rfl⟩] at b
          rcases b with b | b
          · omega
          · exact b rfl
        · omega
      · rintro (⟨a, b, d⟩ | ⟨a, b, d⟩) <;> omega
    · rw [if_neg i1]
      by_cases i2 : n = 2 ∧ i = c + 1
      · rw [if_pos i2]
        constructor
        · rintro (⟨a, b⟩ | ⟨a, b⟩)
          · cases a
          · exfalso
            have : i - 1 = c := by omega
            rw [if_pos this] at b
            rcases b with b | b
            · omega
            · apply b; omega
        · rintro (⟨a, b, d⟩ | ⟨a, b, d⟩) <;> omega
      · rw [if_neg i2]
        by_cases i3 : i + 1 = c
        · rw [if_pos i3]
          constructor
          · rintro (⟨a, b⟩ | ⟨a, b⟩)
            · right
              have := right_1 hR hi a
              rw [i3] at this
              exact ⟨by omega, this.2, i3⟩
            · exfalso
              have := right_2 hR hi a
              rw [if_neg (by omega : ¬ i - 1 = c), if_neg (fun k => by omega : ¬ (n = 2 ∧ i - 1 = c + 1))] at b
              rcases b with b | b
              · omega
              · exact b this.2
          · rintro (⟨a, b, d⟩ | ⟨a, b, d⟩)
            · omega
            · left
              have := right_2 hR (by omega) b
              rw [show c - 1 = i by omega] at this
              exact ⟨this.2, .inr (by omega)⟩
        · rw [if_neg i3, if_neg (fun k => i1 (by omega) : ¬ (n = 2 ∧ i + 1 = c + 1))]
          by_cases i4 : i = c + n
          · have e : (if i - 1 = c then (n : Int) - 1 else if n = 2 ∧ i - 1 = c + 1 then 2 else kd row (i - 1)) ≠ 1 := by
              by_cases q : i - 1 = c
              · rw [if_pos q]; omega
              · rw [if_neg q, if_pos (by omega)]; decide
            constructor
            · rintro (⟨a, b⟩ | ⟨a, b⟩)
              · exfalso
                have := right_1 hR hi a
                rcases b with b | b
                · omega
                · exact b this.2
              · left
                have := right_2 hR hi a
                rw [show i - 1 = c + n - 1 by omega] at this
                exact ⟨by omega, this.2, i4⟩
            · rintro (⟨a, b, d⟩ | ⟨a, b, d⟩)
              · right
                have := right_1 hR (by omega) b
                rw [show c + n - 1 + 1 = i by omega] at this
                exact ⟨this.2, .inr e⟩
              · omega
          · have e : 1 ≤ i → (if i - 1 = c then (n : Int) - 1 else if n = 2 ∧ i - 1 = c + 1 then 2 else kd row (i - 1)) = kd row (i - 1) := fun q => by
              rw [if_neg (by omega), if_neg (by omega)]
            constructor
            · rintro (⟨a, b⟩ | ⟨a, b⟩)
              · exfalso
                have := right_1 hR hi a
                rcases b with b | b
                · omega
                · exact b this.2
              · exfalso
                have := right_2 hR hi a
                rcases b with b | b
                · omega
                · rw [e (by omega)] at b; exact b this.2
            · rintro (⟨a, b, d⟩ | ⟨a, b, d⟩) <;> omega
  by_cases q : halfB (putRow row c x p) i = true
  · rw [q, cond_true]
    have e : (putRow row c x p).getD i dC = row.getD i dC := by
      rw [P]
      rcases key.1 q with ⟨a, b, d⟩ | ⟨a, b, d⟩
      · rw [if_neg (by omega), if_neg (by omega)]
      · rw [if_neg (by omega), if_neg (by omega)]
    rw [e]
    rcases key.1 q with a | a
    · rw [if_pos a]
    · by_cases b : c + n < row.length ∧ kd row (c + n - 1) = 1 ∧ i = c + n
      · rw [if_pos b]
      · rw [if_neg b, if_pos a]
  · have q' : halfB (putRow row c x p) i = false := by cases h : halfB (putRow row c x p) i <;> simp_all
    rw [q', cond_false, if_neg (fun k => q (key.2 (.inl k))), if_neg (fun k => q (key.2 (.inr k)))]
end Go.Proofs.YtlpmhldejeaefaaAbs

/- Plain laws: the document's own put and resize, called. -/
namespace Go.Proofs.YtlpmhldejeaefaaAbs
set_option linter.unusedVariables false
set_option linter.unusedSimpArgs false
open Go Go.Proofs
theorem refPut_14 {R : Int} {h w : Nat} (hR : R = Int.ofNat h) (hh : h ≤ 60) (hw : w ≤ 60) {l row : List Cell} (hl : l.length = h * w) {r : Nat} (hr : r < h) (hrow : row.length = w) :
    linguistref7_Put_J14 (Int.ofNat r) R (Int.ofNat w) l 0 0 row [] = some (R, Int.ofNat w, inRow w l r fun _ => row) := by
  unfold linguistref7_Put_J14
  rw [refSet_eq hR rfl hh hw hl hr hrow]; rfl
theorem refPut_12 {R : Int} {h w : Nat} (hR : R = Int.ofNat h) (hh : h ≤ 60) (hw : w ≤ 60) {l row old : List Cell} (hl : l.length = h * w) {r : Nat} (hr : r < h) (hrow : row.length = w) (hold : old.length = w) {c n : Nat} (h1 : 1 ≤ n) (hn : n ≤ 2) (hc : c + n ≤ w) :
    linguistref7_Put_J12 (Int.ofNat r) (Int.ofNat c) (Int.ofNat n) old R (Int.ofNat w) l 0 0 row [] = some (R, Int.ofNat w, inRow w l r fun _ => if c + n < w ∧ kd old (c + n - 1) = 1 then row.set (c + n) (blankOf (old.getD (c + n) dC)) else row) := by
  unfold linguistref7_Put_J12
  have e1 : IntKind.i64.wrap (Int.ofNat c + Int.ofNat n) = Int.ofNat (c + n) := w64 (by show _ ≤ (c : Int) + (n : Int); omega) (by show (c : Int) + (n : Int) < _; omega)
  have e2 : IntKind.i64.wrap (Int.ofNat (c + n) - 1) = Int.ofNat (c + n - 1) := by
    rw [w64 (by show _ ≤ ((c + n : Nat) : Int) - 1; omega) (by show ((c + n : Nat) : Int) - 1 < _; omega)]
    show ((c + n : Nat) : Int) - 1 = ((c + n - 1 : Nat) : Int); omega
  have e3 : decide ((0 : Int) ≤ Int.ofNat (c + n)) = true := decide_eq_true (by show (0 : Int) ≤ ((c + n : Nat) : Int); omega)
  have e4 : decide ((0 : Int) ≤ Int.ofNat (c + n - 1)) = true := decide_eq_true (by show (0 : Int) ≤ ((c + n - 1 : Nat) : Int); omega)
  have e5 : c + n - 1 < w := by omega
  rw [e1, e2, hold, hrow]
  simp only [ofNat_lt, e3, e4, e5, toNat_ofNat', decide_true, Bool.and_self, cond_true, hide_eq linguistref7_Put_J14]
  by_cases a : c + n < w
  · simp only [a, decide_true, Bool.and_self, cond_true, true_and]
    by_cases b : kd old (c + n - 1) = 1
    · have b' : ((old.getD (c + n - 1) (0, 0, 0, 0, 0)).2.1 == 1) = true := by
        have : (old.getD (c + n - 1) (0, 0, 0, 0, 0)).2.1 = 1 := b
        rw [this]; rfl
      rw [b', if_pos b]
      have k := refPut_14 hR hh hw hl hr (row := row.set (c + n) (blankOf (old.getD (c + n) dC))) (by simp; exact hrow)
      unfold blankOf at k
      simp only [cond_true]
      rw [k]; rfl
    · have b' : ((old.getD (c + n - 1) (0, 0, 0, 0, 0)).2.1 == 1) = false := beq_false_of_ne b
      rw [b', if_neg b]
      simp only [cond_false]
      rw [refPut_14 hR hh hw hl hr hrow]; rfl
  · simp only [a, decide_false, cond_false, false_and, if_false]
    rw [refPut_14 hR hh hw hl hr hrow]; rfl
theorem refPut_9 {R : Int} {h w : Nat} (hR : R = Int.ofNat h) (hh : h ≤ 60) (hw : w ≤ 60) {l row : List Cell} (hl : l.length = h * w) {r : Nat} (hr : r < h) (hrow : row.length = w) {c n : Nat} (h1 : 1 ≤ n) (hn : n ≤ 2) (hc : c + n ≤ w) :
    linguistref7_Put_J9 (Int.ofNat r) (Int.ofNat c) (Int.ofNat n) R (Int.ofNat w) l 0 0 row [] = some (R, Int.ofNat w, inRow w l r fun old =>
      let m := if 0 < c ∧ kd old c = 2 then row.set (c - 1) (blankOf (old.getD (c - 1) dC)) else row
      if c + n < w ∧ kd old (c + n - 1) = 1 then m.set (c + n) (blankOf (old.getD (c + n) dC)) else m) := by
  have hb := mul_bound (w := w) hr
  unfold linguistref7_Put_J9
  have hsm := small_mul (show h ≤ 64 by omega) (show w ≤ 64 by omega)
  rw [row_lo r w (by omega) (by omega), row_hi r w (by omega) (by omega), bnds_ok (by omega) (by omega), cutList_ok (by omega)]
  have e3 : r * w + w - r * w = w := by omega
  have hold : (rowOf w l r).length = w := rowOf_length hl hr
  rw [e3, show (l.drop (r * w)).take w = rowOf w l r from rfl, hold, hrow]
  have key : (inRow w l r fun old =>
      let m := if 0 < c ∧ kd old c = 2 then row.set (c - 1) (blankOf (old.getD (c - 1) dC)) else row
      if c + n < w ∧ kd old (c + n - 1) = 1 then m.set (c + n) (blankOf (old.getD (c + n) dC)) else m) = inRow w l r fun _ =>
        if c + n < w ∧ kd (rowOf w l r) (c + n - 1) = 1 then (if 0 < c ∧ kd (rowOf w l r) c = 2 then row.set (c - 1) (blankOf ((rowOf w l r).getD (c - 1) dC)) else row).set (c + n) (blankOf ((rowOf w l r).getD (c + n) dC)) else (if 0 < c ∧ kd (rowOf w l r) c = 2 then row.set (c - 1) (blankOf ((rowOf w l r).getD (c - 1) dC)) else row) := rfl
  rw [key]
  generalize rowOf w l r = old at *
  have J := fun (m : List Cell) (hm : m.length = w) => refPut_12 hR hh hw hl hr hm hold h1 hn hc
  simp only [hide_eq linguistref7_Put_J12, cond_true, Bool.and_self, ofNat_lt, toNat_ofNat']
  have e4 : decide ((0 : Int) ≤ Int.ofNat c) = true := by simp
  have e5 : c < w := by omega
  by_cases a : 0 < c
  · have a' : decide (Int.ofNat c > 0) = true := decide_eq_true (by show (c : Int) > 0; omega)
    have e2 : IntKind.i64.wrap (Int.ofNat c - 1) = Int.ofNat (c - 1) := by
      rw [w64 (by show _ ≤ (c : Int) - 1; omega) (by show (c : Int) - 1 < _; omega)]
      show (c : Int) - 1 = ((c - 1 : Nat) : Int); omega
    have e6 : decide ((0 : Int) ≤ Int.ofNat (c - 1)) = true := decide_eq_true (by show (0 : Int) ≤ ((c - 1 : Nat) : Int); omega)
    have e7 : c - 1 < w := by omega
    rw [a', e2]
    simp only [e4, e5, e6, e7, ofNat_lt, toNat_ofNat', decide_true, cond_true, Bool.and_self]
    by_cases b : kd old c = 2
    · have b' : ((old.getD c (0, 0, 0, 0, 0)).2.1 == 2) = true := by
        have : (old.getD c (0, 0, 0, 0, 0)).2.1 = 2 := b
        rw [this]; rfl
      have k := J (row.set (c - 1) (blankOf (old.getD (c - 1) dC))) (by simp; exact hrow)
      have em : (if 0 < c ∧ kd old c = 2 then row.set (c - 1) (blankOf (old.getD (c - 1) dC)) else row) = row.set (c - 1) (blankOf (old.getD (c - 1) dC)) := if_pos ⟨a, b⟩
      rw [em, b']
      simp only [cond_true]
      unfold blankOf at k ⊢
      rw [k]; rfl
    · have b' : ((old.getD c (0, 0, 0, 0, 0)).2.1 == 2) = false := beq_false_of_ne b
      have em : (if 0 < c ∧ kd old c = 2 then row.set (c - 1) (blankOf (old.getD (c - 1) dC)) else row) = row := if_neg (fun k => b k.2)
      rw [em, b']
      simp only [cond_false]
      rw [J row hrow]; rfl
  · have a' : decide (Int.ofNat c > 0) = false := decide_eq_false (by show ¬ (c : Int) > 0; omega)
    have em : (if 0 < c ∧ kd old c = 2 then row.set (c - 1) (blankOf (old.getD (c - 1) dC)) else row) = row := if_neg (fun k => a k.1)
    rw [em, a']
    simp only [cond_false]
    rw [J row hrow]; rfl
theorem inRow_congr {w : Nat} {l : List Cell} {r : Nat} {f g : List Cell → List Cell} (e : f (rowOf w l r) = g (rowOf w l r)) : inRow w l r f = inRow w l r g := by
  show l.take (r * w) ++ f (rowOf w l r) ++ _ = l.take (r * w) ++ g (rowOf w l r) ++ _
  rw [e]
theorem refPut_eq {R C : Int} {h w : Nat} (hR : R = Int.ofNat h) (hC : C = Int.ofNat w) (hh : h ≤ 40) (hw : w ≤ 60) {l : List Cell} (k : RG h w l) {r c x : Int} (hx : -2147483648 ≤ x ∧ x < 2147483648) (hr : -1000 ≤ r ∧ r ≤ 1000) (hc : -1000 ≤ c ∧ c ≤ 1000) (p0 p1 p2 : Int) :
    hide linguistref7_Put_F R C l r c x p0 p1 p2 = some (R, C, put h w l r c x (p0, p1, p2)) := by
  have hl := k.1
  have hsm := small_mul (show h ≤ 64 by omega) (show w ≤ 64 by omega)
  rw [hide_eq]; unfold linguistref7_Put_F
  rw [refw_eq hx]
  simp only [optK_s]
  unfold put
  by_cases q : widthP x = 0 ∨ ¬ (0 ≤ r ∧ r < (h : Int) ∧ 0 ≤ c ∧ c < (w : Int)) ∨ (w : Int) < c + widthP x
  · rw [if_pos q]
    have wc := width_cases x
    have e2 : IntKind.i64.wrap (c + widthP x) = c + widthP x := w64 (by omega) (by omega)
    rw [e2]
    by_cases c1 : r < 0
    · rw [decide_eq_true c1]; rfl
    · rw [decide_eq_false c1]
      by_cases c2 : r ≥ R
      · rw [decide_eq_true c2]; rfl
      · rw [decide_eq_false c2]
        by_cases c3 : c < 0
        · rw [decide_eq_true c3]; rfl
        · rw [decide_eq_false c3]
          by_cases c4 : widthP x < 1
          · rw [decide_eq_true c4]; rfl
          · rw [decide_eq_false c4]
            have c5 : c + widthP x > C := by
              have hR' : R = (h : Int) := hR
              have hC' : C = (w : Int) := hC
              omega
            rw [decide_eq_true c5]; rfl
  · rw [if_neg q]
    have q1 : ¬ widthP x = 0 := fun a => q (.inl a)
    have q2 : 0 ≤ r ∧ r < (h : Int) ∧ 0 ≤ c ∧ c < (w : Int) := Decidable.byContradiction fun a => q (.inr (.inl a))
    have q3 : ¬ (w : Int) < c + widthP x := fun a => q (.inr (.inr a))
    have hR' : R = (h : Int) := hR
    have hC' : C = (w : Int) := hC
    obtain ⟨n, hn, h12⟩ : ∃ n : Nat, widthP x = (n : Int) ∧ (n = 1 ∨ n = 2) := by
      rcases width_cases x with a | a | a
      · exact absurd a q1
      · exact ⟨1, a, .inl rfl⟩
      · exact ⟨2, a, .inr rfl⟩
    obtain ⟨rn, rfl⟩ : ∃ n : Nat, r = Int.ofNat n := ⟨r.toNat, by show r = ((r.toNat : Nat) : Int); omega⟩
    obtain ⟨cn, rfl⟩ : ∃ n : Nat, c = Int.ofNat n := ⟨c.toNat, by show c = ((c.toNat : Nat) : Int); omega⟩
    have hrn : rn < h := by have : (rn : Int) < (h : Int) := q2.2.1; omega
    have hcn : cn + n ≤ w := by have : ¬ (w : Int) < (cn : Int) + widthP x := q3; omega
    have hb := mul_bound (w := w) hrn
    have c1 : decide (Int.ofNat rn < 0) = false := decide_eq_false (by show ¬ (rn : Int) < 0; omega)
    have c2 : decide (Int.ofNat rn ≥ R) = false := decide_eq_false (by show ¬ (rn : Int) ≥ R; omega)
    have c3 : decide (Int.ofNat cn < 0) = false := decide_eq_false (by show ¬ (cn : Int) < 0; omega)
    have c4 : decide (widthP x < 1) = false := decide_eq_false (by omega)
    have e2 : IntKind.i64.wrap (Int.ofNat cn + widthP x) = Int.ofNat cn + widthP x := w64 (by show _ ≤ (cn : Int) + _; omega) (by show (cn : Int) + _ < _; omega)
    have c5 : decide (Int.ofNat cn + widthP x > C) = false := decide_eq_false (by show ¬ (cn : Int) + _ > C; omega)
    rw [c1, c2, c3, c4, e2, c5]
    clear c1 c2 c3 c4 e2 c5
    subst hC
    have hold : (rowOf w l rn).length = w := rowOf_length hl hrn
    rw [row_lo rn w (by omega) (by omega), row_hi rn w (by omega) (by omega), bnds_ok (by omega) (by omega), cutList_ok (by omega)]
    have e3 : rn * w + w - rn * w = w := by omega
    rw [e3, show (l.drop (rn * w)).take w = rowOf w l rn from rfl]
    have hfin : ∀ row : List Cell, row = putRow (rowOf w l rn) cn x (p0, p1, p2) → linguistref7_Put_J9 (Int.ofNat rn) (Int.ofNat cn) (widthP x) R (Int.ofNat w) l 0 0 row [] = some (R, Int.ofNat w, inRow w l rn fun row => mend (putRow row cn x (p0, p1, p2))) := by
      intro row hrow
      have J := refPut_9 hR (by omega) hw hl hrn (row := row) (by rw [hrow, putRow_length]; exact hold) (c := cn) (n := n) (by omega) (by omega) hcn
      rw [show Int.ofNat n = widthP x from hn.symm] at J
      rw [J]
      have e := putRow_ref (k.2 rn hrn) (p := (p0, p1, p2)) hn h12 (by rw [hold]; exact hcn)
      unfold refPutRow at e
      rw [hold, ← hrow] at e
      refine congrArg (fun z => some (R, Int.ofNat w, z)) (inRow_congr ?_)
      subst hrow
      exact e.symm
    have l1 : (w.ble 274877906944) = true := Nat.ble_eq_true_of_le (by omega)
    have e4 : decide ((0 : Int) ≤ Int.ofNat cn) = true := by simp
    have e5 : cn < w := by omega
    rw [hold, l1]
    simp only [e4, e5, ofNat_lt, toNat_ofNat', decide_true, cond_true, cond_false, Bool.and_self, Bool.and_true, List.length_set, hold, hide_eq linguistref7_Put_J9]
    rcases h12 with h | h
    · subst h
      have w1 : (widthP x == 2) = false := beq_false_of_ne (by omega)
      rw [w1]
      simp only [cond_false]
      rw [hfin _ (by unfold putRow; rw [if_neg (by omega)])]
      rfl
    · subst h
      have w1 : (widthP x == 2) = true := by rw [hn]; rfl
      have e6 : IntKind.i64.wrap (Int.ofNat cn + 1) = Int.ofNat (cn + 1) := wrap_succ (by omega)
      have e7 : decide ((0 : Int) ≤ Int.ofNat (cn + 1)) = true := decide_eq_true (by show (0 : Int) ≤ ((cn + 1 : Nat) : Int); omega)
      have e8 : cn + 1 < w := by omega
      have e9 : ((rowOf w l rn).set cn (x, 0, p0, p1, p2)).getD cn (0, 0, 0, 0, 0) = (x, 0, p0, p1, p2) := by rw [getD_set, if_pos ⟨rfl, by omega⟩]
      rw [w1, e6]
      simp only [cond_true, e7, e8, ofNat_lt, toNat_ofNat', decide_true, Bool.and_self, e9, List.set_set]
      rw [hfin _ (by unfold putRow; rw [if_pos (by rw [hn]; rfl)])]
      rfl
end Go.Proofs.YtlpmhldejeaefaaAbs

/- What is known of letters. -/
namespace Go.Proofs.YtlpmhldejeaefaaAbs
set_option linter.unusedVariables false
open Go Go.Proofs Go.RowKit
theorem isTrue_res : (isTrue : AV → Heap → Option Bool) = resK .bool true (fun b => some b) := by
  funext v h
  cases v <;> rfl
theorem law_res {P : Program} {E : Env} (hE : EnvOk P E) {n f : Nat} {args : List AV} {us : List Value} (e : acall (R := Bool) E n f args [] (resK .bool true (fun b => some b)) = some true) (W : World)
    (q : RelL ⟨W, fun _ => none, fun B => B < W.heap.size⟩ [] false args us) : Calls P f us.toArray W fun e W' => e = .returned (.bool true) ∧ Below W.heap.size W W' :=
  law_rows hE (by rw [isTrue_res]; exact e) W q
theorem wf_in64 {x : Int} (h : (Lit.int .i64 x).wf = true) : in64 x := by
  simp [Lit.wf, IntKind.min, IntKind.max, IntKind.bits, IntKind.signed] at h
  unfold in64; omega
theorem wf_inu8 {x : Int} (h : (Lit.int .u8 x).wf = true) : 0 ≤ x ∧ x < 256 := by
  simp [Lit.wf, IntKind.min, IntKind.max, IntKind.bits, IntKind.signed] at h
  omega
end Go.Proofs.YtlpmhldejeaefaaAbs

/- Plain laws: screens out of numbers. -/
namespace Go.Proofs.YtlpmhldejeaefaaAbs
set_option linter.unusedVariables false
set_option linter.unusedSimpArgs false
open Go Go.Proofs
abbrev ST := Int × Int × List Cell × Int × Int × Bool × Int × Int × Int × Int × Int × Int × Int × Int × Int × Bool × Bool × Bool × Bool × Bool × Int × Int × Int × Int × Int × Int × Int × Int × Bool
end Go.Proofs.YtlpmhldejeaefaaAbs

/- Plain laws: screens copied, held against each other, held right, their cursors put. -/
namespace Go.Proofs.YtlpmhldejeaefaaAbs
set_option linter.unusedVariables false
set_option linter.unusedSimpArgs false
open Go Go.Proofs
end Go.Proofs.YtlpmhldejeaefaaAbs
