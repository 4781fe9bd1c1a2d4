/- Texts of this session, joined (bundle2.py): GE6, GE7, D8, WEditLaws, WEditLawsC, AbsOpen. -/
import Derived.ProofKit
import Derived.Deep.Slices
import Derived.WideShapes
import Derived.ChangeArms
import Derived.DataReads
import Derived.DataElems
import Derived.OpenShut
import Derived.Test.YtpneolkfeihkhaaBunB4
/- Plain laws: what edit does, done twice. -/
namespace Go.Proofs.YtpneolkfeihkhaaAbs
set_option linter.unusedVariables false
set_option linter.unusedSimpArgs false
open Go Go.Proofs
theorem shRow_all {h w : Nat} {l : List Cell} (h1 : 1 ≤ h) {sh : Int} {p : Pen} {r : Nat} (hr : r < h) :
    shRow w l (0 : Int).toNat ((h : Int) - 1).toNat sh p r = if 0 ≤ (r : Int) + sh ∧ (r : Int) + sh < h then rowOf w l ((r : Int) + sh).toNat else List.replicate w (32, 0, p) := by
  have e : ((h : Int) - 1).toNat = h - 1 := by omega
  have e0 : (0 : Int).toNat = 0 := rfl
  rw [e, e0]
  have c0 : 0 ≤ r ∧ r ≤ h - 1 := by omega
  unfold shRow shX
  by_cases c : 0 ≤ (r : Int) + sh ∧ (r : Int) + sh < h
  · have c' : ((0 : Nat) : Int) ≤ (r : Int) + sh ∧ (r : Int) + sh ≤ ((h - 1 : Nat) : Int) := by omega
    rw [if_pos c0, if_pos c', if_pos c]
  · have c' : ¬ (((0 : Nat) : Int) ≤ (r : Int) + sh ∧ (r : Int) + sh ≤ ((h - 1 : Nat) : Int)) := by omega
    rw [if_pos c0, if_neg c', if_neg c]
theorem shift_zero {h w : Nat} {l : List Cell} (hl : l.length = h * w) (t b : Int) (p : Pen) : shiftG h w l t b 0 p = l := by
  by_cases hc : t < 0 ∨ (h : Int) ≤ b ∨ b < t
  · unfold shiftG; rw [if_pos hc]
  · refine rows_ext (shiftG_length hl _ _ _ _) hl fun r hr => ?_
    rw [shiftG_row hl hc hr]
    unfold shRow shX
    by_cases c1 : t.toNat ≤ r ∧ r ≤ b.toNat
    · rw [if_pos c1, if_pos (by omega), show ((r : Int) + 0).toNat = r by omega]
    · rw [if_neg c1]
theorem insG_row {h w : Nat} {l : List Cell} (hl : l.length = h * w) {r c : Nat} (hr : r < h) (hc : c < w) (n : Int) (p : Pen) {r' : Nat} (hr' : r' < h) :
    rowOf w (insG h w l r c n p) r' = if r' = r then mend (insRow (rowOf w l r) c (num w c n) p) else rowOf w l r' := by
  have hrl := rowOf_length hl hr
  have hn := num_le w c (by omega) n
  unfold insG
  rw [if_pos (by omega)]
  by_cases e : r' = r
  · subst e
    rw [if_pos rfl]
    exact inRow_same hl (by omega) (by rw [mend_length, insRow_length (by rw [show ((r' : Int)).toNat = r' from rfl, hrl]; exact hn)]; exact hrl)
  · rw [if_neg e]
    exact inRow_other hl (by omega) (by rw [mend_length, insRow_length (by rw [show ((r : Int)).toNat = r from rfl, hrl]; exact hn)]; exact hrl) hr' e
end Go.Proofs.YtpneolkfeihkhaaAbs

/- Plain laws: edit.Line, edit.Erase, the document's Shift. -/
namespace Go.Proofs.YtpneolkfeihkhaaAbs
set_option linter.unusedVariables false
set_option linter.unusedSimpArgs false
set_option maxHeartbeats 2000000
open Go Go.Proofs
def wipeX (w : Nat) (row : List Cell) (a b : Int) (p : Pen) : List Cell := mend (fillR row (wipeN w a b).1 (wipeN w a b).2 (32, 0, p))
theorem wipe_length {h w : Nat} {l : List Cell} (hl : l.length = h * w) (r a b : Int) (p : Pen) : (wipe h w l r a b p).length = h * w := by
  unfold wipe
  split
  · rename_i k
    exact inRow_length hl (by omega) (by rw [mend_length, fillR_length, rowOf_length hl (by omega)])
  · exact hl
theorem wipe_row {h w : Nat} {l : List Cell} (hl : l.length = h * w) {r : Nat} (hr : r < h) (a b : Int) (p : Pen) {r' : Nat} (hr' : r' < h) :
    rowOf w (wipe h w l r a b p) r' = if r' = r then wipeX w (rowOf w l r) a b p else rowOf w l r' := by
  have hrl := rowOf_length hl hr
  unfold wipe
  rw [if_pos (by omega)]
  by_cases e : r' = r
  · subst e
    rw [if_pos rfl]
    exact inRow_same hl (by omega) (by rw [mend_length, fillR_length]; exact hrl)
  · rw [if_neg e]
    exact inRow_other hl (by omega) (by rw [mend_length, fillR_length]; exact hrl) hr' e
def lineG (h w : Nat) (l : List Cell) (r c what : Int) (p : Pen) : List Cell :=
  if 0 ≤ r ∧ r < h ∧ 0 ≤ c ∧ c < w then (if what = 0 then wipe h w l r c w p else if what = 1 then wipe h w l r 0 (c + 1) p else if what = 2 then wipe h w l r 0 w p else l) else l
theorem lineG_length {h w : Nat} {l : List Cell} (hl : l.length = h * w) (r c what : Int) (p : Pen) : (lineG h w l r c what p).length = h * w := by
  unfold lineG
  split
  · split
    · exact wipe_length hl _ _ _ _
    · split
      · exact wipe_length hl _ _ _ _
      · split
        · exact wipe_length hl _ _ _ _
        · exact hl
  · exact hl
theorem line_eq {R C : Int} {h w : Nat} (hR : R = Int.ofNat h) (hC : C = Int.ofNat w) (hh : h ≤ 40) (w1 : 1 ≤ w) (hw : w ≤ 60) {l : List Cell} (hl : l.length = h * w) (r c what : Int) (p0 p1 p2 : Int) :
    hide edit_Line_F R C l r c what p0 p1 p2 = some (R, C, lineG h w l r c what (p0, p1, p2)) := by
  have hsm := small_mul (show h ≤ 64 by omega) (show w ≤ 64 by omega)
  have e : (l.length.ble 274877906944) = true := Nat.ble_eq_true_of_le (by rw [hl]; omega)
  rw [hide_eq]; unfold edit_Line_F lineG
  rw [at_eq hR hC hh hw hl]
  simp only [optK_s]
  by_cases k : 0 ≤ r ∧ r < h ∧ 0 ≤ c ∧ c < w
  · rw [at_yes k, if_pos k]
    obtain ⟨k1, k2, k3, k4⟩ := k
    have ew : IntKind.i64.wrap (c + 1) = c + 1 := w64 (by omega) (by omega)
    simp only [Bool.not_true, cond_false, ew]
    by_cases q0 : what = 0
    · subst q0
      rw [wipe_eq hR hC hh w1 hw hl (by omega), hC]
      rfl
    · rw [if_neg q0, show (what == 0) = false by simpa using q0]
      by_cases q1 : what = 1
      · subst q1
        rw [show ((1 : Int) == 1) = true from rfl, if_pos rfl]
        simp only [cond_true, cond_false]
        rw [wipe_eq hR hC hh w1 hw hl (by omega)]
        rfl
      · rw [if_neg q1, show (what == 1) = false by simpa using q1]
        by_cases q2 : what = 2
        · subst q2
          rw [show ((2 : Int) == 2) = true from rfl, if_pos rfl]
          simp only [cond_true, cond_false]
          rw [wipe_eq hR hC hh w1 hw hl (by omega), hC]
          rfl
        · rw [if_neg q2, show (what == 2) = false by simpa using q2, e]
          rfl
  · rw [at_no k, if_neg k, e]; rfl
/-- So many rows are done. -/
def eraseTo (h w : Nat) (l : List Cell) (r what : Int) (p : Pen) : Nat → List Cell
  | 0 => l
  | k + 1 => if ((k : Int) > r ∧ what ≠ 1) ∨ ((k : Int) < r ∧ what ≠ 0) then wipe h w (eraseTo h w l r what p k) k 0 w p else eraseTo h w l r what p k
theorem eraseTo_length {h w : Nat} {l : List Cell} (hl : l.length = h * w) (r what : Int) (p : Pen) : ∀ k, (eraseTo h w l r what p k).length = h * w
  | 0 => hl
  | k + 1 => by
    rw [eraseTo]
    split
    · exact wipe_length (eraseTo_length hl r what p k) _ _ _ _
    · exact eraseTo_length hl r what p k
theorem GG.eraseTo {h w : Nat} {l : List Cell} (g : GG h w l) (r what : Int) {p : Pen} (hp : rightPen p) : ∀ k, GG h w (Go.Proofs.YtpneolkfeihkhaaAbs.eraseTo h w l r what p k)
  | 0 => g
  | k + 1 => by
    rw [Go.Proofs.YtpneolkfeihkhaaAbs.eraseTo]
    split
    · exact (GG.eraseTo g r what hp k).wipe _ _ _ hp
    · exact GG.eraseTo g r what hp k
theorem eraseTo_row {h w : Nat} {l : List Cell} (hl : l.length = h * w) (r what : Int) (p : Pen) : ∀ k, k ≤ h → ∀ y, y < h → rowOf w (eraseTo h w l r what p k) y = if y < k ∧ (((y : Int) > r ∧ what ≠ 1) ∨ ((y : Int) < r ∧ what ≠ 0)) then wipeX w (rowOf w l y) 0 w p else rowOf w l y
  | 0, _, y, hy => by rw [if_neg (by omega)]; rfl
  | k + 1, hk, y, hy => by
    have ih := eraseTo_row hl r what p k (by omega)
    rw [eraseTo]
    by_cases c : ((k : Int) > r ∧ what ≠ 1) ∨ ((k : Int) < r ∧ what ≠ 0)
    · rw [if_pos c, wipe_row (eraseTo_length hl r what p k) (by omega) _ _ _ hy]
      by_cases e : y = k
      · subst e
        rw [if_pos rfl, ih y hy, if_neg (fun q => by omega), if_pos ⟨by omega, c⟩]
      · rw [if_neg e, ih y hy]
        by_cases c2 : y < k ∧ (((y : Int) > r ∧ what ≠ 1) ∨ ((y : Int) < r ∧ what ≠ 0))
        · rw [if_pos c2, if_pos ⟨by omega, c2.2⟩]
        · rw [if_neg c2, if_neg (fun q => c2 ⟨by omega, q.2⟩)]
    · rw [if_neg c, ih y hy]
      by_cases c2 : y < k ∧ (((y : Int) > r ∧ what ≠ 1) ∨ ((y : Int) < r ∧ what ≠ 0))
      · rw [if_pos c2, if_pos ⟨by omega, c2.2⟩]
      · rw [if_neg c2, if_neg (fun q => c2 ⟨by
          have : y ≠ k := fun e => c (by rw [← e]; exact q.2)
          omega, q.2⟩)]
theorem erase_loop {r what p0 p1 p2 z0 z1 : Int} {h w : Nat} {l0 l z : List Cell} (hl : l.length = h * w) (hh : h ≤ 40) (w1 : 1 ≤ w) (hw : w ≤ 60) : ∀ (n k : Nat), k ≤ h → h - k < n →
    edit_Erase_L6 n r what (Int.ofNat h) (Int.ofNat k) (Int.ofNat h) (Int.ofNat w) l0 p0 p1 p2 z0 z1 (Int.ofNat h) (Int.ofNat w) (eraseTo h w l r what (p0, p1, p2) k) z = some (z0, z1, Int.ofNat h, Int.ofNat w, eraseTo h w l r what (p0, p1, p2) h, z) := by
  intro n
  induction n with
  | zero => intro k h1 h2; omega
  | succ n ih =>
    intro k h1 h2
    rw [edit_Erase_L6]
    by_cases hk : k < h
    · have e0 : decide (Int.ofNat k < Int.ofNat h) = true := decide_eq_true (by show (k : Int) < (h : Int); omega)
      have step := ih (k + 1) (by omega) (by omega)
      rw [e0, wrap_succ (by omega)]
      simp only [cond_true]
      rw [wipe_eq rfl rfl hh w1 hw (eraseTo_length hl r what _ k) (show (0 : Int) ≤ 4000 by omega)]
      simp only [optK_s]
      rw [eraseTo] at step
      by_cases a1 : (k : Int) > r
      · have a2 : ¬ (k : Int) < r := by omega
        rw [show decide (Int.ofNat k > r) = true from decide_eq_true a1, show decide (Int.ofNat k < r) = false from decide_eq_false a2]
        simp only [cond_true, cond_false]
        by_cases q1 : what = 1
        · rw [if_neg (by omega)] at step
          rw [show (what != 1) = false by simp [q1]]
          exact step
        · rw [if_pos (by omega)] at step
          rw [show (what != 1) = true by simp [q1]]
          exact step
      · rw [show decide (Int.ofNat k > r) = false from decide_eq_false a1]
        simp only [cond_false]
        by_cases a2 : (k : Int) < r
        · rw [show decide (Int.ofNat k < r) = true from decide_eq_true a2]
          simp only [cond_true]
          by_cases q1 : what = 0
          · rw [if_neg (by omega)] at step
            rw [show (what != 0) = false by simp [q1]]
            exact step
          · rw [if_pos (by omega)] at step
            rw [show (what != 0) = true by simp [q1]]
            exact step
        · rw [if_neg (by omega)] at step
          rw [show decide (Int.ofNat k < r) = false from decide_eq_false a2]
          exact step
    · have e : k = h := by omega
      subst e
      rw [show decide (Int.ofNat k < Int.ofNat k) = false from decide_eq_false (by show ¬ (k : Int) < (k : Int); omega)]
      rfl
def eraseG (h w : Nat) (l : List Cell) (r c what : Int) (p : Pen) : List Cell :=
  if 0 ≤ r ∧ r < h ∧ 0 ≤ c ∧ c < w ∧ 0 ≤ what ∧ what ≤ 2 then eraseTo h w (lineG h w l r c what p) r what p h else l
theorem erase_eq {R C : Int} {h w : Nat} (hR : R = Int.ofNat h) (hC : C = Int.ofNat w) (hh : h ≤ 40) (w1 : 1 ≤ w) (hw : w ≤ 60) {l : List Cell} (hl : l.length = h * w) (r c what : Int) (p0 p1 p2 : Int) :
    hide edit_Erase_F R C l r c what p0 p1 p2 = some (R, C, eraseG h w l r c what (p0, p1, p2)) := by
  have hsm := small_mul (show h ≤ 64 by omega) (show w ≤ 64 by omega)
  have e : (l.length.ble 274877906944) = true := Nat.ble_eq_true_of_le (by rw [hl]; omega)
  rw [hide_eq]; unfold edit_Erase_F eraseG
  rw [at_eq hR hC hh hw hl]
  simp only [optK_s]
  by_cases k : 0 ≤ r ∧ r < h ∧ 0 ≤ c ∧ c < w
  · rw [at_yes k]
    simp only [Bool.not_true, cond_false]
    by_cases q0 : what < 0
    · rw [if_neg (by omega), decide_eq_true q0, e]; rfl
    · rw [decide_eq_false q0]
      simp only [cond_false]
      by_cases q2 : what > 2
      · rw [if_neg (by omega), decide_eq_true q2, e]; rfl
      · rw [if_pos (by omega), decide_eq_false q2]
        simp only [cond_false]
        rw [line_eq hR hC hh w1 hw hl]
        simp only [optK_s, hide_eq edit_Erase_L6]
        subst hR hC
        have L := erase_loop (r := r) (what := what) (p0 := p0) (p1 := p1) (p2 := p2) (z0 := 0) (z1 := 0) (l0 := l) (z := []) (lineG_length hl r c what (p0, p1, p2)) hh w1 hw (edit_Erase_fu6 r what (Int.ofNat h) 0 (Int.ofNat h) (Int.ofNat w) l p0 p1 p2 0 0 (Int.ofNat h) (Int.ofNat w) (lineG h w l r c what (p0, p1, p2)) []) 0 (Nat.zero_le _) (Nat.lt_of_lt_of_le (show h - 0 < 5000 by omega) (Nat.le_add_left 5000 _))
        rw [show Int.ofNat 0 = (0 : Int) from rfl, show eraseTo h w (lineG h w l r c what (p0, p1, p2)) r what (p0, p1, p2) 0 = lineG h w l r c what (p0, p1, p2) from rfl] at L
        rw [L]
        rfl
  · rw [at_no k, if_neg (fun q => k ⟨q.1, q.2.1, q.2.2.1, q.2.2.2.1⟩), e]; rfl
end Go.Proofs.YtpneolkfeihkhaaAbs

-- Written by a program of this session (dec.py); Lean checks it.
namespace Go.Proofs.YtpneolkfeihkhaaAbs
open Go Go.Proofs
set_option linter.unusedVariables false
set_option maxHeartbeats 2000000
set_option maxRecDepth 100000
noncomputable def linguistlaw8_EditLaws_su : SumT := (16, sumH linguistkeep_Grid_Grid_A linguistkeep_Grid_Grid_B true linguistkeep_Grid_Grid_G) :: (17, sumH linguistkeep_Pen_Pen_A linguistkeep_Pen_Pen_B true linguistkeep_Pen_Pen_G) :: (19, sumH linguistbook_Within_A linguistbook_Within_B true linguistbook_Within_G) :: (11, sumH edit_Up_A edit_Up_B false edit_Up_G) :: (20, sumH edit_Down_A edit_Down_B false edit_Down_G) :: (18, sumH grid_At_A grid_At_B true grid_At_G) :: (13, sumH edit_Insert_A edit_Insert_B false edit_Insert_G) :: (12, sumH grid_Text_A grid_Text_B true grid_Text_G) :: (22, sumH grid_Same_A grid_Same_B true grid_Same_G) :: (28, sumH grid_Right_A grid_Right_B true grid_Right_G) :: (15, sumH edit_Delete_A edit_Delete_B false edit_Delete_G) :: (23, sumH edit_Erase_A edit_Erase_B false edit_Erase_G) :: (9, sumH grid_New_A grid_New_B true grid_New_G) :: (3, sumH linguistlaw8_EditRuns_A linguistlaw8_EditRuns_B true linguistlaw8_EditRuns_G) :: sums0
theorem linguistlaw8_EditLaws_su_ok : AllSum Try.prog linguistlaw8_EditLaws_su := ⟨sumH_ok rfl rfl linguistkeep_Grid_Grid_known, ⟨sumH_ok rfl rfl linguistkeep_Pen_Pen_known, ⟨sumH_ok rfl rfl linguistbook_Within_known, ⟨sumH_ok rfl rfl edit_Up_known, ⟨sumH_ok rfl rfl edit_Down_known, ⟨sumH_ok rfl rfl grid_At_known, ⟨sumH_ok rfl rfl edit_Insert_known, ⟨sumH_ok rfl rfl grid_Text_known, ⟨sumH_ok rfl rfl grid_Same_known, ⟨sumH_ok rfl rfl grid_Right_known, ⟨sumH_ok rfl rfl edit_Delete_known, ⟨sumH_ok rfl rfl edit_Erase_known, ⟨sumH_ok rfl rfl grid_New_known, ⟨sumH_ok rfl rfl linguistlaw8_EditRuns_known, sums0_ok⟩⟩⟩⟩⟩⟩⟩⟩⟩⟩⟩⟩⟩⟩
noncomputable def linguistlaw8_EditLaws_c9 : Code := ((Try.f7.body.map fun b => loopsAt b 9).getD []).headD .skip
theorem linguistlaw8_EditLaws_c9_is : (Try.f7.body.map fun b => loopsAt b 9) = some [linguistlaw8_EditLaws_c9] := by kernel_rfl
noncomputable def linguistlaw8_EditLaws_s9 : SkSt := ⟨(.gap 11 (.cst (.ptr 0 0) (.cst (.ptr 1 0) (.cons (.int .i64) (.cons (.int .i64) (.cons (.int .i64) (.cst (.ptr 2 0) (.cons (.int .i64) (.cons (.int .i64) (.gap 158 .nil)))))))))), (.var 27 (.cons (.int .i64) (.cons (.int .i64) (.cons (.list (.cons (.int .i32) (.cons (.int .i64) (.cons (.int .i64) (.cons (.int .i64) (.one (.int .i64))))))) .nil))) (.var 23 (.cons (.int .i64) (.cons (.int .i64) (.cons (.int .i64) .nil))) (.var 27 (.cons (.int .i64) (.cons (.int .i64) (.cons (.list (.cons (.int .i32) (.cons (.int .i64) (.cons (.int .i64) (.cons (.int .i64) (.one (.int .i64))))))) .nil))) .nil)))⟩
noncomputable def linguistlaw8_EditLaws_x9_0 : SkSt := ⟨(.gap 10 (.cons .bool (.gap 166 .nil))), .nil⟩
noncomputable def linguistlaw8_EditLaws_x9_1 : SkSt := ⟨(.gap 11 (.cst (.ptr 0 0) (.cst (.ptr 1 0) (.cons (.int .i64) (.cons (.int .i64) (.cons (.int .i64) (.cst (.ptr 2 0) (.cons (.int .i64) (.gap 159 .nil))))))))), (.var 27 (.cons (.int .i64) (.cons (.int .i64) (.cons (.list (.cons (.int .i32) (.cons (.int .i64) (.cons (.int .i64) (.cons (.int .i64) (.one (.int .i64))))))) .nil))) (.var 23 (.cons (.int .i64) (.cons (.int .i64) (.cons (.int .i64) .nil))) (.var 27 (.cons (.int .i64) (.cons (.int .i64) (.cons (.list (.cons (.int .i32) (.cons (.int .i64) (.cons (.int .i64) (.cons (.int .i64) (.one (.int .i64))))))) .nil))) .nil)))⟩
noncomputable def linguistlaw8_EditLaws_xs9 : List (Ex × SkSt) := [(.ret, linguistlaw8_EditLaws_x9_0), (.exit 2, linguistlaw8_EditLaws_x9_1)]
noncomputable def linguistlaw8_EditLaws_L9 : Nat → Int → Int → Int → Int → Int → Int → Int → List (Int × Int × Int × Int × Int) → Int → Int → Int → Int → Int → List (Int × Int × Int × Int × Int) → Option (((Bool) ⊕ (Int × Int × Int × Int × Int × Int × (List (Int × Int × Int × Int × Int)) × Int × Int × Int × Int × Int × (List (Int × Int × Int × Int × Int)))))
  | 0, _, _, _, _, _, _, _, _, _, _, _, _, _, _ => none
  | n + 1, a0, a1, a2, a3, a4, a5, a6, a7, a8, a9, a10, a11, a12, a13 => (bif (decide (a4 < a6)) then (optK ((hide grid_At_F a5 a6 a7 a3 a4)) fun y9 => (optK ((hide grid_At_F a11 a12 a13 a3 a4)) fun y10 => (bif (decide (a3 ≥ a2)) then (bif (!(y9.1 == y10.1 && (y9.2.1 == y10.2.1 && (y9.2.2.1 == y10.2.2.1 && (y9.2.2.2.1 == y10.2.2.2.1 && (y9.2.2.2.2.1 == y10.2.2.2.2.1 && true)))))) then (some (.inl (false))) else (bif (decide (a3 < a2)) then (bif (!(y10.1 == (32 : Int) && (y10.2.1 == (0 : Int) && (y10.2.2.1 == a8 && (y10.2.2.2.1 == a9 && (y10.2.2.2.2.1 == a10 && true)))))) then (some (.inl (false))) else (linguistlaw8_EditLaws_L9 n a0 a1 a2 a3 (IntKind.i64.wrap (a4 + (1 : Int))) a5 a6 a7 a8 a9 a10 a11 a12 a13)) else (linguistlaw8_EditLaws_L9 n a0 a1 a2 a3 (IntKind.i64.wrap (a4 + (1 : Int))) a5 a6 a7 a8 a9 a10 a11 a12 a13))) else (bif (decide (a3 < a2)) then (bif (!(y10.1 == (32 : Int) && (y10.2.1 == (0 : Int) && (y10.2.2.1 == a8 && (y10.2.2.2.1 == a9 && (y10.2.2.2.2.1 == a10 && true)))))) then (some (.inl (false))) else (linguistlaw8_EditLaws_L9 n a0 a1 a2 a3 (IntKind.i64.wrap (a4 + (1 : Int))) a5 a6 a7 a8 a9 a10 a11 a12 a13)) else (linguistlaw8_EditLaws_L9 n a0 a1 a2 a3 (IntKind.i64.wrap (a4 + (1 : Int))) a5 a6 a7 a8 a9 a10 a11 a12 a13))))) else (some (.inr (a0, a1, a2, a3, a5, a6, a7, a8, a9, a10, a11, a12, a13))))
noncomputable def linguistlaw8_EditLaws_I9 {R : Type} (K : Ex → St → Option R) : Nat → St → Option R := iterN (exec (envL linguistlaw8_EditLaws_su ll0 cs0 (fun _ _ => false)) 7 (acall (envL linguistlaw8_EditLaws_su ll0 cs0 (fun _ _ => false)) 1000) 0 linguistlaw8_EditLaws_c9) (normTo linguistlaw8_EditLaws_s9 0) (exitK linguistlaw8_EditLaws_xs9 0 K)
noncomputable def linguistlaw8_EditLaws_m9 {R : Type} (K : Ex → St → Option R) (o : Option (((Bool) ⊕ (Int × Int × Int × Int × Int × Int × (List (Int × Int × Int × Int × Int)) × Int × Int × Int × Int × Int × (List (Int × Int × Int × Int × Int)))))) : Option R := optK o fun y => sumK y (fun y => K (.ret) (linguistlaw8_EditLaws_x9_0.enc ((y, ()), ()))) (fun y => K (.exit 2) (linguistlaw8_EditLaws_x9_1.enc ((y.1, (y.2.1, (y.2.2.1, (y.2.2.2.1, ())))), ((y.2.2.2.2.1, (y.2.2.2.2.2.1, (y.2.2.2.2.2.2.1, ()))), ((y.2.2.2.2.2.2.2.1, (y.2.2.2.2.2.2.2.2.1, (y.2.2.2.2.2.2.2.2.2.1, ()))), ((y.2.2.2.2.2.2.2.2.2.2.1, (y.2.2.2.2.2.2.2.2.2.2.2.1, (y.2.2.2.2.2.2.2.2.2.2.2.2, ()))), ()))))))
theorem linguistlaw8_EditLaws_l9 {R : Type} (K : Ex → St → Option R) : ∀ (n : Nat), ∀ (a0 : Int) (a1 : Int) (a2 : Int) (a3 : Int) (a4 : Int) (a5 : Int) (a6 : Int) (a7 : List (Int × Int × Int × Int × Int)) (a8 : Int) (a9 : Int) (a10 : Int) (a11 : Int) (a12 : Int) (a13 : List (Int × Int × Int × Int × Int)), linguistlaw8_EditLaws_I9 K n (linguistlaw8_EditLaws_s9.enc ((a0, (a1, (a2, (a3, (a4, ()))))), ((a5, (a6, (a7, ()))), ((a8, (a9, (a10, ()))), ((a11, (a12, (a13, ()))), ()))))) = linguistlaw8_EditLaws_m9 K (linguistlaw8_EditLaws_L9 n a0 a1 a2 a3 a4 a5 a6 a7 a8 a9 a10 a11 a12 a13) := by
  intro n
  induction n with
  | zero => intros; rfl
  | succ n ih =>
    intro a0 a1 a2 a3 a4 a5 a6 a7 a8 a9 a10 a11 a12 a13
    rw [linguistlaw8_EditLaws_L9]
    exact Eq.trans (by kernel_rfl) (cond_push (linguistlaw8_EditLaws_m9 K) _ (optK_push (linguistlaw8_EditLaws_m9 K) rfl _ fun y9 => (optK_push (linguistlaw8_EditLaws_m9 K) rfl _ fun y10 => (cond_push (linguistlaw8_EditLaws_m9 K) _ (cond_push (linguistlaw8_EditLaws_m9 K) _ rfl (cond_push (linguistlaw8_EditLaws_m9 K) _ (cond_push (linguistlaw8_EditLaws_m9 K) _ rfl (ih a0 a1 a2 a3 (IntKind.i64.wrap (a4 + (1 : Int))) a5 a6 a7 a8 a9 a10 a11 a12 a13)) (ih a0 a1 a2 a3 (IntKind.i64.wrap (a4 + (1 : Int))) a5 a6 a7 a8 a9 a10 a11 a12 a13))) (cond_push (linguistlaw8_EditLaws_m9 K) _ (cond_push (linguistlaw8_EditLaws_m9 K) _ rfl (ih a0 a1 a2 a3 (IntKind.i64.wrap (a4 + (1 : Int))) a5 a6 a7 a8 a9 a10 a11 a12 a13)) (ih a0 a1 a2 a3 (IntKind.i64.wrap (a4 + (1 : Int))) a5 a6 a7 a8 a9 a10 a11 a12 a13))))) rfl)
def linguistlaw8_EditLaws_fu9 (a0 : Int) (a1 : Int) (a2 : Int) (a3 : Int) (a4 : Int) (a5 : Int) (a6 : Int) (a7 : List (Int × Int × Int × Int × Int)) (a8 : Int) (a9 : Int) (a10 : Int) (a11 : Int) (a12 : Int) (a13 : List (Int × Int × Int × Int × Int)) : Nat := Int.natAbs a0 + Int.natAbs a1 + Int.natAbs a2 + Int.natAbs a3 + Int.natAbs a4 + Int.natAbs a5 + Int.natAbs a6 + List.length a7 + Int.natAbs a8 + Int.natAbs a9 + Int.natAbs a10 + Int.natAbs a11 + Int.natAbs a12 + List.length a13 + 5000
noncomputable def linguistlaw8_EditLaws_G9 : GoL linguistlaw8_EditLaws_s9 := fun R (x : ((Int × (Int × (Int × (Int × (Int × Unit))))) × ((Int × (Int × (List (Int × Int × Int × Int × Int) × Unit))) × ((Int × (Int × (Int × Unit))) × ((Int × (Int × (List (Int × Int × Int × Int × Int) × Unit))) × Unit))))) K => linguistlaw8_EditLaws_m9 K (hide linguistlaw8_EditLaws_L9 (linguistlaw8_EditLaws_fu9 x.1.1 x.1.2.1 x.1.2.2.1 x.1.2.2.2.1 x.1.2.2.2.2.1 x.2.1.1 x.2.1.2.1 x.2.1.2.2.1 x.2.2.1.1 x.2.2.1.2.1 x.2.2.1.2.2.1 x.2.2.2.1.1 x.2.2.2.1.2.1 x.2.2.2.1.2.2.1) x.1.1 x.1.2.1 x.1.2.2.1 x.1.2.2.2.1 x.1.2.2.2.2.1 x.2.1.1 x.2.1.2.1 x.2.1.2.2.1 x.2.2.1.1 x.2.2.1.2.1 x.2.2.1.2.2.1 x.2.2.2.1.1 x.2.2.2.1.2.1 x.2.2.2.1.2.2.1)
theorem linguistlaw8_EditLaws_H9 : LoopOk Try.prog 7 9 (loopH linguistlaw8_EditLaws_s9 0 linguistlaw8_EditLaws_G9) := loop_known (envL_ok linguistlaw8_EditLaws_su_ok ll0_ok cs0_ok) Try.func7 rfl linguistlaw8_EditLaws_c9_is (xs := linguistlaw8_EditLaws_xs9) (fuel := fun (x : ((Int × (Int × (Int × (Int × (Int × Unit))))) × ((Int × (Int × (List (Int × Int × Int × Int × Int) × Unit))) × ((Int × (Int × (Int × Unit))) × ((Int × (Int × (List (Int × Int × Int × Int × Int) × Unit))) × Unit))))) => linguistlaw8_EditLaws_fu9 x.1.1 x.1.2.1 x.1.2.2.1 x.1.2.2.2.1 x.1.2.2.2.2.1 x.2.1.1 x.2.1.2.1 x.2.1.2.2.1 x.2.2.1.1 x.2.2.1.2.1 x.2.2.1.2.2.1 x.2.2.2.1.1 x.2.2.2.1.2.1 x.2.2.2.1.2.2.1) fun R (x : ((Int × (Int × (Int × (Int × (Int × Unit))))) × ((Int × (Int × (List (Int × Int × Int × Int × Int) × Unit))) × ((Int × (Int × (Int × Unit))) × ((Int × (Int × (List (Int × Int × Int × Int × Int) × Unit))) × Unit))))) K => by
  show linguistlaw8_EditLaws_m9 K (hide linguistlaw8_EditLaws_L9 (linguistlaw8_EditLaws_fu9 x.1.1 x.1.2.1 x.1.2.2.1 x.1.2.2.2.1 x.1.2.2.2.2.1 x.2.1.1 x.2.1.2.1 x.2.1.2.2.1 x.2.2.1.1 x.2.2.1.2.1 x.2.2.1.2.2.1 x.2.2.2.1.1 x.2.2.2.1.2.1 x.2.2.2.1.2.2.1) x.1.1 x.1.2.1 x.1.2.2.1 x.1.2.2.2.1 x.1.2.2.2.2.1 x.2.1.1 x.2.1.2.1 x.2.1.2.2.1 x.2.2.1.1 x.2.2.1.2.1 x.2.2.1.2.2.1 x.2.2.2.1.1 x.2.2.2.1.2.1 x.2.2.2.1.2.2.1) = _
  rw [hide_eq]
  exact (linguistlaw8_EditLaws_l9 K (linguistlaw8_EditLaws_fu9 x.1.1 x.1.2.1 x.1.2.2.1 x.1.2.2.2.1 x.1.2.2.2.2.1 x.2.1.1 x.2.1.2.1 x.2.1.2.2.1 x.2.2.1.1 x.2.2.1.2.1 x.2.2.1.2.2.1 x.2.2.2.1.1 x.2.2.2.1.2.1 x.2.2.2.1.2.2.1) x.1.1 x.1.2.1 x.1.2.2.1 x.1.2.2.2.1 x.1.2.2.2.2.1 x.2.1.1 x.2.1.2.1 x.2.1.2.2.1 x.2.2.1.1 x.2.2.1.2.1 x.2.2.1.2.2.1 x.2.2.2.1.1 x.2.2.2.1.2.1 x.2.2.2.1.2.2.1).symm
noncomputable def linguistlaw8_EditLaws_h9 : LoopF := loopH linguistlaw8_EditLaws_s9 0 linguistlaw8_EditLaws_G9
noncomputable def linguistlaw8_EditLaws_ll1 : LoopT := ((7, 9), linguistlaw8_EditLaws_h9) :: ll0
theorem linguistlaw8_EditLaws_ll1_ok : AllLoop Try.prog linguistlaw8_EditLaws_ll1 := ⟨linguistlaw8_EditLaws_H9, ll0_ok⟩
noncomputable def linguistlaw8_EditLaws_c6 : Code := ((Try.f7.body.map fun b => loopsAt b 6).getD []).headD .skip
theorem linguistlaw8_EditLaws_c6_is : (Try.f7.body.map fun b => loopsAt b 6) = some [linguistlaw8_EditLaws_c6] := by kernel_rfl
noncomputable def linguistlaw8_EditLaws_s6 : SkSt := ⟨(.gap 11 (.cst (.ptr 0 0) (.cst (.ptr 1 0) (.cons (.int .i64) (.cons (.int .i64) (.cons (.int .i64) (.cst (.ptr 2 0) (.cons (.int .i64) (.gap 159 .nil))))))))), (.var 27 (.cons (.int .i64) (.cons (.int .i64) (.cons (.list (.cons (.int .i32) (.cons (.int .i64) (.cons (.int .i64) (.cons (.int .i64) (.one (.int .i64))))))) .nil))) (.var 23 (.cons (.int .i64) (.cons (.int .i64) (.cons (.int .i64) .nil))) (.var 27 (.cons (.int .i64) (.cons (.int .i64) (.cons (.list (.cons (.int .i32) (.cons (.int .i64) (.cons (.int .i64) (.cons (.int .i64) (.one (.int .i64))))))) .nil))) .nil)))⟩
noncomputable def linguistlaw8_EditLaws_x6_0 : SkSt := ⟨(.gap 10 (.cons .bool (.gap 166 .nil))), .nil⟩
noncomputable def linguistlaw8_EditLaws_x6_1 : SkSt := ⟨(.gap 11 (.cst (.ptr 0 0) (.cst (.ptr 1 0) (.cons (.int .i64) (.cons (.int .i64) (.cons (.int .i64) (.gap 161 .nil))))))), (.var 27 (.cons (.int .i64) (.cons (.int .i64) (.cons (.list (.cons (.int .i32) (.cons (.int .i64) (.cons (.int .i64) (.cons (.int .i64) (.one (.int .i64))))))) .nil))) (.var 23 (.cons (.int .i64) (.cons (.int .i64) (.cons (.int .i64) .nil))) .nil))⟩
noncomputable def linguistlaw8_EditLaws_xs6 : List (Ex × SkSt) := [(.ret, linguistlaw8_EditLaws_x6_0), (.exit 0, linguistlaw8_EditLaws_x6_1)]
noncomputable def linguistlaw8_EditLaws_L6 : Nat → Int → Int → Int → Int → Int → Int → List (Int × Int × Int × Int × Int) → Int → Int → Int → Int → Int → List (Int × Int × Int × Int × Int) → Option (((Bool) ⊕ (Int × Int × Int × Int × Int × (List (Int × Int × Int × Int × Int)) × Int × Int × Int)))
  | 0, _, _, _, _, _, _, _, _, _, _, _, _, _ => none
  | n + 1, a0, a1, a2, a3, a4, a5, a6, a7, a8, a9, a10, a11, a12 => (bif (decide (a3 < a4)) then (optK (hide linguistlaw8_EditLaws_L9 (linguistlaw8_EditLaws_fu9 a0 a1 a2 a3 (0 : Int) a4 a5 a6 a7 a8 a9 a10 a11 a12) a0 a1 a2 a3 (0 : Int) a4 a5 a6 a7 a8 a9 a10 a11 a12) fun y12 => (sumK y12 (fun y12a => (some (.inl y12a))) (fun y12b => (linguistlaw8_EditLaws_L6 n (y12b.1) (y12b.2.1) (y12b.2.2.1) (IntKind.i64.wrap (y12b.2.2.2.1 + (1 : Int))) (y12b.2.2.2.2.1) (y12b.2.2.2.2.2.1) (y12b.2.2.2.2.2.2.1) (y12b.2.2.2.2.2.2.2.1) (y12b.2.2.2.2.2.2.2.2.1) (y12b.2.2.2.2.2.2.2.2.2.1) (y12b.2.2.2.2.2.2.2.2.2.2.1) (y12b.2.2.2.2.2.2.2.2.2.2.2.1) (y12b.2.2.2.2.2.2.2.2.2.2.2.2))))) else (some (.inr (a0, a1, a2, a4, a5, a6, a7, a8, a9))))
noncomputable def linguistlaw8_EditLaws_I6 {R : Type} (K : Ex → St → Option R) : Nat → St → Option R := iterN (exec (envL linguistlaw8_EditLaws_su linguistlaw8_EditLaws_ll1 cs0 (fun _ _ => false)) 7 (acall (envL linguistlaw8_EditLaws_su linguistlaw8_EditLaws_ll1 cs0 (fun _ _ => false)) 1000) 0 linguistlaw8_EditLaws_c6) (normTo linguistlaw8_EditLaws_s6 0) (exitK linguistlaw8_EditLaws_xs6 0 K)
noncomputable def linguistlaw8_EditLaws_m6 {R : Type} (K : Ex → St → Option R) (o : Option (((Bool) ⊕ (Int × Int × Int × Int × Int × (List (Int × Int × Int × Int × Int)) × Int × Int × Int)))) : Option R := optK o fun y => sumK y (fun y => K (.ret) (linguistlaw8_EditLaws_x6_0.enc ((y, ()), ()))) (fun y => K (.exit 0) (linguistlaw8_EditLaws_x6_1.enc ((y.1, (y.2.1, (y.2.2.1, ()))), ((y.2.2.2.1, (y.2.2.2.2.1, (y.2.2.2.2.2.1, ()))), ((y.2.2.2.2.2.2.1, (y.2.2.2.2.2.2.2.1, (y.2.2.2.2.2.2.2.2, ()))), ())))))
theorem linguistlaw8_EditLaws_l6 {R : Type} (K : Ex → St → Option R) : ∀ (n : Nat), ∀ (a0 : Int) (a1 : Int) (a2 : Int) (a3 : Int) (a4 : Int) (a5 : Int) (a6 : List (Int × Int × Int × Int × Int)) (a7 : Int) (a8 : Int) (a9 : Int) (a10 : Int) (a11 : Int) (a12 : List (Int × Int × Int × Int × Int)), linguistlaw8_EditLaws_I6 K n (linguistlaw8_EditLaws_s6.enc ((a0, (a1, (a2, (a3, ())))), ((a4, (a5, (a6, ()))), ((a7, (a8, (a9, ()))), ((a10, (a11, (a12, ()))), ()))))) = linguistlaw8_EditLaws_m6 K (linguistlaw8_EditLaws_L6 n a0 a1 a2 a3 a4 a5 a6 a7 a8 a9 a10 a11 a12) := by
  intro n
  induction n with
  | zero => intros; rfl
  | succ n ih =>
    intro a0 a1 a2 a3 a4 a5 a6 a7 a8 a9 a10 a11 a12
    rw [linguistlaw8_EditLaws_L6]
    exact Eq.trans (by kernel_rfl) (cond_push (linguistlaw8_EditLaws_m6 K) _ (optK_push (linguistlaw8_EditLaws_m6 K) rfl _ fun y12 => (sumK_push (linguistlaw8_EditLaws_m6 K) _ (fun y12a => rfl) (fun y12b => (ih (y12b.1) (y12b.2.1) (y12b.2.2.1) (IntKind.i64.wrap (y12b.2.2.2.1 + (1 : Int))) (y12b.2.2.2.2.1) (y12b.2.2.2.2.2.1) (y12b.2.2.2.2.2.2.1) (y12b.2.2.2.2.2.2.2.1) (y12b.2.2.2.2.2.2.2.2.1) (y12b.2.2.2.2.2.2.2.2.2.1) (y12b.2.2.2.2.2.2.2.2.2.2.1) (y12b.2.2.2.2.2.2.2.2.2.2.2.1) (y12b.2.2.2.2.2.2.2.2.2.2.2.2))))) rfl)
def linguistlaw8_EditLaws_fu6 (a0 : Int) (a1 : Int) (a2 : Int) (a3 : Int) (a4 : Int) (a5 : Int) (a6 : List (Int × Int × Int × Int × Int)) (a7 : Int) (a8 : Int) (a9 : Int) (a10 : Int) (a11 : Int) (a12 : List (Int × Int × Int × Int × Int)) : Nat := Int.natAbs a0 + Int.natAbs a1 + Int.natAbs a2 + Int.natAbs a3 + Int.natAbs a4 + Int.natAbs a5 + List.length a6 + Int.natAbs a7 + Int.natAbs a8 + Int.natAbs a9 + Int.natAbs a10 + Int.natAbs a11 + List.length a12 + 5000
noncomputable def linguistlaw8_EditLaws_G6 : GoL linguistlaw8_EditLaws_s6 := fun R (x : ((Int × (Int × (Int × (Int × Unit)))) × ((Int × (Int × (List (Int × Int × Int × Int × Int) × Unit))) × ((Int × (Int × (Int × Unit))) × ((Int × (Int × (List (Int × Int × Int × Int × Int) × Unit))) × Unit))))) K => linguistlaw8_EditLaws_m6 K (hide linguistlaw8_EditLaws_L6 (linguistlaw8_EditLaws_fu6 x.1.1 x.1.2.1 x.1.2.2.1 x.1.2.2.2.1 x.2.1.1 x.2.1.2.1 x.2.1.2.2.1 x.2.2.1.1 x.2.2.1.2.1 x.2.2.1.2.2.1 x.2.2.2.1.1 x.2.2.2.1.2.1 x.2.2.2.1.2.2.1) x.1.1 x.1.2.1 x.1.2.2.1 x.1.2.2.2.1 x.2.1.1 x.2.1.2.1 x.2.1.2.2.1 x.2.2.1.1 x.2.2.1.2.1 x.2.2.1.2.2.1 x.2.2.2.1.1 x.2.2.2.1.2.1 x.2.2.2.1.2.2.1)
theorem linguistlaw8_EditLaws_H6 : LoopOk Try.prog 7 6 (loopH linguistlaw8_EditLaws_s6 0 linguistlaw8_EditLaws_G6) := loop_known (envL_ok linguistlaw8_EditLaws_su_ok linguistlaw8_EditLaws_ll1_ok cs0_ok) Try.func7 rfl linguistlaw8_EditLaws_c6_is (xs := linguistlaw8_EditLaws_xs6) (fuel := fun (x : ((Int × (Int × (Int × (Int × Unit)))) × ((Int × (Int × (List (Int × Int × Int × Int × Int) × Unit))) × ((Int × (Int × (Int × Unit))) × ((Int × (Int × (List (Int × Int × Int × Int × Int) × Unit))) × Unit))))) => linguistlaw8_EditLaws_fu6 x.1.1 x.1.2.1 x.1.2.2.1 x.1.2.2.2.1 x.2.1.1 x.2.1.2.1 x.2.1.2.2.1 x.2.2.1.1 x.2.2.1.2.1 x.2.2.1.2.2.1 x.2.2.2.1.1 x.2.2.2.1.2.1 x.2.2.2.1.2.2.1) fun R (x : ((Int × (Int × (Int × (Int × Unit)))) × ((Int × (Int × (List (Int × Int × Int × Int × Int) × Unit))) × ((Int × (Int × (Int × Unit))) × ((Int × (Int × (List (Int × Int × Int × Int × Int) × Unit))) × Unit))))) K => by
  show linguistlaw8_EditLaws_m6 K (hide linguistlaw8_EditLaws_L6 (linguistlaw8_EditLaws_fu6 x.1.1 x.1.2.1 x.1.2.2.1 x.1.2.2.2.1 x.2.1.1 x.2.1.2.1 x.2.1.2.2.1 x.2.2.1.1 x.2.2.1.2.1 x.2.2.1.2.2.1 x.2.2.2.1.1 x.2.2.2.1.2.1 x.2.2.2.1.2.2.1) x.1.1 x.1.2.1 x.1.2.2.1 x.1.2.2.2.1 x.2.1.1 x.2.1.2.1 x.2.1.2.2.1 x.2.2.1.1 x.2.2.1.2.1 x.2.2.1.2.2.1 x.2.2.2.1.1 x.2.2.2.1.2.1 x.2.2.2.1.2.2.1) = _
  rw [hide_eq]
  exact (linguistlaw8_EditLaws_l6 K (linguistlaw8_EditLaws_fu6 x.1.1 x.1.2.1 x.1.2.2.1 x.1.2.2.2.1 x.2.1.1 x.2.1.2.1 x.2.1.2.2.1 x.2.2.1.1 x.2.2.1.2.1 x.2.2.1.2.2.1 x.2.2.2.1.1 x.2.2.2.1.2.1 x.2.2.2.1.2.2.1) x.1.1 x.1.2.1 x.1.2.2.1 x.1.2.2.2.1 x.2.1.1 x.2.1.2.1 x.2.1.2.2.1 x.2.2.1.1 x.2.2.1.2.1 x.2.2.1.2.2.1 x.2.2.2.1.1 x.2.2.2.1.2.1 x.2.2.2.1.2.2.1).symm
noncomputable def linguistlaw8_EditLaws_h6 : LoopF := loopH linguistlaw8_EditLaws_s6 0 linguistlaw8_EditLaws_G6
noncomputable def linguistlaw8_EditLaws_ll2 : LoopT := ((7, 6), linguistlaw8_EditLaws_h6) :: linguistlaw8_EditLaws_ll1
theorem linguistlaw8_EditLaws_ll2_ok : AllLoop Try.prog linguistlaw8_EditLaws_ll2 := ⟨linguistlaw8_EditLaws_H6, linguistlaw8_EditLaws_ll1_ok⟩
noncomputable def linguistlaw8_EditLaws_c17 : Code := ((Try.f7.body.map fun b => loopsAt b 17).getD []).headD .skip
theorem linguistlaw8_EditLaws_c17_is : (Try.f7.body.map fun b => loopsAt b 17) = some [linguistlaw8_EditLaws_c17] := by kernel_rfl
noncomputable def linguistlaw8_EditLaws_s17 : SkSt := ⟨(.gap 11 (.cst (.ptr 0 0) (.cst (.ptr 1 0) (.cons (.int .i64) (.cons (.int .i64) (.cons (.int .i64) (.gap 7 (.cst (.ptr 2 0) (.cons (.int .i64) (.gap 152 .nil)))))))))), (.var 27 (.cons (.int .i64) (.cons (.int .i64) (.cons (.list (.cons (.int .i32) (.cons (.int .i64) (.cons (.int .i64) (.cons (.int .i64) (.one (.int .i64))))))) .nil))) (.var 23 (.cons (.int .i64) (.cons (.int .i64) (.cons (.int .i64) .nil))) (.var 27 (.cons (.int .i64) (.cons (.int .i64) (.cons (.list (.cons (.int .i32) (.cons (.int .i64) (.cons (.int .i64) (.cons (.int .i64) (.one (.int .i64))))))) .nil))) .nil)))⟩
noncomputable def linguistlaw8_EditLaws_x17_0 : SkSt := ⟨(.gap 10 (.cons .bool (.gap 166 .nil))), .nil⟩
noncomputable def linguistlaw8_EditLaws_x17_1 : SkSt := ⟨(.gap 11 (.cst (.ptr 0 0) (.cst (.ptr 1 0) (.cons (.int .i64) (.cons (.int .i64) (.cons (.int .i64) (.gap 7 (.cst (.ptr 2 0) (.gap 153 .nil))))))))), (.var 27 (.cons (.int .i64) (.cons (.int .i64) (.cons (.list (.cons (.int .i32) (.cons (.int .i64) (.cons (.int .i64) (.cons (.int .i64) (.one (.int .i64))))))) .nil))) (.var 23 (.cons (.int .i64) (.cons (.int .i64) (.cons (.int .i64) .nil))) (.var 27 (.cons (.int .i64) (.cons (.int .i64) (.cons (.list (.cons (.int .i32) (.cons (.int .i64) (.cons (.int .i64) (.cons (.int .i64) (.one (.int .i64))))))) .nil))) .nil)))⟩
noncomputable def linguistlaw8_EditLaws_xs17 : List (Ex × SkSt) := [(.ret, linguistlaw8_EditLaws_x17_0), (.exit 4, linguistlaw8_EditLaws_x17_1)]
noncomputable def linguistlaw8_EditLaws_L17 : Nat → Int → Int → Int → Int → Int → Int → List (Int × Int × Int × Int × Int) → Int → Int → Int → Int → Int → List (Int × Int × Int × Int × Int) → Option (((Bool) ⊕ (Int × Int × Int × Int × Int × (List (Int × Int × Int × Int × Int)) × Int × Int × Int × Int × Int × (List (Int × Int × Int × Int × Int)))))
  | 0, _, _, _, _, _, _, _, _, _, _, _, _, _ => none
  | n + 1, a0, a1, a2, a3, a4, a5, a6, a7, a8, a9, a10, a11, a12 => (bif (decide (a3 < a4)) then (bif (a3 != a0) then (optK ((hide grid_Text_F a10 a11 a12 a3)) fun y17 => (optK ((hide grid_Text_F a4 a5 a6 a3)) fun y18 => (bif (!y17 == y18) then (some (.inl (false))) else (linguistlaw8_EditLaws_L17 n a0 a1 a2 (IntKind.i64.wrap (a3 + (1 : Int))) a4 a5 a6 a7 a8 a9 a10 a11 a12)))) else (linguistlaw8_EditLaws_L17 n a0 a1 a2 (IntKind.i64.wrap (a3 + (1 : Int))) a4 a5 a6 a7 a8 a9 a10 a11 a12)) else (some (.inr (a0, a1, a2, a4, a5, a6, a7, a8, a9, a10, a11, a12))))
noncomputable def linguistlaw8_EditLaws_I17 {R : Type} (K : Ex → St → Option R) : Nat → St → Option R := iterN (exec (envL linguistlaw8_EditLaws_su linguistlaw8_EditLaws_ll2 cs0 (fun _ _ => false)) 7 (acall (envL linguistlaw8_EditLaws_su linguistlaw8_EditLaws_ll2 cs0 (fun _ _ => false)) 1000) 0 linguistlaw8_EditLaws_c17) (normTo linguistlaw8_EditLaws_s17 0) (exitK linguistlaw8_EditLaws_xs17 0 K)
noncomputable def linguistlaw8_EditLaws_m17 {R : Type} (K : Ex → St → Option R) (o : Option (((Bool) ⊕ (Int × Int × Int × Int × Int × (List (Int × Int × Int × Int × Int)) × Int × Int × Int × Int × Int × (List (Int × Int × Int × Int × Int)))))) : Option R := optK o fun y => sumK y (fun y => K (.ret) (linguistlaw8_EditLaws_x17_0.enc ((y, ()), ()))) (fun y => K (.exit 4) (linguistlaw8_EditLaws_x17_1.enc ((y.1, (y.2.1, (y.2.2.1, ()))), ((y.2.2.2.1, (y.2.2.2.2.1, (y.2.2.2.2.2.1, ()))), ((y.2.2.2.2.2.2.1, (y.2.2.2.2.2.2.2.1, (y.2.2.2.2.2.2.2.2.1, ()))), ((y.2.2.2.2.2.2.2.2.2.1, (y.2.2.2.2.2.2.2.2.2.2.1, (y.2.2.2.2.2.2.2.2.2.2.2, ()))), ()))))))
theorem linguistlaw8_EditLaws_l17 {R : Type} (K : Ex → St → Option R) : ∀ (n : Nat), ∀ (a0 : Int) (a1 : Int) (a2 : Int) (a3 : Int) (a4 : Int) (a5 : Int) (a6 : List (Int × Int × Int × Int × Int)) (a7 : Int) (a8 : Int) (a9 : Int) (a10 : Int) (a11 : Int) (a12 : List (Int × Int × Int × Int × Int)), linguistlaw8_EditLaws_I17 K n (linguistlaw8_EditLaws_s17.enc ((a0, (a1, (a2, (a3, ())))), ((a4, (a5, (a6, ()))), ((a7, (a8, (a9, ()))), ((a10, (a11, (a12, ()))), ()))))) = linguistlaw8_EditLaws_m17 K (linguistlaw8_EditLaws_L17 n a0 a1 a2 a3 a4 a5 a6 a7 a8 a9 a10 a11 a12) := by
  intro n
  induction n with
  | zero => intros; rfl
  | succ n ih =>
    intro a0 a1 a2 a3 a4 a5 a6 a7 a8 a9 a10 a11 a12
    rw [linguistlaw8_EditLaws_L17]
    exact Eq.trans (by kernel_rfl) (cond_push (linguistlaw8_EditLaws_m17 K) _ (cond_push (linguistlaw8_EditLaws_m17 K) _ (optK_push (linguistlaw8_EditLaws_m17 K) rfl _ fun y17 => (optK_push (linguistlaw8_EditLaws_m17 K) rfl _ fun y18 => (cond_push (linguistlaw8_EditLaws_m17 K) _ rfl (ih a0 a1 a2 (IntKind.i64.wrap (a3 + (1 : Int))) a4 a5 a6 a7 a8 a9 a10 a11 a12)))) (ih a0 a1 a2 (IntKind.i64.wrap (a3 + (1 : Int))) a4 a5 a6 a7 a8 a9 a10 a11 a12)) rfl)
def linguistlaw8_EditLaws_fu17 (a0 : Int) (a1 : Int) (a2 : Int) (a3 : Int) (a4 : Int) (a5 : Int) (a6 : List (Int × Int × Int × Int × Int)) (a7 : Int) (a8 : Int) (a9 : Int) (a10 : Int) (a11 : Int) (a12 : List (Int × Int × Int × Int × Int)) : Nat := Int.natAbs a0 + Int.natAbs a1 + Int.natAbs a2 + Int.natAbs a3 + Int.natAbs a4 + Int.natAbs a5 + List.length a6 + Int.natAbs a7 + Int.natAbs a8 + Int.natAbs a9 + Int.natAbs a10 + Int.natAbs a11 + List.length a12 + 5000
noncomputable def linguistlaw8_EditLaws_G17 : GoL linguistlaw8_EditLaws_s17 := fun R (x : ((Int × (Int × (Int × (Int × Unit)))) × ((Int × (Int × (List (Int × Int × Int × Int × Int) × Unit))) × ((Int × (Int × (Int × Unit))) × ((Int × (Int × (List (Int × Int × Int × Int × Int) × Unit))) × Unit))))) K => linguistlaw8_EditLaws_m17 K (hide linguistlaw8_EditLaws_L17 (linguistlaw8_EditLaws_fu17 x.1.1 x.1.2.1 x.1.2.2.1 x.1.2.2.2.1 x.2.1.1 x.2.1.2.1 x.2.1.2.2.1 x.2.2.1.1 x.2.2.1.2.1 x.2.2.1.2.2.1 x.2.2.2.1.1 x.2.2.2.1.2.1 x.2.2.2.1.2.2.1) x.1.1 x.1.2.1 x.1.2.2.1 x.1.2.2.2.1 x.2.1.1 x.2.1.2.1 x.2.1.2.2.1 x.2.2.1.1 x.2.2.1.2.1 x.2.2.1.2.2.1 x.2.2.2.1.1 x.2.2.2.1.2.1 x.2.2.2.1.2.2.1)
theorem linguistlaw8_EditLaws_H17 : LoopOk Try.prog 7 17 (loopH linguistlaw8_EditLaws_s17 0 linguistlaw8_EditLaws_G17) := loop_known (envL_ok linguistlaw8_EditLaws_su_ok linguistlaw8_EditLaws_ll2_ok cs0_ok) Try.func7 rfl linguistlaw8_EditLaws_c17_is (xs := linguistlaw8_EditLaws_xs17) (fuel := fun (x : ((Int × (Int × (Int × (Int × Unit)))) × ((Int × (Int × (List (Int × Int × Int × Int × Int) × Unit))) × ((Int × (Int × (Int × Unit))) × ((Int × (Int × (List (Int × Int × Int × Int × Int) × Unit))) × Unit))))) => linguistlaw8_EditLaws_fu17 x.1.1 x.1.2.1 x.1.2.2.1 x.1.2.2.2.1 x.2.1.1 x.2.1.2.1 x.2.1.2.2.1 x.2.2.1.1 x.2.2.1.2.1 x.2.2.1.2.2.1 x.2.2.2.1.1 x.2.2.2.1.2.1 x.2.2.2.1.2.2.1) fun R (x : ((Int × (Int × (Int × (Int × Unit)))) × ((Int × (Int × (List (Int × Int × Int × Int × Int) × Unit))) × ((Int × (Int × (Int × Unit))) × ((Int × (Int × (List (Int × Int × Int × Int × Int) × Unit))) × Unit))))) K => by
  show linguistlaw8_EditLaws_m17 K (hide linguistlaw8_EditLaws_L17 (linguistlaw8_EditLaws_fu17 x.1.1 x.1.2.1 x.1.2.2.1 x.1.2.2.2.1 x.2.1.1 x.2.1.2.1 x.2.1.2.2.1 x.2.2.1.1 x.2.2.1.2.1 x.2.2.1.2.2.1 x.2.2.2.1.1 x.2.2.2.1.2.1 x.2.2.2.1.2.2.1) x.1.1 x.1.2.1 x.1.2.2.1 x.1.2.2.2.1 x.2.1.1 x.2.1.2.1 x.2.1.2.2.1 x.2.2.1.1 x.2.2.1.2.1 x.2.2.1.2.2.1 x.2.2.2.1.1 x.2.2.2.1.2.1 x.2.2.2.1.2.2.1) = _
  rw [hide_eq]
  exact (linguistlaw8_EditLaws_l17 K (linguistlaw8_EditLaws_fu17 x.1.1 x.1.2.1 x.1.2.2.1 x.1.2.2.2.1 x.2.1.1 x.2.1.2.1 x.2.1.2.2.1 x.2.2.1.1 x.2.2.1.2.1 x.2.2.1.2.2.1 x.2.2.2.1.1 x.2.2.2.1.2.1 x.2.2.2.1.2.2.1) x.1.1 x.1.2.1 x.1.2.2.1 x.1.2.2.2.1 x.2.1.1 x.2.1.2.1 x.2.1.2.2.1 x.2.2.1.1 x.2.2.1.2.1 x.2.2.1.2.2.1 x.2.2.2.1.1 x.2.2.2.1.2.1 x.2.2.2.1.2.2.1).symm
noncomputable def linguistlaw8_EditLaws_h17 : LoopF := loopH linguistlaw8_EditLaws_s17 0 linguistlaw8_EditLaws_G17
noncomputable def linguistlaw8_EditLaws_ll3 : LoopT := ((7, 17), linguistlaw8_EditLaws_h17) :: linguistlaw8_EditLaws_ll2
theorem linguistlaw8_EditLaws_ll3_ok : AllLoop Try.prog linguistlaw8_EditLaws_ll3 := ⟨linguistlaw8_EditLaws_H17, linguistlaw8_EditLaws_ll2_ok⟩
noncomputable def linguistlaw8_EditLaws_F (x0 : Int) (x1 : Int) (x2 : List (Int)) (x3 : List (Int)) (x4 : Int) (x5 : Int) (x6 : Int) (x7 : Int) (x8 : Int) (x9 : Int) : Option (Bool) := (optK ((hide linguistkeep_Grid_Grid_F x0 x1 x2 x3)) fun y0 => (optK ((hide linguistkeep_Pen_Pen_F x7 x8 x9)) fun y1 => (optK ((hide linguistbook_Within_F x4 (0 : Int) (IntKind.i64.wrap (y0.1 - (1 : Int))))) fun y2 => (optK ((hide linguistbook_Within_F x5 (0 : Int) (IntKind.i64.wrap (y0.2.1 - (1 : Int))))) fun y3 => (optK ((hide linguistbook_Within_F x6 (0 : Int) (4 : Int))) fun y4 => (optK ((hide edit_Up_F y0.1 y0.2.1 y0.2.2 (0 : Int) (IntKind.i64.wrap (y0.1 - (1 : Int))) y4 y1.1 y1.2.1 y1.2.2)) fun y5 => (optK ((hide edit_Down_F y5.1 y5.2.1 y5.2.2 (0 : Int) (IntKind.i64.wrap (y0.1 - (1 : Int))) y4 y1.1 y1.2.1 y1.2.2)) fun y6 => (optK (hide linguistlaw8_EditLaws_L6 (linguistlaw8_EditLaws_fu6 y2 y3 y4 (0 : Int) (y0.1) (y0.2.1) (y0.2.2) (y1.1) (y1.2.1) (y1.2.2) (y6.1) (y6.2.1) (y6.2.2)) y2 y3 y4 (0 : Int) (y0.1) (y0.2.1) (y0.2.2) (y1.1) (y1.2.1) (y1.2.2) (y6.1) (y6.2.1) (y6.2.2)) fun y13 => (sumK y13 (fun y13a => (some y13a)) (fun y13b => (optK ((hide edit_Insert_F y13b.2.2.2.1 y13b.2.2.2.2.1 y13b.2.2.2.2.2.1 y13b.1 y13b.2.1 y13b.2.2.1 y13b.2.2.2.2.2.2.1 y13b.2.2.2.2.2.2.2.1 y13b.2.2.2.2.2.2.2.2)) fun y14 => (optK (hide linguistlaw8_EditLaws_L17 (linguistlaw8_EditLaws_fu17 (y13b.1) (y13b.2.1) (y13b.2.2.1) (0 : Int) (y13b.2.2.2.1) (y13b.2.2.2.2.1) (y13b.2.2.2.2.2.1) (y13b.2.2.2.2.2.2.1) (y13b.2.2.2.2.2.2.2.1) (y13b.2.2.2.2.2.2.2.2) (y14.1) (y14.2.1) (y14.2.2)) (y13b.1) (y13b.2.1) (y13b.2.2.1) (0 : Int) (y13b.2.2.2.1) (y13b.2.2.2.2.1) (y13b.2.2.2.2.2.1) (y13b.2.2.2.2.2.2.1) (y13b.2.2.2.2.2.2.2.1) (y13b.2.2.2.2.2.2.2.2) (y14.1) (y14.2.1) (y14.2.2)) fun y19 => (sumK y19 (fun y19a => (some y19a)) (fun y19b => (optK ((hide edit_Up_F y19b.2.2.2.1 y19b.2.2.2.2.1 y19b.2.2.2.2.2.1 (0 : Int) (IntKind.i64.wrap (y19b.2.2.2.1 - (1 : Int))) (0 : Int) y19b.2.2.2.2.2.2.1 y19b.2.2.2.2.2.2.2.1 y19b.2.2.2.2.2.2.2.2.1)) fun y20 => (optK ((hide grid_Same_F y20.1 y20.2.1 y20.2.2 y19b.2.2.2.1 y19b.2.2.2.2.1 y19b.2.2.2.2.2.1)) fun y21 => (bif y21 then (optK ((hide edit_Down_F y19b.2.2.2.1 y19b.2.2.2.2.1 y19b.2.2.2.2.2.1 (1 : Int) (0 : Int) (3 : Int) y19b.2.2.2.2.2.2.1 y19b.2.2.2.2.2.2.2.1 y19b.2.2.2.2.2.2.2.2.1)) fun y22 => (optK ((hide grid_Same_F y22.1 y22.2.1 y22.2.2 y19b.2.2.2.1 y19b.2.2.2.2.1 y19b.2.2.2.2.2.1)) fun y23 => (bif y23 then (optK ((hide edit_Up_F y19b.2.2.2.1 y19b.2.2.2.2.1 y19b.2.2.2.2.2.1 (0 : Int) y19b.2.2.2.1 (1 : Int) y19b.2.2.2.2.2.2.1 y19b.2.2.2.2.2.2.2.1 y19b.2.2.2.2.2.2.2.2.1)) fun y24 => (optK ((hide grid_Same_F y24.1 y24.2.1 y24.2.2 y19b.2.2.2.1 y19b.2.2.2.2.1 y19b.2.2.2.2.2.1)) fun y25 => (bif y25 then (optK ((hide grid_Right_F y19b.2.2.2.2.2.2.2.2.2.1 y19b.2.2.2.2.2.2.2.2.2.2.1 y19b.2.2.2.2.2.2.2.2.2.2.2)) fun y26 => (bif y26 then (optK ((hide edit_Delete_F y19b.2.2.2.1 y19b.2.2.2.2.1 y19b.2.2.2.2.2.1 y19b.1 y19b.2.1 y19b.2.2.1 y19b.2.2.2.2.2.2.1 y19b.2.2.2.2.2.2.2.1 y19b.2.2.2.2.2.2.2.2.1)) fun y27 => (optK ((hide grid_Right_F y27.1 y27.2.1 y27.2.2)) fun y28 => (bif y28 then (optK ((hide edit_Erase_F y19b.2.2.2.1 y19b.2.2.2.2.1 y19b.2.2.2.2.2.1 y19b.1 y19b.2.1 (2 : Int) y19b.2.2.2.2.2.2.1 y19b.2.2.2.2.2.2.2.1 y19b.2.2.2.2.2.2.2.2.1)) fun y29 => (optK ((hide grid_New_F y19b.2.2.2.1 y19b.2.2.2.2.1 y19b.2.2.2.2.2.2.1 y19b.2.2.2.2.2.2.2.1 y19b.2.2.2.2.2.2.2.2.1)) fun y30 => (optK ((hide grid_Same_F y29.1 y29.2.1 y29.2.2 y30.1 y30.2.1 y30.2.2)) fun y31 => (bif y31 then (some (true)) else (some (false)))))) else (some (false))))) else (some (false)))) else (some (false))))) else (some (false))))) else (some (false)))))))))))))))))))
noncomputable def linguistlaw8_EditLaws_A : SkL := (.cons (.agg (.cons (.int .i64) (.cons (.int .i64) (.cons (.list (.one (.int .i64))) (.cons (.list (.one (.int .i64))) .nil))))) (.cons (.int .i64) (.cons (.int .i64) (.cons (.int .i64) (.cons (.agg (.cons (.int .i64) (.cons (.int .i64) (.cons (.int .i64) .nil)))) .nil)))))
noncomputable def linguistlaw8_EditLaws_B : Sk := .bool
def linguistlaw8_EditLaws_m {R : Type} (K : Bool → Option R) (o : Option (Bool)) : Option R := optK o fun y => K y
theorem linguistlaw8_EditLaws_run {R : Type} (x0 : Int) (x1 : Int) (x2 : List (Int)) (x3 : List (Int)) (x4 : Int) (x5 : Int) (x6 : Int) (x7 : Int) (x8 : Int) (x9 : Int) (K : Bool → Option R) : acall (envL linguistlaw8_EditLaws_su linguistlaw8_EditLaws_ll3 cs0 (fun _ _ => false)) 1000 7 (linguistlaw8_EditLaws_A.enc ((x0, (x1, (x2, (x3, ())))), (x4, (x5, (x6, ((x7, (x8, (x9, ()))), ())))))) [] (resK linguistlaw8_EditLaws_B true K) = linguistlaw8_EditLaws_m K (linguistlaw8_EditLaws_F x0 x1 x2 x3 x4 x5 x6 x7 x8 x9) := by
  unfold linguistlaw8_EditLaws_F
  exact Eq.trans (by kernel_rfl) (optK_push (linguistlaw8_EditLaws_m K) rfl _ fun y0 => (optK_push (linguistlaw8_EditLaws_m K) rfl _ fun y1 => (optK_push (linguistlaw8_EditLaws_m K) rfl _ fun y2 => (optK_push (linguistlaw8_EditLaws_m K) rfl _ fun y3 => (optK_push (linguistlaw8_EditLaws_m K) rfl _ fun y4 => (optK_push (linguistlaw8_EditLaws_m K) rfl _ fun y5 => (optK_push (linguistlaw8_EditLaws_m K) rfl _ fun y6 => (optK_push (linguistlaw8_EditLaws_m K) rfl _ fun y13 => (sumK_push (linguistlaw8_EditLaws_m K) _ (fun y13a => rfl) (fun y13b => (optK_push (linguistlaw8_EditLaws_m K) rfl _ fun y14 => (optK_push (linguistlaw8_EditLaws_m K) rfl _ fun y19 => (sumK_push (linguistlaw8_EditLaws_m K) _ (fun y19a => rfl) (fun y19b => (optK_push (linguistlaw8_EditLaws_m K) rfl _ fun y20 => (optK_push (linguistlaw8_EditLaws_m K) rfl _ fun y21 => (cond_push (linguistlaw8_EditLaws_m K) _ (optK_push (linguistlaw8_EditLaws_m K) rfl _ fun y22 => (optK_push (linguistlaw8_EditLaws_m K) rfl _ fun y23 => (cond_push (linguistlaw8_EditLaws_m K) _ (optK_push (linguistlaw8_EditLaws_m K) rfl _ fun y24 => (optK_push (linguistlaw8_EditLaws_m K) rfl _ fun y25 => (cond_push (linguistlaw8_EditLaws_m K) _ (optK_push (linguistlaw8_EditLaws_m K) rfl _ fun y26 => (cond_push (linguistlaw8_EditLaws_m K) _ (optK_push (linguistlaw8_EditLaws_m K) rfl _ fun y27 => (optK_push (linguistlaw8_EditLaws_m K) rfl _ fun y28 => (cond_push (linguistlaw8_EditLaws_m K) _ (optK_push (linguistlaw8_EditLaws_m K) rfl _ fun y29 => (optK_push (linguistlaw8_EditLaws_m K) rfl _ fun y30 => (optK_push (linguistlaw8_EditLaws_m K) rfl _ fun y31 => (cond_push (linguistlaw8_EditLaws_m K) _ rfl rfl)))) rfl))) rfl)) rfl))) rfl))) rfl)))))))))))))))))
end Go.Proofs.YtpneolkfeihkhaaAbs

/- EditLaws: what the law's own program computes is true. -/
namespace Go.Proofs.YtpneolkfeihkhaaAbs
set_option linter.unusedVariables false
set_option linter.unusedSimpArgs false
set_option maxHeartbeats 4000000
set_option maxRecDepth 100000
open Go Go.Proofs
theorem at_cell {R C : Int} {h w : Nat} (hR : R = Int.ofNat h) (hC : C = Int.ofNat w) (hh : h ≤ 40) (hw : w ≤ 60) {l : List Cell} (hl : l.length = h * w) {y x : Nat} (hy : y < h) (hx : x < w) :
    hide grid_At_F R C l (Int.ofNat y) (Int.ofNat x) = some (((rowOf w l y).getD x dC).1, ((rowOf w l y).getD x dC).2.1, ((rowOf w l y).getD x dC).2.2.1, ((rowOf w l y).getD x dC).2.2.2.1, ((rowOf w l y).getD x dC).2.2.2.2, true) := by
  rw [at_eq hR hC hh hw hl, rowOf_getD hx]
  unfold at_
  rw [if_pos ⟨by show (0 : Int) ≤ (y : Int); omega, by show (y : Int) < (h : Int); omega, by show (0 : Int) ≤ (x : Int); omega, by show (x : Int) < (w : Int); omega⟩]
  rfl
theorem text_ne {l : List Cell} (h : rightR l) (h1 : 1 ≤ l.length) : textOf l ≠ [] := by
  cases l with
  | nil => simp at h1
  | cons x l =>
    rw [textOf_cons]
    have k : x.2.1 ≠ 2 := fun e => by
      have := (right_2 h (i := 0) (by simp) e).1
      omega
    rw [if_neg k]
    have hb := encB_pos x.1
    intro q
    have hq := (List.append_eq_nil_iff.1 q).1
    rw [hq] at hb
    simp at hb
theorem laws_9 {a0 a1 p0 p1 p2 : Int} {h w m y : Nat} {g u : List Cell} (hh : h ≤ 5) (hw : w ≤ 9) (hl : g.length = h * w) (hul : u.length = h * w) (hy : y < h)
    (hu : ∀ x, x < w → (rowOf w u y).getD x dC = if m ≤ y then (rowOf w g y).getD x dC else (32, 0, p0, p1, p2)) : ∀ (n x : Nat), x ≤ w → w - x < n →
    linguistlaw8_EditLaws_L9 n a0 a1 (Int.ofNat m) (Int.ofNat y) (Int.ofNat x) (Int.ofNat h) (Int.ofNat w) g p0 p1 p2 (Int.ofNat h) (Int.ofNat w) u = some (.inr (a0, a1, Int.ofNat m, Int.ofNat y, Int.ofNat h, Int.ofNat w, g, p0, p1, p2, Int.ofNat h, Int.ofNat w, u)) := by
  intro n
  induction n with
  | zero => intro x h1 h2; omega
  | succ n ih =>
    intro x h1 h2
    rw [linguistlaw8_EditLaws_L9]
    by_cases hx : x < w
    · rw [ofNat_lt, decide_eq_true hx, at_cell rfl rfl (by omega) (by omega) hl hy hx, at_cell rfl rfl (by omega) (by omega) hul hy hx, hu x hx, wrap_succ (by omega)]
      simp only [cond_true, optK_s]
      have step := ih (x + 1) (by omega) (by omega)
      by_cases c : m ≤ y
      · rw [if_pos c, show decide (Int.ofNat y ≥ Int.ofNat m) = true from decide_eq_true (by show (m : Int) ≤ (y : Int); omega), show decide (Int.ofNat y < Int.ofNat m) = false from decide_eq_false (by show ¬ (y : Int) < (m : Int); omega)]
        simp only [beq_self_eq_true, Bool.and_self, Bool.not_true, cond_true, cond_false]
        exact step
      · rw [if_neg c, show decide (Int.ofNat y ≥ Int.ofNat m) = false from decide_eq_false (by show ¬ (m : Int) ≤ (y : Int); omega), show decide (Int.ofNat y < Int.ofNat m) = true from decide_eq_true (by show (y : Int) < (m : Int); omega)]
        simp only [beq_self_eq_true, Bool.and_self, Bool.not_true, cond_true, cond_false]
        exact step
    · have e : x = w := by omega
      subst e
      rw [ofNat_lt, decide_eq_false hx]
      rfl
theorem laws_6 {a0 a1 p0 p1 p2 : Int} {h w m : Nat} {g u : List Cell} (hh : h ≤ 5) (hw : w ≤ 9) (hl : g.length = h * w) (hul : u.length = h * w)
    (hu : ∀ y x, y < h → x < w → (rowOf w u y).getD x dC = if m ≤ y then (rowOf w g y).getD x dC else (32, 0, p0, p1, p2)) : ∀ (n y : Nat), y ≤ h → h - y < n →
    linguistlaw8_EditLaws_L6 n a0 a1 (Int.ofNat m) (Int.ofNat y) (Int.ofNat h) (Int.ofNat w) g p0 p1 p2 (Int.ofNat h) (Int.ofNat w) u = some (.inr (a0, a1, Int.ofNat m, Int.ofNat h, Int.ofNat w, g, p0, p1, p2)) := by
  intro n
  induction n with
  | zero => intro x h1 h2; omega
  | succ n ih =>
    intro y h1 h2
    rw [linguistlaw8_EditLaws_L6]
    by_cases hy : y < h
    · rw [ofNat_lt, decide_eq_true hy]
      simp only [cond_true, hide_eq linguistlaw8_EditLaws_L9]
      have L := laws_9 (a0 := a0) (a1 := a1) hh hw hl hul hy (fun x hx => hu y x hy hx) (linguistlaw8_EditLaws_fu9 a0 a1 (Int.ofNat m) (Int.ofNat y) 0 (Int.ofNat h) (Int.ofNat w) g p0 p1 p2 (Int.ofNat h) (Int.ofNat w) u) 0 (Nat.zero_le _) (Nat.lt_of_lt_of_le (show w - 0 < 5000 by omega) (Nat.le_add_left 5000 _))
      rw [show Int.ofNat 0 = (0 : Int) from rfl] at L
      rw [L]
      simp only [optK_s, sumK]
      rw [wrap_succ (by omega)]
      exact ih (y + 1) (by omega) (by omega)
    · have e : y = h := by omega
      subst e
      rw [ofNat_lt, decide_eq_false hy]
      rfl
theorem laws_17 {a1 a2 p0 p1 p2 : Int} {h w r : Nat} {g i : List Cell} (hh : h ≤ 5) (w1 : 1 ≤ w) (hw : w ≤ 9) (k : GG h w g) (hil : i.length = h * w)
    (hi : ∀ y, y < h → y ≠ r → rowOf w i y = rowOf w g y) : ∀ (n y : Nat), y ≤ h → h - y < n →
    linguistlaw8_EditLaws_L17 n (Int.ofNat r) a1 a2 (Int.ofNat y) (Int.ofNat h) (Int.ofNat w) g p0 p1 p2 (Int.ofNat h) (Int.ofNat w) i = some (.inr (Int.ofNat r, a1, a2, Int.ofNat h, Int.ofNat w, g, p0, p1, p2, Int.ofNat h, Int.ofNat w, i)) := by
  intro n
  induction n with
  | zero => intro x h1 h2; omega
  | succ n ih =>
    intro y h1 h2
    rw [linguistlaw8_EditLaws_L17]
    by_cases hy : y < h
    · rw [ofNat_lt, decide_eq_true hy, wrap_succ (by omega)]
      simp only [cond_true]
      have step := ih (y + 1) (by omega) (by omega)
      by_cases e : y = r
      · rw [show (Int.ofNat y != Int.ofNat r) = false by subst e; simp]
        exact step
      · rw [show (Int.ofNat y != Int.ofNat r) = true from bne_iff_ne.2 (fun q => e (Int.ofNat.inj q))]
        have hne : textOf (rowOf w g y) ≠ [] := text_ne (k.1.2 y hy) (by rw [rowOf_length k.1.1 hy]; exact w1)
        have t1 := text_eq (R := Int.ofNat h) (C := Int.ofNat w) rfl rfl (by omega) w1 (by omega) k.1.1 hy hne
        have t2 := text_eq (R := Int.ofNat h) (C := Int.ofNat w) rfl rfl (by omega) w1 (by omega) hil hy (show textOf (rowOf w i y) ≠ [] by rw [hi y hy e]; exact hne)
        rw [show (i.drop (y * w)).take w = rowOf w i y from rfl, hi y hy e] at t2
        rw [t1, t2]
        simp only [optK_s, cond_true]
        rw [show (!(textOf (rowOf w g y) == textOf ((g.drop (y * w)).take w))) = false by rw [show (g.drop (y * w)).take w = rowOf w g y from rfl]; simp]
        exact step
    · have e : y = h := by omega
      subst e
      rw [ofNat_lt, decide_eq_false hy]
      rfl
theorem erase_two {h w : Nat} {g : List Cell} (hl : g.length = h * w) {r c : Nat} (hr : r < h) (hc : c < w) (p : Pen) : eraseG h w g r c 2 p = List.replicate (h * w) (32, 0, p) := by
  have hll := lineG_length hl (r : Int) (c : Int) 2 p
  have e : eraseG h w g r c 2 p = eraseTo h w (lineG h w g r c 2 p) r 2 p h := by
    unfold eraseG; rw [if_pos (by omega)]
  rw [e]
  refine rows_ext (eraseTo_length hll _ _ _ _) (by simp) fun y hy => ?_
  rw [eraseTo_row hll _ _ _ h (Nat.le_refl _) y hy, rep_row hy]
  by_cases e : y = r
  · subst e
    rw [if_neg (fun q => by omega)]
    unfold lineG
    rw [if_pos (by omega), if_neg (by decide), if_neg (by decide), if_pos rfl, wipe_row hl hy _ _ _ hy, if_pos rfl]
    exact fill_all (rowOf_length hl hy) p
  · rw [if_pos ⟨hy, by omega⟩]
    exact fill_all (rowOf_length hll hy) p
theorem wrap_pred {h : Nat} (h1 : 1 ≤ h) (h2 : h ≤ 60) : IntKind.i64.wrap (Int.ofNat h - 1) = (h : Int) - 1 := w64 (by show _ ≤ (h : Int) - 1; omega) (by show (h : Int) - 1 < _; omega)
theorem editLaws_true (x0 x1 : Int) (x2 x3 : List Int) (x4 x5 x6 x7 x8 x9 : Int) (h0 : in64 x0) (h1 : in64 x1) (h2 : ∀ y, y ∈ x2 → in64 y) (h3 : ∀ y, y ∈ x3 → in64 y) (h4 : in64 x4) (h5 : in64 x5) (h6 : in64 x6) (h7 : in64 x7) (h8 : in64 x8) (h9 : in64 x9) :
    linguistlaw8_EditLaws_F x0 x1 x2 x3 x4 x5 x6 x7 x8 x9 = some true := by
  unfold linguistlaw8_EditLaws_F
  obtain ⟨h, w, g, a1, a2, a3, a4, k, hg⟩ := keepGrid_eq h0 h1 h2 h3
  obtain ⟨⟨p0, p1, p2⟩, hp, hpr⟩ := pen_eq x7 x8 x9 h7 h8 h9
  obtain ⟨r, hr, r0, r1⟩ := within_eq x4 0 ((h : Int) - 1) h4.1 h4.2 (by omega) (by omega) (by omega)
  obtain ⟨c, hc, c0, c1⟩ := within_eq x5 0 ((w : Int) - 1) h5.1 h5.2 (by omega) (by omega) (by omega)
  obtain ⟨m, hm, m0, m1⟩ := within_eq x6 0 4 h6.1 h6.2 (by omega) (by omega) (by omega)
  obtain ⟨r, rfl⟩ : ∃ n : Nat, r = Int.ofNat n := ⟨r.toNat, by show r = ((r.toNat : Nat) : Int); omega⟩
  obtain ⟨c, rfl⟩ : ∃ n : Nat, c = Int.ofNat n := ⟨c.toNat, by show c = ((c.toNat : Nat) : Int); omega⟩
  obtain ⟨m, rfl⟩ : ∃ n : Nat, m = Int.ofNat n := ⟨m.toNat, by show m = ((m.toNat : Nat) : Int); omega⟩
  have r1' : (r : Int) ≤ (h : Int) - 1 := r1
  have c1' : (c : Int) ≤ (w : Int) - 1 := c1
  have m1' : (m : Int) ≤ 4 := m1
  have hl := k.1.1
  have hsm := small_mul (show h ≤ 64 by omega) (show w ≤ 64 by omega)
  have fm : farN (Int.ofNat m) = (m : Int) := by unfold farN; show max 0 (min (m : Int) 40) = _; omega
  rw [hg, hp]
  simp only [optK_s]
  rw [wrap_pred a1 (by omega), wrap_pred a3 (by omega), hr, hc, hm]
  simp only [optK_s]
  have hul := shiftG_length hl 0 ((h : Int) - 1) (m : Int) (p0, p1, p2)
  rw [editUp_eq rfl rfl (by omega) a3 (by omega) hl, fm]
  simp only [optK_s]
  rw [editDown_eq rfl rfl (by omega) a3 (by omega) hul, fm]
  simp only [optK_s, hide_eq linguistlaw8_EditLaws_L6]
  have hcc : ¬ ((0 : Int) < 0 ∨ (h : Int) ≤ (h : Int) - 1 ∨ (h : Int) - 1 < 0) := by omega
  have hu : ∀ y x, y < h → x < w → (rowOf w (shiftG h w (shiftG h w g 0 ((h : Int) - 1) (m : Int) (p0, p1, p2)) 0 ((h : Int) - 1) (-(m : Int)) (p0, p1, p2)) y).getD x dC = if m ≤ y then (rowOf w g y).getD x dC else (32, 0, p0, p1, p2) := fun y x hy hx => by
    rw [shiftG_row hul hcc hy, shRow_all a1 hy]
    by_cases q : m ≤ y
    · have e : ((y : Int) + -(m : Int)).toNat = y - m := by omega
      have e2 : (((y - m : Nat) : Int) + (m : Int)).toNat = y := by omega
      rw [if_pos q, if_pos (by omega), e, shiftG_row hl hcc (by omega), shRow_all a1 (by omega), if_pos (by omega), e2]
    · rw [if_neg q, if_neg (by omega), getD_rep _ _ hx]
  have L := laws_6 (a0 := Int.ofNat r) (a1 := Int.ofNat c) (p0 := p0) (p1 := p1) (p2 := p2) a2 a4 hl (shiftG_length hul _ _ _ _) hu (linguistlaw8_EditLaws_fu6 (Int.ofNat r) (Int.ofNat c) (Int.ofNat m) 0 (Int.ofNat h) (Int.ofNat w) g p0 p1 p2 (Int.ofNat h) (Int.ofNat w) (shiftG h w (shiftG h w g 0 ((h : Int) - 1) (m : Int) (p0, p1, p2)) 0 ((h : Int) - 1) (-(m : Int)) (p0, p1, p2))) 0 (Nat.zero_le _) (Nat.lt_of_lt_of_le (show h - 0 < 5000 by omega) (Nat.le_add_left 5000 _))
  rw [show Int.ofNat 0 = (0 : Int) from rfl] at L
  rw [L]
  simp only [optK_s, sumK]
  rw [insert_eq rfl rfl (by omega) a3 (by omega) hl]
  simp only [optK_s, hide_eq linguistlaw8_EditLaws_L17]
  have ki := k.ins (Int.ofNat r) (Int.ofNat c) (Int.ofNat m) hpr
  have L2 := laws_17 (a1 := Int.ofNat c) (a2 := Int.ofNat m) (p0 := p0) (p1 := p1) (p2 := p2) (r := r) (i := insG h w g (Int.ofNat r) (Int.ofNat c) (Int.ofNat m) (p0, p1, p2)) a2 a3 a4 k ki.1.1 (fun y hy q => by
      have := insG_row hl (r := r) (c := c) (by omega) (by omega) (Int.ofNat m) (p0, p1, p2) hy
      rw [if_neg q] at this
      exact this)
    (linguistlaw8_EditLaws_fu17 (Int.ofNat r) (Int.ofNat c) (Int.ofNat m) 0 (Int.ofNat h) (Int.ofNat w) g p0 p1 p2 (Int.ofNat h) (Int.ofNat w) (insG h w g (Int.ofNat r) (Int.ofNat c) (Int.ofNat m) (p0, p1, p2))) 0 (Nat.zero_le _) (Nat.lt_of_lt_of_le (show h - 0 < 5000 by omega) (Nat.le_add_left 5000 _))
  rw [show Int.ofNat 0 = (0 : Int) from rfl] at L2
  rw [L2]
  simp only [optK_s, sumK]
  have SR : ∀ l' : List Cell, l'.length = h * w → hide grid_Same_F (Int.ofNat h) (Int.ofNat w) l' (Int.ofNat h) (Int.ofNat w) l' = some true := fun l' q => by
    rw [same_eq _ _ _ _ _ _ (by omega)]; simp
  rw [wrap_pred a1 (by omega), editUp_eq rfl rfl (by omega) a3 (by omega) hl, show farN 0 = 0 from rfl, shift_zero hl]
  simp only [optK_s]
  rw [SR _ hl]
  simp only [optK_s, cond_true]
  rw [editDown_eq rfl rfl (by omega) a3 (by omega) hl, show shiftG h w g 1 0 (-farN 3) (p0, p1, p2) = g by unfold shiftG; rw [if_pos (by omega)]]
  simp only [optK_s]
  rw [SR _ hl]
  simp only [optK_s, cond_true]
  rw [editUp_eq rfl rfl (by omega) a3 (by omega) hl, show shiftG h w g 0 (Int.ofNat h) (farN 1) (p0, p1, p2) = g by unfold shiftG; rw [if_pos (.inr (.inl (Int.le_refl _)))]]
  simp only [optK_s]
  rw [SR _ hl]
  simp only [optK_s, cond_true]
  rw [gridRight_eq rfl rfl a1 (by omega) a3 (by omega) ki]
  simp only [optK_s, cond_true]
  rw [delete_eq rfl rfl (by omega) a3 (by omega) hl]
  simp only [optK_s]
  rw [gridRight_eq rfl rfl a1 (by omega) a3 (by omega) (k.del _ _ _ hpr)]
  simp only [optK_s, cond_true]
  rw [erase_eq rfl rfl (by omega) a3 (by omega) hl, new_eq rfl rfl a1 (by omega) a3 (by omega), show eraseG h w g (Int.ofNat r) (Int.ofNat c) 2 (p0, p1, p2) = List.replicate (h * w) (32, 0, p0, p1, p2) from erase_two hl (r := r) (c := c) (by omega) (by omega) _]
  simp only [optK_s]
  rw [SR _ (by simp)]
  rfl
end Go.Proofs.YtpneolkfeihkhaaAbs

/- EditLaws, called. -/
namespace Go.Proofs.YtpneolkfeihkhaaAbs
set_option linter.unusedVariables false
set_option maxRecDepth 100000
open Go Go.Proofs Go.RowKit
theorem editLaws_run (x0 : Int) (x1 : Int) (x2 : List (Int)) (x3 : List (Int)) (x4 : Int) (x5 : Int) (x6 : Int) (x7 : Int) (x8 : Int) (x9 : Int) (w0 : (Lit.int .i64 x0).wf = true) (w1 : (Lit.int .i64 x1).wf = true) (w2 : (List.length (α := Int) x2 ≤ 9223372036854775807 ∧ ∀ y : Int, List.Mem y x2 → ((Lit.int .i64 y).wf = true))) (w3 : (List.length (α := Int) x3 ≤ 9223372036854775807 ∧ ∀ y : Int, List.Mem y x3 → ((Lit.int .i64 y).wf = true))) (w4 : (Lit.int .i64 x4).wf = true) (w5 : (Lit.int .i64 x5).wf = true) (w6 : (Lit.int .i64 x6).wf = true) (w7 : (Lit.int .i64 x7).wf = true) (w8 : (Lit.int .i64 x8).wf = true) (w9 : (Lit.int .i64 x9).wf = true) :
    acall (R := Bool) (envL linguistlaw8_EditLaws_su linguistlaw8_EditLaws_ll3 cs0 (fun _ _ => false)) 1000 7 [.agg [.int .i64 x0, .int .i64 x1, .list (.one (.int .i64)) x2 false, .list (.one (.int .i64)) x3 false], .int .i64 x4, .int .i64 x5, .int .i64 x6, .agg [.int .i64 x7, .int .i64 x8, .int .i64 x9]] [] (resK .bool true (fun b => some b)) = some true := by
  have h := linguistlaw8_EditLaws_run x0 x1 x2 x3 x4 x5 x6 x7 x8 x9 (fun b => some b)
  rw [editLaws_true x0 x1 x2 x3 x4 x5 x6 x7 x8 x9 (wf_in64 w0) (wf_in64 w1) (wf_list64 w2) (wf_list64 w3) (wf_in64 w4) (wf_in64 w5) (wf_in64 w6) (wf_in64 w7) (wf_in64 w8) (wf_in64 w9)] at h
  exact h
end Go.Proofs.YtpneolkfeihkhaaAbs

/- Whatever reads as data is what the interpreter takes: rows of letters as arguments. -/
namespace Go.Proofs.YtpneolkfeihkhaaAbs
set_option linter.unusedVariables false
open Go Go.Proofs Go.RowKit Go.ChangeShapes Go.WideShapes Go.Deep
abbrev gd (w : World) : Nat → Prop := fun B => B < w.heap.size
def OpC (P : Program) (w : World) (c : CTy) (t : TypeId) (WF : c.den → Prop) : Prop :=
  ∀ {H : Type} {enc : TypeId × Value → H} {spare : Nat → Bool} {held : Bool} {fuel : Nat} {cs : List Value} {x : DataW H × List MemPlace}, DataW.trod enc P w 0 spare held fuel t cs = some x → ∃ (a : c.den) (v : Value), cs = [v] ∧ c.rep w (gd w) a v ∧ WF a
def OpR (P : Program) (w : World) (r : Row) (t : TypeId) (WF : r.den → Prop) : Prop :=
  ∀ {H : Type} {enc : TypeId × Value → H} {spare : Nat → Bool} {held : Bool} {fuel : Nat} {cs : List Value} {x : DataW H × List MemPlace}, DataW.trod enc P w 0 spare held fuel t cs = some x → ∃ a : r.den, r.rep w (gd w) a cs ∧ WF a
section
variable {P : Program} {w : World} {t e : TypeId}
theorem OpC.int {k : IntKind} (ht : P.underlying t = some (.int k)) : OpC P w (.int k) t (fun a => (Lit.int k a).wf = true) := by
  intro H enc spare held fuel cs x h
  obtain ⟨a, rfl, _, hw⟩ := DataW.trod_int ht h
  refine ⟨a, _, rfl, ⟨rfl, ?_⟩, hw⟩
  cases k <;> first | rfl | (simp [Lit.wf, IntKind.min, IntKind.max, IntKind.bits, IntKind.signed] at hw; simp [u8ok, kindEq]; omega)
theorem OpC.bool (ht : P.underlying t = some .bool) : OpC P w .bool t (fun _ => True) := by
  intro H enc spare held fuel cs x h
  obtain ⟨a, rfl, _⟩ := DataW.trod_bool ht h
  exact ⟨a, _, rfl, rfl, trivial⟩
theorem OpC.str (ht : P.underlying t = some .string) : OpC P w .str t (fun s => ∃ b : ByteArray, bytesOf b = s ∧ b.size ≤ 9223372036854775807) := by
  intro H enc spare held fuel cs x h
  obtain ⟨a, rfl, _, hl⟩ := DataW.trod_string ht h
  refine ⟨bytesOf a, _, rfl, ⟨a, rfl, rfl⟩, a, rfl, ?_⟩
  unfold maxLen at hl
  omega
theorem cells_eq {a : Addr} {n : Nat} {cs : List Value} {c : Array Value} (h : w.cells? 0 a n = some cs) (hb : ∃ e fr, w.heap[a.block]? = some (.cells c e fr)) (hs : a.spot = none) : cs = (c.toList.drop a.off).take n := by
  obtain ⟨_, hl, hc⟩ := World.cells?_some h
  obtain ⟨e, fr, hb⟩ := hb
  apply List.ext_getElem?
  intro i
  by_cases hi : i < n
  · have h1 : w.cell? (a.add i) = c[a.off + i]? := by
      unfold World.cell? Addr.add
      by_cases h0 : i = 0
      · subst h0; simp [hb, hs]
      · simp [h0, hb]
    rw [← hc i hi, h1, List.getElem?_take_of_lt hi, List.getElem?_drop, Array.getElem?_toList]
  · rw [List.getElem?_eq_none (by omega), List.getElem?_eq_none (by simp; omega)]
theorem rows_lie {r : Row} {WF : r.den → Prop} {a : Addr} {len : Nat} (hr : 0 < r.size) (hp : 0 < len) (hx : ∀ i, i < len → ∃ (b : r.den) (cs : List Value), w.cells? 0 (a.add (i * r.size)) r.size = some cs ∧ r.rep w (gd w) b cs ∧ WF b) :
    a.spot = none ∧ a.block < w.heap.size ∧ ∃ l : List r.den, l.length = len ∧ (∀ x ∈ l, WF x) ∧ ∃ vs, RepAll (fun x cs => r.rep w (gd w) x cs) l vs ∧ Lies w a.block a.off vs := by
  obtain ⟨b0, cs0, h0, _, _⟩ := hx 0 hp
  obtain ⟨_, hl0, hc0⟩ := World.cells?_some h0
  have h00 := hc0 0 hr
  have hlt : 0 < cs0.length := by omega
  rw [List.getElem?_eq_getElem hlt] at h00
  have hbk : (∃ c e fr, w.heap[a.block]? = some (.cells c e fr)) ∧ a.spot = none := by
    have hz : (a.add (0 * r.size)).add 0 = a := by simp [Addr.add]
    rw [hz] at h00
    unfold World.cell? at h00
    split at h00
    · rename_i c e fr hb
      refine ⟨⟨c, e, fr, hb⟩, ?_⟩
      split at h00
      · cases h00
      · rename_i hn; simpa using hn
    · cases h00
  obtain ⟨⟨c, e, fr, hb⟩, hs⟩ := hbk
  have hbl : a.block < w.heap.size := (Array.getElem?_eq_some_iff.1 hb).1
  refine ⟨hs, hbl, ?_⟩
  have key : ∀ k, k ≤ len → ∃ l : List r.den, l.length = k ∧ (∀ x ∈ l, WF x) ∧ RepAll (fun x cs => r.rep w (gd w) x cs) l ((c.toList.drop a.off).take (k * r.size)) := by
    intro k
    induction k with
    | zero => intro _; exact ⟨[], rfl, (fun x hx => by cases hx), by simp [RepAll]⟩
    | succ k ih =>
      intro hk
      obtain ⟨l, hl, hw, hR⟩ := ih (by omega)
      obtain ⟨b, cs, h1, h2, h3⟩ := hx k (by omega)
      have hcs : cs = ((c.toList.drop a.off).drop (k * r.size)).take r.size := by
        have := cells_eq (c := c) h1 ⟨e, fr, by unfold Addr.add; split <;> exact hb⟩ (by unfold Addr.add; split <;> first | exact hs | rfl)
        rw [this, List.drop_drop]
        congr 2
        unfold Addr.add; split <;> simp_all
      refine ⟨l ++ [b], by simp [hl], ?_, ?_⟩
      · intro x hx'
        rcases List.mem_append.1 hx' with h | h
        · exact hw x h
        · rw [List.mem_singleton] at h; subst h; exact h3
      · have : (k + 1) * r.size = k * r.size + r.size := by rw [Nat.add_mul, Nat.one_mul]
        rw [this, List.take_add, ← hcs]
        exact RepAll.append hR ⟨cs, [], by simp, h2, rfl⟩
  obtain ⟨l, hl, hw, hR⟩ := key len (Nat.le_refl _)
  exact ⟨l, hl, hw, _, hR, c, e, fr, _, hb, (List.take_append_drop (len * r.size) _).symm⟩
theorem OpC.slice {r : Row} {WF : r.den → Prop} (ht : P.underlying t = some (.slice e)) (hr : 0 < r.size) (hc : P.cellsOf e = r.size) (he : OpR P w r e WF) : OpC P w (.slice r) t (fun l => List.length (α := r.den) l ≤ 9223372036854775807 ∧ ∀ x : r.den, List.Mem x l → WF x) := by
  intro H enc spare held fuel cs x h
  rcases open_slice ht h with ⟨rfl, _⟩ | ⟨a, len, cap, m, n, D, Pl, rfl, _, hl, hm, hmm, _, hx⟩
  · exact ⟨([] : List r.den), _, rfl, ⟨none, 0, 0, rfl, rfl, Nat.le_refl _, fun _ => rfl, Or.inl rfl⟩, by simp, fun x hx => by cases hx⟩
  · have hmle : len ≤ m := by rw [hmm]; split <;> omega
    have hmax : len ≤ 9223372036854775807 := by unfold maxLen at hm; omega
    by_cases hp : 0 < len
    · obtain ⟨hs, hb, l, hll, hw, vs, hR, hL⟩ := rows_lie (w := w) (a := a) (len := len) (WF := WF) hr hp (fun i hi => by
        obtain ⟨c, h1, h2⟩ := hx i (by omega)
        obtain ⟨b, h3, h4⟩ := he h2
        rw [hc] at h1
        exact ⟨b, c, h1, h3, h4⟩)
      refine ⟨l, _, rfl, ⟨some a, len, cap, rfl, hll.symm, hl, (fun k => by cases k), Or.inr ⟨a.block, a.off, vs, ?_, hb, hR, hL⟩⟩, by rw [hll]; exact hmax, hw⟩
      obtain ⟨B, o, s⟩ := a
      simp only at hs
      rw [hs]
    · have h0 : len = 0 := by omega
      subst h0
      exact ⟨([] : List r.den), _, rfl, ⟨some a, 0, cap, rfl, rfl, hl, (fun k => by cases k), Or.inl rfl⟩, by simp, fun x hx => by cases hx⟩
theorem OpR.one {c : CTy} {WF : c.den → Prop} (h : OpC P w c t WF) : OpR P w (.one c) t WF := by
  intro H enc spare held fuel cs x k
  obtain ⟨a, v, rfl, h1, h2⟩ := h k
  exact ⟨a, ⟨v, rfl, h1⟩, h2⟩
/-- A struct's field, out of the whole's reading. -/
theorem trod_field {H : Type} {enc : TypeId × Value → H} {spare : Nat → Bool} {held : Bool} {fuel : Nat} {cs : List Value} {x : DataW H × List MemPlace} {fs : Array Field} (ht : P.underlying t = some (.struct fs)) (h : DataW.trod enc P w 0 spare held fuel t cs = some x) :
    cs.length = P.cellsOf t ∧ ∃ n, ∀ (i : Nat) (f : Field), fs[i]? = some f → ∃ y, DataW.trod enc P w 0 spare held n f.type ((cs.drop f.offset).take (P.cellsOf f.type)) = some y := by
  obtain ⟨xs, n, _, _, hn, hl, hf⟩ := DataW.trod_struct ht h
  refine ⟨hn, n, fun i f hi => ?_⟩
  have h1 := hf i f hi
  have hlt : i < xs.length := by rw [hl]; exact (Array.getElem?_eq_some_iff.1 hi).1
  rw [List.getElem?_eq_getElem hlt] at h1
  exact ⟨_, h1⟩
end
end Go.Proofs.YtpneolkfeihkhaaAbs
