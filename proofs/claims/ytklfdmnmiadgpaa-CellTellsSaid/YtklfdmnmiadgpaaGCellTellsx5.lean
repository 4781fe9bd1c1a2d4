-- Written by a program of this session (out of the kit's printer); Lean checks it.
import Derived.Test.YtklfdmnmiadgpaaGCellTellsx0
import Derived.Test.YtklfdmnmiadgpaaGCellTellsx1
import Derived.Test.YtklfdmnmiadgpaaGCellTellsx2
import Derived.Test.YtklfdmnmiadgpaaGCellTellsx3
import Derived.Test.YtklfdmnmiadgpaaGCellTellsx4
namespace Go.Proofs.Ytklfdmnmiadgpaa.GCellTells
open Go.RowKit Go.Proofs.YtklfdmnmiadgpaaW.PrintWords Go.Proofs.YtklfdmnmiadgpaaW.PrintLast Go.Proofs.YtklfdmnmiadgpaaW.PrintMore
attribute [local go_sem] max2_int min2_int max_two min_two max_three min_three max_four min_four   -- for this text's walks alone
set_option linter.unusedVariables false
set_option linter.unusedSimpArgs false

attribute [local go_sem high] eqA26 eqA30
/-! ### linguistlaw2_CellTells: function 5 -/
def linguistlaw2_CellTells.l0 : Nat → Int → List Int → List Int → Int → Int → Int → Int → Int → Int → Int → Int → Option (Bool)
  | 0, _, _, _, _, _, _, _, _, _, _, _ => none
  | k + 1, x0, x8, x18, x19, x20, x148000, x148001, x148002, x149000, x149001, x149002 => if x20 < x19 then (if 0 ≤ x20 then (if x20 < (x18.length : Int) then (linguistlaw2_CellTells.l0 k x0 x8 x18 x19 (wrap64 (x20 + 1)) x148000 x148001 x148002 x149000 x149001 (Go.bits .or .i64 x149002 (rd x18 x20))) else (none)) else (none)) else ((cell_Blank.f x148000 x148001 x148002).bind fun bt151 => ((cell_Width.f k x0).bind fun t157 => ((linguistref1_Width.f k x0).bind fun t158 => (if t157 = t158 then ((cell_Right.f x148000 x148001 x148002).bind fun t159 => ((linguistref1_RightPen.f x148000 x148001 x148002).bind fun t160 => (if (t159 == t160) = true then ((cell_With.f k x148000 x148001 x148002 x8).bind fun bt161 => (if (bt161.1 == x149000 && (bt161.2.1 == x149001 && (bt161.2.2 == x149002))) = true then (if (bt151.1 == 32 && (bt151.2.1 == 0 && ((bt151.2.2.1 == x148000 && (bt151.2.2.2.1 == x148001 && (bt151.2.2.2.2 == x148002)))))) = true then ((linguistlaw2_CellRuns.f k).bind fun t164 => (some t164)) else (none)) else (none))) else (none)))) else (none)))))
def linguistlaw2_CellTells.f (k : Nat) (a0 : Int) (a1_0 : Int) (a1_1 : Int) (a1_2 : Int) (l2 : List Int) : Option (Bool) := if 0 ≤ (mn (l2.length : Int) 5) then (if (mn (l2.length : Int) 5) ≤ (l2.length : Int) then (linguistlaw2_CellTells.l0 k a0 (l2.take ((mn (l2.length : Int) 5) : Int).toNat) (l2.take ((mn (l2.length : Int) 5) : Int).toNat) ((l2.take ((mn (l2.length : Int) 5) : Int).toNat).length : Int) 0 a1_0 a1_1 a1_2 a1_0 a1_1 a1_2) else (none)) else (none)
theorem linguistlaw2_CellTells.mono_l : ∀ k, (∀ y0 y1 y2 y3 y4 y5 y6 y7 y8 y9 y10, LeO (linguistlaw2_CellTells.l0 k y0 y1 y2 y3 y4 y5 y6 y7 y8 y9 y10) (linguistlaw2_CellTells.l0 (k + 1) y0 y1 y2 y3 y4 y5 y6 y7 y8 y9 y10))
  | 0 => fun _ _ _ _ _ _ _ _ _ _ _ r h => by simp [linguistlaw2_CellTells.l0] at h
  | k + 1 => by
    have ih0 := linguistlaw2_CellTells.mono_l k
    · intro y0 y1 y2 y3 y4 y5 y6 y7 y8 y9 y10
      unfold linguistlaw2_CellTells.l0
      repeat' first
      | (with_reducible exact ih0 _ _ _ _ _ _ _ _ _ _ _)
      | (with_reducible exact cell_Width.mono _ _)
      | (with_reducible exact cell_With.mono _ _ _ _ _)
      | (with_reducible exact linguistlaw2_CellRuns.mono _)
      | (with_reducible exact linguistref1_Width.mono _ _)
      | (with_reducible exact LeO.refl _)
      | (with_reducible exact LeO.none _)
      | (with_reducible refine LeO.ite ?_ ?_)
      | (with_reducible refine LeO.bind ?_ (fun _ => ?_))
      | exact ih0 _ _ _ _ _ _ _ _ _ _ _
      | exact cell_Width.mono _ _
      | exact cell_With.mono _ _ _ _ _
      | exact linguistlaw2_CellRuns.mono _
      | exact linguistref1_Width.mono _ _
      | exact LeO.none _
      | refine LeO.ite ?_ ?_
      | refine LeO.bind ?_ (fun _ => ?_)
theorem linguistlaw2_CellTells.mono : ∀ a0 a1 a2 a3 a4 k, LeO (linguistlaw2_CellTells.f k a0 a1 a2 a3 a4) (linguistlaw2_CellTells.f (k + 1) a0 a1 a2 a3 a4) := by
  intro a0 a1 a2 a3 a4 k
  have ih0 := linguistlaw2_CellTells.mono_l k
  unfold linguistlaw2_CellTells.f
  repeat' first
      | (with_reducible exact ih0 _ _ _ _ _ _ _ _ _ _ _)
      | (with_reducible exact cell_Width.mono _ _)
      | (with_reducible exact cell_With.mono _ _ _ _ _)
      | (with_reducible exact linguistlaw2_CellRuns.mono _)
      | (with_reducible exact linguistref1_Width.mono _ _)
      | (with_reducible exact LeO.refl _)
      | (with_reducible exact LeO.none _)
      | (with_reducible refine LeO.ite ?_ ?_)
      | (with_reducible refine LeO.bind ?_ (fun _ => ?_))
      | exact ih0 _ _ _ _ _ _ _ _ _ _ _
      | exact cell_Width.mono _ _
      | exact cell_With.mono _ _ _ _ _
      | exact linguistlaw2_CellRuns.mono _
      | exact linguistref1_Width.mono _ _
      | exact LeO.none _
      | refine LeO.ite ?_ ?_
      | refine LeO.bind ?_ (fun _ => ?_)
def linguistlaw2_CellTells.T9 : Bool × List (List Nat × List Nat) := (true, [([], []), ([0], [0]), ([], []), ([2, 1], [2]), ([1, 3], [1, 3]), ([4, 3], [4]), ([5], [5]), ([6, 5, 5], [5, 6]), ([5], [5]), ([8, 7, 5], [5, 8]), ([7, 9, 5], [5, 7, 9]), ([5, 10], [5, 10]), ([11, 9], [11]), ([12], [12]), ([12], [12]), ([13, 14, 12, 12], [12, 13, 14]), ([12], [12]), ([15, 16, 12], [12, 15, 16]), ([12, 17], [12, 17]), ([18, 15], [18]), ([19], [19]), ([19], [19]), ([21, 19], [19, 21]), ([20, 22, 19], [19, 20, 22]), ([19, 23], [19, 23]), ([24, 19], [24]), ([25, 25], [25]), ([25, 26], [25, 26]), ([27, 26, 0, 1, 2, 3, 4, 5, 6, 7, 8, 9, 10, 11, 12, 13, 14, 15, 16, 17, 18, 19, 20, 21, 22, 23, 24, 25, 26, 27], [27])])
def linguistlaw2_CellTells.B9 : List Nat := [0, 1, 0, 7, 15, 31, 63, 127, 63, 511, 1023, 2047, 4095, 8191, 8191, 32767, 8191, 131071, 262143, 524287, 1048575, 1048575, 3145727, 8388607, 16777215, 33554431, 67108863, 134217727, 268435455]
theorem linguistlaw2_CellTells.tab9 : rtab .any (opsOf Try.f5 9) = linguistlaw2_CellTells.T9 := by kernel_rfl
theorem linguistlaw2_CellTells.bits9 : waitsOk linguistlaw2_CellTells.T9.2 linguistlaw2_CellTells.B9 = true := by kernel_rfl
set_option maxHeartbeats 8000000 in
set_option maxRecDepth 100000 in
theorem linguistlaw2_CellTells.calls (k : Nat) (a0 : Int) (a1_0 : Int) (a1_1 : Int) (a1_2 : Int) (A2 : Option Addr) (c2 : Nat) (l2 : List Int) (r : Bool) (w : World) (hr2 : Kd.C (Kd.int .i64) w A2 l2.length l2) (hc2 : l2.length ≤ c2) (h : linguistlaw2_CellTells.f k a0 a1_0 a1_1 a1_2 l2 = some r) :
    Calls Try.prog 5 #[.int .i32 a0, .agg #[.int .i64 a1_0, .int .i64 a1_1, .int .i64 a1_2], .slice A2 l2.length c2] w fun e w' => e = .returned (.bool r) ∧ Below w.heap.size w w' := by
  have hu26 := Try.underlying26
  have hu30 := Try.underlying30
  have HR2 := Aside0.mk hr2
  have HC2 := Aside0.mk hc2
  clear hr2 hc2
  have HB := Aside0.mk (Below.refl w.heap.size w)
  have H : (if 0 ≤ (mn (l2.length : Int) 5) then (if (mn (l2.length : Int) 5) ≤ (l2.length : Int) then (linguistlaw2_CellTells.l0 k a0 (l2.take ((mn (l2.length : Int) 5) : Int).toNat) (l2.take ((mn (l2.length : Int) 5) : Int).toNat) ((l2.take ((mn (l2.length : Int) 5) : Int).toNat).length : Int) 0 a1_0 a1_1 a1_2 a1_0 a1_1 a1_2) else (none)) else (none)) = some r := h
  clear h
  obtain ⟨ji4, hji4⟩ : ∃ j_ : Int, (mn (l2.length : Int) 5) = j_ := ⟨_, rfl⟩
  replace H : (if 0 ≤ (ji4) then (if (ji4) ≤ (l2.length : Int) then (linguistlaw2_CellTells.l0 k a0 (l2.take ((ji4) : Int).toNat) (l2.take ((ji4) : Int).toNat) ((l2.take ((ji4) : Int).toNat).length : Int) 0 a1_0 a1_1 a1_2 a1_0 a1_1 a1_2) else (none)) else (none)) = some r := by first | (rw [hji4] at H; exact H) | (simp only [hji4] at H ⊢; exact H)
  (try (have hji4h : ji4 ≤ 5 := by (rw [← hji4]; unfold mn; (repeat' split) <;> omega)))
  (try (have hji4g : ji4 ≤ 64 := by omega))
  (try (have hji4l : 0 ≤ ji4 := by (rw [← hji4]; unfold mn; (repeat' split) <;> omega)))
  (try (have hji4m : 0 ≤ ji4 := by omega))
  have hji4_ : (if 5 < (l2.length : Int) then 5 else (l2.length : Int)) = ji4 := hji4
  (try (have hji4n : ji4.toNat ≤ l2.length := by (have f_ := hji4_; split at f_ <;> omega)))
  by_cases c5 : 0 ≤ (ji4)
  · rw [if_pos c5] at H
    have c5b0 := eq_true c5
    have c5b1 : decide (0 ≤ (ji4)) = true := decide_eq_true c5
    clear c5
    by_cases c6 : (ji4) ≤ (l2.length : Int)
    · rw [if_pos c6] at H
      have c6b0 := eq_true c6
      have c6b1 : decide ((ji4) ≤ (l2.length : Int)) = true := decide_eq_true c6
      clear c6
      have H' := Aside0.mk H
      clear H
      go_enter Try.func5, Try.ntmps5
      go_wp2_with (first | ((with_reducible refine gate_dst (N := 4) rfl ?_); refine box_event ?hg (N := 4) ?hd (cs := #[.int .i64 a1_0, .int .i64 a1_1, .int .i64 a1_2]) (t := 26) ?hr ?_; (case hd => rfl); (case hg => rfl); (case hr => first | (go_simp; done) | (go_simp; rfl)); intro gb147 hg w7 hbox hb; have n0_ := Aside0.mk (below_step (by repeat (first | (with_reducible first | exact HB.out | apply below_alloc | apply pw_below_drewN | apply below_drew1) | exact HB.out)) hb); have n1_ := Aside0.mk (hbox); have n2_ := Aside0.mk ((by rw [hg]; exact (below_size (by repeat (first | (with_reducible first | exact HB.out | apply below_alloc | apply pw_below_drewN | apply below_drew1) | exact HB.out))) : w.heap.size ≤ gb147)); have n3_ := Aside0.mk ((by rw [hg]; exact (below_size (by repeat (first | (with_reducible first | exact HB.out | apply below_alloc | apply pw_below_drewN | apply below_drew1) | exact HB.out))) : w.heap.size ≤ gb147)); clear HB; have HB := n0_; have BK147 := n1_; have GW147 := n2_; have GE147 := n3_; clear n0_ n1_ n2_ n3_; clear hb hbox hg; have hcz8_0 : w7.cell? ⟨gb147, 0, none⟩ = some (.int .i64 a1_0) := (blk_cell BK147.out 0).trans rfl; have hcz8_1 : w7.cell? ⟨gb147, 1, none⟩ = some (.int .i64 a1_1) := (blk_cell BK147.out 1).trans rfl; have hcz8_2 : w7.cell? ⟨gb147, 2, none⟩ = some (.int .i64 a1_2) := (blk_cell BK147.out 2).trans rfl; have hfz8_0 := blk_frozen BK147.out 0; have hfz8_1 := blk_frozen BK147.out 1; have hfz8_2 := blk_frozen BK147.out 2) | ((with_reducible refine gate_dst (N := 7) rfl ?_); refine box_event ?hg (N := 7) ?hd (cs := #[.int .i64 0, .int .i64 0, .int .i64 0]) (t := 26) ?hr ?_; (case hd => rfl); (case hg => rfl); (case hr => first | (go_simp; done) | (go_simp; rfl)); intro gb148 hg w9 hbox hb; have n0_ := Aside0.mk (blk_below (g := gb147) (o := .cells #[.int .i64 a1_0, .int .i64 a1_1, .int .i64 a1_2] 26 (0, 0)) (by (with_reducible repeat (first | refine blk_drewN ?_ _ | refine blk_drew ?_ | refine blk_alloc ?_ _)); exact BK147.out) hb); have n1_ := Aside0.mk (below_step (by repeat (first | (with_reducible first | exact HB.out | apply below_alloc | apply pw_below_drewN | apply below_drew1 | refine below_set ?_ GE147.out) | exact HB.out)) hb); have n2_ := Aside0.mk (hbox); have n3_ := Aside0.mk ((by rw [hg]; exact (below_size (by repeat (first | (with_reducible first | exact HB.out | apply below_alloc | apply pw_below_drewN | apply below_drew1 | refine below_set ?_ GE147.out) | exact HB.out))) : w.heap.size ≤ gb148)); have n4_ := Aside0.mk ((by rw [hg]; exact (below_size (by repeat (first | (with_reducible first | exact HB.out | apply below_alloc | apply pw_below_drewN | apply below_drew1 | refine below_set ?_ GE147.out) | exact HB.out))) : w.heap.size ≤ gb148)); have n5_ := Aside0.mk ((by rw [hg]; exact Nat.ne_of_lt (blk_lt (g := gb147) (o := .cells #[.int .i64 a1_0, .int .i64 a1_1, .int .i64 a1_2] 26 (0, 0)) (by (with_reducible repeat (first | refine blk_drewN ?_ _ | refine blk_drew ?_ | refine blk_alloc ?_ _)); exact BK147.out)) : gb147 ≠ gb148)); have n6_ := Aside0.mk ((by rw [hg]; exact Nat.ne_of_gt (blk_lt (g := gb147) (o := .cells #[.int .i64 a1_0, .int .i64 a1_1, .int .i64 a1_2] 26 (0, 0)) (by (with_reducible repeat (first | refine blk_drewN ?_ _ | refine blk_drew ?_ | refine blk_alloc ?_ _)); exact BK147.out)) : gb148 ≠ gb147)); clear BK147; clear HB; have BK147 := n0_; have HB := n1_; have BK148 := n2_; have GW148 := n3_; have GE148 := n4_; have NB147_148 := n5_; have NB148_147 := n6_; clear n0_ n1_ n2_ n3_ n4_ n5_ n6_; clear hb hbox hg; have hnb10 := NB148_147.out; have hnc10 := NB147_148.out; have hcz11_0 : w9.cell? ⟨gb148, 0, none⟩ = some (.int .i64 0) := (blk_cell BK148.out 0).trans rfl; have hcz11_1 : w9.cell? ⟨gb148, 1, none⟩ = some (.int .i64 0) := (blk_cell BK148.out 1).trans rfl; have hcz11_2 : w9.cell? ⟨gb148, 2, none⟩ = some (.int .i64 0) := (blk_cell BK148.out 2).trans rfl; have hfz11_0 := blk_frozen BK148.out 0; have hfz11_1 := blk_frozen BK148.out 1; have hfz11_2 := blk_frozen BK148.out 2; obtain ⟨i012, hi012, _, hsz12, _⟩ := info_parts info3; obtain ⟨hcut12, hA12, hC12⟩ := print_take_of (P := Try.prog) (Value.int .i64) 0 37 3 .i64 Try.underlying37 hi012 hsz12 A2 c2 l2 (ji4) (of_decide_eq_true (by first | (with_reducible assumption) | assumption)) (of_decide_eq_true (by first | (with_reducible assumption) | assumption)) HC2.out; have HR149 := Aside0.mk (Kd.C_of_reads (h1 := fun _ => rfl) (hA12 _ (Kd.reads_of_C HR2.out))); have HC149 := Aside0.mk hC12; clear hA12 hC12 hi012 hsz12))
      go_loopg [20] k (fun kq v20 w' => ∃ (x20_1 : Int) (x149002_1 : Int), v20 = .int .i64 x20_1 ∧ Aside0 (linguistlaw2_CellTells.l0 kq a0 (l2.take ((ji4) : Int).toNat) (l2.take ((ji4) : Int).toNat) ((l2.take ((ji4) : Int).toNat).length : Int) x20_1 a1_0 a1_1 a1_2 a1_0 a1_1 x149002_1 = some r) ∧ Aside0 (kq ≤ k) ∧ Aside0 (w'.heap[gb147]? = some (.cells #[.int .i64 a1_0, .int .i64 a1_1, .int .i64 a1_2] 26 (0, 0))) ∧ Aside0 (w'.heap[gb148]? = some (.cells #[.int .i64 a1_0, .int .i64 a1_1, .int .i64 x149002_1] 26 (0, 0))) ∧ Aside0 (Below w.heap.size w w'))
      case atStart => exact ⟨(0), (a1_2), (by first | rfl | (simp; done) | (simp [*]; done)), H', ⟨Nat.le_refl _⟩, ⟨by (with_reducible repeat (first | refine blk_drewN ?_ _ | refine blk_drew ?_ | refine blk_alloc ?_ _)); refine blk_far ?_ NB147_148.out _; (with_reducible repeat (first | refine blk_drewN ?_ _ | refine blk_drew ?_ | refine blk_alloc ?_ _)); refine blk_far ?_ NB147_148.out _; (with_reducible repeat (first | refine blk_drewN ?_ _ | refine blk_drew ?_ | refine blk_alloc ?_ _)); refine blk_far ?_ NB147_148.out _; (with_reducible repeat (first | refine blk_drewN ?_ _ | refine blk_drew ?_ | refine blk_alloc ?_ _)); exact BK147.out⟩, ⟨by (with_reducible repeat (first | refine blk_drewN ?_ _ | refine blk_drew ?_ | refine blk_alloc ?_ _)); refine blk_put (cs := #[.int .i64 a1_0, .int .i64 a1_1, .int .i64 0]) ?_ 2 _ rfl; (with_reducible repeat (first | refine blk_drewN ?_ _ | refine blk_drew ?_ | refine blk_alloc ?_ _)); refine blk_put (cs := #[.int .i64 a1_0, .int .i64 0, .int .i64 0]) ?_ 1 _ rfl; (with_reducible repeat (first | refine blk_drewN ?_ _ | refine blk_drew ?_ | refine blk_alloc ?_ _)); refine blk_put (cs := #[.int .i64 0, .int .i64 0, .int .i64 0]) ?_ 0 _ rfl; (with_reducible repeat (first | refine blk_drewN ?_ _ | refine blk_drew ?_ | refine blk_alloc ?_ _)); exact BK148.out⟩, ⟨by repeat (first | (with_reducible first | exact HB.out | apply below_alloc | apply pw_below_drewN | apply below_drew1 | refine below_set ?_ GE147.out | refine below_set ?_ GE148.out) | exact HB.out)⟩⟩
      case round =>
        clear H'
        try clear c1
        try clear c2
        try clear p2
        try clear c5
        try clear c5b0
        try clear c5b1
        try clear c6
        try clear c6b0
        try clear c6b1
        try clear c10
        try clear hcz11_0
        try clear hcz11_1
        try clear hcz11_2
        try clear hcz8_0
        try clear hcz8_1
        try clear hcz8_2
        try clear hfz11_0
        try clear hfz11_1
        try clear hfz11_2
        try clear hfz8_0
        try clear hfz8_1
        try clear hfz8_2
        obtain ⟨x20_1, x149002_1, rfl, HA, HK1, BK147, BK148, HB⟩ := hrel
        cases gk with
        | zero => exact absurd HA.out (by simp [linguistlaw2_CellTells.l0])
        | succ k1 =>
          have H := HA.out
          clear HA
          simp only [linguistlaw2_CellTells.l0] at H
          by_cases c13 : x20_1 < ((l2.take ((ji4) : Int).toNat).length : Int)
          · rw [if_pos c13] at H
            (try (have c13m0 : decide (x20_1 < (max ji4 0)) = true := by have h_ := c13; rw [List.length_take] at h_; have e_ : ji4 ≤ (l2.length : Int) := (by first | (have f_ := hji4_; split at f_ <;> omega) | exact of_decide_eq_true (by first | (with_reducible assumption) | assumption)); first | (exact decide_eq_true (by omega)) | (exact decide_eq_false (by omega))))
            (try (have c13m1 := eq_true (of_decide_eq_true c13m0)))
            have c13b0 : decide (x20_1 < ((l2.take ((ji4) : Int).toNat).length : Int)) = true := decide_eq_true c13
            clear c13
            by_cases c14 : 0 ≤ x20_1
            · rw [if_pos c14] at H
              have c14b0 : decide (0 ≤ x20_1) = true := decide_eq_true c14
              clear c14
              by_cases c15 : x20_1 < ((l2.take ((ji4) : Int).toNat).length : Int)
              · rw [if_pos c15] at H
                (try (have c15m0 : decide (x20_1 < (max ji4 0)) = true := by have h_ := c15; rw [List.length_take] at h_; have e_ : ji4 ≤ (l2.length : Int) := (by first | (have f_ := hji4_; split at f_ <;> omega) | exact of_decide_eq_true (by first | (with_reducible assumption) | assumption)); first | (exact decide_eq_true (by omega)) | (exact decide_eq_false (by omega))))
                (try (have c15m1 := eq_true (of_decide_eq_true c15m0)))
                have c15b0 : decide (x20_1 < ((l2.take ((ji4) : Int).toNat).length : Int)) = true := decide_eq_true c15
                clear c15
                have H' := Aside0.mk H
                clear H
                have p150 : 0 ≤ (x20_1 : Int) := of_decide_eq_true (by first | (with_reducible assumption) | assumption)
                have q150 : x20_1 < ((l2.take ((ji4) : Int).toNat).length : Int) := of_decide_eq_true (by first | (with_reducible assumption) | assumption)
                obtain ⟨ad150, e150, hx150_0⟩ := Kd.at_int HR149.out x20_1 p150 q150
                cases e150
                replace hx150_0 := (HB.out.cell (World.block_lt_of_cell? w _ hx150_0)).trans hx150_0
                replace p150 := eq_true p150
                replace q150 := eq_true q150
                have hnb16 := NB148_147.out
                have hnc16 := NB147_148.out
                have hcz17_0 : wr.cell? ⟨gb148, 0, none⟩ = some (.int .i64 a1_0) := (blk_cell BK148.out 0).trans rfl
                have hcz17_1 : wr.cell? ⟨gb148, 1, none⟩ = some (.int .i64 a1_1) := (blk_cell BK148.out 1).trans rfl
                have hcz17_2 : wr.cell? ⟨gb148, 2, none⟩ = some (.int .i64 x149002_1) := (blk_cell BK148.out 2).trans rfl
                have hfz17_0 := blk_frozen BK148.out 0
                have hfz17_1 := blk_frozen BK148.out 1
                have hfz17_2 := blk_frozen BK148.out 2
                go_wp2
                go_roundg k1
                case measure => have := HK1.out; omega
                case rel => exact ⟨(wrap64 (x20_1 + 1)), (Go.bits .or .i64 x149002_1 (rd (l2.take ((ji4) : Int).toNat) x20_1)), (by first | rfl | (simp; done) | (simp [*]; done)), H', ⟨by have := HK1.out; omega⟩, ⟨by (with_reducible repeat (first | refine blk_drewN ?_ _ | refine blk_drew ?_ | refine blk_alloc ?_ _)); refine blk_far ?_ NB147_148.out _; (with_reducible repeat (first | refine blk_drewN ?_ _ | refine blk_drew ?_ | refine blk_alloc ?_ _)); exact BK147.out⟩, ⟨by (with_reducible repeat (first | refine blk_drewN ?_ _ | refine blk_drew ?_ | refine blk_alloc ?_ _)); refine blk_put (cs := #[.int .i64 a1_0, .int .i64 a1_1, .int .i64 x149002_1]) ?_ 2 _ rfl; (with_reducible repeat (first | refine blk_drewN ?_ _ | refine blk_drew ?_ | refine blk_alloc ?_ _)); exact BK148.out⟩, ⟨by repeat (first | (with_reducible first | exact HB.out | apply below_alloc | apply pw_below_drewN | apply below_drew1 | refine below_set ?_ GE147.out | refine below_set ?_ GE148.out) | exact HB.out)⟩⟩
              · rw [if_neg c15] at H
                exact absurd H (by simp)
            · rw [if_neg c14] at H
              exact absurd H (by simp)
          · rw [if_neg c13] at H
            (try (have c13m0 : decide (x20_1 < (max ji4 0)) = false := by have h_ := c13; rw [List.length_take] at h_; have e_ : ji4 ≤ (l2.length : Int) := (by first | (have f_ := hji4_; split at f_ <;> omega) | exact of_decide_eq_true (by first | (with_reducible assumption) | assumption)); first | (exact decide_eq_true (by omega)) | (exact decide_eq_false (by omega))))
            have c13b0 : decide (x20_1 < ((l2.take ((ji4) : Int).toNat).length : Int)) = false := decide_eq_false c13
            clear c13
            replace H := Option.bind_eq_some_iff.mp H
            obtain ⟨⟨t151, t152, t153, t154, t155⟩, A180, H⟩ := H
            replace H : ((cell_Width.f k1 a0).bind fun t157 => ((linguistref1_Width.f k1 a0).bind fun t158 => (if t157 = t158 then ((cell_Right.f a1_0 a1_1 a1_2).bind fun t159 => ((linguistref1_RightPen.f a1_0 a1_1 a1_2).bind fun t160 => (if (t159 == t160) = true then ((cell_With.f k1 a1_0 a1_1 a1_2 (l2.take ((ji4) : Int).toNat)).bind fun bt161 => (if (bt161.1 == a1_0 && (bt161.2.1 == a1_1 && (bt161.2.2 == x149002_1))) = true then (if (t151 == 32 && (t152 == 0 && ((t153 == a1_0 && (t154 == a1_1 && (t155 == a1_2)))))) = true then ((linguistlaw2_CellRuns.f k1).bind fun t164 => (some t164)) else (none)) else (none))) else (none)))) else (none)))) = some r := H
            have A18 := Aside0.mk A180
            clear A180
            replace H := Option.bind_eq_some_iff.mp H
            obtain ⟨t157, A190, H⟩ := H
            replace H : ((linguistref1_Width.f k1 a0).bind fun t158 => (if t157 = t158 then ((cell_Right.f a1_0 a1_1 a1_2).bind fun t159 => ((linguistref1_RightPen.f a1_0 a1_1 a1_2).bind fun t160 => (if (t159 == t160) = true then ((cell_With.f k1 a1_0 a1_1 a1_2 (l2.take ((ji4) : Int).toNat)).bind fun bt161 => (if (bt161.1 == a1_0 && (bt161.2.1 == a1_1 && (bt161.2.2 == x149002_1))) = true then (if (t151 == 32 && (t152 == 0 && ((t153 == a1_0 && (t154 == a1_1 && (t155 == a1_2)))))) = true then ((linguistlaw2_CellRuns.f k1).bind fun t164 => (some t164)) else (none)) else (none))) else (none)))) else (none))) = some r := H
            have A19 := Aside0.mk A190
            clear A190
            replace H := Option.bind_eq_some_iff.mp H
            obtain ⟨t158, A200, H⟩ := H
            replace H : (if t157 = t158 then ((cell_Right.f a1_0 a1_1 a1_2).bind fun t159 => ((linguistref1_RightPen.f a1_0 a1_1 a1_2).bind fun t160 => (if (t159 == t160) = true then ((cell_With.f k1 a1_0 a1_1 a1_2 (l2.take ((ji4) : Int).toNat)).bind fun bt161 => (if (bt161.1 == a1_0 && (bt161.2.1 == a1_1 && (bt161.2.2 == x149002_1))) = true then (if (t151 == 32 && (t152 == 0 && ((t153 == a1_0 && (t154 == a1_1 && (t155 == a1_2)))))) = true then ((linguistlaw2_CellRuns.f k1).bind fun t164 => (some t164)) else (none)) else (none))) else (none)))) else (none)) = some r := H
            have A20 := Aside0.mk A200
            clear A200
            by_cases c21 : t157 = t158
            · rw [if_pos c21] at H
              have c21b0 : (t157 == t158) = true := beq_iff_eq.mpr c21
              have c21b1 : (t157 != t158) = false := bne_eq_false_iff_eq.mpr c21
              clear c21
              replace H := Option.bind_eq_some_iff.mp H
              obtain ⟨t159, A220, H⟩ := H
              replace H : ((linguistref1_RightPen.f a1_0 a1_1 a1_2).bind fun t160 => (if (t159 == t160) = true then ((cell_With.f k1 a1_0 a1_1 a1_2 (l2.take ((ji4) : Int).toNat)).bind fun bt161 => (if (bt161.1 == a1_0 && (bt161.2.1 == a1_1 && (bt161.2.2 == x149002_1))) = true then (if (t151 == 32 && (t152 == 0 && ((t153 == a1_0 && (t154 == a1_1 && (t155 == a1_2)))))) = true then ((linguistlaw2_CellRuns.f k1).bind fun t164 => (some t164)) else (none)) else (none))) else (none))) = some r := H
              have A22 := Aside0.mk A220
              clear A220
              replace H := Option.bind_eq_some_iff.mp H
              obtain ⟨t160, A230, H⟩ := H
              replace H : (if (t159 == t160) = true then ((cell_With.f k1 a1_0 a1_1 a1_2 (l2.take ((ji4) : Int).toNat)).bind fun bt161 => (if (bt161.1 == a1_0 && (bt161.2.1 == a1_1 && (bt161.2.2 == x149002_1))) = true then (if (t151 == 32 && (t152 == 0 && ((t153 == a1_0 && (t154 == a1_1 && (t155 == a1_2)))))) = true then ((linguistlaw2_CellRuns.f k1).bind fun t164 => (some t164)) else (none)) else (none))) else (none)) = some r := H
              have A23 := Aside0.mk A230
              clear A230
              by_cases c24 : (t159 == t160) = true
              · rw [if_pos c24] at H
                have c24b0 : (t159 == t160) = true := c24
                (try (have c24b1 : decide (t159 = t160) = true := by simpa using c24))
                (try (have c24b2 : (t159 == t160) = true := by simpa using c24))
                clear c24
                replace H := Option.bind_eq_some_iff.mp H
                obtain ⟨⟨t161, t162, t163⟩, A250, H⟩ := H
                replace H : (if (t161 == a1_0 && (t162 == a1_1 && (t163 == x149002_1))) = true then (if (t151 == 32 && (t152 == 0 && ((t153 == a1_0 && (t154 == a1_1 && (t155 == a1_2)))))) = true then ((linguistlaw2_CellRuns.f k1).bind fun t164 => (some t164)) else (none)) else (none)) = some r := H
                have A25 := Aside0.mk A250
                clear A250
                by_cases c26 : (t161 == a1_0 && (t162 == a1_1 && (t163 == x149002_1))) = true
                · rw [if_pos c26] at H
                  have c26b0 : (t161 == a1_0 && (t162 == a1_1 && (t163 == x149002_1))) = true := c26
                  (try (have c26b1 : decide (t161 = a1_0 && (t162 == a1_1 && (t163 == x149002_1))) = true := by simpa using c26))
                  (try (have c26b2 : (t161 == a1_0 && (t162 == a1_1 && (t163 == x149002_1))) = true := by simpa using c26))
                  clear c26
                  by_cases c27 : (t151 == 32 && (t152 == 0 && ((t153 == a1_0 && (t154 == a1_1 && (t155 == a1_2)))))) = true
                  · rw [if_pos c27] at H
                    have c27b0 : (t151 == 32 && (t152 == 0 && ((t153 == a1_0 && (t154 == a1_1 && (t155 == a1_2)))))) = true := c27
                    (try (have c27b1 : decide (t151 = 32 && (t152 == 0 && ((t153 == a1_0 && (t154 == a1_1 && (t155 == a1_2)))))) = true := by simpa using c27))
                    (try (have c27b2 : (t151 == 32 && (t152 == 0 && ((t153 == a1_0 && (t154 == a1_1 && (t155 == a1_2)))))) = true := by simpa using c27))
                    clear c27
                    replace H := Option.bind_eq_some_iff.mp H
                    obtain ⟨t164, A280, H⟩ := H
                    replace H : (some t164) = some r := H
                    have A28 := Aside0.mk A280
                    clear A280
                    obtain rfl := Option.some.inj H
                    have hnb29 := NB147_148.out
                    have hnc29 := NB148_147.out
                    have hcz30_0 : wr.cell? ⟨gb147, 0, none⟩ = some (.int .i64 a1_0) := (blk_cell BK147.out 0).trans rfl
                    have hcz30_1 : wr.cell? ⟨gb147, 1, none⟩ = some (.int .i64 a1_1) := (blk_cell BK147.out 1).trans rfl
                    have hcz30_2 : wr.cell? ⟨gb147, 2, none⟩ = some (.int .i64 a1_2) := (blk_cell BK147.out 2).trans rfl
                    have hfz30_0 := blk_frozen BK147.out 0
                    have hfz30_1 := blk_frozen BK147.out 1
                    have hfz30_2 := blk_frozen BK147.out 2
                    try go_wp2_with (first | ((with_reducible refine gate_callee (f := 12) rfl ?_); refine goesL_ (some 31) rfl rfl Try.func12 (by kernel_rfl) rfl #[.agg #[.int .i64 a1_0, .int .i64 a1_1, .int .i64 a1_2]] rfl (by (try simp only [List.map_toArray, List.map_cons, List.map_nil]); first | done | rfl | (simp only [List.length_drop, List.length_take]; rfl) | (simp only [List.length_drop, List.length_take]; rw [Nat.min_eq_left (by first | assumption | omega)]; rfl)) ?_; (with_reducible refine (cell_Blank.calls a1_0 a1_1 a1_2 t151 t152 t153 t154 t155 _ A18.out).mono ?_); rintro e w31 ⟨rfl, hb⟩; refine ⟨_, rfl, ?_⟩; have n0_ := Aside0.mk (blk_below (g := gb147) (o := .cells #[.int .i64 a1_0, .int .i64 a1_1, .int .i64 a1_2] 26 (0, 0)) (by (with_reducible repeat (first | refine blk_drewN ?_ _ | refine blk_drew ?_ | refine blk_alloc ?_ _)); exact BK147.out) hb); have n1_ := Aside0.mk (blk_below (g := gb148) (o := .cells #[.int .i64 a1_0, .int .i64 a1_1, .int .i64 x149002_1] 26 (0, 0)) (by (with_reducible repeat (first | refine blk_drewN ?_ _ | refine blk_drew ?_ | refine blk_alloc ?_ _)); exact BK148.out) hb); have n2_ := Aside0.mk (below_step (by repeat (first | (with_reducible first | exact HB.out | apply below_alloc | apply pw_below_drewN | apply below_drew1 | refine below_set ?_ GE147.out | refine below_set ?_ GE148.out) | exact HB.out)) hb); clear BK147; clear BK148; clear HB; have BK147 := n0_; have BK148 := n1_; have HB := n2_; clear n0_ n1_ n2_; (try clear hb); (try clear hb2); (try clear hk); (try clear hi)) | ((with_reducible refine gate_dst (N := 11) rfl ?_); refine box_event ?hg (N := 11) ?hd (cs := #[.int .i32 0, .int .i64 0, .int .i64 0, .int .i64 0, .int .i64 0]) (t := 30) ?hr ?_; (case hd => rfl); (case hg => rfl); (case hr => first | (go_simp; done) | (go_simp; rfl)); intro gb156 hg w32 hbox hb; have n0_ := Aside0.mk (blk_below (g := gb147) (o := .cells #[.int .i64 a1_0, .int .i64 a1_1, .int .i64 a1_2] 26 (0, 0)) (by (with_reducible repeat (first | refine blk_drewN ?_ _ | refine blk_drew ?_ | refine blk_alloc ?_ _)); exact BK147.out) hb); have n1_ := Aside0.mk (blk_below (g := gb148) (o := .cells #[.int .i64 a1_0, .int .i64 a1_1, .int .i64 x149002_1] 26 (0, 0)) (by (with_reducible repeat (first | refine blk_drewN ?_ _ | refine blk_drew ?_ | refine blk_alloc ?_ _)); exact BK148.out) hb); have n2_ := Aside0.mk (below_step (by repeat (first | (with_reducible first | exact HB.out | apply below_alloc | apply pw_below_drewN | apply below_drew1 | refine below_set ?_ GE147.out | refine below_set ?_ GE148.out) | exact HB.out)) hb); have n3_ := Aside0.mk (hbox); have n4_ := Aside0.mk ((by rw [hg]; exact (below_size (by repeat (first | (with_reducible first | exact HB.out | apply below_alloc | apply pw_below_drewN | apply below_drew1 | refine below_set ?_ GE147.out | refine below_set ?_ GE148.out) | exact HB.out))) : w.heap.size ≤ gb156)); have n5_ := Aside0.mk ((by rw [hg]; exact (below_size (by repeat (first | (with_reducible first | exact HB.out | apply below_alloc | apply pw_below_drewN | apply below_drew1 | refine below_set ?_ GE147.out | refine below_set ?_ GE148.out) | exact HB.out))) : w.heap.size ≤ gb156)); have n6_ := Aside0.mk ((by rw [hg]; exact Nat.ne_of_lt (blk_lt (g := gb147) (o := .cells #[.int .i64 a1_0, .int .i64 a1_1, .int .i64 a1_2] 26 (0, 0)) (by (with_reducible repeat (first | refine blk_drewN ?_ _ | refine blk_drew ?_ | refine blk_alloc ?_ _)); exact BK147.out)) : gb147 ≠ gb156)); have n7_ := Aside0.mk ((by rw [hg]; exact Nat.ne_of_gt (blk_lt (g := gb147) (o := .cells #[.int .i64 a1_0, .int .i64 a1_1, .int .i64 a1_2] 26 (0, 0)) (by (with_reducible repeat (first | refine blk_drewN ?_ _ | refine blk_drew ?_ | refine blk_alloc ?_ _)); exact BK147.out)) : gb156 ≠ gb147)); have n8_ := Aside0.mk ((by rw [hg]; exact Nat.ne_of_lt (blk_lt (g := gb148) (o := .cells #[.int .i64 a1_0, .int .i64 a1_1, .int .i64 x149002_1] 26 (0, 0)) (by (with_reducible repeat (first | refine blk_drewN ?_ _ | refine blk_drew ?_ | refine blk_alloc ?_ _)); exact BK148.out)) : gb148 ≠ gb156)); have n9_ := Aside0.mk ((by rw [hg]; exact Nat.ne_of_gt (blk_lt (g := gb148) (o := .cells #[.int .i64 a1_0, .int .i64 a1_1, .int .i64 x149002_1] 26 (0, 0)) (by (with_reducible repeat (first | refine blk_drewN ?_ _ | refine blk_drew ?_ | refine blk_alloc ?_ _)); exact BK148.out)) : gb156 ≠ gb148)); clear BK147; clear BK148; clear HB; have BK147 := n0_; have BK148 := n1_; have HB := n2_; have BK156 := n3_; have GW156 := n4_; have GE156 := n5_; have NB147_156 := n6_; have NB156_147 := n7_; have NB148_156 := n8_; have NB156_148 := n9_; clear n0_ n1_ n2_ n3_ n4_ n5_ n6_ n7_ n8_ n9_; clear hb hbox hg; have hnb33 := NB156_147.out; have hnc33 := NB147_156.out; have hnb34 := NB156_148.out; have hnc34 := NB148_156.out; have hcz35_0 : w32.cell? ⟨gb156, 0, none⟩ = some (.int .i32 0) := (blk_cell BK156.out 0).trans rfl; have hcz35_1 : w32.cell? ⟨gb156, 1, none⟩ = some (.int .i64 0) := (blk_cell BK156.out 1).trans rfl; have hcz35_2 : w32.cell? ⟨gb156, 2, none⟩ = some (.int .i64 0) := (blk_cell BK156.out 2).trans rfl; have hcz35_3 : w32.cell? ⟨gb156, 3, none⟩ = some (.int .i64 0) := (blk_cell BK156.out 3).trans rfl; have hcz35_4 : w32.cell? ⟨gb156, 4, none⟩ = some (.int .i64 0) := (blk_cell BK156.out 4).trans rfl; have hfz35_0 := blk_frozen BK156.out 0; have hfz35_1 := blk_frozen BK156.out 1; have hfz35_2 := blk_frozen BK156.out 2; have hfz35_3 := blk_frozen BK156.out 3; have hfz35_4 := blk_frozen BK156.out 4))
                    have n0_ : Aside0 ((((((w32.setCell ⟨gb156, 0, none⟩ (.int .i32 t151)).setCell ⟨gb156, 1, none⟩ (.int .i64 t152)).setCell ⟨gb156, 2, none⟩ (.int .i64 t153)).setCell ⟨gb156, 3, none⟩ (.int .i64 t154)).setCell ⟨gb156, 4, none⟩ (.int .i64 t155)).heap[gb147]? = some (.cells #[.int .i64 a1_0, .int .i64 a1_1, .int .i64 a1_2] 26 (0, 0))) := ⟨by (with_reducible repeat (first | refine blk_drewN ?_ _ | refine blk_drew ?_ | refine blk_alloc ?_ _)); refine blk_far ?_ NB147_156.out _; (with_reducible repeat (first | refine blk_drewN ?_ _ | refine blk_drew ?_ | refine blk_alloc ?_ _)); refine blk_far ?_ NB147_156.out _; (with_reducible repeat (first | refine blk_drewN ?_ _ | refine blk_drew ?_ | refine blk_alloc ?_ _)); refine blk_far ?_ NB147_156.out _; (with_reducible repeat (first | refine blk_drewN ?_ _ | refine blk_drew ?_ | refine blk_alloc ?_ _)); refine blk_far ?_ NB147_156.out _; (with_reducible repeat (first | refine blk_drewN ?_ _ | refine blk_drew ?_ | refine blk_alloc ?_ _)); refine blk_far ?_ NB147_156.out _; (with_reducible repeat (first | refine blk_drewN ?_ _ | refine blk_drew ?_ | refine blk_alloc ?_ _)); exact BK147.out⟩
                    have n1_ : Aside0 ((((((w32.setCell ⟨gb156, 0, none⟩ (.int .i32 t151)).setCell ⟨gb156, 1, none⟩ (.int .i64 t152)).setCell ⟨gb156, 2, none⟩ (.int .i64 t153)).setCell ⟨gb156, 3, none⟩ (.int .i64 t154)).setCell ⟨gb156, 4, none⟩ (.int .i64 t155)).heap[gb148]? = some (.cells #[.int .i64 a1_0, .int .i64 a1_1, .int .i64 x149002_1] 26 (0, 0))) := ⟨by (with_reducible repeat (first | refine blk_drewN ?_ _ | refine blk_drew ?_ | refine blk_alloc ?_ _)); refine blk_far ?_ NB148_156.out _; (with_reducible repeat (first | refine blk_drewN ?_ _ | refine blk_drew ?_ | refine blk_alloc ?_ _)); refine blk_far ?_ NB148_156.out _; (with_reducible repeat (first | refine blk_drewN ?_ _ | refine blk_drew ?_ | refine blk_alloc ?_ _)); refine blk_far ?_ NB148_156.out _; (with_reducible repeat (first | refine blk_drewN ?_ _ | refine blk_drew ?_ | refine blk_alloc ?_ _)); refine blk_far ?_ NB148_156.out _; (with_reducible repeat (first | refine blk_drewN ?_ _ | refine blk_drew ?_ | refine blk_alloc ?_ _)); refine blk_far ?_ NB148_156.out _; (with_reducible repeat (first | refine blk_drewN ?_ _ | refine blk_drew ?_ | refine blk_alloc ?_ _)); exact BK148.out⟩
                    have n2_ : Aside0 ((((((w32.setCell ⟨gb156, 0, none⟩ (.int .i32 t151)).setCell ⟨gb156, 1, none⟩ (.int .i64 t152)).setCell ⟨gb156, 2, none⟩ (.int .i64 t153)).setCell ⟨gb156, 3, none⟩ (.int .i64 t154)).setCell ⟨gb156, 4, none⟩ (.int .i64 t155)).heap[gb156]? = some (.cells #[.int .i32 t151, .int .i64 t152, .int .i64 t153, .int .i64 t154, .int .i64 t155] 30 (0, 0))) := ⟨by (with_reducible repeat (first | refine blk_drewN ?_ _ | refine blk_drew ?_ | refine blk_alloc ?_ _)); refine blk_put (cs := #[.int .i32 t151, .int .i64 t152, .int .i64 t153, .int .i64 t154, .int .i64 0]) ?_ 4 _ rfl; (with_reducible repeat (first | refine blk_drewN ?_ _ | refine blk_drew ?_ | refine blk_alloc ?_ _)); refine blk_put (cs := #[.int .i32 t151, .int .i64 t152, .int .i64 t153, .int .i64 0, .int .i64 0]) ?_ 3 _ rfl; (with_reducible repeat (first | refine blk_drewN ?_ _ | refine blk_drew ?_ | refine blk_alloc ?_ _)); refine blk_put (cs := #[.int .i32 t151, .int .i64 t152, .int .i64 0, .int .i64 0, .int .i64 0]) ?_ 2 _ rfl; (with_reducible repeat (first | refine blk_drewN ?_ _ | refine blk_drew ?_ | refine blk_alloc ?_ _)); refine blk_put (cs := #[.int .i32 t151, .int .i64 0, .int .i64 0, .int .i64 0, .int .i64 0]) ?_ 1 _ rfl; (with_reducible repeat (first | refine blk_drewN ?_ _ | refine blk_drew ?_ | refine blk_alloc ?_ _)); refine blk_put (cs := #[.int .i32 0, .int .i64 0, .int .i64 0, .int .i64 0, .int .i64 0]) ?_ 0 _ rfl; (with_reducible repeat (first | refine blk_drewN ?_ _ | refine blk_drew ?_ | refine blk_alloc ?_ _)); exact BK156.out⟩
                    have n3_ : Aside0 (Below w.heap.size w (((((w32.setCell ⟨gb156, 0, none⟩ (.int .i32 t151)).setCell ⟨gb156, 1, none⟩ (.int .i64 t152)).setCell ⟨gb156, 2, none⟩ (.int .i64 t153)).setCell ⟨gb156, 3, none⟩ (.int .i64 t154)).setCell ⟨gb156, 4, none⟩ (.int .i64 t155))) := ⟨by repeat (first | (with_reducible first | exact HB.out | apply below_alloc | apply pw_below_drewN | apply below_drew1 | refine below_set ?_ GE147.out | refine below_set ?_ GE148.out | refine below_set ?_ GE156.out) | exact HB.out)⟩
                    (try clear BK147)
                    (try clear BK148)
                    (try clear BK156)
                    (try clear HB)
                    generalize (((((w32.setCell ⟨gb156, 0, none⟩ (.int .i32 t151)).setCell ⟨gb156, 1, none⟩ (.int .i64 t152)).setCell ⟨gb156, 2, none⟩ (.int .i64 t153)).setCell ⟨gb156, 3, none⟩ (.int .i64 t154)).setCell ⟨gb156, 4, none⟩ (.int .i64 t155)) = w36 at n0_ n1_ n2_ n3_ ⊢
                    have BK147 := n0_
                    have BK148 := n1_
                    have BK156 := n2_
                    have HB := n3_
                    clear n0_ n1_ n2_ n3_
                    have n0_ := Aside0.mk (blk_drew BK147.out)
                    have n1_ := Aside0.mk (blk_drew BK148.out)
                    have n2_ := Aside0.mk (blk_drew BK156.out)
                    have n3_ := Aside0.mk (below_drew1 HB.out)
                    clear BK147
                    clear BK148
                    clear BK156
                    clear HB
                    have BK147 := n0_
                    have BK148 := n1_
                    have BK156 := n2_
                    have HB := n3_
                    clear n0_ n1_ n2_ n3_
                    refine start_ (n := 29) (S := fun w' => w'.cell? ⟨gb147, 0, none⟩ = some (.int .i64 a1_0) ∧ w'.cell? ⟨gb147, 1, none⟩ = some (.int .i64 a1_1) ∧ w'.cell? ⟨gb147, 2, none⟩ = some (.int .i64 a1_2) ∧ w'.cell? ⟨gb148, 0, none⟩ = some (.int .i64 a1_0) ∧ w'.cell? ⟨gb148, 1, none⟩ = some (.int .i64 a1_1) ∧ w'.cell? ⟨gb148, 2, none⟩ = some (.int .i64 x149002_1) ∧ w'.cell? ⟨gb156, 0, none⟩ = some (.int .i32 t151) ∧ w'.cell? ⟨gb156, 1, none⟩ = some (.int .i64 t152) ∧ w'.cell? ⟨gb156, 2, none⟩ = some (.int .i64 t153) ∧ w'.cell? ⟨gb156, 3, none⟩ = some (.int .i64 t154) ∧ w'.cell? ⟨gb156, 4, none⟩ = some (.int .i64 t155)) (ds := []) #[false, false, false, false, false, false, false, false, false, false, false, false, false, false, false, false, false, false, false, false, false, false, false, false, false, false, false, false, false] (by kernel_rfl) rfl rfl ⟨(blk_cell BK147.out 0).trans rfl, (blk_cell BK147.out 1).trans rfl, (blk_cell BK147.out 2).trans rfl, (blk_cell BK148.out 0).trans rfl, (blk_cell BK148.out 1).trans rfl, (blk_cell BK148.out 2).trans rfl, (blk_cell BK156.out 0).trans rfl, (blk_cell BK156.out 1).trans rfl, (blk_cell BK156.out 2).trans rfl, (blk_cell BK156.out 3).trans rfl, (blk_cell BK156.out 4).trans rfl⟩ (fun hHeld => ?_); refine with_tabW linguistlaw2_CellTells.tab9 linguistlaw2_CellTells.bits9 (fun HT_ HW_ => ?_)
                    generalize w36.drew = w37 at BK147 BK148 BK156 HB hHeld ⊢
                    refine pure_ (i := 0) (N := some 32) (v := ?_) (a' := ?_) #[true, false, false, false, false, false, false, false, false, false, false, false, false, false, false, false, false, false, false, false, false, false, false, false, false, false, false, false, false] rfl rfl (any_of HT_.out (by kernel_rfl)) (fun _ _ _ h => h) (Or.inl ⟨by rfl, ?_⟩) ?_ ?_
                    rotate_left
                    · intro w'
                      go_simp
                      with_reducible rfl
                    rotate_left
                    · simp only [Act.put, List.setIfInBounds_toArray, List.set_cons_zero, List.set_cons_succ, i64_w, i32_w]
                      rfl
                    refine pure_ (i := 2) (N := some 34) (v := ?_) (a' := ?_) #[true, false, true, false, false, false, false, false, false, false, false, false, false, false, false, false, false, false, false, false, false, false, false, false, false, false, false, false, false] rfl rfl (any_of HT_.out (by kernel_rfl)) (fun _ _ _ h => h) (Or.inl ⟨by rfl, ?_⟩) ?_ ?_
                    rotate_left
                    · intro w'
                      go_simp
                      with_reducible rfl
                    rotate_left
                    · simp only [Act.put, List.setIfInBounds_toArray, List.set_cons_zero, List.set_cons_succ, i64_w, i32_w]
                      rfl
                    refine one_ (i := 1) (N := some 33) #[true, true, true, false, false, false, false, false, false, false, false, false, false, false, false, false, false, false, false, false, false, false, false, false, false, false, false, false, false] rfl rfl (one_of HT_.out (by kernel_rfl)) (by decide) (fun K hK => ?_)
                    refine goes_ Try.func8 (by kernel_rfl) rfl #[.int .i32 a0] (by rfl) rfl rfl (by (try simp only [List.map_toArray, List.map_cons, List.map_nil]); first | done | rfl | (simp only [List.length_drop, List.length_take]; rfl) | (simp only [List.length_drop, List.length_take]; rw [Nat.min_eq_left (by first | assumption | omega)]; rfl)) ?_
                    with_reducible refine (cell_Width.calls k1 a0 t157 _ A19.out).mono ?_
                    rintro e w38 ⟨rfl, hb⟩
                    refine ⟨_, rfl, ?_⟩
                    have n0_ := Aside0.mk (blk_below (g := gb147) (o := .cells #[.int .i64 a1_0, .int .i64 a1_1, .int .i64 a1_2] 26 (0, 0)) (by (with_reducible repeat (first | refine blk_drewN ?_ _ | refine blk_drew ?_ | refine blk_alloc ?_ _)); exact BK147.out) hb)
                    have n1_ := Aside0.mk (blk_below (g := gb148) (o := .cells #[.int .i64 a1_0, .int .i64 a1_1, .int .i64 x149002_1] 26 (0, 0)) (by (with_reducible repeat (first | refine blk_drewN ?_ _ | refine blk_drew ?_ | refine blk_alloc ?_ _)); exact BK148.out) hb)
                    have n2_ := Aside0.mk (blk_below (g := gb156) (o := .cells #[.int .i32 t151, .int .i64 t152, .int .i64 t153, .int .i64 t154, .int .i64 t155] 30 (0, 0)) (by (with_reducible repeat (first | refine blk_drewN ?_ _ | refine blk_drew ?_ | refine blk_alloc ?_ _)); exact BK156.out) hb)
                    have n3_ := Aside0.mk (below_step (by repeat (first | (with_reducible first | exact HB.out | apply below_alloc | apply pw_below_drewN | apply below_drew1 | refine below_set ?_ GE147.out | refine below_set ?_ GE148.out | refine below_set ?_ GE156.out) | exact HB.out)) hb)
                    clear BK147
                    clear BK148
                    clear BK156
                    clear HB
                    have BK147 := n0_
                    have BK148 := n1_
                    have BK156 := n2_
                    have HB := n3_
                    clear n0_ n1_ n2_ n3_
                    (try clear hb)
                    (try clear hb2)
                    (try clear hk)
                    (try clear hi)
                    refine hK.out _ _ ⟨(blk_cell BK147.out 0).trans rfl, (blk_cell BK147.out 1).trans rfl, (blk_cell BK147.out 2).trans rfl, (blk_cell BK148.out 0).trans rfl, (blk_cell BK148.out 1).trans rfl, (blk_cell BK148.out 2).trans rfl, (blk_cell BK156.out 0).trans rfl, (blk_cell BK156.out 1).trans rfl, (blk_cell BK156.out 2).trans rfl, (blk_cell BK156.out 3).trans rfl, (blk_cell BK156.out 4).trans rfl⟩ (fun hHeld => ?_)
                    clear hK K
                    refine norm_ (a' := ?_) ?_ ?_
                    rotate_left
                    · show Act.put _ (some 33) _ = _
                      simp only [Act.put, List.setIfInBounds_toArray, List.set_cons_zero, List.set_cons_succ, i64_w, i32_w]
                      rfl
                    refine one_ (i := 3) (N := some 35) #[true, true, true, true, false, false, false, false, false, false, false, false, false, false, false, false, false, false, false, false, false, false, false, false, false, false, false, false, false] rfl rfl (one_of HT_.out (by kernel_rfl)) (by decide) (fun K hK => ?_)
                    refine goes_ Try.func14 (by kernel_rfl) rfl #[.int .i32 a0] (by rfl) rfl rfl (by (try simp only [List.map_toArray, List.map_cons, List.map_nil]); first | done | rfl | (simp only [List.length_drop, List.length_take]; rfl) | (simp only [List.length_drop, List.length_take]; rw [Nat.min_eq_left (by first | assumption | omega)]; rfl)) ?_
                    with_reducible refine (linguistref1_Width.calls k1 a0 t158 _ A20.out).mono ?_
                    rintro e w39 ⟨rfl, hb⟩
                    refine ⟨_, rfl, ?_⟩
                    have n0_ := Aside0.mk (blk_below (g := gb147) (o := .cells #[.int .i64 a1_0, .int .i64 a1_1, .int .i64 a1_2] 26 (0, 0)) (by (with_reducible repeat (first | refine blk_drewN ?_ _ | refine blk_drew ?_ | refine blk_alloc ?_ _)); exact BK147.out) hb)
                    have n1_ := Aside0.mk (blk_below (g := gb148) (o := .cells #[.int .i64 a1_0, .int .i64 a1_1, .int .i64 x149002_1] 26 (0, 0)) (by (with_reducible repeat (first | refine blk_drewN ?_ _ | refine blk_drew ?_ | refine blk_alloc ?_ _)); exact BK148.out) hb)
                    have n2_ := Aside0.mk (blk_below (g := gb156) (o := .cells #[.int .i32 t151, .int .i64 t152, .int .i64 t153, .int .i64 t154, .int .i64 t155] 30 (0, 0)) (by (with_reducible repeat (first | refine blk_drewN ?_ _ | refine blk_drew ?_ | refine blk_alloc ?_ _)); exact BK156.out) hb)
                    have n3_ := Aside0.mk (below_step (by repeat (first | (with_reducible first | exact HB.out | apply below_alloc | apply pw_below_drewN | apply below_drew1 | refine below_set ?_ GE147.out | refine below_set ?_ GE148.out | refine below_set ?_ GE156.out) | exact HB.out)) hb)
                    clear BK147
                    clear BK148
                    clear BK156
                    clear HB
                    have BK147 := n0_
                    have BK148 := n1_
                    have BK156 := n2_
                    have HB := n3_
                    clear n0_ n1_ n2_ n3_
                    (try clear hb)
                    (try clear hb2)
                    (try clear hk)
                    (try clear hi)
                    refine hK.out _ _ ⟨(blk_cell BK147.out 0).trans rfl, (blk_cell BK147.out 1).trans rfl, (blk_cell BK147.out 2).trans rfl, (blk_cell BK148.out 0).trans rfl, (blk_cell BK148.out 1).trans rfl, (blk_cell BK148.out 2).trans rfl, (blk_cell BK156.out 0).trans rfl, (blk_cell BK156.out 1).trans rfl, (blk_cell BK156.out 2).trans rfl, (blk_cell BK156.out 3).trans rfl, (blk_cell BK156.out 4).trans rfl⟩ (fun hHeld => ?_)
                    clear hK K
                    refine norm_ (a' := ?_) ?_ ?_
                    rotate_left
                    · show Act.put _ (some 35) _ = _
                      simp only [Act.put, List.setIfInBounds_toArray, List.set_cons_zero, List.set_cons_succ, i64_w, i32_w]
                      rfl
                    refine pure_ (i := 4) (N := some 36) (v := ?_) (a' := ?_) #[true, true, true, true, true, false, false, false, false, false, false, false, false, false, false, false, false, false, false, false, false, false, false, false, false, false, false, false, false] rfl rfl (any_of HT_.out (by kernel_rfl)) (fun _ _ _ h => h) (Or.inl ⟨by rfl, ?_⟩) ?_ ?_
                    rotate_left
                    · intro w'
                      go_simp
                      with_reducible rfl
                    rotate_left
                    · simp only [Act.put, List.setIfInBounds_toArray, List.set_cons_zero, List.set_cons_succ, i64_w, i32_w]
                      rfl
                    refine pure_ (i := 5) (N := some 37) (v := ?_) (a' := ?_) #[true, true, true, true, true, true, false, false, false, false, false, false, false, false, false, false, false, false, false, false, false, false, false, false, false, false, false, false, false] rfl rfl (any_of HT_.out (by kernel_rfl)) (fun _ _ _ h => h) (Or.inl ⟨by rfl, ?_⟩) ?_ ?_
                    rotate_left
                    · intro w'
                      go_simp
                      with_reducible rfl
                    rotate_left
                    · simp only [Act.put, List.setIfInBounds_toArray, List.set_cons_zero, List.set_cons_succ, i64_w, i32_w]
                      rfl
                    refine take_ (i := 6) (N := some 38) (v := ?_) (a' := ?_) #[true, true, true, true, true, true, true, false, false, false, false, false, false, false, false, false, false, false, false, false, false, false, false, false, false, false, false, false, false] rfl rfl (take_ofW HT_.out HW_.out (by kernel_rfl)) (fun _ _ _ h => h) (Or.inl ⟨by rfl, ?_⟩) hHeld ?_ ?_
                    rotate_left
                    · rintro w' ⟨s0, s1, s2, s3, s4, s5, s6, s7, s8, s9, s10⟩
                      go_simp
                      with_reducible rfl
                    rotate_left
                    · simp only [Act.put, List.setIfInBounds_toArray, List.set_cons_zero, List.set_cons_succ, i64_w, i32_w]
                      rfl
                    refine take_ (i := 8) (N := some 40) (v := ?_) (a' := ?_) #[true, true, true, true, true, true, true, false, true, false, false, false, false, false, false, false, false, false, false, false, false, false, false, false, false, false, false, false, false] rfl rfl (take_ofW HT_.out HW_.out (by kernel_rfl)) (fun _ _ _ h => h) (Or.inl ⟨by rfl, ?_⟩) hHeld ?_ ?_
                    rotate_left
                    · rintro w' ⟨s0, s1, s2, s3, s4, s5, s6, s7, s8, s9, s10⟩
                      go_simp
                      with_reducible rfl
                    rotate_left
                    · simp only [Act.put, List.setIfInBounds_toArray, List.set_cons_zero, List.set_cons_succ, i64_w, i32_w]
                      rfl
                    refine one_ (i := 7) (N := some 39) #[true, true, true, true, true, true, true, true, true, false, false, false, false, false, false, false, false, false, false, false, false, false, false, false, false, false, false, false, false] rfl rfl (one_of HT_.out (by kernel_rfl)) (by decide) (fun K hK => ?_)
                    refine goes_ Try.func11 (by kernel_rfl) rfl #[.agg #[.int .i64 a1_0, .int .i64 a1_1, .int .i64 a1_2]] (by rfl) rfl rfl (by (try simp only [List.map_toArray, List.map_cons, List.map_nil]); first | done | rfl | (simp only [List.length_drop, List.length_take]; rfl) | (simp only [List.length_drop, List.length_take]; rw [Nat.min_eq_left (by first | assumption | omega)]; rfl)) ?_
                    with_reducible refine (cell_Right.calls a1_0 a1_1 a1_2 t159 _ A22.out).mono ?_
                    rintro e w40 ⟨rfl, hb⟩
                    refine ⟨_, rfl, ?_⟩
                    have n0_ := Aside0.mk (blk_below (g := gb147) (o := .cells #[.int .i64 a1_0, .int .i64 a1_1, .int .i64 a1_2] 26 (0, 0)) (by (with_reducible repeat (first | refine blk_drewN ?_ _ | refine blk_drew ?_ | refine blk_alloc ?_ _)); exact BK147.out) hb)
                    have n1_ := Aside0.mk (blk_below (g := gb148) (o := .cells #[.int .i64 a1_0, .int .i64 a1_1, .int .i64 x149002_1] 26 (0, 0)) (by (with_reducible repeat (first | refine blk_drewN ?_ _ | refine blk_drew ?_ | refine blk_alloc ?_ _)); exact BK148.out) hb)
                    have n2_ := Aside0.mk (blk_below (g := gb156) (o := .cells #[.int .i32 t151, .int .i64 t152, .int .i64 t153, .int .i64 t154, .int .i64 t155] 30 (0, 0)) (by (with_reducible repeat (first | refine blk_drewN ?_ _ | refine blk_drew ?_ | refine blk_alloc ?_ _)); exact BK156.out) hb)
                    have n3_ := Aside0.mk (below_step (by repeat (first | (with_reducible first | exact HB.out | apply below_alloc | apply pw_below_drewN | apply below_drew1 | refine below_set ?_ GE147.out | refine below_set ?_ GE148.out | refine below_set ?_ GE156.out) | exact HB.out)) hb)
                    clear BK147
                    clear BK148
                    clear BK156
                    clear HB
                    have BK147 := n0_
                    have BK148 := n1_
                    have BK156 := n2_
                    have HB := n3_
                    clear n0_ n1_ n2_ n3_
                    (try clear hb)
                    (try clear hb2)
                    (try clear hk)
                    (try clear hi)
                    refine hK.out _ _ ⟨(blk_cell BK147.out 0).trans rfl, (blk_cell BK147.out 1).trans rfl, (blk_cell BK147.out 2).trans rfl, (blk_cell BK148.out 0).trans rfl, (blk_cell BK148.out 1).trans rfl, (blk_cell BK148.out 2).trans rfl, (blk_cell BK156.out 0).trans rfl, (blk_cell BK156.out 1).trans rfl, (blk_cell BK156.out 2).trans rfl, (blk_cell BK156.out 3).trans rfl, (blk_cell BK156.out 4).trans rfl⟩ (fun hHeld => ?_)
                    clear hK K
                    refine norm_ (a' := ?_) ?_ ?_
                    rotate_left
                    · show Act.put _ (some 39) _ = _
                      simp only [Act.put, List.setIfInBounds_toArray, List.set_cons_zero, List.set_cons_succ, i64_w, i32_w]
                      rfl
                    refine one_ (i := 9) (N := some 41) #[true, true, true, true, true, true, true, true, true, true, false, false, false, false, false, false, false, false, false, false, false, false, false, false, false, false, false, false, false] rfl rfl (one_of HT_.out (by kernel_rfl)) (by decide) (fun K hK => ?_)
                    refine goes_ Try.func15 (by kernel_rfl) rfl #[.agg #[.int .i64 a1_0, .int .i64 a1_1, .int .i64 a1_2]] (by rfl) rfl rfl (by (try simp only [List.map_toArray, List.map_cons, List.map_nil]); first | done | rfl | (simp only [List.length_drop, List.length_take]; rfl) | (simp only [List.length_drop, List.length_take]; rw [Nat.min_eq_left (by first | assumption | omega)]; rfl)) ?_
                    with_reducible refine (linguistref1_RightPen.calls a1_0 a1_1 a1_2 t160 _ A23.out).mono ?_
                    rintro e w41 ⟨rfl, hb⟩
                    refine ⟨_, rfl, ?_⟩
                    have n0_ := Aside0.mk (blk_below (g := gb147) (o := .cells #[.int .i64 a1_0, .int .i64 a1_1, .int .i64 a1_2] 26 (0, 0)) (by (with_reducible repeat (first | refine blk_drewN ?_ _ | refine blk_drew ?_ | refine blk_alloc ?_ _)); exact BK147.out) hb)
                    have n1_ := Aside0.mk (blk_below (g := gb148) (o := .cells #[.int .i64 a1_0, .int .i64 a1_1, .int .i64 x149002_1] 26 (0, 0)) (by (with_reducible repeat (first | refine blk_drewN ?_ _ | refine blk_drew ?_ | refine blk_alloc ?_ _)); exact BK148.out) hb)
                    have n2_ := Aside0.mk (blk_below (g := gb156) (o := .cells #[.int .i32 t151, .int .i64 t152, .int .i64 t153, .int .i64 t154, .int .i64 t155] 30 (0, 0)) (by (with_reducible repeat (first | refine blk_drewN ?_ _ | refine blk_drew ?_ | refine blk_alloc ?_ _)); exact BK156.out) hb)
                    have n3_ := Aside0.mk (below_step (by repeat (first | (with_reducible first | exact HB.out | apply below_alloc | apply pw_below_drewN | apply below_drew1 | refine below_set ?_ GE147.out | refine below_set ?_ GE148.out | refine below_set ?_ GE156.out) | exact HB.out)) hb)
                    clear BK147
                    clear BK148
                    clear BK156
                    clear HB
                    have BK147 := n0_
                    have BK148 := n1_
                    have BK156 := n2_
                    have HB := n3_
                    clear n0_ n1_ n2_ n3_
                    (try clear hb)
                    (try clear hb2)
                    (try clear hk)
                    (try clear hi)
                    refine hK.out _ _ ⟨(blk_cell BK147.out 0).trans rfl, (blk_cell BK147.out 1).trans rfl, (blk_cell BK147.out 2).trans rfl, (blk_cell BK148.out 0).trans rfl, (blk_cell BK148.out 1).trans rfl, (blk_cell BK148.out 2).trans rfl, (blk_cell BK156.out 0).trans rfl, (blk_cell BK156.out 1).trans rfl, (blk_cell BK156.out 2).trans rfl, (blk_cell BK156.out 3).trans rfl, (blk_cell BK156.out 4).trans rfl⟩ (fun hHeld => ?_)
                    clear hK K
                    refine norm_ (a' := ?_) ?_ ?_
                    rotate_left
                    · show Act.put _ (some 41) _ = _
                      simp only [Act.put, List.setIfInBounds_toArray, List.set_cons_zero, List.set_cons_succ, i64_w, i32_w]
                      rfl
                    refine pure_ (i := 10) (N := some 42) (v := ?_) (a' := ?_) #[true, true, true, true, true, true, true, true, true, true, true, false, false, false, false, false, false, false, false, false, false, false, false, false, false, false, false, false, false] rfl rfl (any_of HT_.out (by kernel_rfl)) (fun _ _ _ h => h) (Or.inl ⟨by rfl, ?_⟩) ?_ ?_
                    rotate_left
                    · intro w'
                      go_simp
                      with_reducible rfl
                    rotate_left
                    · simp only [Act.put, List.setIfInBounds_toArray, List.set_cons_zero, List.set_cons_succ, i64_w, i32_w]
                      rfl
                    refine pure_ (i := 11) (N := some 43) (v := ?_) (a' := ?_) #[true, true, true, true, true, true, true, true, true, true, true, true, false, false, false, false, false, false, false, false, false, false, false, false, false, false, false, false, false] rfl rfl (any_of HT_.out (by kernel_rfl)) (fun _ _ _ h => h) (Or.inl ⟨by rfl, ?_⟩) ?_ ?_
                    rotate_left
                    · intro w'
                      go_simp
                      with_reducible rfl
                    rotate_left
                    · simp only [Act.put, List.setIfInBounds_toArray, List.set_cons_zero, List.set_cons_succ, i64_w, i32_w]
                      rfl
                    refine pure_ (i := 12) (N := some 44) (v := ?_) (a' := ?_) #[true, true, true, true, true, true, true, true, true, true, true, true, true, false, false, false, false, false, false, false, false, false, false, false, false, false, false, false, false] rfl rfl (any_of HT_.out (by kernel_rfl)) (fun _ _ _ h => h) (Or.inl ⟨by rfl, ?_⟩) ?_ ?_
                    rotate_left
                    · intro w'
                      go_simp
                      with_reducible rfl
                    rotate_left
                    · simp only [Act.put, List.setIfInBounds_toArray, List.set_cons_zero, List.set_cons_succ, i64_w, i32_w]
                      rfl
                    refine pure_ (i := 14) (N := some 46) (v := ?_) (a' := ?_) #[true, true, true, true, true, true, true, true, true, true, true, true, true, false, true, false, false, false, false, false, false, false, false, false, false, false, false, false, false] rfl rfl (any_of HT_.out (by kernel_rfl)) (fun _ _ _ h => h) (Or.inl ⟨by rfl, ?_⟩) ?_ ?_
                    rotate_left
                    · intro w'
                      go_simp
                      with_reducible rfl
                    rotate_left
                    · simp only [Act.put, List.setIfInBounds_toArray, List.set_cons_zero, List.set_cons_succ, i64_w, i32_w]
                      rfl
                    refine take_ (i := 13) (N := some 45) (v := ?_) (a' := ?_) #[true, true, true, true, true, true, true, true, true, true, true, true, true, true, true, false, false, false, false, false, false, false, false, false, false, false, false, false, false] rfl rfl (take_ofW HT_.out HW_.out (by kernel_rfl)) (fun _ _ _ h => h) (Or.inl ⟨by rfl, ?_⟩) hHeld ?_ ?_
                    rotate_left
                    · rintro w' ⟨s0, s1, s2, s3, s4, s5, s6, s7, s8, s9, s10⟩
                      go_simp
                      with_reducible rfl
                    rotate_left
                    · simp only [Act.put, List.setIfInBounds_toArray, List.set_cons_zero, List.set_cons_succ, i64_w, i32_w]
                      rfl
                    refine take_ (i := 16) (N := some 48) (v := ?_) (a' := ?_) #[true, true, true, true, true, true, true, true, true, true, true, true, true, true, true, false, true, false, false, false, false, false, false, false, false, false, false, false, false] rfl rfl (take_ofW HT_.out HW_.out (by kernel_rfl)) (fun _ _ _ h => h) (Or.inl ⟨by rfl, ?_⟩) hHeld ?_ ?_
                    rotate_left
                    · rintro w' ⟨s0, s1, s2, s3, s4, s5, s6, s7, s8, s9, s10⟩
                      go_simp
                      with_reducible rfl
                    rotate_left
                    · simp only [Act.put, List.setIfInBounds_toArray, List.set_cons_zero, List.set_cons_succ, i64_w, i32_w]
                      rfl
                    refine one_ (i := 15) (N := some 47) #[true, true, true, true, true, true, true, true, true, true, true, true, true, true, true, true, true, false, false, false, false, false, false, false, false, false, false, false, false] rfl rfl (one_of HT_.out (by kernel_rfl)) (by decide) (fun K hK => ?_)
                    refine goes_ Try.func16 (by kernel_rfl) rfl #[.agg #[.int .i64 a1_0, .int .i64 a1_1, .int .i64 a1_2], .slice A2 (l2.take ((ji4) : Int).toNat).length c2] (by rfl) rfl rfl (by (try simp only [List.map_toArray, List.map_cons, List.map_nil]); first | done | (rw [show (l2.take ((ji4) : Int).toNat).length = (ji4).toNat from (by rw [List.length_take]; have h_ : ((ji4) : Int) ≤ (l2.length : Int) := of_decide_eq_true (by first | (with_reducible assumption) | assumption); omega)] <;> rfl) | (simp only [hji4]; rfl) | rfl | (simp only [List.length_drop, List.length_take]; rfl) | (simp only [List.length_drop, List.length_take]; rw [Nat.min_eq_left (by first | assumption | omega)]; rfl)) ?_
                    with_reducible refine (cell_With.calls k1 a1_0 a1_1 a1_2 _ _ (l2.take ((ji4) : Int).toNat) t161 t162 t163 _ ?side1 ?side2 A25.out).mono ?_
                    (case side1 => repeat (first | exact (Kd.C_below HR149.out HB.out) | (with_reducible refine Kd.C_alloc ?_ _) | (with_reducible refine Kd.C_drewN ?_ _) | (with_reducible refine Kd.C_drew ?_)))
                    (case side2 => exact HC149.out)
                    rintro e w42 ⟨rfl, hb⟩
                    refine ⟨_, rfl, ?_⟩
                    have n0_ := Aside0.mk (blk_below (g := gb147) (o := .cells #[.int .i64 a1_0, .int .i64 a1_1, .int .i64 a1_2] 26 (0, 0)) (by (with_reducible repeat (first | refine blk_drewN ?_ _ | refine blk_drew ?_ | refine blk_alloc ?_ _)); exact BK147.out) hb)
                    have n1_ := Aside0.mk (blk_below (g := gb148) (o := .cells #[.int .i64 a1_0, .int .i64 a1_1, .int .i64 x149002_1] 26 (0, 0)) (by (with_reducible repeat (first | refine blk_drewN ?_ _ | refine blk_drew ?_ | refine blk_alloc ?_ _)); exact BK148.out) hb)
                    have n2_ := Aside0.mk (blk_below (g := gb156) (o := .cells #[.int .i32 t151, .int .i64 t152, .int .i64 t153, .int .i64 t154, .int .i64 t155] 30 (0, 0)) (by (with_reducible repeat (first | refine blk_drewN ?_ _ | refine blk_drew ?_ | refine blk_alloc ?_ _)); exact BK156.out) hb)
                    have n3_ := Aside0.mk (below_step (by repeat (first | (with_reducible first | exact HB.out | apply below_alloc | apply pw_below_drewN | apply below_drew1 | refine below_set ?_ GE147.out | refine below_set ?_ GE148.out | refine below_set ?_ GE156.out) | exact HB.out)) hb)
                    clear BK147
                    clear BK148
                    clear BK156
                    clear HB
                    have BK147 := n0_
                    have BK148 := n1_
                    have BK156 := n2_
                    have HB := n3_
                    clear n0_ n1_ n2_ n3_
                    (try clear hb)
                    (try clear hb2)
                    (try clear hk)
                    (try clear hi)
                    refine hK.out _ _ ⟨(blk_cell BK147.out 0).trans rfl, (blk_cell BK147.out 1).trans rfl, (blk_cell BK147.out 2).trans rfl, (blk_cell BK148.out 0).trans rfl, (blk_cell BK148.out 1).trans rfl, (blk_cell BK148.out 2).trans rfl, (blk_cell BK156.out 0).trans rfl, (blk_cell BK156.out 1).trans rfl, (blk_cell BK156.out 2).trans rfl, (blk_cell BK156.out 3).trans rfl, (blk_cell BK156.out 4).trans rfl⟩ (fun hHeld => ?_)
                    clear hK K
                    refine norm_ (a' := ?_) ?_ ?_
                    rotate_left
                    · show Act.put _ (some 47) _ = _
                      simp only [Act.put, List.setIfInBounds_toArray, List.set_cons_zero, List.set_cons_succ, i64_w, i32_w]
                      rfl
                    refine pure_ (i := 17) (N := some 49) (v := ?_) (a' := ?_) #[true, true, true, true, true, true, true, true, true, true, true, true, true, true, true, true, true, true, false, false, false, false, false, false, false, false, false, false, false] rfl rfl (any_of HT_.out (by kernel_rfl)) (fun _ _ _ h => h) (Or.inl ⟨by rfl, ?_⟩) ?_ ?_
                    rotate_left
                    · intro w'
                      go_simp
                      with_reducible rfl
                    rotate_left
                    · simp only [Act.put, List.setIfInBounds_toArray, List.set_cons_zero, List.set_cons_succ, i64_w, i32_w]
                      rfl
                    refine pure_ (i := 18) (N := some 50) (v := ?_) (a' := ?_) #[true, true, true, true, true, true, true, true, true, true, true, true, true, true, true, true, true, true, true, false, false, false, false, false, false, false, false, false, false] rfl rfl (any_of HT_.out (by kernel_rfl)) (fun _ _ _ h => h) (Or.inl ⟨by rfl, ?_⟩) ?_ ?_
                    rotate_left
                    · intro w'
                      go_simp
                      with_reducible rfl
                    rotate_left
                    · simp only [Act.put, List.setIfInBounds_toArray, List.set_cons_zero, List.set_cons_succ, i64_w, i32_w]
                      rfl
                    refine pure_ (i := 19) (N := some 51) (v := ?_) (a' := ?_) #[true, true, true, true, true, true, true, true, true, true, true, true, true, true, true, true, true, true, true, true, false, false, false, false, false, false, false, false, false] rfl rfl (any_of HT_.out (by kernel_rfl)) (fun _ _ _ h => h) (Or.inl ⟨by rfl, ?_⟩) ?_ ?_
                    rotate_left
                    · intro w'
                      go_simp
                      with_reducible rfl
                    rotate_left
                    · simp only [Act.put, List.setIfInBounds_toArray, List.set_cons_zero, List.set_cons_succ, i64_w, i32_w]
                      rfl
                    refine take_ (i := 20) (N := some 52) (v := ?_) (a' := ?_) #[true, true, true, true, true, true, true, true, true, true, true, true, true, true, true, true, true, true, true, true, true, false, false, false, false, false, false, false, false] rfl rfl (take_ofW HT_.out HW_.out (by kernel_rfl)) (fun _ _ _ h => h) (Or.inl ⟨by rfl, ?_⟩) hHeld ?_ ?_
                    rotate_left
                    · rintro w' ⟨s0, s1, s2, s3, s4, s5, s6, s7, s8, s9, s10⟩
                      go_simp
                      with_reducible rfl
                    rotate_left
                    · simp only [Act.put, List.setIfInBounds_toArray, List.set_cons_zero, List.set_cons_succ, i64_w, i32_w]
                      rfl
                    refine take_ (i := 21) (N := some 53) (v := ?_) (a' := ?_) #[true, true, true, true, true, true, true, true, true, true, true, true, true, true, true, true, true, true, true, true, true, true, false, false, false, false, false, false, false] rfl rfl (take_ofW HT_.out HW_.out (by kernel_rfl)) (fun _ _ _ h => h) (Or.inl ⟨by rfl, ?_⟩) hHeld ?_ ?_
                    rotate_left
                    · rintro w' ⟨s0, s1, s2, s3, s4, s5, s6, s7, s8, s9, s10⟩
                      go_simp
                      with_reducible rfl
                    rotate_left
                    · simp only [Act.put, List.setIfInBounds_toArray, List.set_cons_zero, List.set_cons_succ, i64_w, i32_w]
                      rfl
                    refine pure_ (i := 22) (N := some 54) (v := ?_) (a' := ?_) #[true, true, true, true, true, true, true, true, true, true, true, true, true, true, true, true, true, true, true, true, true, true, true, false, false, false, false, false, false] rfl rfl (any_of HT_.out (by kernel_rfl)) (fun _ _ _ h => h) (Or.inl ⟨by rfl, ?_⟩) ?_ ?_
                    rotate_left
                    · intro w'
                      go_simp
                      with_reducible rfl
                    rotate_left
                    · simp only [Act.put, List.setIfInBounds_toArray, List.set_cons_zero, List.set_cons_succ, i64_w, i32_w]
                      rfl
                    refine pure_ (i := 23) (N := some 55) (v := ?_) (a' := ?_) #[true, true, true, true, true, true, true, true, true, true, true, true, true, true, true, true, true, true, true, true, true, true, true, true, false, false, false, false, false] rfl rfl (any_of HT_.out (by kernel_rfl)) (fun _ _ _ h => h) (Or.inl ⟨by rfl, ?_⟩) ?_ ?_
                    rotate_left
                    · intro w'
                      go_simp
                      with_reducible rfl
                    rotate_left
                    · simp only [Act.put, List.setIfInBounds_toArray, List.set_cons_zero, List.set_cons_succ, i64_w, i32_w]
                      rfl
                    refine pure_ (i := 24) (N := some 56) (v := ?_) (a' := ?_) #[true, true, true, true, true, true, true, true, true, true, true, true, true, true, true, true, true, true, true, true, true, true, true, true, true, false, false, false, false] rfl rfl (any_of HT_.out (by kernel_rfl)) (fun _ _ _ h => h) (Or.inl ⟨by rfl, ?_⟩) ?_ ?_
                    rotate_left
                    · intro w'
                      go_simp
                      with_reducible rfl
                    rotate_left
                    · simp only [Act.put, List.setIfInBounds_toArray, List.set_cons_zero, List.set_cons_succ, i64_w, i32_w]
                      rfl
                    refine pure_ (i := 25) (N := some 57) (v := ?_) (a' := ?_) #[true, true, true, true, true, true, true, true, true, true, true, true, true, true, true, true, true, true, true, true, true, true, true, true, true, true, false, false, false] rfl rfl (any_of HT_.out (by kernel_rfl)) (fun _ _ _ h => h) (Or.inl ⟨by rfl, ?_⟩) ?_ ?_
                    rotate_left
                    · intro w'
                      go_simp
                      with_reducible rfl
                    rotate_left
                    · simp only [Act.put, List.setIfInBounds_toArray, List.set_cons_zero, List.set_cons_succ, i64_w, i32_w]
                      rfl
                    refine one_ (i := 26) (N := some 58) #[true, true, true, true, true, true, true, true, true, true, true, true, true, true, true, true, true, true, true, true, true, true, true, true, true, true, true, false, false] rfl rfl (one_of HT_.out (by kernel_rfl)) (by decide) (fun K hK => ?_)
                    refine goes_ Try.func3 (by kernel_rfl) rfl #[] (by rfl) rfl rfl (by (try simp only [List.map_toArray, List.map_cons, List.map_nil]); first | done | rfl | (simp only [List.length_drop, List.length_take]; rfl) | (simp only [List.length_drop, List.length_take]; rw [Nat.min_eq_left (by first | assumption | omega)]; rfl)) ?_
                    with_reducible refine (linguistlaw2_CellRuns.calls k1  t164 _ A28.out).mono ?_
                    rintro e w43 ⟨rfl, hb⟩
                    refine ⟨_, rfl, ?_⟩
                    have n0_ := Aside0.mk (blk_below (g := gb147) (o := .cells #[.int .i64 a1_0, .int .i64 a1_1, .int .i64 a1_2] 26 (0, 0)) (by (with_reducible repeat (first | refine blk_drewN ?_ _ | refine blk_drew ?_ | refine blk_alloc ?_ _)); exact BK147.out) hb)
                    have n1_ := Aside0.mk (blk_below (g := gb148) (o := .cells #[.int .i64 a1_0, .int .i64 a1_1, .int .i64 x149002_1] 26 (0, 0)) (by (with_reducible repeat (first | refine blk_drewN ?_ _ | refine blk_drew ?_ | refine blk_alloc ?_ _)); exact BK148.out) hb)
                    have n2_ := Aside0.mk (blk_below (g := gb156) (o := .cells #[.int .i32 t151, .int .i64 t152, .int .i64 t153, .int .i64 t154, .int .i64 t155] 30 (0, 0)) (by (with_reducible repeat (first | refine blk_drewN ?_ _ | refine blk_drew ?_ | refine blk_alloc ?_ _)); exact BK156.out) hb)
                    have n3_ := Aside0.mk (below_step (by repeat (first | (with_reducible first | exact HB.out | apply below_alloc | apply pw_below_drewN | apply below_drew1 | refine below_set ?_ GE147.out | refine below_set ?_ GE148.out | refine below_set ?_ GE156.out) | exact HB.out)) hb)
                    clear BK147
                    clear BK148
                    clear BK156
                    clear HB
                    have BK147 := n0_
                    have BK148 := n1_
                    have BK156 := n2_
                    have HB := n3_
                    clear n0_ n1_ n2_ n3_
                    (try clear hb)
                    (try clear hb2)
                    (try clear hk)
                    (try clear hi)
                    refine hK.out _ _ ⟨(blk_cell BK147.out 0).trans rfl, (blk_cell BK147.out 1).trans rfl, (blk_cell BK147.out 2).trans rfl, (blk_cell BK148.out 0).trans rfl, (blk_cell BK148.out 1).trans rfl, (blk_cell BK148.out 2).trans rfl, (blk_cell BK156.out 0).trans rfl, (blk_cell BK156.out 1).trans rfl, (blk_cell BK156.out 2).trans rfl, (blk_cell BK156.out 3).trans rfl, (blk_cell BK156.out 4).trans rfl⟩ (fun hHeld => ?_)
                    clear hK K
                    refine norm_ (a' := ?_) ?_ ?_
                    rotate_left
                    · show Act.put _ (some 58) _ = _
                      simp only [Act.put, List.setIfInBounds_toArray, List.set_cons_zero, List.set_cons_succ, i64_w, i32_w]
                      rfl
                    refine pure_ (i := 27) (N := some 59) (v := ?_) (a' := ?_) #[true, true, true, true, true, true, true, true, true, true, true, true, true, true, true, true, true, true, true, true, true, true, true, true, true, true, true, true, false] rfl rfl (any_of HT_.out (by kernel_rfl)) (fun _ _ _ h => h) (Or.inl ⟨by rfl, ?_⟩) ?_ ?_
                    rotate_left
                    · intro w'
                      go_simp
                      with_reducible rfl
                    rotate_left
                    · simp only [Act.put, List.setIfInBounds_toArray, List.set_cons_zero, List.set_cons_succ, i64_w, i32_w]
                      rfl
                    refine pure_ (i := 28) (N := some 6) (v := ?_) (a' := ?_) #[true, true, true, true, true, true, true, true, true, true, true, true, true, true, true, true, true, true, true, true, true, true, true, true, true, true, true, true, true] rfl rfl (any_of HT_.out (by kernel_rfl)) (fun _ _ _ h => h) (Or.inl ⟨by rfl, ?_⟩) ?_ ?_
                    rotate_left
                    · intro w'
                      go_simp
                      with_reducible rfl
                    rotate_left
                    · simp only [Act.put, List.setIfInBounds_toArray, List.set_cons_zero, List.set_cons_succ, i64_w, i32_w]
                      rfl
                    refine done_ (done_of HT_.out (by kernel_rfl)) ?_
                    try go_wp2
                    go_ret
                    exact ⟨by first | rfl | (simp [errW_none, errW_some] <;> rfl) | (simp only [← hji4]; first | rfl | (simp [errW_none, errW_some] <;> rfl)) | (simp [*, errW_none, errW_some] <;> rfl), by repeat (first | (with_reducible first | exact HB.out | apply below_alloc | apply pw_below_drewN | apply below_drew1 | refine below_set ?_ GE147.out | refine below_set ?_ GE148.out | refine below_set ?_ GE156.out) | exact HB.out)⟩
                  · rw [if_neg c27] at H
                    exact absurd H (by simp)
                · rw [if_neg c26] at H
                  exact absurd H (by simp)
              · rw [if_neg c24] at H
                exact absurd H (by simp)
            · rw [if_neg c21] at H
              exact absurd H (by simp)
    · rw [if_neg c6] at H
      exact absurd H (by simp)
  · rw [if_neg c5] at H
    exact absurd H (by simp)

/-- THE ONE PURE STATEMENT of linguistlaw2_CellTells. -/
def linguistlaw2_CellTells.Pure : Prop := ∀ (a0 : Int) (a1_0 : Int) (a1_1 : Int) (a1_2 : Int) (l2 : List Int), (Lit.int .i32 a0).wf = true → (Lit.int .i64 a1_0).wf = true → (Lit.int .i64 a1_1).wf = true → (Lit.int .i64 a1_2).wf = true → l2.length ≤ 9223372036854775807 → l2.length * 8 ≤ 140737488351232 → (∀ x ∈ l2, (Lit.int .i64 x).wf = true) → ∃ k, linguistlaw2_CellTells.f k a0 a1_0 a1_1 a1_2 l2 = some true
theorem linguistlaw2_CellTells.walk (P : linguistlaw2_CellTells.Pure) (a0 : Int) (a1_0 : Int) (a1_1 : Int) (a1_2 : Int) (A2 : Option Addr) (c2 : Nat) (l2 : List Int) (w : World) (w0 : (Lit.int .i32 a0).wf = true) (w1_0 : (Lit.int .i64 a1_0).wf = true) (w1_1 : (Lit.int .i64 a1_1).wf = true) (w1_2 : (Lit.int .i64 a1_2).wf = true) (v2_0 : l2.length ≤ 9223372036854775807) (v2_1 : l2.length * 8 ≤ 140737488351232) (v2_2 : (∀ x ∈ l2, (Lit.int .i64 x).wf = true)) (hr2 : Kd.C (Kd.int .i64) w A2 l2.length l2) (hc2 : l2.length ≤ c2) :
    Calls Try.prog 5 #[.int .i32 a0, .agg #[.int .i64 a1_0, .int .i64 a1_1, .int .i64 a1_2], .slice A2 l2.length c2] w fun e w' => e = .returned (.bool true) ∧ Below w.heap.size w w' := by
  obtain ⟨k, h⟩ := P a0 a1_0 a1_1 a1_2 l2 w0 w1_0 w1_1 w1_2 v2_0 v2_1 v2_2
  refine (linguistlaw2_CellTells.calls k a0 a1_0 a1_1 a1_2 A2 c2 l2 true w hr2 hc2 h).mono ?_
  rintro e w' ⟨rfl, hd⟩
  exact ⟨rfl, hd⟩

end Go.Proofs.Ytklfdmnmiadgpaa.GCellTells
