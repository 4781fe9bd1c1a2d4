-- Written by a program of this session (out of the kit's printer); Lean checks it.
import Derived.Test.YtlpmhldejeaefaaGLowerRunsx0
namespace Go.Proofs.Ytlpmhldejeaefaa.GLowerRuns
open Go.RowKit Go.Proofs.YtlpmhldejeaefaaW.PrintWords Go.Proofs.YtlpmhldejeaefaaW.PrintLast Go.Proofs.YtlpmhldejeaefaaW.PrintMore
attribute [local go_sem] max2_int min2_int max_two min_two max_three min_three max_four min_four   -- for this text's walks alone
set_option linter.unusedVariables false
set_option linter.unusedSimpArgs false

/-! ### linguistref7_Plain: function 8 -/
def linguistref7_Plain.f  : Option (Int × Int × Int) := some ((-1), (-1), 0)
set_option maxHeartbeats 8000000 in
set_option maxRecDepth 100000 in
theorem linguistref7_Plain.calls  (r1 : Int) (r2 : Int) (r3 : Int) (w : World) (h : linguistref7_Plain.f  = some (r1, r2, r3)) :
    Calls Try.prog 8 #[] w fun e w' => e = .returned (.agg #[.int .i64 r1, .int .i64 r2, .int .i64 r3]) ∧ Below w.heap.size w w' := by
  have hu23 := Try.underlying23
  have HB := Aside0.mk (Below.refl w.heap.size w)
  have H : (some ((-1), (-1), 0)) = some (r1, r2, r3) := h
  clear h
  simp only [Option.some.injEq, Prod.mk.injEq] at H
  obtain ⟨rfl, rfl, rfl⟩ := H
  go_enter Try.func8, Try.ntmps8
  go_wp2_with (first | ((with_reducible refine gate_dst (N := 0) rfl ?_); refine box_event ?hg (N := 0) ?hd (cs := #[.int .i64 0, .int .i64 0, .int .i64 0]) (t := 23) ?hr ?_; (case hd => rfl); (case hg => rfl); (case hr => first | (go_simp; done) | (go_simp; rfl)); intro gb101 hg w1 hbox hb; have n0_ := Aside0.mk (below_step (by repeat (first | (with_reducible first | exact HB.out | apply below_alloc | apply pw_below_drewN | apply below_drew1) | exact HB.out)) hb); have n1_ := Aside0.mk (hbox); have n2_ := Aside0.mk ((by rw [hg]; exact (below_size (by repeat (first | (with_reducible first | exact HB.out | apply below_alloc | apply pw_below_drewN | apply below_drew1) | exact HB.out))) : w.heap.size ≤ gb101)); have n3_ := Aside0.mk ((by rw [hg]; exact (below_size (by repeat (first | (with_reducible first | exact HB.out | apply below_alloc | apply pw_below_drewN | apply below_drew1) | exact HB.out))) : w.heap.size ≤ gb101)); clear HB; have HB := n0_; have BK101 := n1_; have GW101 := n2_; have GE101 := n3_; clear n0_ n1_ n2_ n3_; clear hb hbox hg; have hcz2_0 : w1.cell? ⟨gb101, 0, none⟩ = some (.int .i64 0) := (blk_cell BK101.out 0).trans rfl; have hcz2_1 : w1.cell? ⟨gb101, 1, none⟩ = some (.int .i64 0) := (blk_cell BK101.out 1).trans rfl; have hcz2_2 : w1.cell? ⟨gb101, 2, none⟩ = some (.int .i64 0) := (blk_cell BK101.out 2).trans rfl; have hfz2_0 := blk_frozen BK101.out 0; have hfz2_1 := blk_frozen BK101.out 1; have hfz2_2 := blk_frozen BK101.out 2))
  refine bodyPost_ret (results_cell_row rfl _ _ gb101 23 #[.int .i64 (-1), .int .i64 (-1), .int .i64 0] (0, 0) _ rfl (by (with_reducible repeat (first | refine blk_drewN ?_ _ | refine blk_drew ?_ | refine blk_alloc ?_ _)); refine blk_put (cs := #[.int .i64 (-1), .int .i64 (-1), .int .i64 0]) ?_ 2 _ rfl; (with_reducible repeat (first | refine blk_drewN ?_ _ | refine blk_drew ?_ | refine blk_alloc ?_ _)); refine blk_put (cs := #[.int .i64 (-1), .int .i64 0, .int .i64 0]) ?_ 1 _ rfl; (with_reducible repeat (first | refine blk_drewN ?_ _ | refine blk_drew ?_ | refine blk_alloc ?_ _)); refine blk_put (cs := #[.int .i64 0, .int .i64 0, .int .i64 0]) ?_ 0 _ rfl; (with_reducible repeat (first | refine blk_drewN ?_ _ | refine blk_drew ?_ | refine blk_alloc ?_ _)); exact BK101.out) Try.underlying23 rfl (by kernel_rfl)) rfl ?_
  exact ⟨by first | rfl | (simp [errW_none, errW_some] <;> rfl) | (simp [*, errW_none, errW_some] <;> rfl), by repeat (first | (with_reducible first | exact HB.out | apply below_alloc | apply pw_below_drewN | apply below_drew1 | refine below_set ?_ GE101.out) | exact HB.out)⟩

/-! ### cell_Plain: function 27 -/
def cell_Plain.f  : Option (Int × Int × Int) := some ((-1), (-1), 0)
set_option maxHeartbeats 8000000 in
set_option maxRecDepth 100000 in
theorem cell_Plain.calls  (r1 : Int) (r2 : Int) (r3 : Int) (w : World) (h : cell_Plain.f  = some (r1, r2, r3)) :
    Calls Try.prog 27 #[] w fun e w' => e = .returned (.agg #[.int .i64 r1, .int .i64 r2, .int .i64 r3]) ∧ Below w.heap.size w w' := by
  have hu23 := Try.underlying23
  have HB := Aside0.mk (Below.refl w.heap.size w)
  have H : (some ((-1), (-1), 0)) = some (r1, r2, r3) := h
  clear h
  simp only [Option.some.injEq, Prod.mk.injEq] at H
  obtain ⟨rfl, rfl, rfl⟩ := H
  go_enter Try.func27, Try.ntmps27
  go_wp2_with (first | ((with_reducible refine gate_dst (N := 0) rfl ?_); refine box_event ?hg (N := 0) ?hd (cs := #[.int .i64 0, .int .i64 0, .int .i64 0]) (t := 23) ?hr ?_; (case hd => rfl); (case hg => rfl); (case hr => first | (go_simp; done) | (go_simp; rfl)); intro gb102 hg w1 hbox hb; have n0_ := Aside0.mk (below_step (by repeat (first | (with_reducible first | exact HB.out | apply below_alloc | apply pw_below_drewN | apply below_drew1) | exact HB.out)) hb); have n1_ := Aside0.mk (hbox); have n2_ := Aside0.mk ((by rw [hg]; exact (below_size (by repeat (first | (with_reducible first | exact HB.out | apply below_alloc | apply pw_below_drewN | apply below_drew1) | exact HB.out))) : w.heap.size ≤ gb102)); have n3_ := Aside0.mk ((by rw [hg]; exact (below_size (by repeat (first | (with_reducible first | exact HB.out | apply below_alloc | apply pw_below_drewN | apply below_drew1) | exact HB.out))) : w.heap.size ≤ gb102)); clear HB; have HB := n0_; have BK102 := n1_; have GW102 := n2_; have GE102 := n3_; clear n0_ n1_ n2_ n3_; clear hb hbox hg; have hcz2_0 : w1.cell? ⟨gb102, 0, none⟩ = some (.int .i64 0) := (blk_cell BK102.out 0).trans rfl; have hcz2_1 : w1.cell? ⟨gb102, 1, none⟩ = some (.int .i64 0) := (blk_cell BK102.out 1).trans rfl; have hcz2_2 : w1.cell? ⟨gb102, 2, none⟩ = some (.int .i64 0) := (blk_cell BK102.out 2).trans rfl; have hfz2_0 := blk_frozen BK102.out 0; have hfz2_1 := blk_frozen BK102.out 1; have hfz2_2 := blk_frozen BK102.out 2))
  refine bodyPost_ret (results_cell_row rfl _ _ gb102 23 #[.int .i64 (-1), .int .i64 (-1), .int .i64 0] (0, 0) _ rfl (by (with_reducible repeat (first | refine blk_drewN ?_ _ | refine blk_drew ?_ | refine blk_alloc ?_ _)); refine blk_put (cs := #[.int .i64 (-1), .int .i64 (-1), .int .i64 0]) ?_ 2 _ rfl; (with_reducible repeat (first | refine blk_drewN ?_ _ | refine blk_drew ?_ | refine blk_alloc ?_ _)); refine blk_put (cs := #[.int .i64 (-1), .int .i64 0, .int .i64 0]) ?_ 1 _ rfl; (with_reducible repeat (first | refine blk_drewN ?_ _ | refine blk_drew ?_ | refine blk_alloc ?_ _)); refine blk_put (cs := #[.int .i64 0, .int .i64 0, .int .i64 0]) ?_ 0 _ rfl; (with_reducible repeat (first | refine blk_drewN ?_ _ | refine blk_drew ?_ | refine blk_alloc ?_ _)); exact BK102.out) Try.underlying23 rfl (by kernel_rfl)) rfl ?_
  exact ⟨by first | rfl | (simp [errW_none, errW_some] <;> rfl) | (simp [*, errW_none, errW_some] <;> rfl), by repeat (first | (with_reducible first | exact HB.out | apply below_alloc | apply pw_below_drewN | apply below_drew1 | refine below_set ?_ GE102.out) | exact HB.out)⟩

/-! ### color_RGB: function 31 -/
mutual
def color_RGB.j0 : Nat → Int → List Int → List (S79) → Int → Bool → Option (Int × Int × Int × Bool)
  | 0, _, _, _, _, _ => none
  | k + 1, x0, x6, x7, x8, x30 => if x30 = true then (some (Go.bits .and .i64 (x0 / 65536) 255, Go.bits .and .i64 (x0 / 256) 255, Go.bits .and .i64 x0 255, true)) else (if x0 < 0 then (color_RGB.j1 k x0 x6 x7 x8 true) else (color_RGB.j1 k x0 x6 x7 x8 (decide (x0 ≥ 256))))
def color_RGB.j1 : Nat → Int → List Int → List (S79) → Int → Bool → Option (Int × Int × Int × Bool)
  | 0, _, _, _, _, _ => none
  | k + 1, x0, x6, x7, x8, x45 => if x45 = true then (some (0, 0, 0, false)) else (if x0 < 16 then (if 0 ≤ x0 then (if x0 < (x7.length : Int) then (some ((rd_T79 x7 x0).f0, (rd_T79 x7 x0).f1, (rd_T79 x7 x0).f2, true)) else (none)) else (none)) else (if x0 < 232 then (if 0 ≤ (wrap64 (Int.tdiv x8 36)) then (if (wrap64 (Int.tdiv x8 36)) < (x6.length : Int) then (if 0 ≤ (Int.tmod (wrap64 (Int.tdiv x8 6)) 6) then (if (Int.tmod (wrap64 (Int.tdiv x8 6)) 6) < (x6.length : Int) then (if 0 ≤ (Int.tmod x8 6) then (if (Int.tmod x8 6) < (x6.length : Int) then (some (rd x6 (wrap64 (Int.tdiv x8 36)), rd x6 (Int.tmod (wrap64 (Int.tdiv x8 6)) 6), rd x6 (Int.tmod x8 6), true)) else (none)) else (none)) else (none)) else (none)) else (none)) else (none)) else (some (wrap64 (8 + (wrap64 (10 * (wrap64 (x0 - 232))))), wrap64 (8 + (wrap64 (10 * (wrap64 (x0 - 232))))), wrap64 (8 + (wrap64 (10 * (wrap64 (x0 - 232))))), true))))
end
def color_RGB.f (k : Nat) (a0 : Int) : Option (Int × Int × Int × Bool) := (some (([0, 95, 135, 175, 215, 255] : List Int) : List Int)).bind fun y103 => ((some (([(⟨0, 0, 0⟩ : S79), (⟨205, 0, 0⟩ : S79), (⟨0, 205, 0⟩ : S79), (⟨205, 205, 0⟩ : S79), (⟨0, 0, 238⟩ : S79), (⟨205, 0, 205⟩ : S79), (⟨0, 205, 205⟩ : S79), (⟨229, 229, 229⟩ : S79), (⟨127, 127, 127⟩ : S79), (⟨255, 0, 0⟩ : S79), (⟨0, 255, 0⟩ : S79), (⟨255, 255, 0⟩ : S79), (⟨92, 92, 255⟩ : S79), (⟨255, 0, 255⟩ : S79), (⟨0, 255, 255⟩ : S79), (⟨255, 255, 255⟩ : S79)] : List (S79)) : List (S79))).bind fun y106 => (if a0 ≥ 16777216 then (color_RGB.j0 k a0 y103 y106 (wrap64 (a0 - 16)) (decide (a0 < 33554432))) else (color_RGB.j0 k a0 y103 y106 (wrap64 (a0 - 16)) false)))
theorem color_RGB.mono_l : ∀ k, (∀ y0 y1 y2 y3 y4, LeO (color_RGB.j0 k y0 y1 y2 y3 y4) (color_RGB.j0 (k + 1) y0 y1 y2 y3 y4)) ∧ (∀ y0 y1 y2 y3 y4, LeO (color_RGB.j1 k y0 y1 y2 y3 y4) (color_RGB.j1 (k + 1) y0 y1 y2 y3 y4))
  | 0 => ⟨fun _ _ _ _ _ r h => by simp [color_RGB.j0] at h, fun _ _ _ _ _ r h => by simp [color_RGB.j1] at h⟩
  | k + 1 => by
    obtain ⟨ih0, ih1⟩ := color_RGB.mono_l k
    refine ⟨?_, ?_⟩
    · intro y0 y1 y2 y3 y4
      unfold color_RGB.j0
      repeat' first
      | (with_reducible exact ih0 _ _ _ _ _)
      | (with_reducible exact ih1 _ _ _ _ _)
      | (with_reducible exact LeO.refl _)
      | (with_reducible exact LeO.none _)
      | (with_reducible refine LeO.ite ?_ ?_)
      | (with_reducible refine LeO.bind ?_ (fun _ => ?_))
      | exact ih0 _ _ _ _ _
      | exact ih1 _ _ _ _ _
      | exact LeO.none _
      | refine LeO.ite ?_ ?_
      | refine LeO.bind ?_ (fun _ => ?_)
    · intro y0 y1 y2 y3 y4
      unfold color_RGB.j1
      repeat' first
      | (with_reducible exact ih0 _ _ _ _ _)
      | (with_reducible exact ih1 _ _ _ _ _)
      | (with_reducible exact LeO.refl _)
      | (with_reducible exact LeO.none _)
      | (with_reducible refine LeO.ite ?_ ?_)
      | (with_reducible refine LeO.bind ?_ (fun _ => ?_))
      | exact ih0 _ _ _ _ _
      | exact ih1 _ _ _ _ _
      | exact LeO.none _
      | refine LeO.ite ?_ ?_
      | refine LeO.bind ?_ (fun _ => ?_)
theorem color_RGB.mono : ∀ a0 k, LeO (color_RGB.f k a0) (color_RGB.f (k + 1) a0) := by
  intro a0 k
  obtain ⟨ih0, ih1⟩ := color_RGB.mono_l k
  unfold color_RGB.f
  repeat' first
      | (with_reducible exact ih0 _ _ _ _ _)
      | (with_reducible exact ih1 _ _ _ _ _)
      | (with_reducible exact LeO.refl _)
      | (with_reducible exact LeO.none _)
      | (with_reducible refine LeO.ite ?_ ?_)
      | (with_reducible refine LeO.bind ?_ (fun _ => ?_))
      | exact ih0 _ _ _ _ _
      | exact ih1 _ _ _ _ _
      | exact LeO.none _
      | refine LeO.ite ?_ ?_
      | refine LeO.bind ?_ (fun _ => ?_)
set_option maxHeartbeats 8000000 in
set_option maxRecDepth 100000 in
theorem color_RGB.calls (k : Nat) (a0 : Int) (r1 : Int) (r2 : Int) (r3 : Int) (r4 : Bool) (w : World) (h : color_RGB.f k a0 = some (r1, r2, r3, r4)) :
    Calls Try.prog 31 #[.int .i64 a0] w fun e w' => e = .returned (.tuple #[.int .i64 r1, .int .i64 r2, .int .i64 r3, .bool r4]) ∧ Below w.heap.size w w' := by
  have hu79 := Try.underlying79
  have HB := Aside0.mk (Below.refl w.heap.size w)
  have H : ((some (([0, 95, 135, 175, 215, 255] : List Int) : List Int)).bind fun y103 => ((some (([(⟨0, 0, 0⟩ : S79), (⟨205, 0, 0⟩ : S79), (⟨0, 205, 0⟩ : S79), (⟨205, 205, 0⟩ : S79), (⟨0, 0, 238⟩ : S79), (⟨205, 0, 205⟩ : S79), (⟨0, 205, 205⟩ : S79), (⟨229, 229, 229⟩ : S79), (⟨127, 127, 127⟩ : S79), (⟨255, 0, 0⟩ : S79), (⟨0, 255, 0⟩ : S79), (⟨255, 255, 0⟩ : S79), (⟨92, 92, 255⟩ : S79), (⟨255, 0, 255⟩ : S79), (⟨0, 255, 255⟩ : S79), (⟨255, 255, 255⟩ : S79)] : List (S79)) : List (S79))).bind fun y106 => (if a0 ≥ 16777216 then (color_RGB.j0 k a0 y103 y106 (wrap64 (a0 - 16)) (decide (a0 < 33554432))) else (color_RGB.j0 k a0 y103 y106 (wrap64 (a0 - 16)) false)))) = some (r1, r2, r3, r4) := h
  clear h
  obtain ⟨y103, hy103⟩ : ∃ y_ : List Int, y_ = (([0, 95, 135, 175, 215, 255] : List Int)) := ⟨_, rfl⟩
  replace H : ((some (([(⟨0, 0, 0⟩ : S79), (⟨205, 0, 0⟩ : S79), (⟨0, 205, 0⟩ : S79), (⟨205, 205, 0⟩ : S79), (⟨0, 0, 238⟩ : S79), (⟨205, 0, 205⟩ : S79), (⟨0, 205, 205⟩ : S79), (⟨229, 229, 229⟩ : S79), (⟨127, 127, 127⟩ : S79), (⟨255, 0, 0⟩ : S79), (⟨0, 255, 0⟩ : S79), (⟨255, 255, 0⟩ : S79), (⟨92, 92, 255⟩ : S79), (⟨255, 0, 255⟩ : S79), (⟨0, 255, 255⟩ : S79), (⟨255, 255, 255⟩ : S79)] : List (S79)) : List (S79))).bind fun y106 => (if a0 ≥ 16777216 then (color_RGB.j0 k a0 y103 y106 (wrap64 (a0 - 16)) (decide (a0 < 33554432))) else (color_RGB.j0 k a0 y103 y106 (wrap64 (a0 - 16)) false))) = some (r1, r2, r3, r4) := by first | (rw [hy103]; with_reducible exact H) | (have H2_ := (Option.bind_some _ _).symm.trans H; rw [hy103]; with_reducible exact H2_) | (have H2_ := (Option.bind_some _ _).symm.trans H; with_reducible exact H2_) | with_reducible exact H | (rw [hy103]; exact H) | exact H
  have Ny103 := Aside0.mk hy103
  clear hy103
  obtain ⟨y106, hy106⟩ : ∃ y_ : List (S79), y_ = (([(⟨0, 0, 0⟩ : S79), (⟨205, 0, 0⟩ : S79), (⟨0, 205, 0⟩ : S79), (⟨205, 205, 0⟩ : S79), (⟨0, 0, 238⟩ : S79), (⟨205, 0, 205⟩ : S79), (⟨0, 205, 205⟩ : S79), (⟨229, 229, 229⟩ : S79), (⟨127, 127, 127⟩ : S79), (⟨255, 0, 0⟩ : S79), (⟨0, 255, 0⟩ : S79), (⟨255, 255, 0⟩ : S79), (⟨92, 92, 255⟩ : S79), (⟨255, 0, 255⟩ : S79), (⟨0, 255, 255⟩ : S79), (⟨255, 255, 255⟩ : S79)] : List (S79))) := ⟨_, rfl⟩
  replace H : (if a0 ≥ 16777216 then (color_RGB.j0 k a0 y103 y106 (wrap64 (a0 - 16)) (decide (a0 < 33554432))) else (color_RGB.j0 k a0 y103 y106 (wrap64 (a0 - 16)) false)) = some (r1, r2, r3, r4) := by first | (rw [hy106]; with_reducible exact H) | (have H2_ := (Option.bind_some _ _).symm.trans H; rw [hy106]; with_reducible exact H2_) | (have H2_ := (Option.bind_some _ _).symm.trans H; with_reducible exact H2_) | with_reducible exact H | (rw [hy106]; exact H) | exact H
  have Ny106 := Aside0.mk hy106
  clear hy106
  have HC2 := Aside0.mk H
  clear H
  go_enter Try.func31, Try.ntmps31
  go_upto_region 4 with (first | ((with_reducible refine gate_dst (N := 10) rfl ?_); refine Kd.R_lit (Kd.int .i64) _ 3 ?hg (N := 10) ?hd (xs := ([0, 95, 135, 175, 215, 255] : List Int)) (inner := [.int .i64 0, .int .i64 95, .int .i64 135, .int .i64 175, .int .i64 215, .int .i64 255]) (ok := fun _ => True) (okp := fun _ => True) ?hr ?hp (fun _ hk => hk) trivial (Below.refl _ _) (Nat.le_refl _) (by simp) ?_; (case hd => rfl); (case hg => rfl); (case hr => first | (go_simp; done) | (go_simp; rfl)); (case hp => exact (Reps.one (show Kd.M (Kd.int .i64) _ _ _ 0 [.int .i64 0] from rfl) (Reps.one (show Kd.M (Kd.int .i64) _ _ _ 95 [.int .i64 95] from rfl) (Reps.one (show Kd.M (Kd.int .i64) _ _ _ 135 [.int .i64 135] from rfl) (Reps.one (show Kd.M (Kd.int .i64) _ _ _ 175 [.int .i64 175] from rfl) (Reps.one (show Kd.M (Kd.int .i64) _ _ _ 215 [.int .i64 215] from rfl) (Reps.one (show Kd.M (Kd.int .i64) _ _ _ 255 [.int .i64 255] from rfl) (Reps.none _ _)))))))); intro v104 w3 ho4 hb hg_ hnew_; clear hg_ hnew_; (first | rw [← Ny103.out] at ho4 | (simp only [Int.reduceToNat] at ho4; rw [← Ny103.out] at ho4)); have n0_ := Aside0.mk (Kd.R_lower ho4 (below_size (by repeat (first | (with_reducible first | exact HB.out | apply below_alloc | apply pw_below_drewN | apply below_drew1) | exact HB.out)))); have n1_ := Aside0.mk (below_step (by repeat (first | (with_reducible first | exact HB.out | apply below_alloc | apply pw_below_drewN | apply below_drew1) | exact HB.out)) hb); clear HB; have HO105 := n0_; have HB := n1_; clear n0_ n1_; clear hb ho4) | ((with_reducible refine gate_dst (N := 27) rfl ?_); refine Kd.R_lit k79 _ 79 ?hg (N := 27) ?hd (xs := ([(⟨0, 0, 0⟩ : S79), (⟨205, 0, 0⟩ : S79), (⟨0, 205, 0⟩ : S79), (⟨205, 205, 0⟩ : S79), (⟨0, 0, 238⟩ : S79), (⟨205, 0, 205⟩ : S79), (⟨0, 205, 205⟩ : S79), (⟨229, 229, 229⟩ : S79), (⟨127, 127, 127⟩ : S79), (⟨255, 0, 0⟩ : S79), (⟨0, 255, 0⟩ : S79), (⟨255, 255, 0⟩ : S79), (⟨92, 92, 255⟩ : S79), (⟨255, 0, 255⟩ : S79), (⟨0, 255, 255⟩ : S79), (⟨255, 255, 255⟩ : S79)] : List (S79))) (inner := [.int .i64 0, .int .i64 0, .int .i64 0, .int .i64 205, .int .i64 0, .int .i64 0, .int .i64 0, .int .i64 205, .int .i64 0, .int .i64 205, .int .i64 205, .int .i64 0, .int .i64 0, .int .i64 0, .int .i64 238, .int .i64 205, .int .i64 0, .int .i64 205, .int .i64 0, .int .i64 205, .int .i64 205, .int .i64 229, .int .i64 229, .int .i64 229, .int .i64 127, .int .i64 127, .int .i64 127, .int .i64 255, .int .i64 0, .int .i64 0, .int .i64 0, .int .i64 255, .int .i64 0, .int .i64 255, .int .i64 255, .int .i64 0, .int .i64 92, .int .i64 92, .int .i64 255, .int .i64 255, .int .i64 0, .int .i64 255, .int .i64 0, .int .i64 255, .int .i64 255, .int .i64 255, .int .i64 255, .int .i64 255]) (ok := fun _ => True) (okp := fun _ => True) ?hr ?hp (fun _ hk => hk) trivial (Below.refl _ _) (Nat.le_refl _) (by simp) ?_; (case hd => rfl); (case hg => rfl); (case hr => first | (go_simp; done) | (go_simp; rfl)); (case hp => exact (Reps.c3 (show Kd.M k79 _ _ _ (⟨0, 0, 0⟩ : S79) [.int .i64 0, .int .i64 0, .int .i64 0] from (k79_mkM _ _ _ (⟨0, 0, 0⟩ : S79) )) (Reps.c3 (show Kd.M k79 _ _ _ (⟨205, 0, 0⟩ : S79) [.int .i64 205, .int .i64 0, .int .i64 0] from (k79_mkM _ _ _ (⟨205, 0, 0⟩ : S79) )) (Reps.c3 (show Kd.M k79 _ _ _ (⟨0, 205, 0⟩ : S79) [.int .i64 0, .int .i64 205, .int .i64 0] from (k79_mkM _ _ _ (⟨0, 205, 0⟩ : S79) )) (Reps.c3 (show Kd.M k79 _ _ _ (⟨205, 205, 0⟩ : S79) [.int .i64 205, .int .i64 205, .int .i64 0] from (k79_mkM _ _ _ (⟨205, 205, 0⟩ : S79) )) (Reps.c3 (show Kd.M k79 _ _ _ (⟨0, 0, 238⟩ : S79) [.int .i64 0, .int .i64 0, .int .i64 238] from (k79_mkM _ _ _ (⟨0, 0, 238⟩ : S79) )) (Reps.c3 (show Kd.M k79 _ _ _ (⟨205, 0, 205⟩ : S79) [.int .i64 205, .int .i64 0, .int .i64 205] from (k79_mkM _ _ _ (⟨205, 0, 205⟩ : S79) )) (Reps.c3 (show Kd.M k79 _ _ _ (⟨0, 205, 205⟩ : S79) [.int .i64 0, .int .i64 205, .int .i64 205] from (k79_mkM _ _ _ (⟨0, 205, 205⟩ : S79) )) (Reps.c3 (show Kd.M k79 _ _ _ (⟨229, 229, 229⟩ : S79) [.int .i64 229, .int .i64 229, .int .i64 229] from (k79_mkM _ _ _ (⟨229, 229, 229⟩ : S79) )) (Reps.c3 (show Kd.M k79 _ _ _ (⟨127, 127, 127⟩ : S79) [.int .i64 127, .int .i64 127, .int .i64 127] from (k79_mkM _ _ _ (⟨127, 127, 127⟩ : S79) )) (Reps.c3 (show Kd.M k79 _ _ _ (⟨255, 0, 0⟩ : S79) [.int .i64 255, .int .i64 0, .int .i64 0] from (k79_mkM _ _ _ (⟨255, 0, 0⟩ : S79) )) (Reps.c3 (show Kd.M k79 _ _ _ (⟨0, 255, 0⟩ : S79) [.int .i64 0, .int .i64 255, .int .i64 0] from (k79_mkM _ _ _ (⟨0, 255, 0⟩ : S79) )) (Reps.c3 (show Kd.M k79 _ _ _ (⟨255, 255, 0⟩ : S79) [.int .i64 255, .int .i64 255, .int .i64 0] from (k79_mkM _ _ _ (⟨255, 255, 0⟩ : S79) )) (Reps.c3 (show Kd.M k79 _ _ _ (⟨92, 92, 255⟩ : S79) [.int .i64 92, .int .i64 92, .int .i64 255] from (k79_mkM _ _ _ (⟨92, 92, 255⟩ : S79) )) (Reps.c3 (show Kd.M k79 _ _ _ (⟨255, 0, 255⟩ : S79) [.int .i64 255, .int .i64 0, .int .i64 255] from (k79_mkM _ _ _ (⟨255, 0, 255⟩ : S79) )) (Reps.c3 (show Kd.M k79 _ _ _ (⟨0, 255, 255⟩ : S79) [.int .i64 0, .int .i64 255, .int .i64 255] from (k79_mkM _ _ _ (⟨0, 255, 255⟩ : S79) )) (Reps.c3 (show Kd.M k79 _ _ _ (⟨255, 255, 255⟩ : S79) [.int .i64 255, .int .i64 255, .int .i64 255] from (k79_mkM _ _ _ (⟨255, 255, 255⟩ : S79) )) (Reps.none _ _)))))))))))))))))); intro v107 w5 ho6 hb hg_ hnew_; clear hg_ hnew_; (first | rw [← Ny106.out] at ho6 | (simp only [Int.reduceToNat] at ho6; rw [← Ny106.out] at ho6)); have n0_ := Aside0.mk (Kd.R_below (by (with_reducible repeat (first | apply Kd.R_alloc | apply Kd.R_drewN | apply Kd.R_drew)); exact HO105.out) hb); have n1_ := Aside0.mk (Kd.R_lower ho6 (below_size (by repeat (first | (with_reducible first | exact HB.out | apply below_alloc | apply pw_below_drewN | apply below_drew1) | exact HB.out)))); have n2_ := Aside0.mk (below_step (by repeat (first | (with_reducible first | exact HB.out | apply below_alloc | apply pw_below_drewN | apply below_drew1) | exact HB.out)) hb); clear HO105; clear HB; have HO105 := n0_; have HO108 := n1_; have HB := n2_; clear n0_ n1_ n2_; clear hb ho6))
  repeat (go_quiet (first | ((with_reducible refine gate_dst (N := 10) rfl ?_); refine Kd.R_lit (Kd.int .i64) _ 3 ?hg (N := 10) ?hd (xs := ([0, 95, 135, 175, 215, 255] : List Int)) (inner := [.int .i64 0, .int .i64 95, .int .i64 135, .int .i64 175, .int .i64 215, .int .i64 255]) (ok := fun _ => True) (okp := fun _ => True) ?hr ?hp (fun _ hk => hk) trivial (Below.refl _ _) (Nat.le_refl _) (by simp) ?_; (case hd => rfl); (case hg => rfl); (case hr => first | (go_simp; done) | (go_simp; rfl)); (case hp => exact (Reps.one (show Kd.M (Kd.int .i64) _ _ _ 0 [.int .i64 0] from rfl) (Reps.one (show Kd.M (Kd.int .i64) _ _ _ 95 [.int .i64 95] from rfl) (Reps.one (show Kd.M (Kd.int .i64) _ _ _ 135 [.int .i64 135] from rfl) (Reps.one (show Kd.M (Kd.int .i64) _ _ _ 175 [.int .i64 175] from rfl) (Reps.one (show Kd.M (Kd.int .i64) _ _ _ 215 [.int .i64 215] from rfl) (Reps.one (show Kd.M (Kd.int .i64) _ _ _ 255 [.int .i64 255] from rfl) (Reps.none _ _)))))))); intro v104 w3 ho4 hb hg_ hnew_; clear hg_ hnew_; (first | rw [← Ny103.out] at ho4 | (simp only [Int.reduceToNat] at ho4; rw [← Ny103.out] at ho4)); have n0_ := Aside0.mk (Kd.R_lower ho4 (below_size (by repeat (first | (with_reducible first | exact HB.out | apply below_alloc | apply pw_below_drewN | apply below_drew1) | exact HB.out)))); have n1_ := Aside0.mk (below_step (by repeat (first | (with_reducible first | exact HB.out | apply below_alloc | apply pw_below_drewN | apply below_drew1) | exact HB.out)) hb); clear HB; have HO105 := n0_; have HB := n1_; clear n0_ n1_; clear hb ho4) | ((with_reducible refine gate_dst (N := 27) rfl ?_); refine Kd.R_lit k79 _ 79 ?hg (N := 27) ?hd (xs := ([(⟨0, 0, 0⟩ : S79), (⟨205, 0, 0⟩ : S79), (⟨0, 205, 0⟩ : S79), (⟨205, 205, 0⟩ : S79), (⟨0, 0, 238⟩ : S79), (⟨205, 0, 205⟩ : S79), (⟨0, 205, 205⟩ : S79), (⟨229, 229, 229⟩ : S79), (⟨127, 127, 127⟩ : S79), (⟨255, 0, 0⟩ : S79), (⟨0, 255, 0⟩ : S79), (⟨255, 255, 0⟩ : S79), (⟨92, 92, 255⟩ : S79), (⟨255, 0, 255⟩ : S79), (⟨0, 255, 255⟩ : S79), (⟨255, 255, 255⟩ : S79)] : List (S79))) (inner := [.int .i64 0, .int .i64 0, .int .i64 0, .int .i64 205, .int .i64 0, .int .i64 0, .int .i64 0, .int .i64 205, .int .i64 0, .int .i64 205, .int .i64 205, .int .i64 0, .int .i64 0, .int .i64 0, .int .i64 238, .int .i64 205, .int .i64 0, .int .i64 205, .int .i64 0, .int .i64 205, .int .i64 205, .int .i64 229, .int .i64 229, .int .i64 229, .int .i64 127, .int .i64 127, .int .i64 127, .int .i64 255, .int .i64 0, .int .i64 0, .int .i64 0, .int .i64 255, .int .i64 0, .int .i64 255, .int .i64 255, .int .i64 0, .int .i64 92, .int .i64 92, .int .i64 255, .int .i64 255, .int .i64 0, .int .i64 255, .int .i64 0, .int .i64 255, .int .i64 255, .int .i64 255, .int .i64 255, .int .i64 255]) (ok := fun _ => True) (okp := fun _ => True) ?hr ?hp (fun _ hk => hk) trivial (Below.refl _ _) (Nat.le_refl _) (by simp) ?_; (case hd => rfl); (case hg => rfl); (case hr => first | (go_simp; done) | (go_simp; rfl)); (case hp => exact (Reps.c3 (show Kd.M k79 _ _ _ (⟨0, 0, 0⟩ : S79) [.int .i64 0, .int .i64 0, .int .i64 0] from (k79_mkM _ _ _ (⟨0, 0, 0⟩ : S79) )) (Reps.c3 (show Kd.M k79 _ _ _ (⟨205, 0, 0⟩ : S79) [.int .i64 205, .int .i64 0, .int .i64 0] from (k79_mkM _ _ _ (⟨205, 0, 0⟩ : S79) )) (Reps.c3 (show Kd.M k79 _ _ _ (⟨0, 205, 0⟩ : S79) [.int .i64 0, .int .i64 205, .int .i64 0] from (k79_mkM _ _ _ (⟨0, 205, 0⟩ : S79) )) (Reps.c3 (show Kd.M k79 _ _ _ (⟨205, 205, 0⟩ : S79) [.int .i64 205, .int .i64 205, .int .i64 0] from (k79_mkM _ _ _ (⟨205, 205, 0⟩ : S79) )) (Reps.c3 (show Kd.M k79 _ _ _ (⟨0, 0, 238⟩ : S79) [.int .i64 0, .int .i64 0, .int .i64 238] from (k79_mkM _ _ _ (⟨0, 0, 238⟩ : S79) )) (Reps.c3 (show Kd.M k79 _ _ _ (⟨205, 0, 205⟩ : S79) [.int .i64 205, .int .i64 0, .int .i64 205] from (k79_mkM _ _ _ (⟨205, 0, 205⟩ : S79) )) (Reps.c3 (show Kd.M k79 _ _ _ (⟨0, 205, 205⟩ : S79) [.int .i64 0, .int .i64 205, .int .i64 205] from (k79_mkM _ _ _ (⟨0, 205, 205⟩ : S79) )) (Reps.c3 (show Kd.M k79 _ _ _ (⟨229, 229, 229⟩ : S79) [.int .i64 229, .int .i64 229, .int .i64 229] from (k79_mkM _ _ _ (⟨229, 229, 229⟩ : S79) )) (Reps.c3 (show Kd.M k79 _ _ _ (⟨127, 127, 127⟩ : S79) [.int .i64 127, .int .i64 127, .int .i64 127] from (k79_mkM _ _ _ (⟨127, 127, 127⟩ : S79) )) (Reps.c3 (show Kd.M k79 _ _ _ (⟨255, 0, 0⟩ : S79) [.int .i64 255, .int .i64 0, .int .i64 0] from (k79_mkM _ _ _ (⟨255, 0, 0⟩ : S79) )) (Reps.c3 (show Kd.M k79 _ _ _ (⟨0, 255, 0⟩ : S79) [.int .i64 0, .int .i64 255, .int .i64 0] from (k79_mkM _ _ _ (⟨0, 255, 0⟩ : S79) )) (Reps.c3 (show Kd.M k79 _ _ _ (⟨255, 255, 0⟩ : S79) [.int .i64 255, .int .i64 255, .int .i64 0] from (k79_mkM _ _ _ (⟨255, 255, 0⟩ : S79) )) (Reps.c3 (show Kd.M k79 _ _ _ (⟨92, 92, 255⟩ : S79) [.int .i64 92, .int .i64 92, .int .i64 255] from (k79_mkM _ _ _ (⟨92, 92, 255⟩ : S79) )) (Reps.c3 (show Kd.M k79 _ _ _ (⟨255, 0, 255⟩ : S79) [.int .i64 255, .int .i64 0, .int .i64 255] from (k79_mkM _ _ _ (⟨255, 0, 255⟩ : S79) )) (Reps.c3 (show Kd.M k79 _ _ _ (⟨0, 255, 255⟩ : S79) [.int .i64 0, .int .i64 255, .int .i64 255] from (k79_mkM _ _ _ (⟨0, 255, 255⟩ : S79) )) (Reps.c3 (show Kd.M k79 _ _ _ (⟨255, 255, 255⟩ : S79) [.int .i64 255, .int .i64 255, .int .i64 255] from (k79_mkM _ _ _ (⟨255, 255, 255⟩ : S79) )) (Reps.none _ _)))))))))))))))))); intro v107 w5 ho6 hb hg_ hnew_; clear hg_ hnew_; (first | rw [← Ny106.out] at ho6 | (simp only [Int.reduceToNat] at ho6; rw [← Ny106.out] at ho6)); have n0_ := Aside0.mk (Kd.R_below (by (with_reducible repeat (first | apply Kd.R_alloc | apply Kd.R_drewN | apply Kd.R_drew)); exact HO105.out) hb); have n1_ := Aside0.mk (Kd.R_lower ho6 (below_size (by repeat (first | (with_reducible first | exact HB.out | apply below_alloc | apply pw_below_drewN | apply below_drew1) | exact HB.out)))); have n2_ := Aside0.mk (below_step (by repeat (first | (with_reducible first | exact HB.out | apply below_alloc | apply pw_below_drewN | apply below_drew1) | exact HB.out)) hb); clear HO105; clear HB; have HO105 := n0_; have HO108 := n1_; have HB := n2_; clear n0_ n1_ n2_; clear hb ho6)); go_upto_region 4 with (first | ((with_reducible refine gate_dst (N := 10) rfl ?_); refine Kd.R_lit (Kd.int .i64) _ 3 ?hg (N := 10) ?hd (xs := ([0, 95, 135, 175, 215, 255] : List Int)) (inner := [.int .i64 0, .int .i64 95, .int .i64 135, .int .i64 175, .int .i64 215, .int .i64 255]) (ok := fun _ => True) (okp := fun _ => True) ?hr ?hp (fun _ hk => hk) trivial (Below.refl _ _) (Nat.le_refl _) (by simp) ?_; (case hd => rfl); (case hg => rfl); (case hr => first | (go_simp; done) | (go_simp; rfl)); (case hp => exact (Reps.one (show Kd.M (Kd.int .i64) _ _ _ 0 [.int .i64 0] from rfl) (Reps.one (show Kd.M (Kd.int .i64) _ _ _ 95 [.int .i64 95] from rfl) (Reps.one (show Kd.M (Kd.int .i64) _ _ _ 135 [.int .i64 135] from rfl) (Reps.one (show Kd.M (Kd.int .i64) _ _ _ 175 [.int .i64 175] from rfl) (Reps.one (show Kd.M (Kd.int .i64) _ _ _ 215 [.int .i64 215] from rfl) (Reps.one (show Kd.M (Kd.int .i64) _ _ _ 255 [.int .i64 255] from rfl) (Reps.none _ _)))))))); intro v104 w3 ho4 hb hg_ hnew_; clear hg_ hnew_; (first | rw [← Ny103.out] at ho4 | (simp only [Int.reduceToNat] at ho4; rw [← Ny103.out] at ho4)); have n0_ := Aside0.mk (Kd.R_lower ho4 (below_size (by repeat (first | (with_reducible first | exact HB.out | apply below_alloc | apply pw_below_drewN | apply below_drew1) | exact HB.out)))); have n1_ := Aside0.mk (below_step (by repeat (first | (with_reducible first | exact HB.out | apply below_alloc | apply pw_below_drewN | apply below_drew1) | exact HB.out)) hb); clear HB; have HO105 := n0_; have HB := n1_; clear n0_ n1_; clear hb ho4) | ((with_reducible refine gate_dst (N := 27) rfl ?_); refine Kd.R_lit k79 _ 79 ?hg (N := 27) ?hd (xs := ([(⟨0, 0, 0⟩ : S79), (⟨205, 0, 0⟩ : S79), (⟨0, 205, 0⟩ : S79), (⟨205, 205, 0⟩ : S79), (⟨0, 0, 238⟩ : S79), (⟨205, 0, 205⟩ : S79), (⟨0, 205, 205⟩ : S79), (⟨229, 229, 229⟩ : S79), (⟨127, 127, 127⟩ : S79), (⟨255, 0, 0⟩ : S79), (⟨0, 255, 0⟩ : S79), (⟨255, 255, 0⟩ : S79), (⟨92, 92, 255⟩ : S79), (⟨255, 0, 255⟩ : S79), (⟨0, 255, 255⟩ : S79), (⟨255, 255, 255⟩ : S79)] : List (S79))) (inner := [.int .i64 0, .int .i64 0, .int .i64 0, .int .i64 205, .int .i64 0, .int .i64 0, .int .i64 0, .int .i64 205, .int .i64 0, .int .i64 205, .int .i64 205, .int .i64 0, .int .i64 0, .int .i64 0, .int .i64 238, .int .i64 205, .int .i64 0, .int .i64 205, .int .i64 0, .int .i64 205, .int .i64 205, .int .i64 229, .int .i64 229, .int .i64 229, .int .i64 127, .int .i64 127, .int .i64 127, .int .i64 255, .int .i64 0, .int .i64 0, .int .i64 0, .int .i64 255, .int .i64 0, .int .i64 255, .int .i64 255, .int .i64 0, .int .i64 92, .int .i64 92, .int .i64 255, .int .i64 255, .int .i64 0, .int .i64 255, .int .i64 0, .int .i64 255, .int .i64 255, .int .i64 255, .int .i64 255, .int .i64 255]) (ok := fun _ => True) (okp := fun _ => True) ?hr ?hp (fun _ hk => hk) trivial (Below.refl _ _) (Nat.le_refl _) (by simp) ?_; (case hd => rfl); (case hg => rfl); (case hr => first | (go_simp; done) | (go_simp; rfl)); (case hp => exact (Reps.c3 (show Kd.M k79 _ _ _ (⟨0, 0, 0⟩ : S79) [.int .i64 0, .int .i64 0, .int .i64 0] from (k79_mkM _ _ _ (⟨0, 0, 0⟩ : S79) )) (Reps.c3 (show Kd.M k79 _ _ _ (⟨205, 0, 0⟩ : S79) [.int .i64 205, .int .i64 0, .int .i64 0] from (k79_mkM _ _ _ (⟨205, 0, 0⟩ : S79) )) (Reps.c3 (show Kd.M k79 _ _ _ (⟨0, 205, 0⟩ : S79) [.int .i64 0, .int .i64 205, .int .i64 0] from (k79_mkM _ _ _ (⟨0, 205, 0⟩ : S79) )) (Reps.c3 (show Kd.M k79 _ _ _ (⟨205, 205, 0⟩ : S79) [.int .i64 205, .int .i64 205, .int .i64 0] from (k79_mkM _ _ _ (⟨205, 205, 0⟩ : S79) )) (Reps.c3 (show Kd.M k79 _ _ _ (⟨0, 0, 238⟩ : S79) [.int .i64 0, .int .i64 0, .int .i64 238] from (k79_mkM _ _ _ (⟨0, 0, 238⟩ : S79) )) (Reps.c3 (show Kd.M k79 _ _ _ (⟨205, 0, 205⟩ : S79) [.int .i64 205, .int .i64 0, .int .i64 205] from (k79_mkM _ _ _ (⟨205, 0, 205⟩ : S79) )) (Reps.c3 (show Kd.M k79 _ _ _ (⟨0, 205, 205⟩ : S79) [.int .i64 0, .int .i64 205, .int .i64 205] from (k79_mkM _ _ _ (⟨0, 205, 205⟩ : S79) )) (Reps.c3 (show Kd.M k79 _ _ _ (⟨229, 229, 229⟩ : S79) [.int .i64 229, .int .i64 229, .int .i64 229] from (k79_mkM _ _ _ (⟨229, 229, 229⟩ : S79) )) (Reps.c3 (show Kd.M k79 _ _ _ (⟨127, 127, 127⟩ : S79) [.int .i64 127, .int .i64 127, .int .i64 127] from (k79_mkM _ _ _ (⟨127, 127, 127⟩ : S79) )) (Reps.c3 (show Kd.M k79 _ _ _ (⟨255, 0, 0⟩ : S79) [.int .i64 255, .int .i64 0, .int .i64 0] from (k79_mkM _ _ _ (⟨255, 0, 0⟩ : S79) )) (Reps.c3 (show Kd.M k79 _ _ _ (⟨0, 255, 0⟩ : S79) [.int .i64 0, .int .i64 255, .int .i64 0] from (k79_mkM _ _ _ (⟨0, 255, 0⟩ : S79) )) (Reps.c3 (show Kd.M k79 _ _ _ (⟨255, 255, 0⟩ : S79) [.int .i64 255, .int .i64 255, .int .i64 0] from (k79_mkM _ _ _ (⟨255, 255, 0⟩ : S79) )) (Reps.c3 (show Kd.M k79 _ _ _ (⟨92, 92, 255⟩ : S79) [.int .i64 92, .int .i64 92, .int .i64 255] from (k79_mkM _ _ _ (⟨92, 92, 255⟩ : S79) )) (Reps.c3 (show Kd.M k79 _ _ _ (⟨255, 0, 255⟩ : S79) [.int .i64 255, .int .i64 0, .int .i64 255] from (k79_mkM _ _ _ (⟨255, 0, 255⟩ : S79) )) (Reps.c3 (show Kd.M k79 _ _ _ (⟨0, 255, 255⟩ : S79) [.int .i64 0, .int .i64 255, .int .i64 255] from (k79_mkM _ _ _ (⟨0, 255, 255⟩ : S79) )) (Reps.c3 (show Kd.M k79 _ _ _ (⟨255, 255, 255⟩ : S79) [.int .i64 255, .int .i64 255, .int .i64 255] from (k79_mkM _ _ _ (⟨255, 255, 255⟩ : S79) )) (Reps.none _ _)))))))))))))))))); intro v107 w5 ho6 hb hg_ hnew_; clear hg_ hnew_; (first | rw [← Ny106.out] at ho6 | (simp only [Int.reduceToNat] at ho6; rw [← Ny106.out] at ho6)); have n0_ := Aside0.mk (Kd.R_below (by (with_reducible repeat (first | apply Kd.R_alloc | apply Kd.R_drewN | apply Kd.R_drew)); exact HO105.out) hb); have n1_ := Aside0.mk (Kd.R_lower ho6 (below_size (by repeat (first | (with_reducible first | exact HB.out | apply below_alloc | apply pw_below_drewN | apply below_drew1) | exact HB.out)))); have n2_ := Aside0.mk (below_step (by repeat (first | (with_reducible first | exact HB.out | apply below_alloc | apply pw_below_drewN | apply below_drew1) | exact HB.out)) hb); clear HO105; clear HB; have HO105 := n0_; have HO108 := n1_; have HB := n2_; clear n0_ n1_ n2_; clear hb ho6)))
  (try simp only [Act.put, List.setIfInBounds_toArray, List.set_cons_zero, List.set_cons_succ])
  go_cut [30] (fun v30 wc => ∃ (kq : Nat) (x30_1 : Bool), v30 = .bool x30_1 ∧ Aside0 (color_RGB.j0 kq a0 y103 y106 (wrap64 (a0 - 16)) x30_1 = some (r1, r2, r3, r4)) ∧ Aside0 (kq ≤ k) ∧ Aside0 (Kd.R (Kd.int .i64) 3 wc w.heap.size (fun _ => True) v104 y103) ∧ Aside0 (Kd.R k79 79 wc w.heap.size (fun _ => True) v107 y106) ∧ Aside0 (Below w.heap.size w wc))
  case first =>
    have H := HC2.out
    clear HC2
    by_cases c7 : a0 ≥ 16777216
    · rw [if_pos c7] at H
      have c7b0 : decide (16777216 ≤ a0) = true := decide_eq_true c7
      clear c7
      (first | rw [c7b0] | (simp only [i64_w, i32_w]; rw [c7b0]) | skip)
      have H' := Aside0.mk H
      clear H
      go_wp2
      repeat (go_quiet (fail); try go_wp2)
      go_meet
      case rel => exact ⟨_, (decide (a0 < 33554432)), (by first | rfl | (simp; done) | (simp [*]; done)), H', ⟨by first | omega | exact Nat.le_refl _⟩, ⟨by (with_reducible repeat (first | apply Kd.R_alloc | apply Kd.R_drewN | apply Kd.R_drew)); exact HO105.out⟩, ⟨by (with_reducible repeat (first | apply Kd.R_alloc | apply Kd.R_drewN | apply Kd.R_drew)); exact HO108.out⟩, ⟨by repeat (first | (with_reducible first | exact HB.out | apply below_alloc | apply pw_below_drewN | apply below_drew1) | exact HB.out)⟩⟩
    · rw [if_neg c7] at H
      have c7b0 : decide (16777216 ≤ a0) = false := decide_eq_false c7
      clear c7
      (first | rw [c7b0] | (simp only [i64_w, i32_w]; rw [c7b0]) | skip)
      have H' := Aside0.mk H
      clear H
      go_wp2
      repeat (go_quiet (fail); try go_wp2)
      go_meet
      case rel => exact ⟨_, (false), (by first | rfl | (simp; done) | (simp [*]; done)), H', ⟨by first | omega | exact Nat.le_refl _⟩, ⟨by (with_reducible repeat (first | apply Kd.R_alloc | apply Kd.R_drewN | apply Kd.R_drew)); exact HO105.out⟩, ⟨by (with_reducible repeat (first | apply Kd.R_alloc | apply Kd.R_drewN | apply Kd.R_drew)); exact HO108.out⟩, ⟨by repeat (first | (with_reducible first | exact HB.out | apply below_alloc | apply pw_below_drewN | apply below_drew1) | exact HB.out)⟩⟩
  case rest =>
    clear HC2
    try clear p2
    try clear c3
    try clear p6
    try clear c7
    try clear c7b0
    obtain ⟨kq, x30_1, rfl, HA, HJ1, HO_6, HO_7, HB⟩ := hcut
    cases kq with
    | zero => exact absurd HA.out (by simp [color_RGB.j0])
    | succ kj1 =>
      have H := HA.out
      clear HA
      simp only [color_RGB.j0] at H
      by_cases c8 : x30_1 = true
      · subst c8
        have H1 : (some (Go.bits .and .i64 (a0 / 65536) 255, Go.bits .and .i64 (a0 / 256) 255, Go.bits .and .i64 a0 255, true)) = some (r1, r2, r3, r4) := by rw [if_pos rfl] at H; exact H
        clear H
        have H := H1
        clear H1
        simp only [Option.some.injEq, Prod.mk.injEq] at H
        obtain ⟨rfl, rfl, rfl, rfl⟩ := H
        go_wp2
        repeat (go_quiet (fail); try go_wp2)
        refine bodyPost_ret (results_list (rs := [.tmp 2, .tmp 3, .tmp 4, .tmp 5]) rfl (by simp) (.tmp (.tmp (.tmp (.tmp .nil))))) rfl ?_
        exact ⟨by first | rfl | (simp [errW_none, errW_some] <;> rfl) | (simp [*, errW_none, errW_some] <;> rfl), by repeat (first | (with_reducible first | exact HB.out | apply below_alloc | apply pw_below_drewN | apply below_drew1) | exact HB.out)⟩
      · replace c8 := Bool.eq_false_iff.mpr c8
        subst c8
        have H1 : (if a0 < 0 then (color_RGB.j1 kj1 a0 y103 y106 (wrap64 (a0 - 16)) true) else (color_RGB.j1 kj1 a0 y103 y106 (wrap64 (a0 - 16)) (decide (a0 ≥ 256)))) = some (r1, r2, r3, r4) := by rw [if_neg (show ¬ (false = true) by decide)] at H; exact H
        clear H
        have H := H1
        clear H1
        have HC9 := Aside0.mk H
        clear H
        go_upto_region 6 with (fail)
        repeat (go_quiet (fail); go_upto_region 6 with (fail))
        go_cut [45] (fun v45 wc => ∃ (kq : Nat) (x45_8 : Bool), v45 = .bool x45_8 ∧ Aside0 (color_RGB.j1 kq a0 y103 y106 (wrap64 (a0 - 16)) x45_8 = some (r1, r2, r3, r4)) ∧ Aside0 (kq ≤ kj1) ∧ Aside0 (Kd.R (Kd.int .i64) 3 wc w.heap.size (fun _ => True) v104 y103) ∧ Aside0 (Kd.R k79 79 wc w.heap.size (fun _ => True) v107 y106) ∧ Aside0 (Below w.heap.size w wc))
        case first =>
          have H := HC9.out
          clear HC9
          by_cases c10 : a0 < 0
          · rw [if_pos c10] at H
            have c10b0 : decide (a0 < 0) = true := decide_eq_true c10
            clear c10
            (first | rw [c10b0] | (simp only [i64_w, i32_w]; rw [c10b0]) | skip)
            have H' := Aside0.mk H
            clear H
            go_wp2
            repeat (go_quiet (fail); try go_wp2)
            go_meet
            case rel => exact ⟨_, (true), (by first | rfl | (simp; done) | (simp [*]; done)), H', ⟨by have := HJ1.out; first | omega | exact Nat.le_refl _⟩, ⟨by (with_reducible repeat (first | apply Kd.R_alloc | apply Kd.R_drewN | apply Kd.R_drew)); exact HO_6.out⟩, ⟨by (with_reducible repeat (first | apply Kd.R_alloc | apply Kd.R_drewN | apply Kd.R_drew)); exact HO_7.out⟩, ⟨by repeat (first | (with_reducible first | exact HB.out | apply below_alloc | apply pw_below_drewN | apply below_drew1) | exact HB.out)⟩⟩
          · rw [if_neg c10] at H
            have c10b0 : decide (a0 < 0) = false := decide_eq_false c10
            clear c10
            (first | rw [c10b0] | (simp only [i64_w, i32_w]; rw [c10b0]) | skip)
            have H' := Aside0.mk H
            clear H
            go_wp2
            repeat (go_quiet (fail); try go_wp2)
            go_meet
            case rel => exact ⟨_, (decide (a0 ≥ 256)), (by first | rfl | (simp; done) | (simp [*]; done)), H', ⟨by have := HJ1.out; first | omega | exact Nat.le_refl _⟩, ⟨by (with_reducible repeat (first | apply Kd.R_alloc | apply Kd.R_drewN | apply Kd.R_drew)); exact HO_6.out⟩, ⟨by (with_reducible repeat (first | apply Kd.R_alloc | apply Kd.R_drewN | apply Kd.R_drew)); exact HO_7.out⟩, ⟨by repeat (first | (with_reducible first | exact HB.out | apply below_alloc | apply pw_below_drewN | apply below_drew1) | exact HB.out)⟩⟩
        case rest =>
          clear HC9
          try clear c1
          try clear p2
          try clear c3
          try clear p6
          try clear c7
          try clear c7b0
          try clear c8
          try clear c10
          try clear c10b0
          try clear p2
          try clear p6
          obtain ⟨kq, x45_8, rfl, HA, HJ8, HO_6, HO_7, HB⟩ := hcut
          cases kq with
          | zero => exact absurd HA.out (by simp [color_RGB.j1])
          | succ kj8 =>
            have H := HA.out
            clear HA
            simp only [color_RGB.j1] at H
            by_cases c11 : x45_8 = true
            · subst c11
              have H1 : (some (0, 0, 0, false)) = some (r1, r2, r3, r4) := by rw [if_pos rfl] at H; exact H
              clear H
              have H := H1
              clear H1
              simp only [Option.some.injEq, Prod.mk.injEq] at H
              obtain ⟨rfl, rfl, rfl, rfl⟩ := H
              go_wp2
              repeat (go_quiet (fail); try go_wp2)
              refine bodyPost_ret (results_list (rs := [.tmp 2, .tmp 3, .tmp 4, .tmp 5]) rfl (by simp) (.tmp (.tmp (.tmp (.tmp .nil))))) rfl ?_
              exact ⟨by first | rfl | (simp [errW_none, errW_some] <;> rfl) | (simp [*, errW_none, errW_some] <;> rfl), by repeat (first | (with_reducible first | exact HB.out | apply below_alloc | apply pw_below_drewN | apply below_drew1) | exact HB.out)⟩
            · replace c11 := Bool.eq_false_iff.mpr c11
              subst c11
              have H1 : (if a0 < 16 then (if 0 ≤ a0 then (if a0 < (y106.length : Int) then (some ((rd_T79 y106 a0).f0, (rd_T79 y106 a0).f1, (rd_T79 y106 a0).f2, true)) else (none)) else (none)) else (if a0 < 232 then (if 0 ≤ (wrap64 (Int.tdiv (wrap64 (a0 - 16)) 36)) then (if (wrap64 (Int.tdiv (wrap64 (a0 - 16)) 36)) < (y103.length : Int) then (if 0 ≤ (Int.tmod (wrap64 (Int.tdiv (wrap64 (a0 - 16)) 6)) 6) then (if (Int.tmod (wrap64 (Int.tdiv (wrap64 (a0 - 16)) 6)) 6) < (y103.length : Int) then (if 0 ≤ (Int.tmod (wrap64 (a0 - 16)) 6) then (if (Int.tmod (wrap64 (a0 - 16)) 6) < (y103.length : Int) then (some (rd y103 (wrap64 (Int.tdiv (wrap64 (a0 - 16)) 36)), rd y103 (Int.tmod (wrap64 (Int.tdiv (wrap64 (a0 - 16)) 6)) 6), rd y103 (Int.tmod (wrap64 (a0 - 16)) 6), true)) else (none)) else (none)) else (none)) else (none)) else (none)) else (none)) else (some (wrap64 (8 + (wrap64 (10 * (wrap64 (a0 - 232))))), wrap64 (8 + (wrap64 (10 * (wrap64 (a0 - 232))))), wrap64 (8 + (wrap64 (10 * (wrap64 (a0 - 232))))), true)))) = some (r1, r2, r3, r4) := by rw [if_neg (show ¬ (false = true) by decide)] at H; exact H
              clear H
              have H := H1
              clear H1
              by_cases c12 : a0 < 16
              · rw [if_pos c12] at H
                have c12b0 : decide (a0 < 16) = true := decide_eq_true c12
                clear c12
                by_cases c13 : 0 ≤ a0
                · rw [if_pos c13] at H
                  have c13b0 : decide (0 ≤ a0) = true := decide_eq_true c13
                  clear c13
                  by_cases c14 : a0 < (y106.length : Int)
                  · rw [if_pos c14] at H
                    have c14b0 : decide (a0 < (y106.length : Int)) = true := decide_eq_true c14
                    clear c14
                    simp only [Option.some.injEq, Prod.mk.injEq] at H
                    obtain ⟨rfl, rfl, rfl, rfl⟩ := H
                    obtain ⟨Ao15, co15, eo15⟩ := Kd.R_slice HO_7.out
                    subst eo15
                    have p109 : 0 ≤ (a0 : Int) := of_decide_eq_true (by first | (with_reducible assumption) | assumption)
                    have q109 : a0 < (y106.length : Int) := of_decide_eq_true (by first | (with_reducible assumption) | assumption)
                    obtain ⟨ad109, e109, hx109_0, hx109_1, hx109_2⟩ := at_T79 (Kd.R_reads' HO_7.out).2.2 a0 p109 q109
                    cases e109
                    replace p109 := eq_true p109
                    replace q109 := eq_true q109
                    have p110 : 0 ≤ (a0 : Int) := of_decide_eq_true (by first | (with_reducible assumption) | assumption)
                    have q110 : a0 < (y106.length : Int) := of_decide_eq_true (by first | (with_reducible assumption) | assumption)
                    obtain ⟨ad110, e110, hx110_0, hx110_1, hx110_2⟩ := at_T79 (Kd.R_reads' HO_7.out).2.2 a0 p110 q110
                    obtain rfl : ad109 = ad110 := (by injection e110)
                    replace p110 := eq_true p110
                    replace q110 := eq_true q110
                    have p111 : 0 ≤ (a0 : Int) := of_decide_eq_true (by first | (with_reducible assumption) | assumption)
                    have q111 : a0 < (y106.length : Int) := of_decide_eq_true (by first | (with_reducible assumption) | assumption)
                    obtain ⟨ad111, e111, hx111_0, hx111_1, hx111_2⟩ := at_T79 (Kd.R_reads' HO_7.out).2.2 a0 p111 q111
                    obtain rfl : ad109 = ad111 := (by injection e111)
                    replace p111 := eq_true p111
                    replace q111 := eq_true q111
                    go_wp2
                    repeat (go_quiet (fail); try go_wp2)
                    refine bodyPost_ret (results_list (rs := [.tmp 2, .tmp 3, .tmp 4, .tmp 5]) rfl (by simp) (.tmp (.tmp (.tmp (.tmp .nil))))) rfl ?_
                    exact ⟨by first | rfl | (simp [errW_none, errW_some] <;> rfl) | (simp [*, errW_none, errW_some] <;> rfl), by repeat (first | (with_reducible first | exact HB.out | apply below_alloc | apply pw_below_drewN | apply below_drew1) | exact HB.out)⟩
                  · rw [if_neg c14] at H
                    exact absurd H (by simp)
                · rw [if_neg c13] at H
                  exact absurd H (by simp)
              · rw [if_neg c12] at H
                have c12b0 : decide (a0 < 16) = false := decide_eq_false c12
                clear c12
                by_cases c16 : a0 < 232
                · rw [if_pos c16] at H
                  have c16b0 : decide (a0 < 232) = true := decide_eq_true c16
                  clear c16
                  obtain ⟨ji17, hji17⟩ : ∃ j_ : Int, (wrap64 (Int.tdiv (wrap64 (a0 - 16)) 36)) = j_ := ⟨_, rfl⟩
                  replace H : (if 0 ≤ (ji17) then (if (ji17) < (y103.length : Int) then (if 0 ≤ (Int.tmod (wrap64 (Int.tdiv (wrap64 (a0 - 16)) 6)) 6) then (if (Int.tmod (wrap64 (Int.tdiv (wrap64 (a0 - 16)) 6)) 6) < (y103.length : Int) then (if 0 ≤ (Int.tmod (wrap64 (a0 - 16)) 6) then (if (Int.tmod (wrap64 (a0 - 16)) 6) < (y103.length : Int) then (some (rd y103 (ji17), rd y103 (Int.tmod (wrap64 (Int.tdiv (wrap64 (a0 - 16)) 6)) 6), rd y103 (Int.tmod (wrap64 (a0 - 16)) 6), true)) else (none)) else (none)) else (none)) else (none)) else (none)) else (none)) = some (r1, r2, r3, r4) := by first | (rw [hji17] at H; exact H) | (simp only [hji17] at H ⊢; exact H)
                  have hji17w : (IntKind.i64.wrap (Int.tdiv (wrap64 (a0 - 16)) 36)) = ji17 := (i64_w _).trans hji17
                  by_cases c18 : 0 ≤ (ji17)
                  · rw [if_pos c18] at H
                    have c18b0 : decide (0 ≤ (ji17)) = true := decide_eq_true c18
                    clear c18
                    by_cases c19 : (ji17) < (y103.length : Int)
                    · rw [if_pos c19] at H
                      have c19b0 : decide ((ji17) < (y103.length : Int)) = true := decide_eq_true c19
                      clear c19
                      obtain ⟨ji20, hji20⟩ : ∃ j_ : Int, (Int.tmod (wrap64 (Int.tdiv (wrap64 (a0 - 16)) 6)) 6) = j_ := ⟨_, rfl⟩
                      replace H : (if 0 ≤ (ji20) then (if (ji20) < (y103.length : Int) then (if 0 ≤ (Int.tmod (wrap64 (a0 - 16)) 6) then (if (Int.tmod (wrap64 (a0 - 16)) 6) < (y103.length : Int) then (some (rd y103 (ji17), rd y103 (ji20), rd y103 (Int.tmod (wrap64 (a0 - 16)) 6), true)) else (none)) else (none)) else (none)) else (none)) = some (r1, r2, r3, r4) := by first | (rw [hji20] at H; exact H) | (simp only [hji20] at H ⊢; exact H)
                      by_cases c21 : 0 ≤ (ji20)
                      · rw [if_pos c21] at H
                        have c21b0 : decide (0 ≤ (ji20)) = true := decide_eq_true c21
                        clear c21
                        by_cases c22 : (ji20) < (y103.length : Int)
                        · rw [if_pos c22] at H
                          have c22b0 : decide ((ji20) < (y103.length : Int)) = true := decide_eq_true c22
                          clear c22
                          obtain ⟨ji23, hji23⟩ : ∃ j_ : Int, (Int.tmod (wrap64 (a0 - 16)) 6) = j_ := ⟨_, rfl⟩
                          replace H : (if 0 ≤ (ji23) then (if (ji23) < (y103.length : Int) then (some (rd y103 (ji17), rd y103 (ji20), rd y103 (ji23), true)) else (none)) else (none)) = some (r1, r2, r3, r4) := by first | (rw [hji23] at H; exact H) | (simp only [hji23] at H ⊢; exact H)
                          by_cases c24 : 0 ≤ (ji23)
                          · rw [if_pos c24] at H
                            have c24b0 : decide (0 ≤ (ji23)) = true := decide_eq_true c24
                            clear c24
                            by_cases c25 : (ji23) < (y103.length : Int)
                            · rw [if_pos c25] at H
                              have c25b0 : decide ((ji23) < (y103.length : Int)) = true := decide_eq_true c25
                              clear c25
                              simp only [Option.some.injEq, Prod.mk.injEq] at H
                              obtain ⟨rfl, rfl, rfl, rfl⟩ := H
                              obtain ⟨Ao26, co26, eo26⟩ := Kd.R_slice HO_6.out
                              subst eo26
                              have p112 : 0 ≤ ((ji17) : Int) := of_decide_eq_true (by first | (with_reducible assumption) | assumption)
                              have q112 : (ji17) < (y103.length : Int) := of_decide_eq_true (by first | (with_reducible assumption) | assumption)
                              obtain ⟨ad112, e112, hx112_0⟩ := Kd.at_int (Kd.R_reads' HO_6.out).2.2 (ji17) p112 q112
                              cases e112
                              replace p112 := eq_true p112
                              replace q112 := eq_true q112
                              have p113 : 0 ≤ ((ji20) : Int) := of_decide_eq_true (by first | (with_reducible assumption) | assumption)
                              have q113 : (ji20) < (y103.length : Int) := of_decide_eq_true (by first | (with_reducible assumption) | assumption)
                              obtain ⟨ad113, e113, hx113_0⟩ := Kd.at_int (Kd.R_reads' HO_6.out).2.2 (ji20) p113 q113
                              obtain rfl : ad112 = ad113 := (by injection e113)
                              replace p113 := eq_true p113
                              replace q113 := eq_true q113
                              have p114 : 0 ≤ ((ji23) : Int) := of_decide_eq_true (by first | (with_reducible assumption) | assumption)
                              have q114 : (ji23) < (y103.length : Int) := of_decide_eq_true (by first | (with_reducible assumption) | assumption)
                              obtain ⟨ad114, e114, hx114_0⟩ := Kd.at_int (Kd.R_reads' HO_6.out).2.2 (ji23) p114 q114
                              obtain rfl : ad112 = ad114 := (by injection e114)
                              replace p114 := eq_true p114
                              replace q114 := eq_true q114
                              go_wp2
                              repeat (go_quiet (fail); try go_wp2)
                              refine bodyPost_ret (results_list (rs := [.tmp 2, .tmp 3, .tmp 4, .tmp 5]) rfl (by simp) (.tmp (.tmp (.tmp (.tmp .nil))))) rfl ?_
                              exact ⟨by first | rfl | (simp [errW_none, errW_some] <;> rfl) | (simp only [← hji17, ← hji20, ← hji23]; first | rfl | (simp [errW_none, errW_some] <;> rfl)) | (simp [*, errW_none, errW_some] <;> rfl), by repeat (first | (with_reducible first | exact HB.out | apply below_alloc | apply pw_below_drewN | apply below_drew1) | exact HB.out)⟩
                            · rw [if_neg c25] at H
                              exact absurd H (by simp)
                          · rw [if_neg c24] at H
                            exact absurd H (by simp)
                        · rw [if_neg c22] at H
                          exact absurd H (by simp)
                      · rw [if_neg c21] at H
                        exact absurd H (by simp)
                    · rw [if_neg c19] at H
                      exact absurd H (by simp)
                  · rw [if_neg c18] at H
                    exact absurd H (by simp)
                · rw [if_neg c16] at H
                  have c16b0 : decide (a0 < 232) = false := decide_eq_false c16
                  clear c16
                  simp only [Option.some.injEq, Prod.mk.injEq] at H
                  obtain ⟨rfl, rfl, rfl, rfl⟩ := H
                  go_wp2
                  repeat (go_quiet (fail); try go_wp2)
                  refine bodyPost_ret (results_list (rs := [.tmp 2, .tmp 3, .tmp 4, .tmp 5]) rfl (by simp) (.tmp (.tmp (.tmp (.tmp .nil))))) rfl ?_
                  exact ⟨by first | rfl | (simp [errW_none, errW_some] <;> rfl) | (simp [*, errW_none, errW_some] <;> rfl), by repeat (first | (with_reducible first | exact HB.out | apply below_alloc | apply pw_below_drewN | apply below_drew1) | exact HB.out)⟩

/-! ### color_Far: function 32 -/
def color_Far.f (k : Nat) (a0 : Int) (a1 : Int) : Option (Int) := (color_RGB.f k a0).bind fun bt115 => ((color_RGB.f k a1).bind fun bt119 => (if bt115.2.2.2 = true then (if bt119.2.2.2 = true then (some (wrap64 ((wrap64 ((wrap64 ((wrap64 (bt115.1 - bt119.1)) * (wrap64 (bt115.1 - bt119.1)))) + (wrap64 ((wrap64 (bt115.2.1 - bt119.2.1)) * (wrap64 (bt115.2.1 - bt119.2.1)))))) + (wrap64 ((wrap64 (bt115.2.2.1 - bt119.2.2.1)) * (wrap64 (bt115.2.2.1 - bt119.2.2.1))))))) else (some 0)) else (some 0)))
theorem color_Far.mono : ∀ a0 a1 k, LeO (color_Far.f k a0 a1) (color_Far.f (k + 1) a0 a1) := by
  intro a0 a1 k
  unfold color_Far.f
  repeat' first
      | (with_reducible exact color_RGB.mono _ _)
      | (with_reducible exact LeO.refl _)
      | (with_reducible exact LeO.none _)
      | (with_reducible refine LeO.ite ?_ ?_)
      | (with_reducible refine LeO.bind ?_ (fun _ => ?_))
      | exact color_RGB.mono _ _
      | exact LeO.none _
      | refine LeO.ite ?_ ?_
      | refine LeO.bind ?_ (fun _ => ?_)
set_option maxHeartbeats 8000000 in
set_option maxRecDepth 100000 in
theorem color_Far.calls (k : Nat) (a0 : Int) (a1 : Int) (r : Int) (w : World) (h : color_Far.f k a0 a1 = some r) :
    Calls Try.prog 32 #[.int .i64 a0, .int .i64 a1] w fun e w' => e = .returned (.int .i64 r) ∧ Below w.heap.size w w' := by
  have HB := Aside0.mk (Below.refl w.heap.size w)
  have H : ((color_RGB.f k a0).bind fun bt115 => ((color_RGB.f k a1).bind fun bt119 => (if bt115.2.2.2 = true then (if bt119.2.2.2 = true then (some (wrap64 ((wrap64 ((wrap64 ((wrap64 (bt115.1 - bt119.1)) * (wrap64 (bt115.1 - bt119.1)))) + (wrap64 ((wrap64 (bt115.2.1 - bt119.2.1)) * (wrap64 (bt115.2.1 - bt119.2.1)))))) + (wrap64 ((wrap64 (bt115.2.2.1 - bt119.2.2.1)) * (wrap64 (bt115.2.2.1 - bt119.2.2.1))))))) else (some 0)) else (some 0)))) = some r := h
  clear h
  replace H := Option.bind_eq_some_iff.mp H
  obtain ⟨⟨t115, t116, t117, t118⟩, A30, H⟩ := H
  replace H : ((color_RGB.f k a1).bind fun bt119 => (if t118 = true then (if bt119.2.2.2 = true then (some (wrap64 ((wrap64 ((wrap64 ((wrap64 (t115 - bt119.1)) * (wrap64 (t115 - bt119.1)))) + (wrap64 ((wrap64 (t116 - bt119.2.1)) * (wrap64 (t116 - bt119.2.1)))))) + (wrap64 ((wrap64 (t117 - bt119.2.2.1)) * (wrap64 (t117 - bt119.2.2.1))))))) else (some 0)) else (some 0))) = some r := H
  have A3 := Aside0.mk A30
  clear A30
  replace H := Option.bind_eq_some_iff.mp H
  obtain ⟨⟨t119, t120, t121, t122⟩, A40, H⟩ := H
  replace H : (if t118 = true then (if t122 = true then (some (wrap64 ((wrap64 ((wrap64 ((wrap64 (t115 - t119)) * (wrap64 (t115 - t119)))) + (wrap64 ((wrap64 (t116 - t120)) * (wrap64 (t116 - t120)))))) + (wrap64 ((wrap64 (t117 - t121)) * (wrap64 (t117 - t121))))))) else (some 0)) else (some 0)) = some r := H
  have A4 := Aside0.mk A40
  clear A40
  by_cases c5 : t118 = true
  · subst c5
    have H1 : (if t122 = true then (some (wrap64 ((wrap64 ((wrap64 ((wrap64 (t115 - t119)) * (wrap64 (t115 - t119)))) + (wrap64 ((wrap64 (t116 - t120)) * (wrap64 (t116 - t120)))))) + (wrap64 ((wrap64 (t117 - t121)) * (wrap64 (t117 - t121))))))) else (some 0)) = some r := by rw [if_pos rfl] at H; exact H
    clear H
    have H := H1
    clear H1
    by_cases c6 : t122 = true
    · subst c6
      have H1 : (some (wrap64 ((wrap64 ((wrap64 ((wrap64 (t115 - t119)) * (wrap64 (t115 - t119)))) + (wrap64 ((wrap64 (t116 - t120)) * (wrap64 (t116 - t120)))))) + (wrap64 ((wrap64 (t117 - t121)) * (wrap64 (t117 - t121))))))) = some r := by rw [if_pos rfl] at H; exact H
      clear H
      have H := H1
      clear H1
      obtain rfl := Option.some.inj H
      go_enter Try.func32, Try.ntmps32
      go_wp2_with (first | ((with_reducible refine gate_callee (f := 31) rfl ?_); refine goesL_ (some 15) rfl rfl Try.func31 (by kernel_rfl) rfl #[.int .i64 a0] rfl (by (try simp only [List.map_toArray, List.map_cons, List.map_nil]); first | done | rfl | (simp only [List.length_drop, List.length_take]; rfl) | (simp only [List.length_drop, List.length_take]; rw [Nat.min_eq_left (by first | assumption | omega)]; rfl)) ?_; (with_reducible refine (color_RGB.calls k a0 t115 t116 t117 true _ A3.out).mono ?_); rintro e w7 ⟨rfl, hb⟩; refine ⟨_, rfl, ?_⟩; have n0_ := Aside0.mk (below_step (by repeat (first | (with_reducible first | exact HB.out | apply below_alloc | apply pw_below_drewN | apply below_drew1) | exact HB.out)) hb); clear HB; have HB := n0_; clear n0_; (try clear hb); (try clear hb2); (try clear hk); (try clear hi)) | ((with_reducible refine gate_callee (f := 31) rfl ?_); refine goesL_ (some 22) rfl rfl Try.func31 (by kernel_rfl) rfl #[.int .i64 a1] rfl (by (try simp only [List.map_toArray, List.map_cons, List.map_nil]); first | done | rfl | (simp only [List.length_drop, List.length_take]; rfl) | (simp only [List.length_drop, List.length_take]; rw [Nat.min_eq_left (by first | assumption | omega)]; rfl)) ?_; (with_reducible refine (color_RGB.calls k a1 t119 t120 t121 true _ A4.out).mono ?_); rintro e w8 ⟨rfl, hb⟩; refine ⟨_, rfl, ?_⟩; have n0_ := Aside0.mk (below_step (by repeat (first | (with_reducible first | exact HB.out | apply below_alloc | apply pw_below_drewN | apply below_drew1) | exact HB.out)) hb); clear HB; have HB := n0_; clear n0_; (try clear hb); (try clear hb2); (try clear hk); (try clear hi)))
      go_ret
      exact ⟨by first | rfl | (simp [errW_none, errW_some] <;> rfl) | (simp [*, errW_none, errW_some] <;> rfl), by repeat (first | (with_reducible first | exact HB.out | apply below_alloc | apply pw_below_drewN | apply below_drew1) | exact HB.out)⟩
    · replace c6 := Bool.eq_false_iff.mpr c6
      subst c6
      have H1 : (some 0) = some r := by rw [if_neg (show ¬ (false = true) by decide)] at H; exact H
      clear H
      have H := H1
      clear H1
      obtain rfl := Option.some.inj H
      go_enter Try.func32, Try.ntmps32
      go_wp2_with (first | ((with_reducible refine gate_callee (f := 31) rfl ?_); refine goesL_ (some 15) rfl rfl Try.func31 (by kernel_rfl) rfl #[.int .i64 a0] rfl (by (try simp only [List.map_toArray, List.map_cons, List.map_nil]); first | done | rfl | (simp only [List.length_drop, List.length_take]; rfl) | (simp only [List.length_drop, List.length_take]; rw [Nat.min_eq_left (by first | assumption | omega)]; rfl)) ?_; (with_reducible refine (color_RGB.calls k a0 t115 t116 t117 true _ A3.out).mono ?_); rintro e w9 ⟨rfl, hb⟩; refine ⟨_, rfl, ?_⟩; have n0_ := Aside0.mk (below_step (by repeat (first | (with_reducible first | exact HB.out | apply below_alloc | apply pw_below_drewN | apply below_drew1) | exact HB.out)) hb); clear HB; have HB := n0_; clear n0_; (try clear hb); (try clear hb2); (try clear hk); (try clear hi)) | ((with_reducible refine gate_callee (f := 31) rfl ?_); refine goesL_ (some 22) rfl rfl Try.func31 (by kernel_rfl) rfl #[.int .i64 a1] rfl (by (try simp only [List.map_toArray, List.map_cons, List.map_nil]); first | done | rfl | (simp only [List.length_drop, List.length_take]; rfl) | (simp only [List.length_drop, List.length_take]; rw [Nat.min_eq_left (by first | assumption | omega)]; rfl)) ?_; (with_reducible refine (color_RGB.calls k a1 t119 t120 t121 false _ A4.out).mono ?_); rintro e w10 ⟨rfl, hb⟩; refine ⟨_, rfl, ?_⟩; have n0_ := Aside0.mk (below_step (by repeat (first | (with_reducible first | exact HB.out | apply below_alloc | apply pw_below_drewN | apply below_drew1) | exact HB.out)) hb); clear HB; have HB := n0_; clear n0_; (try clear hb); (try clear hb2); (try clear hk); (try clear hi)))
      go_ret
      exact ⟨by first | rfl | (simp [errW_none, errW_some] <;> rfl) | (simp [*, errW_none, errW_some] <;> rfl), by repeat (first | (with_reducible first | exact HB.out | apply below_alloc | apply pw_below_drewN | apply below_drew1) | exact HB.out)⟩
  · replace c5 := Bool.eq_false_iff.mpr c5
    subst c5
    have H1 : (some 0) = some r := by rw [if_neg (show ¬ (false = true) by decide)] at H; exact H
    clear H
    have H := H1
    clear H1
    obtain rfl := Option.some.inj H
    go_enter Try.func32, Try.ntmps32
    go_wp2_with (first | ((with_reducible refine gate_callee (f := 31) rfl ?_); refine goesL_ (some 15) rfl rfl Try.func31 (by kernel_rfl) rfl #[.int .i64 a0] rfl (by (try simp only [List.map_toArray, List.map_cons, List.map_nil]); first | done | rfl | (simp only [List.length_drop, List.length_take]; rfl) | (simp only [List.length_drop, List.length_take]; rw [Nat.min_eq_left (by first | assumption | omega)]; rfl)) ?_; (with_reducible refine (color_RGB.calls k a0 t115 t116 t117 false _ A3.out).mono ?_); rintro e w11 ⟨rfl, hb⟩; refine ⟨_, rfl, ?_⟩; have n0_ := Aside0.mk (below_step (by repeat (first | (with_reducible first | exact HB.out | apply below_alloc | apply pw_below_drewN | apply below_drew1) | exact HB.out)) hb); clear HB; have HB := n0_; clear n0_; (try clear hb); (try clear hb2); (try clear hk); (try clear hi)) | ((with_reducible refine gate_callee (f := 31) rfl ?_); refine goesL_ (some 22) rfl rfl Try.func31 (by kernel_rfl) rfl #[.int .i64 a1] rfl (by (try simp only [List.map_toArray, List.map_cons, List.map_nil]); first | done | rfl | (simp only [List.length_drop, List.length_take]; rfl) | (simp only [List.length_drop, List.length_take]; rw [Nat.min_eq_left (by first | assumption | omega)]; rfl)) ?_; (with_reducible refine (color_RGB.calls k a1 t119 t120 t121 t122 _ A4.out).mono ?_); rintro e w12 ⟨rfl, hb⟩; refine ⟨_, rfl, ?_⟩; have n0_ := Aside0.mk (below_step (by repeat (first | (with_reducible first | exact HB.out | apply below_alloc | apply pw_below_drewN | apply below_drew1) | exact HB.out)) hb); clear HB; have HB := n0_; clear n0_; (try clear hb); (try clear hb2); (try clear hk); (try clear hi)))
    go_ret
    exact ⟨by first | rfl | (simp [errW_none, errW_some] <;> rfl) | (simp [*, errW_none, errW_some] <;> rfl), by repeat (first | (with_reducible first | exact HB.out | apply below_alloc | apply pw_below_drewN | apply below_drew1) | exact HB.out)⟩

/-! ### color_Nearest: function 14 -/
mutual
def color_Nearest.j0 : Nat → Int → Int → Bool → Option (Int)
  | 0, _, _, _ => none
  | k + 1, x0, x1, x27 => if x27 = true then (some (-1)) else (color_Nearest.l0 k x0 0 x1 0)
def color_Nearest.l0 : Nat → Int → Int → Int → Int → Option (Int)
  | 0, _, _, _, _ => none
  | k + 1, x0, x9, x28, x29 => if x29 < x28 then ((color_Far.f k x0 x29).bind fun t127 => ((color_Far.f k x0 x9).bind fun t128 => (if t127 < t128 then (color_Nearest.l0 k x0 x29 x28 (wrap64 (x29 + 1))) else (color_Nearest.l0 k x0 x9 x28 (wrap64 (x29 + 1)))))) else (some x9)
end
def color_Nearest.f (k : Nat) (a0 : Int) (a1 : Int) : Option (Int) := (color_RGB.f k a0).bind fun bt123 => (if bt123.2.2.2 = true then (if a1 < 1 then (color_Nearest.j0 k a0 a1 true) else (color_Nearest.j0 k a0 a1 (decide (a1 > 256)))) else (color_Nearest.j0 k a0 a1 true))
theorem color_Nearest.mono_l : ∀ k, (∀ y0 y1 y2, LeO (color_Nearest.j0 k y0 y1 y2) (color_Nearest.j0 (k + 1) y0 y1 y2)) ∧ (∀ y0 y1 y2 y3, LeO (color_Nearest.l0 k y0 y1 y2 y3) (color_Nearest.l0 (k + 1) y0 y1 y2 y3))
  | 0 => ⟨fun _ _ _ r h => by simp [color_Nearest.j0] at h, fun _ _ _ _ r h => by simp [color_Nearest.l0] at h⟩
  | k + 1 => by
    obtain ⟨ih0, ih1⟩ := color_Nearest.mono_l k
    refine ⟨?_, ?_⟩
    · intro y0 y1 y2
      unfold color_Nearest.j0
      repeat' first
      | (with_reducible exact ih0 _ _ _)
      | (with_reducible exact ih1 _ _ _ _)
      | (with_reducible exact color_Far.mono _ _ _)
      | (with_reducible exact color_RGB.mono _ _)
      | (with_reducible exact LeO.refl _)
      | (with_reducible exact LeO.none _)
      | (with_reducible refine LeO.ite ?_ ?_)
      | (with_reducible refine LeO.bind ?_ (fun _ => ?_))
      | exact ih0 _ _ _
      | exact ih1 _ _ _ _
      | exact color_Far.mono _ _ _
      | exact color_RGB.mono _ _
      | exact LeO.none _
      | refine LeO.ite ?_ ?_
      | refine LeO.bind ?_ (fun _ => ?_)
    · intro y0 y1 y2 y3
      unfold color_Nearest.l0
      repeat' first
      | (with_reducible exact ih0 _ _ _)
      | (with_reducible exact ih1 _ _ _ _)
      | (with_reducible exact color_Far.mono _ _ _)
      | (with_reducible exact color_RGB.mono _ _)
      | (with_reducible exact LeO.refl _)
      | (with_reducible exact LeO.none _)
      | (with_reducible refine LeO.ite ?_ ?_)
      | (with_reducible refine LeO.bind ?_ (fun _ => ?_))
      | exact ih0 _ _ _
      | exact ih1 _ _ _ _
      | exact color_Far.mono _ _ _
      | exact color_RGB.mono _ _
      | exact LeO.none _
      | refine LeO.ite ?_ ?_
      | refine LeO.bind ?_ (fun _ => ?_)
theorem color_Nearest.mono : ∀ a0 a1 k, LeO (color_Nearest.f k a0 a1) (color_Nearest.f (k + 1) a0 a1) := by
  intro a0 a1 k
  obtain ⟨ih0, ih1⟩ := color_Nearest.mono_l k
  unfold color_Nearest.f
  repeat' first
      | (with_reducible exact ih0 _ _ _)
      | (with_reducible exact ih1 _ _ _ _)
      | (with_reducible exact color_Far.mono _ _ _)
      | (with_reducible exact color_RGB.mono _ _)
      | (with_reducible exact LeO.refl _)
      | (with_reducible exact LeO.none _)
      | (with_reducible refine LeO.ite ?_ ?_)
      | (with_reducible refine LeO.bind ?_ (fun _ => ?_))
      | exact ih0 _ _ _
      | exact ih1 _ _ _ _
      | exact color_Far.mono _ _ _
      | exact color_RGB.mono _ _
      | exact LeO.none _
      | refine LeO.ite ?_ ?_
      | refine LeO.bind ?_ (fun _ => ?_)
set_option maxHeartbeats 8000000 in
set_option maxRecDepth 100000 in
theorem color_Nearest.calls (k : Nat) (a0 : Int) (a1 : Int) (r : Int) (w : World) (h : color_Nearest.f k a0 a1 = some r) :
    Calls Try.prog 14 #[.int .i64 a0, .int .i64 a1] w fun e w' => e = .returned (.int .i64 r) ∧ Below w.heap.size w w' := by
  have HB := Aside0.mk (Below.refl w.heap.size w)
  have H : ((color_RGB.f k a0).bind fun bt123 => (if bt123.2.2.2 = true then (if a1 < 1 then (color_Nearest.j0 k a0 a1 true) else (color_Nearest.j0 k a0 a1 (decide (a1 > 256)))) else (color_Nearest.j0 k a0 a1 true))) = some r := h
  clear h
  replace H := Option.bind_eq_some_iff.mp H
  obtain ⟨⟨t123, t124, t125, t126⟩, A30, H⟩ := H
  replace H : (if t126 = true then (if a1 < 1 then (color_Nearest.j0 k a0 a1 true) else (color_Nearest.j0 k a0 a1 (decide (a1 > 256)))) else (color_Nearest.j0 k a0 a1 true)) = some r := H
  have A3 := Aside0.mk A30
  clear A30
  have HC4 := Aside0.mk H
  clear H
  go_enter Try.func14, Try.ntmps14
  go_upto_region 2 with (first | ((with_reducible refine gate_callee (f := 31) rfl ?_); refine goesL_ (some 13) rfl rfl Try.func31 (by kernel_rfl) rfl #[.int .i64 a0] rfl (by (try simp only [List.map_toArray, List.map_cons, List.map_nil]); first | done | rfl | (simp only [List.length_drop, List.length_take]; rfl) | (simp only [List.length_drop, List.length_take]; rw [Nat.min_eq_left (by first | assumption | omega)]; rfl)) ?_; (with_reducible refine (color_RGB.calls k a0 t123 t124 t125 t126 _ A3.out).mono ?_); rintro e w5 ⟨rfl, hb⟩; refine ⟨_, rfl, ?_⟩; have n0_ := Aside0.mk (below_step (by repeat (first | (with_reducible first | exact HB.out | apply below_alloc | apply pw_below_drewN | apply below_drew1) | exact HB.out)) hb); clear HB; have HB := n0_; clear n0_; (try clear hb); (try clear hb2); (try clear hk); (try clear hi)))
  (try simp only [Act.put, List.setIfInBounds_toArray, List.set_cons_zero, List.set_cons_succ])
  go_cut [27] (fun v27 wc => ∃ (kq : Nat) (x27_3 : Bool), v27 = .bool x27_3 ∧ Aside0 (color_Nearest.j0 kq a0 a1 x27_3 = some r) ∧ Aside0 (kq ≤ k) ∧ Aside0 (Below w.heap.size w wc))
  case first =>
    have H := HC4.out
    clear HC4
    by_cases c6 : t126 = true
    · subst c6
      have H1 : (if a1 < 1 then (color_Nearest.j0 k a0 a1 true) else (color_Nearest.j0 k a0 a1 (decide (a1 > 256)))) = some r := by rw [if_pos rfl] at H; exact H
      clear H
      have H := H1
      clear H1
      by_cases c7 : a1 < 1
      · rw [if_pos c7] at H
        have c7b0 : decide (a1 < 1) = true := decide_eq_true c7
        clear c7
        (first | rw [c7b0] | (simp only [i64_w, i32_w]; rw [c7b0]) | skip)
        have H' := Aside0.mk H
        clear H
        go_wp2
        go_meet
        case rel => exact ⟨_, (true), (by first | rfl | (simp; done) | (simp [*]; done)), H', ⟨by first | omega | exact Nat.le_refl _⟩, ⟨by repeat (first | (with_reducible first | exact HB.out | apply below_alloc | apply pw_below_drewN | apply below_drew1) | exact HB.out)⟩⟩
      · rw [if_neg c7] at H
        have c7b0 : decide (a1 < 1) = false := decide_eq_false c7
        clear c7
        (first | rw [c7b0] | (simp only [i64_w, i32_w]; rw [c7b0]) | skip)
        have H' := Aside0.mk H
        clear H
        go_wp2
        go_meet
        case rel => exact ⟨_, (decide (a1 > 256)), (by first | rfl | (simp; done) | (simp [*]; done)), H', ⟨by first | omega | exact Nat.le_refl _⟩, ⟨by repeat (first | (with_reducible first | exact HB.out | apply below_alloc | apply pw_below_drewN | apply below_drew1) | exact HB.out)⟩⟩
    · replace c6 := Bool.eq_false_iff.mpr c6
      subst c6
      have H1 : (color_Nearest.j0 k a0 a1 true) = some r := by rw [if_neg (show ¬ (false = true) by decide)] at H; exact H
      clear H
      have H := H1
      clear H1
      have H' := Aside0.mk H
      clear H
      go_wp2
      go_meet
      case rel => exact ⟨_, (true), (by first | rfl | (simp; done) | (simp [*]; done)), H', ⟨by first | omega | exact Nat.le_refl _⟩, ⟨by repeat (first | (with_reducible first | exact HB.out | apply below_alloc | apply pw_below_drewN | apply below_drew1) | exact HB.out)⟩⟩
  case rest =>
    clear HC4
    try clear c1
    try clear p2
    try clear c3
    try clear c6
    try clear c7
    try clear c7b0
    obtain ⟨kq, x27_3, rfl, HA, HJ3, HB⟩ := hcut
    cases kq with
    | zero => exact absurd HA.out (by simp [color_Nearest.j0])
    | succ kj3 =>
      have H := HA.out
      clear HA
      simp only [color_Nearest.j0] at H
      by_cases c8 : x27_3 = true
      · subst c8
        have H1 : (some (-1)) = some r := by rw [if_pos rfl] at H; exact H
        clear H
        have H := H1
        clear H1
        obtain rfl := Option.some.inj H
        go_wp2
        go_ret
        exact ⟨by first | rfl | (simp [errW_none, errW_some] <;> rfl) | (simp [*, errW_none, errW_some] <;> rfl), by repeat (first | (with_reducible first | exact HB.out | apply below_alloc | apply pw_below_drewN | apply below_drew1) | exact HB.out)⟩
      · replace c8 := Bool.eq_false_iff.mpr c8
        subst c8
        have H1 : (color_Nearest.l0 kj3 a0 0 a1 0) = some r := by rw [if_neg (show ¬ (false = true) by decide)] at H; exact H
        clear H
        have H := H1
        clear H1
        have H' := Aside0.mk H
        clear H
        go_wp2
        go_loopg [9, 29] kj3 (fun kq v9 v29 w' => ∃ (x9_2 : Int) (x29_2 : Int), v9 = .int .i64 x9_2 ∧ v29 = .int .i64 x29_2 ∧ Aside0 (color_Nearest.l0 kq a0 x9_2 a1 x29_2 = some r) ∧ Aside0 (kq ≤ kj3) ∧ Aside0 (Below w.heap.size w w'))
        case atStart => exact ⟨(0), (0), (by first | rfl | (simp; done) | (simp [*]; done)), (by first | rfl | (simp; done) | (simp [*]; done)), H', ⟨Nat.le_refl _⟩, ⟨by repeat (first | (with_reducible first | exact HB.out | apply below_alloc | apply pw_below_drewN | apply below_drew1) | exact HB.out)⟩⟩
        case round =>
          clear H'
          try clear c1
          try clear p2
          try clear c3
          try clear c6
          try clear c7
          try clear c7b0
          try clear c8
          try clear p2
          obtain ⟨x9_2, x29_2, rfl, rfl, HA, HK2, HB⟩ := hrel
          cases gk with
          | zero => exact absurd HA.out (by simp [color_Nearest.l0])
          | succ k2 =>
            have H := HA.out
            clear HA
            simp only [color_Nearest.l0] at H
            by_cases c9 : x29_2 < a1
            · rw [if_pos c9] at H
              have c9b0 : decide (x29_2 < a1) = true := decide_eq_true c9
              clear c9
              replace H := Option.bind_eq_some_iff.mp H
              obtain ⟨t127, A100, H⟩ := H
              replace H : ((color_Far.f k2 a0 x9_2).bind fun t128 => (if t127 < t128 then (color_Nearest.l0 k2 a0 x29_2 a1 (wrap64 (x29_2 + 1))) else (color_Nearest.l0 k2 a0 x9_2 a1 (wrap64 (x29_2 + 1))))) = some r := H
              have A10 := Aside0.mk A100
              clear A100
              replace H := Option.bind_eq_some_iff.mp H
              obtain ⟨t128, A110, H⟩ := H
              replace H : (if t127 < t128 then (color_Nearest.l0 k2 a0 x29_2 a1 (wrap64 (x29_2 + 1))) else (color_Nearest.l0 k2 a0 x9_2 a1 (wrap64 (x29_2 + 1)))) = some r := H
              have A11 := Aside0.mk A110
              clear A110
              by_cases c12 : t127 < t128
              · rw [if_pos c12] at H
                have c12b0 : decide (t127 < t128) = true := decide_eq_true c12
                clear c12
                have H' := Aside0.mk H
                clear H
                go_wp2_with (first | ((with_reducible refine gate_callee (f := 32) rfl ?_); refine goesL_ (some 34) rfl rfl Try.func32 (by kernel_rfl) rfl #[.int .i64 a0, .int .i64 x29_2] rfl (by (try simp only [List.map_toArray, List.map_cons, List.map_nil]); first | done | rfl | (simp only [List.length_drop, List.length_take]; rfl) | (simp only [List.length_drop, List.length_take]; rw [Nat.min_eq_left (by first | assumption | omega)]; rfl)) ?_; (with_reducible refine (color_Far.calls k2 a0 x29_2 t127 _ A10.out).mono ?_); rintro e w13 ⟨rfl, hb⟩; refine ⟨_, rfl, ?_⟩; have n0_ := Aside0.mk (below_step (by repeat (first | (with_reducible first | exact HB.out | apply below_alloc | apply pw_below_drewN | apply below_drew1) | exact HB.out)) hb); clear HB; have HB := n0_; clear n0_; (try clear hb); (try clear hb2); (try clear hk); (try clear hi)) | ((with_reducible refine gate_callee (f := 32) rfl ?_); refine goesL_ (some 37) rfl rfl Try.func32 (by kernel_rfl) rfl #[.int .i64 a0, .int .i64 x9_2] rfl (by (try simp only [List.map_toArray, List.map_cons, List.map_nil]); first | done | rfl | (simp only [List.length_drop, List.length_take]; rfl) | (simp only [List.length_drop, List.length_take]; rw [Nat.min_eq_left (by first | assumption | omega)]; rfl)) ?_; (with_reducible refine (color_Far.calls k2 a0 x9_2 t128 _ A11.out).mono ?_); rintro e w14 ⟨rfl, hb⟩; refine ⟨_, rfl, ?_⟩; have n0_ := Aside0.mk (below_step (by repeat (first | (with_reducible first | exact HB.out | apply below_alloc | apply pw_below_drewN | apply below_drew1) | exact HB.out)) hb); clear HB; have HB := n0_; clear n0_; (try clear hb); (try clear hb2); (try clear hk); (try clear hi)))
                go_roundg k2
                case measure => have := HJ3.out; have := HK2.out; omega
                case rel => exact ⟨(x29_2), (wrap64 (x29_2 + 1)), (by first | rfl | (simp; done) | (simp [*]; done)), (by first | rfl | (simp; done) | (simp [*]; done)), H', ⟨by have := HJ3.out; have := HK2.out; omega⟩, ⟨by repeat (first | (with_reducible first | exact HB.out | apply below_alloc | apply pw_below_drewN | apply below_drew1) | exact HB.out)⟩⟩
              · rw [if_neg c12] at H
                have c12b0 : decide (t127 < t128) = false := decide_eq_false c12
                clear c12
                have H' := Aside0.mk H
                clear H
                go_wp2_with (first | ((with_reducible refine gate_callee (f := 32) rfl ?_); refine goesL_ (some 34) rfl rfl Try.func32 (by kernel_rfl) rfl #[.int .i64 a0, .int .i64 x29_2] rfl (by (try simp only [List.map_toArray, List.map_cons, List.map_nil]); first | done | rfl | (simp only [List.length_drop, List.length_take]; rfl) | (simp only [List.length_drop, List.length_take]; rw [Nat.min_eq_left (by first | assumption | omega)]; rfl)) ?_; (with_reducible refine (color_Far.calls k2 a0 x29_2 t127 _ A10.out).mono ?_); rintro e w15 ⟨rfl, hb⟩; refine ⟨_, rfl, ?_⟩; have n0_ := Aside0.mk (below_step (by repeat (first | (with_reducible first | exact HB.out | apply below_alloc | apply pw_below_drewN | apply below_drew1) | exact HB.out)) hb); clear HB; have HB := n0_; clear n0_; (try clear hb); (try clear hb2); (try clear hk); (try clear hi)) | ((with_reducible refine gate_callee (f := 32) rfl ?_); refine goesL_ (some 37) rfl rfl Try.func32 (by kernel_rfl) rfl #[.int .i64 a0, .int .i64 x9_2] rfl (by (try simp only [List.map_toArray, List.map_cons, List.map_nil]); first | done | rfl | (simp only [List.length_drop, List.length_take]; rfl) | (simp only [List.length_drop, List.length_take]; rw [Nat.min_eq_left (by first | assumption | omega)]; rfl)) ?_; (with_reducible refine (color_Far.calls k2 a0 x9_2 t128 _ A11.out).mono ?_); rintro e w16 ⟨rfl, hb⟩; refine ⟨_, rfl, ?_⟩; have n0_ := Aside0.mk (below_step (by repeat (first | (with_reducible first | exact HB.out | apply below_alloc | apply pw_below_drewN | apply below_drew1) | exact HB.out)) hb); clear HB; have HB := n0_; clear n0_; (try clear hb); (try clear hb2); (try clear hk); (try clear hi)))
                go_roundg k2
                case measure => have := HJ3.out; have := HK2.out; omega
                case rel => exact ⟨(x9_2), (wrap64 (x29_2 + 1)), (by first | rfl | (simp; done) | (simp [*]; done)), (by first | rfl | (simp; done) | (simp [*]; done)), H', ⟨by have := HJ3.out; have := HK2.out; omega⟩, ⟨by repeat (first | (with_reducible first | exact HB.out | apply below_alloc | apply pw_below_drewN | apply below_drew1) | exact HB.out)⟩⟩
            · rw [if_neg c9] at H
              have c9b0 : decide (x29_2 < a1) = false := decide_eq_false c9
              clear c9
              obtain rfl := Option.some.inj H
              go_wp2
              go_ret
              exact ⟨by first | rfl | (simp [errW_none, errW_some] <;> rfl) | (simp [*, errW_none, errW_some] <;> rfl), by repeat (first | (with_reducible first | exact HB.out | apply below_alloc | apply pw_below_drewN | apply below_drew1) | exact HB.out)⟩

/-! ### color_Lower: function 28 -/
def color_Lower.f (k : Nat) (a0 : Int) (a1 : Int) : Option (Int) := if a1 < 1 then (some (-1)) else (if a0 < 0 then (some a0) else (if a0 < a1 then (some a0) else ((color_Nearest.f k a0 a1).bind fun t129 => (some t129))))
theorem color_Lower.mono : ∀ a0 a1 k, LeO (color_Lower.f k a0 a1) (color_Lower.f (k + 1) a0 a1) := by
  intro a0 a1 k
  unfold color_Lower.f
  repeat' first
      | (with_reducible exact color_Nearest.mono _ _ _)
      | (with_reducible exact LeO.refl _)
      | (with_reducible exact LeO.none _)
      | (with_reducible refine LeO.ite ?_ ?_)
      | (with_reducible refine LeO.bind ?_ (fun _ => ?_))
      | exact color_Nearest.mono _ _ _
      | exact LeO.none _
      | refine LeO.ite ?_ ?_
      | refine LeO.bind ?_ (fun _ => ?_)
set_option maxHeartbeats 8000000 in
set_option maxRecDepth 100000 in
theorem color_Lower.calls (k : Nat) (a0 : Int) (a1 : Int) (r : Int) (w : World) (h : color_Lower.f k a0 a1 = some r) :
    Calls Try.prog 28 #[.int .i64 a0, .int .i64 a1] w fun e w' => e = .returned (.int .i64 r) ∧ Below w.heap.size w w' := by
  have HB := Aside0.mk (Below.refl w.heap.size w)
  have H : (if a1 < 1 then (some (-1)) else (if a0 < 0 then (some a0) else (if a0 < a1 then (some a0) else ((color_Nearest.f k a0 a1).bind fun t129 => (some t129))))) = some r := h
  clear h
  by_cases c3 : a1 < 1
  · rw [if_pos c3] at H
    have c3b0 : decide (a1 < 1) = true := decide_eq_true c3
    clear c3
    obtain rfl := Option.some.inj H
    go_enter Try.func28, Try.ntmps28
    go_wp2
    go_ret
    exact ⟨by first | rfl | (simp [errW_none, errW_some] <;> rfl) | (simp [*, errW_none, errW_some] <;> rfl), by repeat (first | (with_reducible first | exact HB.out | apply below_alloc | apply pw_below_drewN | apply below_drew1) | exact HB.out)⟩
  · rw [if_neg c3] at H
    have c3b0 : decide (a1 < 1) = false := decide_eq_false c3
    clear c3
    by_cases c4 : a0 < 0
    · rw [if_pos c4] at H
      have c4b0 : decide (a0 < 0) = true := decide_eq_true c4
      clear c4
      obtain rfl := Option.some.inj H
      go_enter Try.func28, Try.ntmps28
      go_wp2
      go_ret
      exact ⟨by first | rfl | (simp [errW_none, errW_some] <;> rfl) | (simp [*, errW_none, errW_some] <;> rfl), by repeat (first | (with_reducible first | exact HB.out | apply below_alloc | apply pw_below_drewN | apply below_drew1) | exact HB.out)⟩
    · rw [if_neg c4] at H
      have c4b0 : decide (a0 < 0) = false := decide_eq_false c4
      clear c4
      by_cases c5 : a0 < a1
      · rw [if_pos c5] at H
        have c5b0 : decide (a0 < a1) = true := decide_eq_true c5
        clear c5
        obtain rfl := Option.some.inj H
        go_enter Try.func28, Try.ntmps28
        go_wp2
        go_ret
        exact ⟨by first | rfl | (simp [errW_none, errW_some] <;> rfl) | (simp [*, errW_none, errW_some] <;> rfl), by repeat (first | (with_reducible first | exact HB.out | apply below_alloc | apply pw_below_drewN | apply below_drew1) | exact HB.out)⟩
      · rw [if_neg c5] at H
        have c5b0 : decide (a0 < a1) = false := decide_eq_false c5
        clear c5
        replace H := Option.bind_eq_some_iff.mp H
        obtain ⟨t129, A60, H⟩ := H
        replace H : (some t129) = some r := H
        have A6 := Aside0.mk A60
        clear A60
        obtain rfl := Option.some.inj H
        go_enter Try.func28, Try.ntmps28
        go_wp2_with (first | ((with_reducible refine gate_callee (f := 14) rfl ?_); refine goesL_ (some 19) rfl rfl Try.func14 (by kernel_rfl) rfl #[.int .i64 a0, .int .i64 a1] rfl (by (try simp only [List.map_toArray, List.map_cons, List.map_nil]); first | done | rfl | (simp only [List.length_drop, List.length_take]; rfl) | (simp only [List.length_drop, List.length_take]; rw [Nat.min_eq_left (by first | assumption | omega)]; rfl)) ?_; (with_reducible refine (color_Nearest.calls k a0 a1 t129 _ A6.out).mono ?_); rintro e w7 ⟨rfl, hb⟩; refine ⟨_, rfl, ?_⟩; have n0_ := Aside0.mk (below_step (by repeat (first | (with_reducible first | exact HB.out | apply below_alloc | apply pw_below_drewN | apply below_drew1) | exact HB.out)) hb); clear HB; have HB := n0_; clear n0_; (try clear hb); (try clear hb2); (try clear hk); (try clear hi)))
        go_ret
        exact ⟨by first | rfl | (simp [errW_none, errW_some] <;> rfl) | (simp [*, errW_none, errW_some] <;> rfl), by repeat (first | (with_reducible first | exact HB.out | apply below_alloc | apply pw_below_drewN | apply below_drew1) | exact HB.out)⟩

end Go.Proofs.Ytlpmhldejeaefaa.GLowerRuns
