-- Written by a program of this session (out of the kit's printer); Lean checks it.
import Derived.Test.YthlmpppddloiaaaGColorTellsx0
import Derived.Test.YthlmpppddloiaaaGColorTellsx1
namespace Go.Proofs.Ythlmpppddloiaaa.GColorTells
open Go.RowKit Go.Proofs.YthlmpppddloiaaaW.PrintWords Go.Proofs.YthlmpppddloiaaaW.PrintLast Go.Proofs.YthlmpppddloiaaaW.PrintMore
attribute [local go_sem] max2_int min2_int max_two min_two max_three min_three max_four min_four   -- for this text's walks alone
set_option linter.unusedVariables false
set_option linter.unusedSimpArgs false

/-! ### linguistref1_RGB: function 13 -/
mutual
def linguistref1_RGB.j0 : Nat → Int → Bool → Option (Int × Int × Int × Bool)
  | 0, _, _ => none
  | k + 1, x0, x15 => if x15 = true then (some (Int.tmod (wrap64 (Int.tdiv x0 65536)) 256, Int.tmod (wrap64 (Int.tdiv x0 256)) 256, Int.tmod x0 256, true)) else ((some (([(⟨0, 0, 0⟩ : S39), (⟨205, 0, 0⟩ : S39), (⟨0, 205, 0⟩ : S39), (⟨205, 205, 0⟩ : S39), (⟨0, 0, 238⟩ : S39), (⟨205, 0, 205⟩ : S39), (⟨0, 205, 205⟩ : S39), (⟨229, 229, 229⟩ : S39), (⟨127, 127, 127⟩ : S39), (⟨255, 0, 0⟩ : S39), (⟨0, 255, 0⟩ : S39), (⟨255, 255, 0⟩ : S39), (⟨92, 92, 255⟩ : S39), (⟨255, 0, 255⟩ : S39), (⟨0, 255, 255⟩ : S39), (⟨255, 255, 255⟩ : S39)] : List (S39)) : List (S39))).bind fun y136 => ((some (([0, 95, 135, 175, 215, 255] : List Int) : List Int)).bind fun y139 => (if x0 < 0 then (linguistref1_RGB.j1 k x0 y136 y139 true) else (linguistref1_RGB.j1 k x0 y136 y139 (decide (x0 > 255))))))
def linguistref1_RGB.j1 : Nat → Int → List (S39) → List Int → Bool → Option (Int × Int × Int × Bool)
  | 0, _, _, _, _ => none
  | k + 1, x0, x6, x7, x42 => if x42 = true then (some (0, 0, 0, false)) else (if x0 < 16 then (if 0 ≤ x0 then (if x0 < (x6.length : Int) then (some ((rd_T39 x6 x0).f0, (rd_T39 x6 x0).f1, (rd_T39 x6 x0).f2, true)) else (none)) else (none)) else (if x0 < 232 then (if 0 ≤ (wrap64 (Int.tdiv (wrap64 (x0 - 16)) 36)) then (if (wrap64 (Int.tdiv (wrap64 (x0 - 16)) 36)) < (x7.length : Int) then (if 0 ≤ (Int.tmod (wrap64 (Int.tdiv (wrap64 (x0 - 16)) 6)) 6) then (if (Int.tmod (wrap64 (Int.tdiv (wrap64 (x0 - 16)) 6)) 6) < (x7.length : Int) then (if 0 ≤ (Int.tmod (wrap64 (x0 - 16)) 6) then (if (Int.tmod (wrap64 (x0 - 16)) 6) < (x7.length : Int) then (some (rd x7 (wrap64 (Int.tdiv (wrap64 (x0 - 16)) 36)), rd x7 (Int.tmod (wrap64 (Int.tdiv (wrap64 (x0 - 16)) 6)) 6), rd x7 (Int.tmod (wrap64 (x0 - 16)) 6), true)) else (none)) else (none)) else (none)) else (none)) else (none)) else (none)) else (some (wrap64 (8 + (wrap64 (10 * (wrap64 (x0 - 232))))), wrap64 (8 + (wrap64 (10 * (wrap64 (x0 - 232))))), wrap64 (8 + (wrap64 (10 * (wrap64 (x0 - 232))))), true))))
end
def linguistref1_RGB.f (k : Nat) (a0 : Int) : Option (Int × Int × Int × Bool) := if a0 ≥ 16777216 then (linguistref1_RGB.j0 k a0 (decide (a0 < 33554432))) else (linguistref1_RGB.j0 k a0 false)
theorem linguistref1_RGB.mono_l : ∀ k, (∀ y0 y1, LeO (linguistref1_RGB.j0 k y0 y1) (linguistref1_RGB.j0 (k + 1) y0 y1)) ∧ (∀ y0 y1 y2 y3, LeO (linguistref1_RGB.j1 k y0 y1 y2 y3) (linguistref1_RGB.j1 (k + 1) y0 y1 y2 y3))
  | 0 => ⟨fun _ _ r h => by simp [linguistref1_RGB.j0] at h, fun _ _ _ _ r h => by simp [linguistref1_RGB.j1] at h⟩
  | k + 1 => by
    obtain ⟨ih0, ih1⟩ := linguistref1_RGB.mono_l k
    refine ⟨?_, ?_⟩
    · intro y0 y1
      unfold linguistref1_RGB.j0
      repeat' first
      | (with_reducible exact ih0 _ _)
      | (with_reducible exact ih1 _ _ _ _)
      | (with_reducible exact LeO.refl _)
      | (with_reducible exact LeO.none _)
      | (with_reducible refine LeO.ite ?_ ?_)
      | (with_reducible refine LeO.bind ?_ (fun _ => ?_))
      | exact ih0 _ _
      | exact ih1 _ _ _ _
      | exact LeO.none _
      | refine LeO.ite ?_ ?_
      | refine LeO.bind ?_ (fun _ => ?_)
    · intro y0 y1 y2 y3
      unfold linguistref1_RGB.j1
      repeat' first
      | (with_reducible exact ih0 _ _)
      | (with_reducible exact ih1 _ _ _ _)
      | (with_reducible exact LeO.refl _)
      | (with_reducible exact LeO.none _)
      | (with_reducible refine LeO.ite ?_ ?_)
      | (with_reducible refine LeO.bind ?_ (fun _ => ?_))
      | exact ih0 _ _
      | exact ih1 _ _ _ _
      | exact LeO.none _
      | refine LeO.ite ?_ ?_
      | refine LeO.bind ?_ (fun _ => ?_)
theorem linguistref1_RGB.mono : ∀ a0 k, LeO (linguistref1_RGB.f k a0) (linguistref1_RGB.f (k + 1) a0) := by
  intro a0 k
  obtain ⟨ih0, ih1⟩ := linguistref1_RGB.mono_l k
  unfold linguistref1_RGB.f
  repeat' first
      | (with_reducible exact ih0 _ _)
      | (with_reducible exact ih1 _ _ _ _)
      | (with_reducible exact LeO.refl _)
      | (with_reducible exact LeO.none _)
      | (with_reducible refine LeO.ite ?_ ?_)
      | (with_reducible refine LeO.bind ?_ (fun _ => ?_))
      | exact ih0 _ _
      | exact ih1 _ _ _ _
      | exact LeO.none _
      | refine LeO.ite ?_ ?_
      | refine LeO.bind ?_ (fun _ => ?_)
set_option maxHeartbeats 8000000 in
set_option maxRecDepth 100000 in
theorem linguistref1_RGB.calls (k : Nat) (a0 : Int) (r1 : Int) (r2 : Int) (r3 : Int) (r4 : Bool) (w : World) (h : linguistref1_RGB.f k a0 = some (r1, r2, r3, r4)) :
    Calls Try.prog 13 #[.int .i64 a0] w fun e w' => e = .returned (.tuple #[.int .i64 r1, .int .i64 r2, .int .i64 r3, .bool r4]) ∧ Below w.heap.size w w' := by
  have hu39 := Try.underlying39
  have HB := Aside0.mk (Below.refl w.heap.size w)
  have H : (if a0 ≥ 16777216 then (linguistref1_RGB.j0 k a0 (decide (a0 < 33554432))) else (linguistref1_RGB.j0 k a0 false)) = some (r1, r2, r3, r4) := h
  clear h
  have HC2 := Aside0.mk H
  clear H
  go_enter Try.func13, Try.ntmps13
  go_upto_region 1 with (fail)
  repeat (go_quiet (fail); go_upto_region 1 with (fail))
  go_cut [15] (fun v15 wc => ∃ (kq : Nat) (x15_1 : Bool), v15 = .bool x15_1 ∧ Aside0 (linguistref1_RGB.j0 kq a0 x15_1 = some (r1, r2, r3, r4)) ∧ Aside0 (kq ≤ k) ∧ Aside0 (Below w.heap.size w wc))
  case first =>
    have H := HC2.out
    clear HC2
    by_cases c3 : a0 ≥ 16777216
    · rw [if_pos c3] at H
      have c3b0 : decide (16777216 ≤ a0) = true := decide_eq_true c3
      clear c3
      (first | rw [c3b0] | (simp only [i64_w, i32_w]; rw [c3b0]) | skip)
      have H' := Aside0.mk H
      clear H
      go_wp2
      repeat (go_quiet (fail); try go_wp2)
      go_meet
      case rel => exact ⟨_, (decide (a0 < 33554432)), (by first | rfl | (simp; done) | (simp [*]; done)), H', ⟨by first | omega | exact Nat.le_refl _⟩, ⟨by repeat (first | (with_reducible first | exact HB.out | apply below_alloc | apply pw_below_drewN | apply below_drew1) | exact HB.out)⟩⟩
    · rw [if_neg c3] at H
      have c3b0 : decide (16777216 ≤ a0) = false := decide_eq_false c3
      clear c3
      (first | rw [c3b0] | (simp only [i64_w, i32_w]; rw [c3b0]) | skip)
      have H' := Aside0.mk H
      clear H
      go_wp2
      repeat (go_quiet (fail); try go_wp2)
      go_meet
      case rel => exact ⟨_, (false), (by first | rfl | (simp; done) | (simp [*]; done)), H', ⟨by first | omega | exact Nat.le_refl _⟩, ⟨by repeat (first | (with_reducible first | exact HB.out | apply below_alloc | apply pw_below_drewN | apply below_drew1) | exact HB.out)⟩⟩
  case rest =>
    clear HC2
    try clear c1
    try clear p2
    try clear c3
    try clear c3b0
    obtain ⟨kq, x15_1, rfl, HA, HJ1, HB⟩ := hcut
    cases kq with
    | zero => exact absurd HA.out (by simp [linguistref1_RGB.j0])
    | succ kj1 =>
      have H := HA.out
      clear HA
      simp only [linguistref1_RGB.j0] at H
      by_cases c4 : x15_1 = true
      · subst c4
        have H1 : (some (Int.tmod (wrap64 (Int.tdiv a0 65536)) 256, Int.tmod (wrap64 (Int.tdiv a0 256)) 256, Int.tmod a0 256, true)) = some (r1, r2, r3, r4) := by rw [if_pos rfl] at H; exact H
        clear H
        have H := H1
        clear H1
        simp only [Option.some.injEq, Prod.mk.injEq] at H
        obtain ⟨rfl, rfl, rfl, rfl⟩ := H
        go_wp2
        repeat (go_quiet (fail); try go_wp2)
        refine bodyPost_ret (results_list (rs := [.tmp 2, .tmp 3, .tmp 4, .tmp 5]) rfl (by simp) (.tmp (.tmp (.tmp (.tmp .nil))))) rfl ?_
        exact ⟨by first | rfl | (simp [errW_none, errW_some] <;> rfl) | (simp [*, errW_none, errW_some] <;> rfl), by repeat (first | (with_reducible first | exact HB.out | apply below_alloc | apply pw_below_drewN | apply below_drew1) | exact HB.out)⟩
      · replace c4 := Bool.eq_false_iff.mpr c4
        subst c4
        have H1 : ((some (([(⟨0, 0, 0⟩ : S39), (⟨205, 0, 0⟩ : S39), (⟨0, 205, 0⟩ : S39), (⟨205, 205, 0⟩ : S39), (⟨0, 0, 238⟩ : S39), (⟨205, 0, 205⟩ : S39), (⟨0, 205, 205⟩ : S39), (⟨229, 229, 229⟩ : S39), (⟨127, 127, 127⟩ : S39), (⟨255, 0, 0⟩ : S39), (⟨0, 255, 0⟩ : S39), (⟨255, 255, 0⟩ : S39), (⟨92, 92, 255⟩ : S39), (⟨255, 0, 255⟩ : S39), (⟨0, 255, 255⟩ : S39), (⟨255, 255, 255⟩ : S39)] : List (S39)) : List (S39))).bind fun y136 => ((some (([0, 95, 135, 175, 215, 255] : List Int) : List Int)).bind fun y139 => (if a0 < 0 then (linguistref1_RGB.j1 kj1 a0 y136 y139 true) else (linguistref1_RGB.j1 kj1 a0 y136 y139 (decide (a0 > 255)))))) = some (r1, r2, r3, r4) := by rw [if_neg (show ¬ (false = true) by decide)] at H; exact H
        clear H
        have H := H1
        clear H1
        obtain ⟨y136, hy136⟩ : ∃ y_ : List (S39), y_ = (([(⟨0, 0, 0⟩ : S39), (⟨205, 0, 0⟩ : S39), (⟨0, 205, 0⟩ : S39), (⟨205, 205, 0⟩ : S39), (⟨0, 0, 238⟩ : S39), (⟨205, 0, 205⟩ : S39), (⟨0, 205, 205⟩ : S39), (⟨229, 229, 229⟩ : S39), (⟨127, 127, 127⟩ : S39), (⟨255, 0, 0⟩ : S39), (⟨0, 255, 0⟩ : S39), (⟨255, 255, 0⟩ : S39), (⟨92, 92, 255⟩ : S39), (⟨255, 0, 255⟩ : S39), (⟨0, 255, 255⟩ : S39), (⟨255, 255, 255⟩ : S39)] : List (S39))) := ⟨_, rfl⟩
        replace H : ((some (([0, 95, 135, 175, 215, 255] : List Int) : List Int)).bind fun y139 => (if a0 < 0 then (linguistref1_RGB.j1 kj1 a0 y136 y139 true) else (linguistref1_RGB.j1 kj1 a0 y136 y139 (decide (a0 > 255))))) = some (r1, r2, r3, r4) := by first | (rw [hy136]; with_reducible exact H) | (have H2_ := (Option.bind_some _ _).symm.trans H; rw [hy136]; with_reducible exact H2_) | (have H2_ := (Option.bind_some _ _).symm.trans H; with_reducible exact H2_) | with_reducible exact H | (rw [hy136]; exact H) | exact H
        have Ny136 := Aside0.mk hy136
        clear hy136
        obtain ⟨y139, hy139⟩ : ∃ y_ : List Int, y_ = (([0, 95, 135, 175, 215, 255] : List Int)) := ⟨_, rfl⟩
        replace H : (if a0 < 0 then (linguistref1_RGB.j1 kj1 a0 y136 y139 true) else (linguistref1_RGB.j1 kj1 a0 y136 y139 (decide (a0 > 255)))) = some (r1, r2, r3, r4) := by first | (rw [hy139]; with_reducible exact H) | (have H2_ := (Option.bind_some _ _).symm.trans H; rw [hy139]; with_reducible exact H2_) | (have H2_ := (Option.bind_some _ _).symm.trans H; with_reducible exact H2_) | with_reducible exact H | (rw [hy139]; exact H) | exact H
        have Ny139 := Aside0.mk hy139
        clear hy139
        have HC5 := Aside0.mk H
        clear H
        go_upto_region 5 with (first | ((with_reducible refine gate_dst (N := 40) rfl ?_); refine Kd.R_lit k39 _ 39 ?hg (N := 40) ?hd (xs := ([(⟨0, 0, 0⟩ : S39), (⟨205, 0, 0⟩ : S39), (⟨0, 205, 0⟩ : S39), (⟨205, 205, 0⟩ : S39), (⟨0, 0, 238⟩ : S39), (⟨205, 0, 205⟩ : S39), (⟨0, 205, 205⟩ : S39), (⟨229, 229, 229⟩ : S39), (⟨127, 127, 127⟩ : S39), (⟨255, 0, 0⟩ : S39), (⟨0, 255, 0⟩ : S39), (⟨255, 255, 0⟩ : S39), (⟨92, 92, 255⟩ : S39), (⟨255, 0, 255⟩ : S39), (⟨0, 255, 255⟩ : S39), (⟨255, 255, 255⟩ : S39)] : List (S39))) (inner := [.int .i64 0, .int .i64 0, .int .i64 0, .int .i64 205, .int .i64 0, .int .i64 0, .int .i64 0, .int .i64 205, .int .i64 0, .int .i64 205, .int .i64 205, .int .i64 0, .int .i64 0, .int .i64 0, .int .i64 238, .int .i64 205, .int .i64 0, .int .i64 205, .int .i64 0, .int .i64 205, .int .i64 205, .int .i64 229, .int .i64 229, .int .i64 229, .int .i64 127, .int .i64 127, .int .i64 127, .int .i64 255, .int .i64 0, .int .i64 0, .int .i64 0, .int .i64 255, .int .i64 0, .int .i64 255, .int .i64 255, .int .i64 0, .int .i64 92, .int .i64 92, .int .i64 255, .int .i64 255, .int .i64 0, .int .i64 255, .int .i64 0, .int .i64 255, .int .i64 255, .int .i64 255, .int .i64 255, .int .i64 255]) (ok := fun _ => True) (okp := fun _ => True) ?hr ?hp (fun _ hk => hk) trivial (Below.refl _ _) (Nat.le_refl _) (by simp) ?_; (case hd => rfl); (case hg => rfl); (case hr => first | (go_simp; done) | (go_simp; rfl)); (case hp => exact (Reps.c3 (show Kd.M k39 _ _ _ (⟨0, 0, 0⟩ : S39) [.int .i64 0, .int .i64 0, .int .i64 0] from (k39_mkM _ _ _ (⟨0, 0, 0⟩ : S39) )) (Reps.c3 (show Kd.M k39 _ _ _ (⟨205, 0, 0⟩ : S39) [.int .i64 205, .int .i64 0, .int .i64 0] from (k39_mkM _ _ _ (⟨205, 0, 0⟩ : S39) )) (Reps.c3 (show Kd.M k39 _ _ _ (⟨0, 205, 0⟩ : S39) [.int .i64 0, .int .i64 205, .int .i64 0] from (k39_mkM _ _ _ (⟨0, 205, 0⟩ : S39) )) (Reps.c3 (show Kd.M k39 _ _ _ (⟨205, 205, 0⟩ : S39) [.int .i64 205, .int .i64 205, .int .i64 0] from (k39_mkM _ _ _ (⟨205, 205, 0⟩ : S39) )) (Reps.c3 (show Kd.M k39 _ _ _ (⟨0, 0, 238⟩ : S39) [.int .i64 0, .int .i64 0, .int .i64 238] from (k39_mkM _ _ _ (⟨0, 0, 238⟩ : S39) )) (Reps.c3 (show Kd.M k39 _ _ _ (⟨205, 0, 205⟩ : S39) [.int .i64 205, .int .i64 0, .int .i64 205] from (k39_mkM _ _ _ (⟨205, 0, 205⟩ : S39) )) (Reps.c3 (show Kd.M k39 _ _ _ (⟨0, 205, 205⟩ : S39) [.int .i64 0, .int .i64 205, .int .i64 205] from (k39_mkM _ _ _ (⟨0, 205, 205⟩ : S39) )) (Reps.c3 (show Kd.M k39 _ _ _ (⟨229, 229, 229⟩ : S39) [.int .i64 229, .int .i64 229, .int .i64 229] from (k39_mkM _ _ _ (⟨229, 229, 229⟩ : S39) )) (Reps.c3 (show Kd.M k39 _ _ _ (⟨127, 127, 127⟩ : S39) [.int .i64 127, .int .i64 127, .int .i64 127] from (k39_mkM _ _ _ (⟨127, 127, 127⟩ : S39) )) (Reps.c3 (show Kd.M k39 _ _ _ (⟨255, 0, 0⟩ : S39) [.int .i64 255, .int .i64 0, .int .i64 0] from (k39_mkM _ _ _ (⟨255, 0, 0⟩ : S39) )) (Reps.c3 (show Kd.M k39 _ _ _ (⟨0, 255, 0⟩ : S39) [.int .i64 0, .int .i64 255, .int .i64 0] from (k39_mkM _ _ _ (⟨0, 255, 0⟩ : S39) )) (Reps.c3 (show Kd.M k39 _ _ _ (⟨255, 255, 0⟩ : S39) [.int .i64 255, .int .i64 255, .int .i64 0] from (k39_mkM _ _ _ (⟨255, 255, 0⟩ : S39) )) (Reps.c3 (show Kd.M k39 _ _ _ (⟨92, 92, 255⟩ : S39) [.int .i64 92, .int .i64 92, .int .i64 255] from (k39_mkM _ _ _ (⟨92, 92, 255⟩ : S39) )) (Reps.c3 (show Kd.M k39 _ _ _ (⟨255, 0, 255⟩ : S39) [.int .i64 255, .int .i64 0, .int .i64 255] from (k39_mkM _ _ _ (⟨255, 0, 255⟩ : S39) )) (Reps.c3 (show Kd.M k39 _ _ _ (⟨0, 255, 255⟩ : S39) [.int .i64 0, .int .i64 255, .int .i64 255] from (k39_mkM _ _ _ (⟨0, 255, 255⟩ : S39) )) (Reps.c3 (show Kd.M k39 _ _ _ (⟨255, 255, 255⟩ : S39) [.int .i64 255, .int .i64 255, .int .i64 255] from (k39_mkM _ _ _ (⟨255, 255, 255⟩ : S39) )) (Reps.none _ _)))))))))))))))))); intro v137 w6 ho7 hb hg_ hnew_; clear hg_ hnew_; (first | rw [← Ny136.out] at ho7 | (simp only [Int.reduceToNat] at ho7; rw [← Ny136.out] at ho7)); have n0_ := Aside0.mk (Kd.R_lower ho7 (below_size (by repeat (first | (with_reducible first | exact HB.out | apply below_alloc | apply pw_below_drewN | apply below_drew1) | exact HB.out)))); have n1_ := Aside0.mk (below_step (by repeat (first | (with_reducible first | exact HB.out | apply below_alloc | apply pw_below_drewN | apply below_drew1) | exact HB.out)) hb); clear HB; have HO138 := n0_; have HB := n1_; clear n0_ n1_; clear hb ho7) | ((with_reducible refine gate_dst (N := 41) rfl ?_); refine Kd.R_lit (Kd.int .i64) _ 3 ?hg (N := 41) ?hd (xs := ([0, 95, 135, 175, 215, 255] : List Int)) (inner := [.int .i64 0, .int .i64 95, .int .i64 135, .int .i64 175, .int .i64 215, .int .i64 255]) (ok := fun _ => True) (okp := fun _ => True) ?hr ?hp (fun _ hk => hk) trivial (Below.refl _ _) (Nat.le_refl _) (by simp) ?_; (case hd => rfl); (case hg => rfl); (case hr => first | (go_simp; done) | (go_simp; rfl)); (case hp => exact (Reps.one (show Kd.M (Kd.int .i64) _ _ _ 0 [.int .i64 0] from rfl) (Reps.one (show Kd.M (Kd.int .i64) _ _ _ 95 [.int .i64 95] from rfl) (Reps.one (show Kd.M (Kd.int .i64) _ _ _ 135 [.int .i64 135] from rfl) (Reps.one (show Kd.M (Kd.int .i64) _ _ _ 175 [.int .i64 175] from rfl) (Reps.one (show Kd.M (Kd.int .i64) _ _ _ 215 [.int .i64 215] from rfl) (Reps.one (show Kd.M (Kd.int .i64) _ _ _ 255 [.int .i64 255] from rfl) (Reps.none _ _)))))))); intro v140 w8 ho9 hb hg_ hnew_; clear hg_ hnew_; (first | rw [← Ny139.out] at ho9 | (simp only [Int.reduceToNat] at ho9; rw [← Ny139.out] at ho9)); have n0_ := Aside0.mk (Kd.R_below (by (with_reducible repeat (first | apply Kd.R_alloc | apply Kd.R_drewN | apply Kd.R_drew)); exact HO138.out) hb); have n1_ := Aside0.mk (Kd.R_lower ho9 (below_size (by repeat (first | (with_reducible first | exact HB.out | apply below_alloc | apply pw_below_drewN | apply below_drew1) | exact HB.out)))); have n2_ := Aside0.mk (below_step (by repeat (first | (with_reducible first | exact HB.out | apply below_alloc | apply pw_below_drewN | apply below_drew1) | exact HB.out)) hb); clear HO138; clear HB; have HO138 := n0_; have HO141 := n1_; have HB := n2_; clear n0_ n1_ n2_; clear hb ho9))
        repeat (go_quiet (first | ((with_reducible refine gate_dst (N := 40) rfl ?_); refine Kd.R_lit k39 _ 39 ?hg (N := 40) ?hd (xs := ([(⟨0, 0, 0⟩ : S39), (⟨205, 0, 0⟩ : S39), (⟨0, 205, 0⟩ : S39), (⟨205, 205, 0⟩ : S39), (⟨0, 0, 238⟩ : S39), (⟨205, 0, 205⟩ : S39), (⟨0, 205, 205⟩ : S39), (⟨229, 229, 229⟩ : S39), (⟨127, 127, 127⟩ : S39), (⟨255, 0, 0⟩ : S39), (⟨0, 255, 0⟩ : S39), (⟨255, 255, 0⟩ : S39), (⟨92, 92, 255⟩ : S39), (⟨255, 0, 255⟩ : S39), (⟨0, 255, 255⟩ : S39), (⟨255, 255, 255⟩ : S39)] : List (S39))) (inner := [.int .i64 0, .int .i64 0, .int .i64 0, .int .i64 205, .int .i64 0, .int .i64 0, .int .i64 0, .int .i64 205, .int .i64 0, .int .i64 205, .int .i64 205, .int .i64 0, .int .i64 0, .int .i64 0, .int .i64 238, .int .i64 205, .int .i64 0, .int .i64 205, .int .i64 0, .int .i64 205, .int .i64 205, .int .i64 229, .int .i64 229, .int .i64 229, .int .i64 127, .int .i64 127, .int .i64 127, .int .i64 255, .int .i64 0, .int .i64 0, .int .i64 0, .int .i64 255, .int .i64 0, .int .i64 255, .int .i64 255, .int .i64 0, .int .i64 92, .int .i64 92, .int .i64 255, .int .i64 255, .int .i64 0, .int .i64 255, .int .i64 0, .int .i64 255, .int .i64 255, .int .i64 255, .int .i64 255, .int .i64 255]) (ok := fun _ => True) (okp := fun _ => True) ?hr ?hp (fun _ hk => hk) trivial (Below.refl _ _) (Nat.le_refl _) (by simp) ?_; (case hd => rfl); (case hg => rfl); (case hr => first | (go_simp; done) | (go_simp; rfl)); (case hp => exact (Reps.c3 (show Kd.M k39 _ _ _ (⟨0, 0, 0⟩ : S39) [.int .i64 0, .int .i64 0, .int .i64 0] from (k39_mkM _ _ _ (⟨0, 0, 0⟩ : S39) )) (Reps.c3 (show Kd.M k39 _ _ _ (⟨205, 0, 0⟩ : S39) [.int .i64 205, .int .i64 0, .int .i64 0] from (k39_mkM _ _ _ (⟨205, 0, 0⟩ : S39) )) (Reps.c3 (show Kd.M k39 _ _ _ (⟨0, 205, 0⟩ : S39) [.int .i64 0, .int .i64 205, .int .i64 0] from (k39_mkM _ _ _ (⟨0, 205, 0⟩ : S39) )) (Reps.c3 (show Kd.M k39 _ _ _ (⟨205, 205, 0⟩ : S39) [.int .i64 205, .int .i64 205, .int .i64 0] from (k39_mkM _ _ _ (⟨205, 205, 0⟩ : S39) )) (Reps.c3 (show Kd.M k39 _ _ _ (⟨0, 0, 238⟩ : S39) [.int .i64 0, .int .i64 0, .int .i64 238] from (k39_mkM _ _ _ (⟨0, 0, 238⟩ : S39) )) (Reps.c3 (show Kd.M k39 _ _ _ (⟨205, 0, 205⟩ : S39) [.int .i64 205, .int .i64 0, .int .i64 205] from (k39_mkM _ _ _ (⟨205, 0, 205⟩ : S39) )) (Reps.c3 (show Kd.M k39 _ _ _ (⟨0, 205, 205⟩ : S39) [.int .i64 0, .int .i64 205, .int .i64 205] from (k39_mkM _ _ _ (⟨0, 205, 205⟩ : S39) )) (Reps.c3 (show Kd.M k39 _ _ _ (⟨229, 229, 229⟩ : S39) [.int .i64 229, .int .i64 229, .int .i64 229] from (k39_mkM _ _ _ (⟨229, 229, 229⟩ : S39) )) (Reps.c3 (show Kd.M k39 _ _ _ (⟨127, 127, 127⟩ : S39) [.int .i64 127, .int .i64 127, .int .i64 127] from (k39_mkM _ _ _ (⟨127, 127, 127⟩ : S39) )) (Reps.c3 (show Kd.M k39 _ _ _ (⟨255, 0, 0⟩ : S39) [.int .i64 255, .int .i64 0, .int .i64 0] from (k39_mkM _ _ _ (⟨255, 0, 0⟩ : S39) )) (Reps.c3 (show Kd.M k39 _ _ _ (⟨0, 255, 0⟩ : S39) [.int .i64 0, .int .i64 255, .int .i64 0] from (k39_mkM _ _ _ (⟨0, 255, 0⟩ : S39) )) (Reps.c3 (show Kd.M k39 _ _ _ (⟨255, 255, 0⟩ : S39) [.int .i64 255, .int .i64 255, .int .i64 0] from (k39_mkM _ _ _ (⟨255, 255, 0⟩ : S39) )) (Reps.c3 (show Kd.M k39 _ _ _ (⟨92, 92, 255⟩ : S39) [.int .i64 92, .int .i64 92, .int .i64 255] from (k39_mkM _ _ _ (⟨92, 92, 255⟩ : S39) )) (Reps.c3 (show Kd.M k39 _ _ _ (⟨255, 0, 255⟩ : S39) [.int .i64 255, .int .i64 0, .int .i64 255] from (k39_mkM _ _ _ (⟨255, 0, 255⟩ : S39) )) (Reps.c3 (show Kd.M k39 _ _ _ (⟨0, 255, 255⟩ : S39) [.int .i64 0, .int .i64 255, .int .i64 255] from (k39_mkM _ _ _ (⟨0, 255, 255⟩ : S39) )) (Reps.c3 (show Kd.M k39 _ _ _ (⟨255, 255, 255⟩ : S39) [.int .i64 255, .int .i64 255, .int .i64 255] from (k39_mkM _ _ _ (⟨255, 255, 255⟩ : S39) )) (Reps.none _ _)))))))))))))))))); intro v137 w6 ho7 hb hg_ hnew_; clear hg_ hnew_; (first | rw [← Ny136.out] at ho7 | (simp only [Int.reduceToNat] at ho7; rw [← Ny136.out] at ho7)); have n0_ := Aside0.mk (Kd.R_lower ho7 (below_size (by repeat (first | (with_reducible first | exact HB.out | apply below_alloc | apply pw_below_drewN | apply below_drew1) | exact HB.out)))); have n1_ := Aside0.mk (below_step (by repeat (first | (with_reducible first | exact HB.out | apply below_alloc | apply pw_below_drewN | apply below_drew1) | exact HB.out)) hb); clear HB; have HO138 := n0_; have HB := n1_; clear n0_ n1_; clear hb ho7) | ((with_reducible refine gate_dst (N := 41) rfl ?_); refine Kd.R_lit (Kd.int .i64) _ 3 ?hg (N := 41) ?hd (xs := ([0, 95, 135, 175, 215, 255] : List Int)) (inner := [.int .i64 0, .int .i64 95, .int .i64 135, .int .i64 175, .int .i64 215, .int .i64 255]) (ok := fun _ => True) (okp := fun _ => True) ?hr ?hp (fun _ hk => hk) trivial (Below.refl _ _) (Nat.le_refl _) (by simp) ?_; (case hd => rfl); (case hg => rfl); (case hr => first | (go_simp; done) | (go_simp; rfl)); (case hp => exact (Reps.one (show Kd.M (Kd.int .i64) _ _ _ 0 [.int .i64 0] from rfl) (Reps.one (show Kd.M (Kd.int .i64) _ _ _ 95 [.int .i64 95] from rfl) (Reps.one (show Kd.M (Kd.int .i64) _ _ _ 135 [.int .i64 135] from rfl) (Reps.one (show Kd.M (Kd.int .i64) _ _ _ 175 [.int .i64 175] from rfl) (Reps.one (show Kd.M (Kd.int .i64) _ _ _ 215 [.int .i64 215] from rfl) (Reps.one (show Kd.M (Kd.int .i64) _ _ _ 255 [.int .i64 255] from rfl) (Reps.none _ _)))))))); intro v140 w8 ho9 hb hg_ hnew_; clear hg_ hnew_; (first | rw [← Ny139.out] at ho9 | (simp only [Int.reduceToNat] at ho9; rw [← Ny139.out] at ho9)); have n0_ := Aside0.mk (Kd.R_below (by (with_reducible repeat (first | apply Kd.R_alloc | apply Kd.R_drewN | apply Kd.R_drew)); exact HO138.out) hb); have n1_ := Aside0.mk (Kd.R_lower ho9 (below_size (by repeat (first | (with_reducible first | exact HB.out | apply below_alloc | apply pw_below_drewN | apply below_drew1) | exact HB.out)))); have n2_ := Aside0.mk (below_step (by repeat (first | (with_reducible first | exact HB.out | apply below_alloc | apply pw_below_drewN | apply below_drew1) | exact HB.out)) hb); clear HO138; clear HB; have HO138 := n0_; have HO141 := n1_; have HB := n2_; clear n0_ n1_ n2_; clear hb ho9)); go_upto_region 5 with (first | ((with_reducible refine gate_dst (N := 40) rfl ?_); refine Kd.R_lit k39 _ 39 ?hg (N := 40) ?hd (xs := ([(⟨0, 0, 0⟩ : S39), (⟨205, 0, 0⟩ : S39), (⟨0, 205, 0⟩ : S39), (⟨205, 205, 0⟩ : S39), (⟨0, 0, 238⟩ : S39), (⟨205, 0, 205⟩ : S39), (⟨0, 205, 205⟩ : S39), (⟨229, 229, 229⟩ : S39), (⟨127, 127, 127⟩ : S39), (⟨255, 0, 0⟩ : S39), (⟨0, 255, 0⟩ : S39), (⟨255, 255, 0⟩ : S39), (⟨92, 92, 255⟩ : S39), (⟨255, 0, 255⟩ : S39), (⟨0, 255, 255⟩ : S39), (⟨255, 255, 255⟩ : S39)] : List (S39))) (inner := [.int .i64 0, .int .i64 0, .int .i64 0, .int .i64 205, .int .i64 0, .int .i64 0, .int .i64 0, .int .i64 205, .int .i64 0, .int .i64 205, .int .i64 205, .int .i64 0, .int .i64 0, .int .i64 0, .int .i64 238, .int .i64 205, .int .i64 0, .int .i64 205, .int .i64 0, .int .i64 205, .int .i64 205, .int .i64 229, .int .i64 229, .int .i64 229, .int .i64 127, .int .i64 127, .int .i64 127, .int .i64 255, .int .i64 0, .int .i64 0, .int .i64 0, .int .i64 255, .int .i64 0, .int .i64 255, .int .i64 255, .int .i64 0, .int .i64 92, .int .i64 92, .int .i64 255, .int .i64 255, .int .i64 0, .int .i64 255, .int .i64 0, .int .i64 255, .int .i64 255, .int .i64 255, .int .i64 255, .int .i64 255]) (ok := fun _ => True) (okp := fun _ => True) ?hr ?hp (fun _ hk => hk) trivial (Below.refl _ _) (Nat.le_refl _) (by simp) ?_; (case hd => rfl); (case hg => rfl); (case hr => first | (go_simp; done) | (go_simp; rfl)); (case hp => exact (Reps.c3 (show Kd.M k39 _ _ _ (⟨0, 0, 0⟩ : S39) [.int .i64 0, .int .i64 0, .int .i64 0] from (k39_mkM _ _ _ (⟨0, 0, 0⟩ : S39) )) (Reps.c3 (show Kd.M k39 _ _ _ (⟨205, 0, 0⟩ : S39) [.int .i64 205, .int .i64 0, .int .i64 0] from (k39_mkM _ _ _ (⟨205, 0, 0⟩ : S39) )) (Reps.c3 (show Kd.M k39 _ _ _ (⟨0, 205, 0⟩ : S39) [.int .i64 0, .int .i64 205, .int .i64 0] from (k39_mkM _ _ _ (⟨0, 205, 0⟩ : S39) )) (Reps.c3 (show Kd.M k39 _ _ _ (⟨205, 205, 0⟩ : S39) [.int .i64 205, .int .i64 205, .int .i64 0] from (k39_mkM _ _ _ (⟨205, 205, 0⟩ : S39) )) (Reps.c3 (show Kd.M k39 _ _ _ (⟨0, 0, 238⟩ : S39) [.int .i64 0, .int .i64 0, .int .i64 238] from (k39_mkM _ _ _ (⟨0, 0, 238⟩ : S39) )) (Reps.c3 (show Kd.M k39 _ _ _ (⟨205, 0, 205⟩ : S39) [.int .i64 205, .int .i64 0, .int .i64 205] from (k39_mkM _ _ _ (⟨205, 0, 205⟩ : S39) )) (Reps.c3 (show Kd.M k39 _ _ _ (⟨0, 205, 205⟩ : S39) [.int .i64 0, .int .i64 205, .int .i64 205] from (k39_mkM _ _ _ (⟨0, 205, 205⟩ : S39) )) (Reps.c3 (show Kd.M k39 _ _ _ (⟨229, 229, 229⟩ : S39) [.int .i64 229, .int .i64 229, .int .i64 229] from (k39_mkM _ _ _ (⟨229, 229, 229⟩ : S39) )) (Reps.c3 (show Kd.M k39 _ _ _ (⟨127, 127, 127⟩ : S39) [.int .i64 127, .int .i64 127, .int .i64 127] from (k39_mkM _ _ _ (⟨127, 127, 127⟩ : S39) )) (Reps.c3 (show Kd.M k39 _ _ _ (⟨255, 0, 0⟩ : S39) [.int .i64 255, .int .i64 0, .int .i64 0] from (k39_mkM _ _ _ (⟨255, 0, 0⟩ : S39) )) (Reps.c3 (show Kd.M k39 _ _ _ (⟨0, 255, 0⟩ : S39) [.int .i64 0, .int .i64 255, .int .i64 0] from (k39_mkM _ _ _ (⟨0, 255, 0⟩ : S39) )) (Reps.c3 (show Kd.M k39 _ _ _ (⟨255, 255, 0⟩ : S39) [.int .i64 255, .int .i64 255, .int .i64 0] from (k39_mkM _ _ _ (⟨255, 255, 0⟩ : S39) )) (Reps.c3 (show Kd.M k39 _ _ _ (⟨92, 92, 255⟩ : S39) [.int .i64 92, .int .i64 92, .int .i64 255] from (k39_mkM _ _ _ (⟨92, 92, 255⟩ : S39) )) (Reps.c3 (show Kd.M k39 _ _ _ (⟨255, 0, 255⟩ : S39) [.int .i64 255, .int .i64 0, .int .i64 255] from (k39_mkM _ _ _ (⟨255, 0, 255⟩ : S39) )) (Reps.c3 (show Kd.M k39 _ _ _ (⟨0, 255, 255⟩ : S39) [.int .i64 0, .int .i64 255, .int .i64 255] from (k39_mkM _ _ _ (⟨0, 255, 255⟩ : S39) )) (Reps.c3 (show Kd.M k39 _ _ _ (⟨255, 255, 255⟩ : S39) [.int .i64 255, .int .i64 255, .int .i64 255] from (k39_mkM _ _ _ (⟨255, 255, 255⟩ : S39) )) (Reps.none _ _)))))))))))))))))); intro v137 w6 ho7 hb hg_ hnew_; clear hg_ hnew_; (first | rw [← Ny136.out] at ho7 | (simp only [Int.reduceToNat] at ho7; rw [← Ny136.out] at ho7)); have n0_ := Aside0.mk (Kd.R_lower ho7 (below_size (by repeat (first | (with_reducible first | exact HB.out | apply below_alloc | apply pw_below_drewN | apply below_drew1) | exact HB.out)))); have n1_ := Aside0.mk (below_step (by repeat (first | (with_reducible first | exact HB.out | apply below_alloc | apply pw_below_drewN | apply below_drew1) | exact HB.out)) hb); clear HB; have HO138 := n0_; have HB := n1_; clear n0_ n1_; clear hb ho7) | ((with_reducible refine gate_dst (N := 41) rfl ?_); refine Kd.R_lit (Kd.int .i64) _ 3 ?hg (N := 41) ?hd (xs := ([0, 95, 135, 175, 215, 255] : List Int)) (inner := [.int .i64 0, .int .i64 95, .int .i64 135, .int .i64 175, .int .i64 215, .int .i64 255]) (ok := fun _ => True) (okp := fun _ => True) ?hr ?hp (fun _ hk => hk) trivial (Below.refl _ _) (Nat.le_refl _) (by simp) ?_; (case hd => rfl); (case hg => rfl); (case hr => first | (go_simp; done) | (go_simp; rfl)); (case hp => exact (Reps.one (show Kd.M (Kd.int .i64) _ _ _ 0 [.int .i64 0] from rfl) (Reps.one (show Kd.M (Kd.int .i64) _ _ _ 95 [.int .i64 95] from rfl) (Reps.one (show Kd.M (Kd.int .i64) _ _ _ 135 [.int .i64 135] from rfl) (Reps.one (show Kd.M (Kd.int .i64) _ _ _ 175 [.int .i64 175] from rfl) (Reps.one (show Kd.M (Kd.int .i64) _ _ _ 215 [.int .i64 215] from rfl) (Reps.one (show Kd.M (Kd.int .i64) _ _ _ 255 [.int .i64 255] from rfl) (Reps.none _ _)))))))); intro v140 w8 ho9 hb hg_ hnew_; clear hg_ hnew_; (first | rw [← Ny139.out] at ho9 | (simp only [Int.reduceToNat] at ho9; rw [← Ny139.out] at ho9)); have n0_ := Aside0.mk (Kd.R_below (by (with_reducible repeat (first | apply Kd.R_alloc | apply Kd.R_drewN | apply Kd.R_drew)); exact HO138.out) hb); have n1_ := Aside0.mk (Kd.R_lower ho9 (below_size (by repeat (first | (with_reducible first | exact HB.out | apply below_alloc | apply pw_below_drewN | apply below_drew1) | exact HB.out)))); have n2_ := Aside0.mk (below_step (by repeat (first | (with_reducible first | exact HB.out | apply below_alloc | apply pw_below_drewN | apply below_drew1) | exact HB.out)) hb); clear HO138; clear HB; have HO138 := n0_; have HO141 := n1_; have HB := n2_; clear n0_ n1_ n2_; clear hb ho9)))
        (try simp only [Act.put, List.setIfInBounds_toArray, List.set_cons_zero, List.set_cons_succ])
        go_cut [42] (fun v42 wc => ∃ (kq : Nat) (x42_4 : Bool), v42 = .bool x42_4 ∧ Aside0 (linguistref1_RGB.j1 kq a0 y136 y139 x42_4 = some (r1, r2, r3, r4)) ∧ Aside0 (kq ≤ kj1) ∧ Aside0 (Kd.R k39 39 wc w.heap.size (fun _ => True) v137 y136) ∧ Aside0 (Kd.R (Kd.int .i64) 3 wc w.heap.size (fun _ => True) v140 y139) ∧ Aside0 (Below w.heap.size w wc))
        case first =>
          have H := HC5.out
          clear HC5
          by_cases c10 : a0 < 0
          · rw [if_pos c10] at H
            have c10b0 : decide (a0 < 0) = true := decide_eq_true c10
            clear c10
            (first | rw [c10b0] | (simp only [i64_w, i32_w]; rw [c10b0]) | skip)
            have H' := Aside0.mk H
            clear H
            go_wp2
            repeat (go_quiet (fail); try go_wp2)
            go_meet
            case rel => exact ⟨_, (true), (by first | rfl | (simp; done) | (simp [*]; done)), H', ⟨by have := HJ1.out; first | omega | exact Nat.le_refl _⟩, ⟨by (with_reducible repeat (first | apply Kd.R_alloc | apply Kd.R_drewN | apply Kd.R_drew)); exact HO138.out⟩, ⟨by (with_reducible repeat (first | apply Kd.R_alloc | apply Kd.R_drewN | apply Kd.R_drew)); exact HO141.out⟩, ⟨by repeat (first | (with_reducible first | exact HB.out | apply below_alloc | apply pw_below_drewN | apply below_drew1) | exact HB.out)⟩⟩
          · rw [if_neg c10] at H
            have c10b0 : decide (a0 < 0) = false := decide_eq_false c10
            clear c10
            (first | rw [c10b0] | (simp only [i64_w, i32_w]; rw [c10b0]) | skip)
            have H' := Aside0.mk H
            clear H
            go_wp2
            repeat (go_quiet (fail); try go_wp2)
            go_meet
            case rel => exact ⟨_, (decide (a0 > 255)), (by first | rfl | (simp; done) | (simp [*]; done)), H', ⟨by have := HJ1.out; first | omega | exact Nat.le_refl _⟩, ⟨by (with_reducible repeat (first | apply Kd.R_alloc | apply Kd.R_drewN | apply Kd.R_drew)); exact HO138.out⟩, ⟨by (with_reducible repeat (first | apply Kd.R_alloc | apply Kd.R_drewN | apply Kd.R_drew)); exact HO141.out⟩, ⟨by repeat (first | (with_reducible first | exact HB.out | apply below_alloc | apply pw_below_drewN | apply below_drew1) | exact HB.out)⟩⟩
        case rest =>
          clear HC5
          try clear c1
          try clear p2
          try clear c3
          try clear c3b0
          try clear c4
          try clear p6
          try clear c10
          try clear c10b0
          try clear p2
          obtain ⟨kq, x42_4, rfl, HA, HJ4, HO_6, HO_7, HB⟩ := hcut
          cases kq with
          | zero => exact absurd HA.out (by simp [linguistref1_RGB.j1])
          | succ kj4 =>
            have H := HA.out
            clear HA
            simp only [linguistref1_RGB.j1] at H
            by_cases c11 : x42_4 = true
            · subst c11
              have H1 : (some (0, 0, 0, false)) = some (r1, r2, r3, r4) := by rw [if_pos rfl] at H; exact H
              clear H
              have H := H1
              clear H1
              simp only [Option.some.injEq, Prod.mk.injEq] at H
              obtain ⟨rfl, rfl, rfl, rfl⟩ := H
              go_wp2
              repeat (go_quiet (fail); try go_wp2)
              refine bodyPost_ret (results_list (rs := [.tmp 2, .tmp 3, .tmp 4, .tmp 5]) rfl (by simp) (.tmp (.tmp (.tmp (.tmp .nil))))) rfl ?_
              exact ⟨by first | rfl | (simp [errW_none, errW_some] <;> rfl) | (simp [*, errW_none, errW_some] <;> rfl), by repeat (first | (with_reducible first | exact HB.out | apply below_alloc | apply pw_below_drewN | apply below_drew1) | exact HB.out)⟩
            · replace c11 := Bool.eq_false_iff.mpr c11
              subst c11
              have H1 : (if a0 < 16 then (if 0 ≤ a0 then (if a0 < (y136.length : Int) then (some ((rd_T39 y136 a0).f0, (rd_T39 y136 a0).f1, (rd_T39 y136 a0).f2, true)) else (none)) else (none)) else (if a0 < 232 then (if 0 ≤ (wrap64 (Int.tdiv (wrap64 (a0 - 16)) 36)) then (if (wrap64 (Int.tdiv (wrap64 (a0 - 16)) 36)) < (y139.length : Int) then (if 0 ≤ (Int.tmod (wrap64 (Int.tdiv (wrap64 (a0 - 16)) 6)) 6) then (if (Int.tmod (wrap64 (Int.tdiv (wrap64 (a0 - 16)) 6)) 6) < (y139.length : Int) then (if 0 ≤ (Int.tmod (wrap64 (a0 - 16)) 6) then (if (Int.tmod (wrap64 (a0 - 16)) 6) < (y139.length : Int) then (some (rd y139 (wrap64 (Int.tdiv (wrap64 (a0 - 16)) 36)), rd y139 (Int.tmod (wrap64 (Int.tdiv (wrap64 (a0 - 16)) 6)) 6), rd y139 (Int.tmod (wrap64 (a0 - 16)) 6), true)) else (none)) else (none)) else (none)) else (none)) else (none)) else (none)) else (some (wrap64 (8 + (wrap64 (10 * (wrap64 (a0 - 232))))), wrap64 (8 + (wrap64 (10 * (wrap64 (a0 - 232))))), wrap64 (8 + (wrap64 (10 * (wrap64 (a0 - 232))))), true)))) = some (r1, r2, r3, r4) := by rw [if_neg (show ¬ (false = true) by decide)] at H; exact H
              clear H
              have H := H1
              clear H1
              by_cases c12 : a0 < 16
              · rw [if_pos c12] at H
                have c12b0 : decide (a0 < 16) = true := decide_eq_true c12
                clear c12
                by_cases c13 : 0 ≤ a0
                · rw [if_pos c13] at H
                  have c13b0 : decide (0 ≤ a0) = true := decide_eq_true c13
                  clear c13
                  by_cases c14 : a0 < (y136.length : Int)
                  · rw [if_pos c14] at H
                    have c14b0 : decide (a0 < (y136.length : Int)) = true := decide_eq_true c14
                    clear c14
                    simp only [Option.some.injEq, Prod.mk.injEq] at H
                    obtain ⟨rfl, rfl, rfl, rfl⟩ := H
                    obtain ⟨Ao15, co15, eo15⟩ := Kd.R_slice HO_6.out
                    subst eo15
                    have p142 : 0 ≤ (a0 : Int) := of_decide_eq_true (by first | (with_reducible assumption) | assumption)
                    have q142 : a0 < (y136.length : Int) := of_decide_eq_true (by first | (with_reducible assumption) | assumption)
                    obtain ⟨ad142, e142, hx142_0, hx142_1, hx142_2⟩ := at_T39 (Kd.R_reads' HO_6.out).2.2 a0 p142 q142
                    cases e142
                    replace p142 := eq_true p142
                    replace q142 := eq_true q142
                    have p143 : 0 ≤ (a0 : Int) := of_decide_eq_true (by first | (with_reducible assumption) | assumption)
                    have q143 : a0 < (y136.length : Int) := of_decide_eq_true (by first | (with_reducible assumption) | assumption)
                    obtain ⟨ad143, e143, hx143_0, hx143_1, hx143_2⟩ := at_T39 (Kd.R_reads' HO_6.out).2.2 a0 p143 q143
                    obtain rfl : ad142 = ad143 := (by injection e143)
                    replace p143 := eq_true p143
                    replace q143 := eq_true q143
                    have p144 : 0 ≤ (a0 : Int) := of_decide_eq_true (by first | (with_reducible assumption) | assumption)
                    have q144 : a0 < (y136.length : Int) := of_decide_eq_true (by first | (with_reducible assumption) | assumption)
                    obtain ⟨ad144, e144, hx144_0, hx144_1, hx144_2⟩ := at_T39 (Kd.R_reads' HO_6.out).2.2 a0 p144 q144
                    obtain rfl : ad142 = ad144 := (by injection e144)
                    replace p144 := eq_true p144
                    replace q144 := eq_true q144
                    go_wp2
                    repeat (go_quiet (fail); try go_wp2)
                    refine bodyPost_ret (results_list (rs := [.tmp 2, .tmp 3, .tmp 4, .tmp 5]) rfl (by simp) (.tmp (.tmp (.tmp (.tmp .nil))))) rfl ?_
                    exact ⟨by first | rfl | (simp [errW_none, errW_some] <;> rfl) | (simp [*, errW_none, errW_some] <;> rfl), by repeat (first | (with_reducible first | exact HB.out | apply below_alloc | apply pw_below_drewN | apply below_drew1) | exact HB.out)⟩
                  · rw [if_neg c14] at H
                    exact absurd H (by simp)
                · rw [if_neg c13] at H
                  exact absurd H (by simp)
              · rw [if_neg c12] at H
                have c12b0 : decide (a0 < 16) = false := decide_eq_false c12
                clear c12
                by_cases c16 : a0 < 232
                · rw [if_pos c16] at H
                  have c16b0 : decide (a0 < 232) = true := decide_eq_true c16
                  clear c16
                  obtain ⟨ji17, hji17⟩ : ∃ j_ : Int, (wrap64 (Int.tdiv (wrap64 (a0 - 16)) 36)) = j_ := ⟨_, rfl⟩
                  replace H : (if 0 ≤ (ji17) then (if (ji17) < (y139.length : Int) then (if 0 ≤ (Int.tmod (wrap64 (Int.tdiv (wrap64 (a0 - 16)) 6)) 6) then (if (Int.tmod (wrap64 (Int.tdiv (wrap64 (a0 - 16)) 6)) 6) < (y139.length : Int) then (if 0 ≤ (Int.tmod (wrap64 (a0 - 16)) 6) then (if (Int.tmod (wrap64 (a0 - 16)) 6) < (y139.length : Int) then (some (rd y139 (ji17), rd y139 (Int.tmod (wrap64 (Int.tdiv (wrap64 (a0 - 16)) 6)) 6), rd y139 (Int.tmod (wrap64 (a0 - 16)) 6), true)) else (none)) else (none)) else (none)) else (none)) else (none)) else (none)) = some (r1, r2, r3, r4) := by first | (rw [hji17] at H; exact H) | (simp only [hji17] at H ⊢; exact H)
                  have hji17w : (IntKind.i64.wrap (Int.tdiv (wrap64 (a0 - 16)) 36)) = ji17 := (i64_w _).trans hji17
                  by_cases c18 : 0 ≤ (ji17)
                  · rw [if_pos c18] at H
                    have c18b0 : decide (0 ≤ (ji17)) = true := decide_eq_true c18
                    clear c18
                    by_cases c19 : (ji17) < (y139.length : Int)
                    · rw [if_pos c19] at H
                      have c19b0 : decide ((ji17) < (y139.length : Int)) = true := decide_eq_true c19
                      clear c19
                      obtain ⟨ji20, hji20⟩ : ∃ j_ : Int, (Int.tmod (wrap64 (Int.tdiv (wrap64 (a0 - 16)) 6)) 6) = j_ := ⟨_, rfl⟩
                      replace H : (if 0 ≤ (ji20) then (if (ji20) < (y139.length : Int) then (if 0 ≤ (Int.tmod (wrap64 (a0 - 16)) 6) then (if (Int.tmod (wrap64 (a0 - 16)) 6) < (y139.length : Int) then (some (rd y139 (ji17), rd y139 (ji20), rd y139 (Int.tmod (wrap64 (a0 - 16)) 6), true)) else (none)) else (none)) else (none)) else (none)) = some (r1, r2, r3, r4) := by first | (rw [hji20] at H; exact H) | (simp only [hji20] at H ⊢; exact H)
                      by_cases c21 : 0 ≤ (ji20)
                      · rw [if_pos c21] at H
                        have c21b0 : decide (0 ≤ (ji20)) = true := decide_eq_true c21
                        clear c21
                        by_cases c22 : (ji20) < (y139.length : Int)
                        · rw [if_pos c22] at H
                          have c22b0 : decide ((ji20) < (y139.length : Int)) = true := decide_eq_true c22
                          clear c22
                          obtain ⟨ji23, hji23⟩ : ∃ j_ : Int, (Int.tmod (wrap64 (a0 - 16)) 6) = j_ := ⟨_, rfl⟩
                          replace H : (if 0 ≤ (ji23) then (if (ji23) < (y139.length : Int) then (some (rd y139 (ji17), rd y139 (ji20), rd y139 (ji23), true)) else (none)) else (none)) = some (r1, r2, r3, r4) := by first | (rw [hji23] at H; exact H) | (simp only [hji23] at H ⊢; exact H)
                          by_cases c24 : 0 ≤ (ji23)
                          · rw [if_pos c24] at H
                            have c24b0 : decide (0 ≤ (ji23)) = true := decide_eq_true c24
                            clear c24
                            by_cases c25 : (ji23) < (y139.length : Int)
                            · rw [if_pos c25] at H
                              have c25b0 : decide ((ji23) < (y139.length : Int)) = true := decide_eq_true c25
                              clear c25
                              simp only [Option.some.injEq, Prod.mk.injEq] at H
                              obtain ⟨rfl, rfl, rfl, rfl⟩ := H
                              obtain ⟨Ao26, co26, eo26⟩ := Kd.R_slice HO_7.out
                              subst eo26
                              have p145 : 0 ≤ ((ji17) : Int) := of_decide_eq_true (by first | (with_reducible assumption) | assumption)
                              have q145 : (ji17) < (y139.length : Int) := of_decide_eq_true (by first | (with_reducible assumption) | assumption)
                              obtain ⟨ad145, e145, hx145_0⟩ := Kd.at_int (Kd.R_reads' HO_7.out).2.2 (ji17) p145 q145
                              cases e145
                              replace p145 := eq_true p145
                              replace q145 := eq_true q145
                              have p146 : 0 ≤ ((ji20) : Int) := of_decide_eq_true (by first | (with_reducible assumption) | assumption)
                              have q146 : (ji20) < (y139.length : Int) := of_decide_eq_true (by first | (with_reducible assumption) | assumption)
                              obtain ⟨ad146, e146, hx146_0⟩ := Kd.at_int (Kd.R_reads' HO_7.out).2.2 (ji20) p146 q146
                              obtain rfl : ad145 = ad146 := (by injection e146)
                              replace p146 := eq_true p146
                              replace q146 := eq_true q146
                              have p147 : 0 ≤ ((ji23) : Int) := of_decide_eq_true (by first | (with_reducible assumption) | assumption)
                              have q147 : (ji23) < (y139.length : Int) := of_decide_eq_true (by first | (with_reducible assumption) | assumption)
                              obtain ⟨ad147, e147, hx147_0⟩ := Kd.at_int (Kd.R_reads' HO_7.out).2.2 (ji23) p147 q147
                              obtain rfl : ad145 = ad147 := (by injection e147)
                              replace p147 := eq_true p147
                              replace q147 := eq_true q147
                              go_wp2
                              repeat (go_quiet (fail); try go_wp2)
                              refine bodyPost_ret (results_list (rs := [.tmp 2, .tmp 3, .tmp 4, .tmp 5]) rfl (by simp) (.tmp (.tmp (.tmp (.tmp .nil))))) rfl ?_
                              exact ⟨by first | rfl | (simp [errW_none, errW_some] <;> rfl) | (simp only [← hji17, ← hji20, ← hji23]; first | rfl | (simp [errW_none, errW_some] <;> rfl)) | (simp [*, errW_none, errW_some] <;> rfl), by repeat (first | (with_reducible first | exact HB.out | apply below_alloc | apply pw_below_drewN | apply below_drew1) | exact HB.out)⟩
                            · rw [if_neg c25] at H
                              exact absurd H (by simp)
                          · rw [if_neg c24] at H
                            exact absurd H (by simp)
                        · rw [if_neg c22] at H
                          exact absurd H (by simp)
                      · rw [if_neg c21] at H
                        exact absurd H (by simp)
                    · rw [if_neg c19] at H
                      exact absurd H (by simp)
                  · rw [if_neg c18] at H
                    exact absurd H (by simp)
                · rw [if_neg c16] at H
                  have c16b0 : decide (a0 < 232) = false := decide_eq_false c16
                  clear c16
                  simp only [Option.some.injEq, Prod.mk.injEq] at H
                  obtain ⟨rfl, rfl, rfl, rfl⟩ := H
                  go_wp2
                  repeat (go_quiet (fail); try go_wp2)
                  refine bodyPost_ret (results_list (rs := [.tmp 2, .tmp 3, .tmp 4, .tmp 5]) rfl (by simp) (.tmp (.tmp (.tmp (.tmp .nil))))) rfl ?_
                  exact ⟨by first | rfl | (simp [errW_none, errW_some] <;> rfl) | (simp [*, errW_none, errW_some] <;> rfl), by repeat (first | (with_reducible first | exact HB.out | apply below_alloc | apply pw_below_drewN | apply below_drew1) | exact HB.out)⟩

/-! ### linguistbook_Within: function 14 -/
def linguistbook_Within.f (a0 : Int) (a1 : Int) (a2 : Int) : Option (Int) := if (wrap64 ((wrap64 (a2 - a1)) + 1)) = 0 then (none) else (if (Int.tmod a0 (wrap64 ((wrap64 (a2 - a1)) + 1))) < 0 then (some (wrap64 (a1 + (wrap64 ((wrap64 ((wrap64 ((Int.tmod a0 (wrap64 ((wrap64 (a2 - a1)) + 1))) + a2)) - a1)) + 1))))) else (some (wrap64 (a1 + (Int.tmod a0 (wrap64 ((wrap64 (a2 - a1)) + 1)))))))
set_option maxHeartbeats 8000000 in
set_option maxRecDepth 100000 in
theorem linguistbook_Within.calls (a0 : Int) (a1 : Int) (a2 : Int) (r : Int) (w : World) (h : linguistbook_Within.f a0 a1 a2 = some r) :
    Calls Try.prog 14 #[.int .i64 a0, .int .i64 a1, .int .i64 a2] w fun e w' => e = .returned (.int .i64 r) ∧ Drawn0 w w' := by
  have H : (if (wrap64 ((wrap64 (a2 - a1)) + 1)) = 0 then (none) else (if (Int.tmod a0 (wrap64 ((wrap64 (a2 - a1)) + 1))) < 0 then (some (wrap64 (a1 + (wrap64 ((wrap64 ((wrap64 ((Int.tmod a0 (wrap64 ((wrap64 (a2 - a1)) + 1))) + a2)) - a1)) + 1))))) else (some (wrap64 (a1 + (Int.tmod a0 (wrap64 ((wrap64 (a2 - a1)) + 1)))))))) = some r := h
  clear h
  by_cases c4 : (wrap64 ((wrap64 (a2 - a1)) + 1)) = 0
  · rw [if_pos c4] at H
    exact absurd H (by simp)
  · rw [if_neg c4] at H
    have c4b0 : ((wrap64 ((wrap64 (a2 - a1)) + 1)) == 0) = false := beq_eq_false_iff_ne.mpr c4
    have c4b1 : ((wrap64 ((wrap64 (a2 - a1)) + 1)) != 0) = true := bne_iff_ne.mpr c4
    by_cases c5 : (Int.tmod a0 (wrap64 ((wrap64 (a2 - a1)) + 1))) < 0
    · rw [if_pos c5] at H
      have c5b0 : decide ((Int.tmod a0 (wrap64 ((wrap64 (a2 - a1)) + 1))) < 0) = true := decide_eq_true c5
      clear c5
      obtain rfl := Option.some.inj H
      go_enter Try.func14, Try.ntmps14
      go_wp2
      go_ret
      exact ⟨by first | rfl | (simp; done) | (simp [*]; done), by repeat (first | exact Drawn0.refl _ | apply Drawn0.step)⟩
    · rw [if_neg c5] at H
      have c5b0 : decide ((Int.tmod a0 (wrap64 ((wrap64 (a2 - a1)) + 1))) < 0) = false := decide_eq_false c5
      clear c5
      obtain rfl := Option.some.inj H
      go_enter Try.func14, Try.ntmps14
      go_wp2
      go_ret
      exact ⟨by first | rfl | (simp; done) | (simp [*]; done), by repeat (first | exact Drawn0.refl _ | apply Drawn0.step)⟩

/-! ### linguistref1_Nearest: function 15 -/
mutual
def linguistref1_Nearest.j0 : Nat → Int → Int → Int → Int → Bool → Option (Int)
  | 0, _, _, _, _, _ => none
  | k + 1, x1, x5, x6, x7, x33 => if x33 = true then (some (-1)) else (linguistref1_Nearest.l0 k x5 x6 x7 0 0 x1 0)
def linguistref1_Nearest.l0 : Nat → Int → Int → Int → Int → Int → Int → Int → Option (Int)
  | 0, _, _, _, _, _, _, _ => none
  | k + 1, x5, x6, x7, x9, x10, x34, x35 => if x35 < x34 then ((linguistref1_RGB.f k x35).bind fun bt152 => (if x35 = 0 then (linguistref1_Nearest.l0 k x5 x6 x7 x35 (wrap64 ((wrap64 ((wrap64 ((wrap64 (x5 - bt152.1)) * (wrap64 (x5 - bt152.1)))) + (wrap64 ((wrap64 (x6 - bt152.2.1)) * (wrap64 (x6 - bt152.2.1)))))) + (wrap64 ((wrap64 (x7 - bt152.2.2.1)) * (wrap64 (x7 - bt152.2.2.1)))))) x34 (wrap64 (x35 + 1))) else (if (wrap64 ((wrap64 ((wrap64 ((wrap64 (x5 - bt152.1)) * (wrap64 (x5 - bt152.1)))) + (wrap64 ((wrap64 (x6 - bt152.2.1)) * (wrap64 (x6 - bt152.2.1)))))) + (wrap64 ((wrap64 (x7 - bt152.2.2.1)) * (wrap64 (x7 - bt152.2.2.1)))))) < x10 then (linguistref1_Nearest.l0 k x5 x6 x7 x35 (wrap64 ((wrap64 ((wrap64 ((wrap64 (x5 - bt152.1)) * (wrap64 (x5 - bt152.1)))) + (wrap64 ((wrap64 (x6 - bt152.2.1)) * (wrap64 (x6 - bt152.2.1)))))) + (wrap64 ((wrap64 (x7 - bt152.2.2.1)) * (wrap64 (x7 - bt152.2.2.1)))))) x34 (wrap64 (x35 + 1))) else (linguistref1_Nearest.l0 k x5 x6 x7 x9 x10 x34 (wrap64 (x35 + 1)))))) else (some x9)
end
def linguistref1_Nearest.f (k : Nat) (a0 : Int) (a1 : Int) : Option (Int) := (linguistref1_RGB.f k a0).bind fun bt148 => (if bt148.2.2.2 = true then (if a1 < 1 then (linguistref1_Nearest.j0 k a1 bt148.1 bt148.2.1 bt148.2.2.1 true) else (linguistref1_Nearest.j0 k a1 bt148.1 bt148.2.1 bt148.2.2.1 (decide (a1 > 256)))) else (linguistref1_Nearest.j0 k a1 bt148.1 bt148.2.1 bt148.2.2.1 true))
theorem linguistref1_Nearest.mono_l : ∀ k, (∀ y0 y1 y2 y3 y4, LeO (linguistref1_Nearest.j0 k y0 y1 y2 y3 y4) (linguistref1_Nearest.j0 (k + 1) y0 y1 y2 y3 y4)) ∧ (∀ y0 y1 y2 y3 y4 y5 y6, LeO (linguistref1_Nearest.l0 k y0 y1 y2 y3 y4 y5 y6) (linguistref1_Nearest.l0 (k + 1) y0 y1 y2 y3 y4 y5 y6))
  | 0 => ⟨fun _ _ _ _ _ r h => by simp [linguistref1_Nearest.j0] at h, fun _ _ _ _ _ _ _ r h => by simp [linguistref1_Nearest.l0] at h⟩
  | k + 1 => by
    obtain ⟨ih0, ih1⟩ := linguistref1_Nearest.mono_l k
    refine ⟨?_, ?_⟩
    · intro y0 y1 y2 y3 y4
      unfold linguistref1_Nearest.j0
      repeat' first
      | (with_reducible exact ih0 _ _ _ _ _)
      | (with_reducible exact ih1 _ _ _ _ _ _ _)
      | (with_reducible exact linguistref1_RGB.mono _ _)
      | (with_reducible exact LeO.refl _)
      | (with_reducible exact LeO.none _)
      | (with_reducible refine LeO.ite ?_ ?_)
      | (with_reducible refine LeO.bind ?_ (fun _ => ?_))
      | exact ih0 _ _ _ _ _
      | exact ih1 _ _ _ _ _ _ _
      | exact linguistref1_RGB.mono _ _
      | exact LeO.none _
      | refine LeO.ite ?_ ?_
      | refine LeO.bind ?_ (fun _ => ?_)
    · intro y0 y1 y2 y3 y4 y5 y6
      unfold linguistref1_Nearest.l0
      repeat' first
      | (with_reducible exact ih0 _ _ _ _ _)
      | (with_reducible exact ih1 _ _ _ _ _ _ _)
      | (with_reducible exact linguistref1_RGB.mono _ _)
      | (with_reducible exact LeO.refl _)
      | (with_reducible exact LeO.none _)
      | (with_reducible refine LeO.ite ?_ ?_)
      | (with_reducible refine LeO.bind ?_ (fun _ => ?_))
      | exact ih0 _ _ _ _ _
      | exact ih1 _ _ _ _ _ _ _
      | exact linguistref1_RGB.mono _ _
      | exact LeO.none _
      | refine LeO.ite ?_ ?_
      | refine LeO.bind ?_ (fun _ => ?_)
theorem linguistref1_Nearest.mono : ∀ a0 a1 k, LeO (linguistref1_Nearest.f k a0 a1) (linguistref1_Nearest.f (k + 1) a0 a1) := by
  intro a0 a1 k
  obtain ⟨ih0, ih1⟩ := linguistref1_Nearest.mono_l k
  unfold linguistref1_Nearest.f
  repeat' first
      | (with_reducible exact ih0 _ _ _ _ _)
      | (with_reducible exact ih1 _ _ _ _ _ _ _)
      | (with_reducible exact linguistref1_RGB.mono _ _)
      | (with_reducible exact LeO.refl _)
      | (with_reducible exact LeO.none _)
      | (with_reducible refine LeO.ite ?_ ?_)
      | (with_reducible refine LeO.bind ?_ (fun _ => ?_))
      | exact ih0 _ _ _ _ _
      | exact ih1 _ _ _ _ _ _ _
      | exact linguistref1_RGB.mono _ _
      | exact LeO.none _
      | refine LeO.ite ?_ ?_
      | refine LeO.bind ?_ (fun _ => ?_)
set_option maxHeartbeats 8000000 in
set_option maxRecDepth 100000 in
theorem linguistref1_Nearest.calls (k : Nat) (a0 : Int) (a1 : Int) (r : Int) (w : World) (h : linguistref1_Nearest.f k a0 a1 = some r) :
    Calls Try.prog 15 #[.int .i64 a0, .int .i64 a1] w fun e w' => e = .returned (.int .i64 r) ∧ Below w.heap.size w w' := by
  have HB := Aside0.mk (Below.refl w.heap.size w)
  have H : ((linguistref1_RGB.f k a0).bind fun bt148 => (if bt148.2.2.2 = true then (if a1 < 1 then (linguistref1_Nearest.j0 k a1 bt148.1 bt148.2.1 bt148.2.2.1 true) else (linguistref1_Nearest.j0 k a1 bt148.1 bt148.2.1 bt148.2.2.1 (decide (a1 > 256)))) else (linguistref1_Nearest.j0 k a1 bt148.1 bt148.2.1 bt148.2.2.1 true))) = some r := h
  clear h
  replace H := Option.bind_eq_some_iff.mp H
  obtain ⟨⟨t148, t149, t150, t151⟩, A30, H⟩ := H
  replace H : (if t151 = true then (if a1 < 1 then (linguistref1_Nearest.j0 k a1 t148 t149 t150 true) else (linguistref1_Nearest.j0 k a1 t148 t149 t150 (decide (a1 > 256)))) else (linguistref1_Nearest.j0 k a1 t148 t149 t150 true)) = some r := H
  have A3 := Aside0.mk A30
  clear A30
  have HC4 := Aside0.mk H
  clear H
  go_enter Try.func15, Try.ntmps15
  go_upto_region 2 with (first | ((with_reducible refine gate_callee (f := 13) rfl ?_); refine goesL_ (some 19) rfl rfl Try.func13 (by kernel_rfl) rfl #[.int .i64 a0] rfl (by (try simp only [List.map_toArray, List.map_cons, List.map_nil]); first | done | rfl | (simp only [List.length_drop, List.length_take]; rfl) | (simp only [List.length_drop, List.length_take]; rw [Nat.min_eq_left (by first | assumption | omega)]; rfl)) ?_; (with_reducible refine (linguistref1_RGB.calls k a0 t148 t149 t150 t151 _ A3.out).mono ?_); rintro e w5 ⟨rfl, hb⟩; refine ⟨_, rfl, ?_⟩; have n0_ := Aside0.mk (below_step (by repeat (first | (with_reducible first | exact HB.out | apply below_alloc | apply pw_below_drewN | apply below_drew1) | exact HB.out)) hb); clear HB; have HB := n0_; clear n0_; (try clear hb); (try clear hb2); (try clear hk); (try clear hi)))
  (try simp only [Act.put, List.setIfInBounds_toArray, List.set_cons_zero, List.set_cons_succ])
  go_cut [33] (fun v33 wc => ∃ (kq : Nat) (x33_3 : Bool), v33 = .bool x33_3 ∧ Aside0 (linguistref1_Nearest.j0 kq a1 t148 t149 t150 x33_3 = some r) ∧ Aside0 (kq ≤ k) ∧ Aside0 (Below w.heap.size w wc))
  case first =>
    have H := HC4.out
    clear HC4
    by_cases c6 : t151 = true
    · subst c6
      have H1 : (if a1 < 1 then (linguistref1_Nearest.j0 k a1 t148 t149 t150 true) else (linguistref1_Nearest.j0 k a1 t148 t149 t150 (decide (a1 > 256)))) = some r := by rw [if_pos rfl] at H; exact H
      clear H
      have H := H1
      clear H1
      by_cases c7 : a1 < 1
      · rw [if_pos c7] at H
        have c7b0 : decide (a1 < 1) = true := decide_eq_true c7
        clear c7
        (first | rw [c7b0] | (simp only [i64_w, i32_w]; rw [c7b0]) | skip)
        have H' := Aside0.mk H
        clear H
        go_wp2
        go_meet
        case rel => exact ⟨_, (true), (by first | rfl | (simp; done) | (simp [*]; done)), H', ⟨by first | omega | exact Nat.le_refl _⟩, ⟨by repeat (first | (with_reducible first | exact HB.out | apply below_alloc | apply pw_below_drewN | apply below_drew1) | exact HB.out)⟩⟩
      · rw [if_neg c7] at H
        have c7b0 : decide (a1 < 1) = false := decide_eq_false c7
        clear c7
        (first | rw [c7b0] | (simp only [i64_w, i32_w]; rw [c7b0]) | skip)
        have H' := Aside0.mk H
        clear H
        go_wp2
        go_meet
        case rel => exact ⟨_, (decide (a1 > 256)), (by first | rfl | (simp; done) | (simp [*]; done)), H', ⟨by first | omega | exact Nat.le_refl _⟩, ⟨by repeat (first | (with_reducible first | exact HB.out | apply below_alloc | apply pw_below_drewN | apply below_drew1) | exact HB.out)⟩⟩
    · replace c6 := Bool.eq_false_iff.mpr c6
      subst c6
      have H1 : (linguistref1_Nearest.j0 k a1 t148 t149 t150 true) = some r := by rw [if_neg (show ¬ (false = true) by decide)] at H; exact H
      clear H
      have H := H1
      clear H1
      have H' := Aside0.mk H
      clear H
      go_wp2
      go_meet
      case rel => exact ⟨_, (true), (by first | rfl | (simp; done) | (simp [*]; done)), H', ⟨by first | omega | exact Nat.le_refl _⟩, ⟨by repeat (first | (with_reducible first | exact HB.out | apply below_alloc | apply pw_below_drewN | apply below_drew1) | exact HB.out)⟩⟩
  case rest =>
    clear HC4
    try clear c1
    try clear p2
    try clear c6
    try clear c7
    try clear c7b0
    obtain ⟨kq, x33_3, rfl, HA, HJ3, HB⟩ := hcut
    cases kq with
    | zero => exact absurd HA.out (by simp [linguistref1_Nearest.j0])
    | succ kj3 =>
      have H := HA.out
      clear HA
      simp only [linguistref1_Nearest.j0] at H
      by_cases c8 : x33_3 = true
      · subst c8
        have H1 : (some (-1)) = some r := by rw [if_pos rfl] at H; exact H
        clear H
        have H := H1
        clear H1
        obtain rfl := Option.some.inj H
        go_wp2
        go_ret
        exact ⟨by first | rfl | (simp [errW_none, errW_some] <;> rfl) | (simp [*, errW_none, errW_some] <;> rfl), by repeat (first | (with_reducible first | exact HB.out | apply below_alloc | apply pw_below_drewN | apply below_drew1) | exact HB.out)⟩
      · replace c8 := Bool.eq_false_iff.mpr c8
        subst c8
        have H1 : (linguistref1_Nearest.l0 kj3 t148 t149 t150 0 0 a1 0) = some r := by rw [if_neg (show ¬ (false = true) by decide)] at H; exact H
        clear H
        have H := H1
        clear H1
        have H' := Aside0.mk H
        clear H
        go_wp2
        go_loopg [9, 10, 35] kj3 (fun kq v9 v10 v35 w' => ∃ (x9_2 : Int) (x10_2 : Int) (x35_2 : Int), v9 = .int .i64 x9_2 ∧ v10 = .int .i64 x10_2 ∧ v35 = .int .i64 x35_2 ∧ Aside0 (linguistref1_Nearest.l0 kq t148 t149 t150 x9_2 x10_2 a1 x35_2 = some r) ∧ Aside0 (kq ≤ kj3) ∧ Aside0 (Below w.heap.size w w'))
        case atStart => exact ⟨(0), (0), (0), (by first | rfl | (simp; done) | (simp [*]; done)), (by first | rfl | (simp; done) | (simp [*]; done)), (by first | rfl | (simp; done) | (simp [*]; done)), H', ⟨Nat.le_refl _⟩, ⟨by repeat (first | (with_reducible first | exact HB.out | apply below_alloc | apply pw_below_drewN | apply below_drew1) | exact HB.out)⟩⟩
        case round =>
          clear H'
          try clear c1
          try clear p2
          try clear c6
          try clear c7
          try clear c7b0
          try clear c8
          try clear p2
          obtain ⟨x9_2, x10_2, x35_2, rfl, rfl, rfl, HA, HK2, HB⟩ := hrel
          cases gk with
          | zero => exact absurd HA.out (by simp [linguistref1_Nearest.l0])
          | succ k2 =>
            have H := HA.out
            clear HA
            simp only [linguistref1_Nearest.l0] at H
            by_cases c9 : x35_2 < a1
            · rw [if_pos c9] at H
              have c9b0 : decide (x35_2 < a1) = true := decide_eq_true c9
              clear c9
              replace H := Option.bind_eq_some_iff.mp H
              obtain ⟨⟨t152, t153, t154, t155⟩, A100, H⟩ := H
              replace H : (if x35_2 = 0 then (linguistref1_Nearest.l0 k2 t148 t149 t150 x35_2 (wrap64 ((wrap64 ((wrap64 ((wrap64 (t148 - t152)) * (wrap64 (t148 - t152)))) + (wrap64 ((wrap64 (t149 - t153)) * (wrap64 (t149 - t153)))))) + (wrap64 ((wrap64 (t150 - t154)) * (wrap64 (t150 - t154)))))) a1 (wrap64 (x35_2 + 1))) else (if (wrap64 ((wrap64 ((wrap64 ((wrap64 (t148 - t152)) * (wrap64 (t148 - t152)))) + (wrap64 ((wrap64 (t149 - t153)) * (wrap64 (t149 - t153)))))) + (wrap64 ((wrap64 (t150 - t154)) * (wrap64 (t150 - t154)))))) < x10_2 then (linguistref1_Nearest.l0 k2 t148 t149 t150 x35_2 (wrap64 ((wrap64 ((wrap64 ((wrap64 (t148 - t152)) * (wrap64 (t148 - t152)))) + (wrap64 ((wrap64 (t149 - t153)) * (wrap64 (t149 - t153)))))) + (wrap64 ((wrap64 (t150 - t154)) * (wrap64 (t150 - t154)))))) a1 (wrap64 (x35_2 + 1))) else (linguistref1_Nearest.l0 k2 t148 t149 t150 x9_2 x10_2 a1 (wrap64 (x35_2 + 1))))) = some r := H
              have A10 := Aside0.mk A100
              clear A100
              by_cases c11 : x35_2 = 0
              · rw [if_pos c11] at H
                have c11b0 : (x35_2 == 0) = true := beq_iff_eq.mpr c11
                have c11b1 : (x35_2 != 0) = false := bne_eq_false_iff_eq.mpr c11
                clear c11
                have H' := Aside0.mk H
                clear H
                go_wp2_with (first | ((with_reducible refine gate_callee (f := 13) rfl ?_); refine goesL_ (some 40) rfl rfl Try.func13 (by kernel_rfl) rfl #[.int .i64 x35_2] rfl (by (try simp only [List.map_toArray, List.map_cons, List.map_nil]); first | done | rfl | (simp only [List.length_drop, List.length_take]; rfl) | (simp only [List.length_drop, List.length_take]; rw [Nat.min_eq_left (by first | assumption | omega)]; rfl)) ?_; (with_reducible refine (linguistref1_RGB.calls k2 x35_2 t152 t153 t154 t155 _ A10.out).mono ?_); rintro e w12 ⟨rfl, hb⟩; refine ⟨_, rfl, ?_⟩; have n0_ := Aside0.mk (below_step (by repeat (first | (with_reducible first | exact HB.out | apply below_alloc | apply pw_below_drewN | apply below_drew1) | exact HB.out)) hb); clear HB; have HB := n0_; clear n0_; (try clear hb); (try clear hb2); (try clear hk); (try clear hi)))
                go_roundg k2
                case measure => have := HJ3.out; have := HK2.out; omega
                case rel => exact ⟨(x35_2), (wrap64 ((wrap64 ((wrap64 ((wrap64 (t148 - t152)) * (wrap64 (t148 - t152)))) + (wrap64 ((wrap64 (t149 - t153)) * (wrap64 (t149 - t153)))))) + (wrap64 ((wrap64 (t150 - t154)) * (wrap64 (t150 - t154)))))), (wrap64 (x35_2 + 1)), (by first | rfl | (simp; done) | (simp [*]; done)), (by first | rfl | (simp; done) | (simp [*]; done)), (by first | rfl | (simp; done) | (simp [*]; done)), H', ⟨by have := HJ3.out; have := HK2.out; omega⟩, ⟨by repeat (first | (with_reducible first | exact HB.out | apply below_alloc | apply pw_below_drewN | apply below_drew1) | exact HB.out)⟩⟩
              · rw [if_neg c11] at H
                have c11b0 : (x35_2 == 0) = false := beq_eq_false_iff_ne.mpr c11
                have c11b1 : (x35_2 != 0) = true := bne_iff_ne.mpr c11
                by_cases c13 : (wrap64 ((wrap64 ((wrap64 ((wrap64 (t148 - t152)) * (wrap64 (t148 - t152)))) + (wrap64 ((wrap64 (t149 - t153)) * (wrap64 (t149 - t153)))))) + (wrap64 ((wrap64 (t150 - t154)) * (wrap64 (t150 - t154)))))) < x10_2
                · rw [if_pos c13] at H
                  have c13b0 : decide ((wrap64 ((wrap64 ((wrap64 ((wrap64 (t148 - t152)) * (wrap64 (t148 - t152)))) + (wrap64 ((wrap64 (t149 - t153)) * (wrap64 (t149 - t153)))))) + (wrap64 ((wrap64 (t150 - t154)) * (wrap64 (t150 - t154)))))) < x10_2) = true := decide_eq_true c13
                  clear c13
                  have H' := Aside0.mk H
                  clear H
                  go_wp2_with (first | ((with_reducible refine gate_callee (f := 13) rfl ?_); refine goesL_ (some 40) rfl rfl Try.func13 (by kernel_rfl) rfl #[.int .i64 x35_2] rfl (by (try simp only [List.map_toArray, List.map_cons, List.map_nil]); first | done | rfl | (simp only [List.length_drop, List.length_take]; rfl) | (simp only [List.length_drop, List.length_take]; rw [Nat.min_eq_left (by first | assumption | omega)]; rfl)) ?_; (with_reducible refine (linguistref1_RGB.calls k2 x35_2 t152 t153 t154 t155 _ A10.out).mono ?_); rintro e w14 ⟨rfl, hb⟩; refine ⟨_, rfl, ?_⟩; have n0_ := Aside0.mk (below_step (by repeat (first | (with_reducible first | exact HB.out | apply below_alloc | apply pw_below_drewN | apply below_drew1) | exact HB.out)) hb); clear HB; have HB := n0_; clear n0_; (try clear hb); (try clear hb2); (try clear hk); (try clear hi)))
                  go_roundg k2
                  case measure => have := HJ3.out; have := HK2.out; omega
                  case rel => exact ⟨(x35_2), (wrap64 ((wrap64 ((wrap64 ((wrap64 (t148 - t152)) * (wrap64 (t148 - t152)))) + (wrap64 ((wrap64 (t149 - t153)) * (wrap64 (t149 - t153)))))) + (wrap64 ((wrap64 (t150 - t154)) * (wrap64 (t150 - t154)))))), (wrap64 (x35_2 + 1)), (by first | rfl | (simp; done) | (simp [*]; done)), (by first | rfl | (simp; done) | (simp [*]; done)), (by first | rfl | (simp; done) | (simp [*]; done)), H', ⟨by have := HJ3.out; have := HK2.out; omega⟩, ⟨by repeat (first | (with_reducible first | exact HB.out | apply below_alloc | apply pw_below_drewN | apply below_drew1) | exact HB.out)⟩⟩
                · rw [if_neg c13] at H
                  have c13b0 : decide ((wrap64 ((wrap64 ((wrap64 ((wrap64 (t148 - t152)) * (wrap64 (t148 - t152)))) + (wrap64 ((wrap64 (t149 - t153)) * (wrap64 (t149 - t153)))))) + (wrap64 ((wrap64 (t150 - t154)) * (wrap64 (t150 - t154)))))) < x10_2) = false := decide_eq_false c13
                  clear c13
                  have H' := Aside0.mk H
                  clear H
                  go_wp2_with (first | ((with_reducible refine gate_callee (f := 13) rfl ?_); refine goesL_ (some 40) rfl rfl Try.func13 (by kernel_rfl) rfl #[.int .i64 x35_2] rfl (by (try simp only [List.map_toArray, List.map_cons, List.map_nil]); first | done | rfl | (simp only [List.length_drop, List.length_take]; rfl) | (simp only [List.length_drop, List.length_take]; rw [Nat.min_eq_left (by first | assumption | omega)]; rfl)) ?_; (with_reducible refine (linguistref1_RGB.calls k2 x35_2 t152 t153 t154 t155 _ A10.out).mono ?_); rintro e w15 ⟨rfl, hb⟩; refine ⟨_, rfl, ?_⟩; have n0_ := Aside0.mk (below_step (by repeat (first | (with_reducible first | exact HB.out | apply below_alloc | apply pw_below_drewN | apply below_drew1) | exact HB.out)) hb); clear HB; have HB := n0_; clear n0_; (try clear hb); (try clear hb2); (try clear hk); (try clear hi)))
                  go_roundg k2
                  case measure => have := HJ3.out; have := HK2.out; omega
                  case rel => exact ⟨(x9_2), (x10_2), (wrap64 (x35_2 + 1)), (by first | rfl | (simp; done) | (simp [*]; done)), (by first | rfl | (simp; done) | (simp [*]; done)), (by first | rfl | (simp; done) | (simp [*]; done)), H', ⟨by have := HJ3.out; have := HK2.out; omega⟩, ⟨by repeat (first | (with_reducible first | exact HB.out | apply below_alloc | apply pw_below_drewN | apply below_drew1) | exact HB.out)⟩⟩
            · rw [if_neg c9] at H
              have c9b0 : decide (x35_2 < a1) = false := decide_eq_false c9
              clear c9
              obtain rfl := Option.some.inj H
              go_wp2
              go_ret
              exact ⟨by first | rfl | (simp [errW_none, errW_some] <;> rfl) | (simp [*, errW_none, errW_some] <;> rfl), by repeat (first | (with_reducible first | exact HB.out | apply below_alloc | apply pw_below_drewN | apply below_drew1) | exact HB.out)⟩

/-! ### linguistref1_Lower: function 16 -/
def linguistref1_Lower.j0 : Nat → Int → Int → Bool → Option (Int)
  | 0, _, _, _ => none
  | k + 1, x0, x1, x15 => if x15 = true then (if x1 < 1 then (some (-1)) else (some x0)) else ((linguistref1_Nearest.f k x0 x1).bind fun t156 => (some t156))
def linguistref1_Lower.f (k : Nat) (a0 : Int) (a1 : Int) : Option (Int) := if a0 < 0 then (linguistref1_Lower.j0 k a0 a1 true) else (if a1 < 1 then (linguistref1_Lower.j0 k a0 a1 true) else (linguistref1_Lower.j0 k a0 a1 (decide (a0 < a1))))
theorem linguistref1_Lower.mono_l : ∀ k, (∀ y0 y1 y2, LeO (linguistref1_Lower.j0 k y0 y1 y2) (linguistref1_Lower.j0 (k + 1) y0 y1 y2))
  | 0 => fun _ _ _ r h => by simp [linguistref1_Lower.j0] at h
  | k + 1 => by
    have ih0 := linguistref1_Lower.mono_l k
    · intro y0 y1 y2
      unfold linguistref1_Lower.j0
      repeat' first
      | (with_reducible exact ih0 _ _ _)
      | (with_reducible exact linguistref1_Nearest.mono _ _ _)
      | (with_reducible exact LeO.refl _)
      | (with_reducible exact LeO.none _)
      | (with_reducible refine LeO.ite ?_ ?_)
      | (with_reducible refine LeO.bind ?_ (fun _ => ?_))
      | exact ih0 _ _ _
      | exact linguistref1_Nearest.mono _ _ _
      | exact LeO.none _
      | refine LeO.ite ?_ ?_
      | refine LeO.bind ?_ (fun _ => ?_)
theorem linguistref1_Lower.mono : ∀ a0 a1 k, LeO (linguistref1_Lower.f k a0 a1) (linguistref1_Lower.f (k + 1) a0 a1) := by
  intro a0 a1 k
  have ih0 := linguistref1_Lower.mono_l k
  unfold linguistref1_Lower.f
  repeat' first
      | (with_reducible exact ih0 _ _ _)
      | (with_reducible exact linguistref1_Nearest.mono _ _ _)
      | (with_reducible exact LeO.refl _)
      | (with_reducible exact LeO.none _)
      | (with_reducible refine LeO.ite ?_ ?_)
      | (with_reducible refine LeO.bind ?_ (fun _ => ?_))
      | exact ih0 _ _ _
      | exact linguistref1_Nearest.mono _ _ _
      | exact LeO.none _
      | refine LeO.ite ?_ ?_
      | refine LeO.bind ?_ (fun _ => ?_)
set_option maxHeartbeats 8000000 in
set_option maxRecDepth 100000 in
theorem linguistref1_Lower.calls (k : Nat) (a0 : Int) (a1 : Int) (r : Int) (w : World) (h : linguistref1_Lower.f k a0 a1 = some r) :
    Calls Try.prog 16 #[.int .i64 a0, .int .i64 a1] w fun e w' => e = .returned (.int .i64 r) ∧ Below w.heap.size w w' := by
  have HB := Aside0.mk (Below.refl w.heap.size w)
  have H : (if a0 < 0 then (linguistref1_Lower.j0 k a0 a1 true) else (if a1 < 1 then (linguistref1_Lower.j0 k a0 a1 true) else (linguistref1_Lower.j0 k a0 a1 (decide (a0 < a1))))) = some r := h
  clear h
  have HC3 := Aside0.mk H
  clear H
  go_enter Try.func16, Try.ntmps16
  go_upto_region 1 with (fail)
  go_cut [15] (fun v15 wc => ∃ (kq : Nat) (x15_2 : Bool), v15 = .bool x15_2 ∧ Aside0 (linguistref1_Lower.j0 kq a0 a1 x15_2 = some r) ∧ Aside0 (kq ≤ k) ∧ Aside0 (Below w.heap.size w wc))
  case first =>
    have H := HC3.out
    clear HC3
    by_cases c4 : a0 < 0
    · rw [if_pos c4] at H
      have c4b0 : decide (a0 < 0) = true := decide_eq_true c4
      clear c4
      (first | rw [c4b0] | (simp only [i64_w, i32_w]; rw [c4b0]) | skip)
      have H' := Aside0.mk H
      clear H
      go_wp2
      go_meet
      case rel => exact ⟨_, (true), (by first | rfl | (simp; done) | (simp [*]; done)), H', ⟨by first | omega | exact Nat.le_refl _⟩, ⟨by repeat (first | (with_reducible first | exact HB.out | apply below_alloc | apply pw_below_drewN | apply below_drew1) | exact HB.out)⟩⟩
    · rw [if_neg c4] at H
      have c4b0 : decide (a0 < 0) = false := decide_eq_false c4
      clear c4
      (first | rw [c4b0] | (simp only [i64_w, i32_w]; rw [c4b0]) | skip)
      by_cases c5 : a1 < 1
      · rw [if_pos c5] at H
        have c5b0 : decide (a1 < 1) = true := decide_eq_true c5
        clear c5
        have H' := Aside0.mk H
        clear H
        go_wp2
        go_meet
        case rel => exact ⟨_, (true), (by first | rfl | (simp; done) | (simp [*]; done)), H', ⟨by first | omega | exact Nat.le_refl _⟩, ⟨by repeat (first | (with_reducible first | exact HB.out | apply below_alloc | apply pw_below_drewN | apply below_drew1) | exact HB.out)⟩⟩
      · rw [if_neg c5] at H
        have c5b0 : decide (a1 < 1) = false := decide_eq_false c5
        clear c5
        have H' := Aside0.mk H
        clear H
        go_wp2
        go_meet
        case rel => exact ⟨_, (decide (a0 < a1)), (by first | rfl | (simp; done) | (simp [*]; done)), H', ⟨by first | omega | exact Nat.le_refl _⟩, ⟨by repeat (first | (with_reducible first | exact HB.out | apply below_alloc | apply pw_below_drewN | apply below_drew1) | exact HB.out)⟩⟩
  case rest =>
    clear HC3
    try clear c1
    try clear p2
    try clear c4
    try clear c4b0
    try clear c5
    try clear c5b0
    obtain ⟨kq, x15_2, rfl, HA, HJ2, HB⟩ := hcut
    cases kq with
    | zero => exact absurd HA.out (by simp [linguistref1_Lower.j0])
    | succ kj2 =>
      have H := HA.out
      clear HA
      simp only [linguistref1_Lower.j0] at H
      by_cases c6 : x15_2 = true
      · subst c6
        have H1 : (if a1 < 1 then (some (-1)) else (some a0)) = some r := by rw [if_pos rfl] at H; exact H
        clear H
        have H := H1
        clear H1
        by_cases c7 : a1 < 1
        · rw [if_pos c7] at H
          have c7b0 : decide (a1 < 1) = true := decide_eq_true c7
          clear c7
          obtain rfl := Option.some.inj H
          go_wp2
          go_ret
          exact ⟨by first | rfl | (simp [errW_none, errW_some] <;> rfl) | (simp [*, errW_none, errW_some] <;> rfl), by repeat (first | (with_reducible first | exact HB.out | apply below_alloc | apply pw_below_drewN | apply below_drew1) | exact HB.out)⟩
        · rw [if_neg c7] at H
          have c7b0 : decide (a1 < 1) = false := decide_eq_false c7
          clear c7
          obtain rfl := Option.some.inj H
          go_wp2
          go_ret
          exact ⟨by first | rfl | (simp [errW_none, errW_some] <;> rfl) | (simp [*, errW_none, errW_some] <;> rfl), by repeat (first | (with_reducible first | exact HB.out | apply below_alloc | apply pw_below_drewN | apply below_drew1) | exact HB.out)⟩
      · replace c6 := Bool.eq_false_iff.mpr c6
        subst c6
        have H1 : ((linguistref1_Nearest.f kj2 a0 a1).bind fun t156 => (some t156)) = some r := by rw [if_neg (show ¬ (false = true) by decide)] at H; exact H
        clear H
        have H := H1
        clear H1
        replace H := Option.bind_eq_some_iff.mp H
        obtain ⟨t156, A80, H⟩ := H
        replace H : (some t156) = some r := H
        have A8 := Aside0.mk A80
        clear A80
        obtain rfl := Option.some.inj H
        go_wp2_with (first | ((with_reducible refine gate_callee (f := 15) rfl ?_); refine goesL_ (some 21) rfl rfl Try.func15 (by kernel_rfl) rfl #[.int .i64 a0, .int .i64 a1] rfl (by (try simp only [List.map_toArray, List.map_cons, List.map_nil]); first | done | rfl | (simp only [List.length_drop, List.length_take]; rfl) | (simp only [List.length_drop, List.length_take]; rw [Nat.min_eq_left (by first | assumption | omega)]; rfl)) ?_; (with_reducible refine (linguistref1_Nearest.calls kj2 a0 a1 t156 _ A8.out).mono ?_); rintro e w9 ⟨rfl, hb⟩; refine ⟨_, rfl, ?_⟩; have n0_ := Aside0.mk (below_step (by repeat (first | (with_reducible first | exact HB.out | apply below_alloc | apply pw_below_drewN | apply below_drew1) | exact HB.out)) hb); clear HB; have HB := n0_; clear n0_; (try clear hb); (try clear hb2); (try clear hk); (try clear hi)))
        go_ret
        exact ⟨by first | rfl | (simp [errW_none, errW_some] <;> rfl) | (simp [*, errW_none, errW_some] <;> rfl), by repeat (first | (with_reducible first | exact HB.out | apply below_alloc | apply pw_below_drewN | apply below_drew1) | exact HB.out)⟩

/-! ### linguistlaw3_ColorTells: function 4 -/
def linguistlaw3_ColorTells.f (k : Nat) (a0 : Int) (a1 : Int) : Option (Bool) := (color_RGB.f k a0).bind fun bt157 => ((linguistref1_RGB.f k a0).bind fun bt161 => ((linguistbook_Within.f a1 (-3) 260).bind fun t165 => (if bt157.1 = bt161.1 then (if bt157.2.1 = bt161.2.1 then (if bt157.2.2.1 = bt161.2.2.1 then (if (bt157.2.2.2 == bt161.2.2.2) = true then ((color_Nearest.f k a0 t165).bind fun t166 => ((linguistref1_Nearest.f k a0 t165).bind fun t167 => (if t166 = t167 then ((color_Lower.f k a0 (mn t165 256)).bind fun t168 => ((linguistref1_Lower.f k a0 (mn t165 256)).bind fun t169 => (if t168 = t169 then ((linguistlaw3_ColorRuns.f k).bind fun t170 => (some t170)) else (none)))) else (none)))) else (none)) else (none)) else (none)) else (none))))
theorem linguistlaw3_ColorTells.mono : ∀ a0 a1 k, LeO (linguistlaw3_ColorTells.f k a0 a1) (linguistlaw3_ColorTells.f (k + 1) a0 a1) := by
  intro a0 a1 k
  unfold linguistlaw3_ColorTells.f
  repeat' first
      | (with_reducible exact color_Lower.mono _ _ _)
      | (with_reducible exact color_Nearest.mono _ _ _)
      | (with_reducible exact color_RGB.mono _ _)
      | (with_reducible exact linguistlaw3_ColorRuns.mono _)
      | (with_reducible exact linguistref1_Lower.mono _ _ _)
      | (with_reducible exact linguistref1_Nearest.mono _ _ _)
      | (with_reducible exact linguistref1_RGB.mono _ _)
      | (with_reducible exact LeO.refl _)
      | (with_reducible exact LeO.none _)
      | (with_reducible refine LeO.ite ?_ ?_)
      | (with_reducible refine LeO.bind ?_ (fun _ => ?_))
      | exact color_Lower.mono _ _ _
      | exact color_Nearest.mono _ _ _
      | exact color_RGB.mono _ _
      | exact linguistlaw3_ColorRuns.mono _
      | exact linguistref1_Lower.mono _ _ _
      | exact linguistref1_Nearest.mono _ _ _
      | exact linguistref1_RGB.mono _ _
      | exact LeO.none _
      | refine LeO.ite ?_ ?_
      | refine LeO.bind ?_ (fun _ => ?_)
set_option maxHeartbeats 8000000 in
set_option maxRecDepth 100000 in
theorem linguistlaw3_ColorTells.calls (k : Nat) (a0 : Int) (a1 : Int) (r : Bool) (w : World) (h : linguistlaw3_ColorTells.f k a0 a1 = some r) :
    Calls Try.prog 4 #[.int .i64 a0, .int .i64 a1] w fun e w' => e = .returned (.bool r) ∧ Below w.heap.size w w' := by
  have HB := Aside0.mk (Below.refl w.heap.size w)
  have H : ((color_RGB.f k a0).bind fun bt157 => ((linguistref1_RGB.f k a0).bind fun bt161 => ((linguistbook_Within.f a1 (-3) 260).bind fun t165 => (if bt157.1 = bt161.1 then (if bt157.2.1 = bt161.2.1 then (if bt157.2.2.1 = bt161.2.2.1 then (if (bt157.2.2.2 == bt161.2.2.2) = true then ((color_Nearest.f k a0 t165).bind fun t166 => ((linguistref1_Nearest.f k a0 t165).bind fun t167 => (if t166 = t167 then ((color_Lower.f k a0 (mn t165 256)).bind fun t168 => ((linguistref1_Lower.f k a0 (mn t165 256)).bind fun t169 => (if t168 = t169 then ((linguistlaw3_ColorRuns.f k).bind fun t170 => (some t170)) else (none)))) else (none)))) else (none)) else (none)) else (none)) else (none))))) = some r := h
  clear h
  replace H := Option.bind_eq_some_iff.mp H
  obtain ⟨⟨t157, t158, t159, t160⟩, A30, H⟩ := H
  replace H : ((linguistref1_RGB.f k a0).bind fun bt161 => ((linguistbook_Within.f a1 (-3) 260).bind fun t165 => (if t157 = bt161.1 then (if t158 = bt161.2.1 then (if t159 = bt161.2.2.1 then (if (t160 == bt161.2.2.2) = true then ((color_Nearest.f k a0 t165).bind fun t166 => ((linguistref1_Nearest.f k a0 t165).bind fun t167 => (if t166 = t167 then ((color_Lower.f k a0 (mn t165 256)).bind fun t168 => ((linguistref1_Lower.f k a0 (mn t165 256)).bind fun t169 => (if t168 = t169 then ((linguistlaw3_ColorRuns.f k).bind fun t170 => (some t170)) else (none)))) else (none)))) else (none)) else (none)) else (none)) else (none)))) = some r := H
  have A3 := Aside0.mk A30
  clear A30
  replace H := Option.bind_eq_some_iff.mp H
  obtain ⟨⟨t161, t162, t163, t164⟩, A40, H⟩ := H
  replace H : ((linguistbook_Within.f a1 (-3) 260).bind fun t165 => (if t157 = t161 then (if t158 = t162 then (if t159 = t163 then (if (t160 == t164) = true then ((color_Nearest.f k a0 t165).bind fun t166 => ((linguistref1_Nearest.f k a0 t165).bind fun t167 => (if t166 = t167 then ((color_Lower.f k a0 (mn t165 256)).bind fun t168 => ((linguistref1_Lower.f k a0 (mn t165 256)).bind fun t169 => (if t168 = t169 then ((linguistlaw3_ColorRuns.f k).bind fun t170 => (some t170)) else (none)))) else (none)))) else (none)) else (none)) else (none)) else (none))) = some r := H
  have A4 := Aside0.mk A40
  clear A40
  replace H := Option.bind_eq_some_iff.mp H
  obtain ⟨t165, A50, H⟩ := H
  replace H : (if t157 = t161 then (if t158 = t162 then (if t159 = t163 then (if (t160 == t164) = true then ((color_Nearest.f k a0 t165).bind fun t166 => ((linguistref1_Nearest.f k a0 t165).bind fun t167 => (if t166 = t167 then ((color_Lower.f k a0 (mn t165 256)).bind fun t168 => ((linguistref1_Lower.f k a0 (mn t165 256)).bind fun t169 => (if t168 = t169 then ((linguistlaw3_ColorRuns.f k).bind fun t170 => (some t170)) else (none)))) else (none)))) else (none)) else (none)) else (none)) else (none)) = some r := H
  have A5 := Aside0.mk A50
  clear A50
  by_cases c6 : t157 = t161
  · rw [if_pos c6] at H
    have c6b0 : (t157 == t161) = true := beq_iff_eq.mpr c6
    have c6b1 : (t157 != t161) = false := bne_eq_false_iff_eq.mpr c6
    clear c6
    by_cases c7 : t158 = t162
    · rw [if_pos c7] at H
      have c7b0 : (t158 == t162) = true := beq_iff_eq.mpr c7
      have c7b1 : (t158 != t162) = false := bne_eq_false_iff_eq.mpr c7
      clear c7
      by_cases c8 : t159 = t163
      · rw [if_pos c8] at H
        have c8b0 : (t159 == t163) = true := beq_iff_eq.mpr c8
        have c8b1 : (t159 != t163) = false := bne_eq_false_iff_eq.mpr c8
        clear c8
        by_cases c9 : (t160 == t164) = true
        · rw [if_pos c9] at H
          have c9b0 : (t160 == t164) = true := c9
          (try (have c9b1 : decide (t160 = t164) = true := by simpa using c9))
          (try (have c9b2 : (t160 == t164) = true := by simpa using c9))
          clear c9
          replace H := Option.bind_eq_some_iff.mp H
          obtain ⟨t166, A100, H⟩ := H
          replace H : ((linguistref1_Nearest.f k a0 t165).bind fun t167 => (if t166 = t167 then ((color_Lower.f k a0 (mn t165 256)).bind fun t168 => ((linguistref1_Lower.f k a0 (mn t165 256)).bind fun t169 => (if t168 = t169 then ((linguistlaw3_ColorRuns.f k).bind fun t170 => (some t170)) else (none)))) else (none))) = some r := H
          have A10 := Aside0.mk A100
          clear A100
          replace H := Option.bind_eq_some_iff.mp H
          obtain ⟨t167, A110, H⟩ := H
          replace H : (if t166 = t167 then ((color_Lower.f k a0 (mn t165 256)).bind fun t168 => ((linguistref1_Lower.f k a0 (mn t165 256)).bind fun t169 => (if t168 = t169 then ((linguistlaw3_ColorRuns.f k).bind fun t170 => (some t170)) else (none)))) else (none)) = some r := H
          have A11 := Aside0.mk A110
          clear A110
          by_cases c12 : t166 = t167
          · rw [if_pos c12] at H
            have c12b0 : (t166 == t167) = true := beq_iff_eq.mpr c12
            have c12b1 : (t166 != t167) = false := bne_eq_false_iff_eq.mpr c12
            clear c12
            obtain ⟨ji13, hji13⟩ : ∃ j_ : Int, (mn t165 256) = j_ := ⟨_, rfl⟩
            replace H : ((color_Lower.f k a0 (ji13)).bind fun t168 => ((linguistref1_Lower.f k a0 (ji13)).bind fun t169 => (if t168 = t169 then ((linguistlaw3_ColorRuns.f k).bind fun t170 => (some t170)) else (none)))) = some r := by first | (rw [hji13] at H; exact H) | (simp only [hji13] at H ⊢; exact H)
            (try rw [hji13] at A3)
            (try rw [hji13] at A4)
            (try rw [hji13] at A5)
            (try rw [hji13] at A10)
            (try rw [hji13] at A11)
            (try (have hji13h : ji13 ≤ 256 := by (rw [← hji13]; unfold mn; (repeat' split) <;> omega)))
            (try (have hji13g : ji13 ≤ 64 := by omega))
            have hji13_ : (if 256 < t165 then 256 else t165) = ji13 := hji13
            replace H := Option.bind_eq_some_iff.mp H
            obtain ⟨t168, A140, H⟩ := H
            replace H : ((linguistref1_Lower.f k a0 (ji13)).bind fun t169 => (if t168 = t169 then ((linguistlaw3_ColorRuns.f k).bind fun t170 => (some t170)) else (none))) = some r := H
            have A14 := Aside0.mk A140
            clear A140
            replace H := Option.bind_eq_some_iff.mp H
            obtain ⟨t169, A150, H⟩ := H
            replace H : (if t168 = t169 then ((linguistlaw3_ColorRuns.f k).bind fun t170 => (some t170)) else (none)) = some r := H
            have A15 := Aside0.mk A150
            clear A150
            by_cases c16 : t168 = t169
            · rw [if_pos c16] at H
              have c16b0 : (t168 == t169) = true := beq_iff_eq.mpr c16
              have c16b1 : (t168 != t169) = false := bne_eq_false_iff_eq.mpr c16
              clear c16
              replace H := Option.bind_eq_some_iff.mp H
              obtain ⟨t170, A170, H⟩ := H
              replace H : (some t170) = some r := H
              have A17 := Aside0.mk A170
              clear A170
              obtain rfl := Option.some.inj H
              go_enter Try.func4, Try.ntmps4
              go_wp2_with (first | ((with_reducible refine gate_callee (f := 12) rfl ?_); refine goesL_ (some 16) rfl rfl Try.func12 (by kernel_rfl) rfl #[.int .i64 a0] rfl (by (try simp only [List.map_toArray, List.map_cons, List.map_nil]); first | done | rfl | (simp only [List.length_drop, List.length_take]; rfl) | (simp only [List.length_drop, List.length_take]; rw [Nat.min_eq_left (by first | assumption | omega)]; rfl)) ?_; (with_reducible refine (color_RGB.calls k a0 t157 t158 t159 t160 _ A3.out).mono ?_); rintro e w18 ⟨rfl, hb⟩; refine ⟨_, rfl, ?_⟩; have n0_ := Aside0.mk (below_step (by repeat (first | (with_reducible first | exact HB.out | apply below_alloc | apply pw_below_drewN | apply below_drew1) | exact HB.out)) hb); clear HB; have HB := n0_; clear n0_; (try clear hb); (try clear hb2); (try clear hk); (try clear hi)) | ((with_reducible refine gate_callee (f := 13) rfl ?_); refine goesL_ (some 23) rfl rfl Try.func13 (by kernel_rfl) rfl #[.int .i64 a0] rfl (by (try simp only [List.map_toArray, List.map_cons, List.map_nil]); first | done | rfl | (simp only [List.length_drop, List.length_take]; rfl) | (simp only [List.length_drop, List.length_take]; rw [Nat.min_eq_left (by first | assumption | omega)]; rfl)) ?_; (with_reducible refine (linguistref1_RGB.calls k a0 t161 t162 t163 t164 _ A4.out).mono ?_); rintro e w19 ⟨rfl, hb⟩; refine ⟨_, rfl, ?_⟩; have n0_ := Aside0.mk (below_step (by repeat (first | (with_reducible first | exact HB.out | apply below_alloc | apply pw_below_drewN | apply below_drew1) | exact HB.out)) hb); clear HB; have HB := n0_; clear n0_; (try clear hb); (try clear hb2); (try clear hk); (try clear hi)) | ((with_reducible refine gate_callee (f := 14) rfl ?_); refine goesL_ (some 29) rfl rfl Try.func14 (by kernel_rfl) rfl #[.int .i64 a1, .int .i64 (-3), .int .i64 260] rfl (by (try simp only [List.map_toArray, List.map_cons, List.map_nil]); first | done | rfl | (simp only [List.length_drop, List.length_take]; rfl) | (simp only [List.length_drop, List.length_take]; rw [Nat.min_eq_left (by first | assumption | omega)]; rfl)) ?_; (with_reducible refine (linguistbook_Within.calls a1 (-3) 260 t165 _ A5.out).mono ?_); rintro e w' ⟨rfl, ⟨nd, rfl⟩⟩; refine ⟨_, rfl, ?_⟩) | (go_at_call 10; (with_reducible refine (color_Nearest.calls k a0 t165 t166 _ A10.out).mono ?_); rintro e w20 ⟨rfl, hb⟩; have n0_ := Aside0.mk (below_step (by repeat (first | (with_reducible first | exact HB.out | apply below_alloc | apply pw_below_drewN | apply below_drew1) | exact HB.out)) hb); clear HB; have HB := n0_; clear n0_; (try clear hb); (try clear hb2); (try clear hk); (try clear hi)) | (go_at_call 15; (with_reducible refine (linguistref1_Nearest.calls k a0 t165 t167 _ A11.out).mono ?_); rintro e w21 ⟨rfl, hb⟩; have n0_ := Aside0.mk (below_step (by repeat (first | (with_reducible first | exact HB.out | apply below_alloc | apply pw_below_drewN | apply below_drew1) | exact HB.out)) hb); clear HB; have HB := n0_; clear n0_; (try clear hb); (try clear hb2); (try clear hk); (try clear hi)) | (go_at_call 11; (with_reducible refine (color_Lower.calls k a0 ji13 t168 _ A14.out).mono ?_); rintro e w22 ⟨rfl, hb⟩; have n0_ := Aside0.mk (below_step (by repeat (first | (with_reducible first | exact HB.out | apply below_alloc | apply pw_below_drewN | apply below_drew1) | exact HB.out)) hb); clear HB; have HB := n0_; clear n0_; (try clear hb); (try clear hb2); (try clear hk); (try clear hi)) | (go_at_call 16; (with_reducible refine (linguistref1_Lower.calls k a0 ji13 t169 _ A15.out).mono ?_); rintro e w23 ⟨rfl, hb⟩; have n0_ := Aside0.mk (below_step (by repeat (first | (with_reducible first | exact HB.out | apply below_alloc | apply pw_below_drewN | apply below_drew1) | exact HB.out)) hb); clear HB; have HB := n0_; clear n0_; (try clear hb); (try clear hb2); (try clear hk); (try clear hi)) | (go_at_call 3; (with_reducible refine (linguistlaw3_ColorRuns.calls k  t170 _ A17.out).mono ?_); rintro e w24 ⟨rfl, hb⟩; have n0_ := Aside0.mk (below_step (by repeat (first | (with_reducible first | exact HB.out | apply below_alloc | apply pw_below_drewN | apply below_drew1) | exact HB.out)) hb); clear HB; have HB := n0_; clear n0_; (try clear hb); (try clear hb2); (try clear hk); (try clear hi)))
              go_ret
              exact ⟨by first | rfl | (simp [errW_none, errW_some] <;> rfl) | (simp only [← hji13]; first | rfl | (simp [errW_none, errW_some] <;> rfl)) | (simp [*, errW_none, errW_some] <;> rfl), by repeat (first | (with_reducible first | exact HB.out | apply below_alloc | apply pw_below_drewN | apply below_drew1) | exact HB.out)⟩
            · rw [if_neg c16] at H
              exact absurd H (by simp)
          · rw [if_neg c12] at H
            exact absurd H (by simp)
        · rw [if_neg c9] at H
          exact absurd H (by simp)
      · rw [if_neg c8] at H
        exact absurd H (by simp)
    · rw [if_neg c7] at H
      exact absurd H (by simp)
  · rw [if_neg c6] at H
    exact absurd H (by simp)

/-- THE ONE PURE STATEMENT of linguistlaw3_ColorTells. -/
def linguistlaw3_ColorTells.Pure : Prop := ∀ (a0 : Int) (a1 : Int), (Lit.int .i64 a0).wf = true → (Lit.int .i64 a1).wf = true → ∃ k, linguistlaw3_ColorTells.f k a0 a1 = some true
theorem linguistlaw3_ColorTells.walk (P : linguistlaw3_ColorTells.Pure) (a0 : Int) (a1 : Int) (w : World) (w0 : (Lit.int .i64 a0).wf = true) (w1 : (Lit.int .i64 a1).wf = true)  :
    Calls Try.prog 4 #[.int .i64 a0, .int .i64 a1] w fun e w' => e = .returned (.bool true) ∧ Below w.heap.size w w' := by
  obtain ⟨k, h⟩ := P a0 a1 w0 w1
  refine (linguistlaw3_ColorTells.calls k a0 a1 true w  h).mono ?_
  rintro e w' ⟨rfl, hd⟩
  exact ⟨rfl, hd⟩

end Go.Proofs.Ythlmpppddloiaaa.GColorTells
