-- PRINTED BY print.sh 35421559b90ae4d0a3588c463048766b98c2df88dd9212a6774a882060cdf62d: not written by this session
import Derived.Test.YtmbcoeicnlncbaaPTabsEndsx0
import Derived.Test.YtmbcoeicnlncbaaPTabsEndsx1
namespace Go.Proofs.Ytmbcoeicnlncbaa.PTabsEnds
open Go.RowKit Go.Proofs.YtmbcoeicnlncbaaW.PrintWords Go.Proofs.YtmbcoeicnlncbaaW.PrintLast Go.Proofs.YtmbcoeicnlncbaaW.PrintMore
attribute [local go_sem] max2_int min2_int max_two min_two max_three min_three max_four min_four   -- for this text's walks alone
set_option linter.unusedVariables false
set_option linter.unusedSimpArgs false

/-! ### linguistlaw9_TabsEnds: function 4 -/
mutual
def linguistlaw9_TabsEnds.j0 : Nat → Int → Int → Int → Int → Int → Int → Int → Bool → Option (Bool)
  | 0, _, _, _, _, _, _, _, _ => none
  | k + 1, x0, x9, x10, x11, x12, x13, x14, x45 => if x45 = true then (linguistlaw9_TabsEnds.j1 k x0 x9 x10 x11 x12 x13 x11) else (linguistlaw9_TabsEnds.j1 k x0 x9 x10 x11 x12 x13 x14)
def linguistlaw9_TabsEnds.j1 : Nat → Int → Int → Int → Int → Int → Int → Int → Option (Bool)
  | 0, _, _, _, _, _, _, _ => none
  | k + 1, x0, x9, x10, x11, x12, x13, x14 => if x11 > x10 then (linguistlaw9_TabsEnds.j2 k x0 x9 x12 x13 x14 (x11 == (wrap64 (x9 - 1)))) else (linguistlaw9_TabsEnds.j2 k x0 x9 x12 x13 x14 false)
def linguistlaw9_TabsEnds.j2 : Nat → Int → Int → Int → Int → Int → Bool → Option (Bool)
  | 0, _, _, _, _, _, _ => none
  | k + 1, x0, x9, x12, x13, x14, x55 => if x55 = true then (linguistlaw9_TabsEnds.j3 k x0 x9 x13 x12) else (linguistlaw9_TabsEnds.j3 k x0 x9 x13 x14)
def linguistlaw9_TabsEnds.j3 : Nat → Int → Int → Int → Int → Option (Bool)
  | 0, _, _, _, _ => none
  | k + 1, x0, x9, x13, x14 => if x13 = x14 then ((tabs_Next.f k x0 (wrap64 (x9 - 1)) x9).bind fun t135 => (if t135 = (wrap64 (x9 - 1)) then ((tabs_Next.f k 0 0 x9).bind fun t136 => (if t136 = (wrap64 (x9 - 1)) then ((tabs_Put.f k 0 (([x9] : List Int))).bind fun t140 => ((tabs_Next.f k t140 0 x9).bind fun t141 => (if t141 = (wrap64 (x9 - 1)) then ((linguistlaw9_TabsRuns.f k).bind fun t142 => (some t142)) else (some false)))) else (some false))) else (some false))) else (some false)
end
def linguistlaw9_TabsEnds.f (k : Nat) (a0 : Int) (a1 : Int) (a2 : Int) (a3 : Int) : Option (Bool) := (linguistbook_Within.f a2 1 60).bind fun t126 => ((linguistbook_Within.f a1 0 59).bind fun t127 => ((linguistbook_Within.f a3 0 59).bind fun t128 => ((tabs_Next.f k a0 t127 t126).bind fun t129 => ((tabs_Put.f k a0 (([t128] : List Int))).bind fun t133 => ((tabs_Next.f k t133 t127 t126).bind fun t134 => (if t128 > t127 then (if t128 < t126 then (linguistlaw9_TabsEnds.j0 k a0 t126 t127 t128 t129 t134 t129 (decide (t128 < t129))) else (linguistlaw9_TabsEnds.j0 k a0 t126 t127 t128 t129 t134 t129 false)) else (linguistlaw9_TabsEnds.j0 k a0 t126 t127 t128 t129 t134 t129 false)))))))
theorem linguistlaw9_TabsEnds.mono_l : ∀ k, (∀ y0 y1 y2 y3 y4 y5 y6 y7, LeO (linguistlaw9_TabsEnds.j0 k y0 y1 y2 y3 y4 y5 y6 y7) (linguistlaw9_TabsEnds.j0 (k + 1) y0 y1 y2 y3 y4 y5 y6 y7)) ∧ (∀ y0 y1 y2 y3 y4 y5 y6, LeO (linguistlaw9_TabsEnds.j1 k y0 y1 y2 y3 y4 y5 y6) (linguistlaw9_TabsEnds.j1 (k + 1) y0 y1 y2 y3 y4 y5 y6)) ∧ (∀ y0 y1 y2 y3 y4 y5, LeO (linguistlaw9_TabsEnds.j2 k y0 y1 y2 y3 y4 y5) (linguistlaw9_TabsEnds.j2 (k + 1) y0 y1 y2 y3 y4 y5)) ∧ (∀ y0 y1 y2 y3, LeO (linguistlaw9_TabsEnds.j3 k y0 y1 y2 y3) (linguistlaw9_TabsEnds.j3 (k + 1) y0 y1 y2 y3))
  | 0 => ⟨fun _ _ _ _ _ _ _ _ r h => by simp [linguistlaw9_TabsEnds.j0] at h, fun _ _ _ _ _ _ _ r h => by simp [linguistlaw9_TabsEnds.j1] at h, fun _ _ _ _ _ _ r h => by simp [linguistlaw9_TabsEnds.j2] at h, fun _ _ _ _ r h => by simp [linguistlaw9_TabsEnds.j3] at h⟩
  | k + 1 => by
    obtain ⟨ih0, ih1, ih2, ih3⟩ := linguistlaw9_TabsEnds.mono_l k
    refine ⟨?_, ?_, ?_, ?_⟩
    · intro y0 y1 y2 y3 y4 y5 y6 y7
      unfold linguistlaw9_TabsEnds.j0
      repeat' first
      | (with_reducible exact ih0 _ _ _ _ _ _ _ _)
      | (with_reducible exact ih1 _ _ _ _ _ _ _)
      | (with_reducible exact ih2 _ _ _ _ _ _)
      | (with_reducible exact ih3 _ _ _ _)
      | (with_reducible exact linguistlaw9_TabsRuns.mono _)
      | (with_reducible exact tabs_Next.mono _ _ _ _)
      | (with_reducible exact tabs_Put.mono _ _ _)
      | (with_reducible exact LeO.refl _)
      | (with_reducible exact LeO.none _)
      | (with_reducible refine LeO.ite ?_ ?_)
      | (with_reducible refine LeO.bind ?_ (fun _ => ?_))
      | exact ih0 _ _ _ _ _ _ _ _
      | exact ih1 _ _ _ _ _ _ _
      | exact ih2 _ _ _ _ _ _
      | exact ih3 _ _ _ _
      | exact linguistlaw9_TabsRuns.mono _
      | exact tabs_Next.mono _ _ _ _
      | exact tabs_Put.mono _ _ _
      | exact LeO.none _
      | refine LeO.ite ?_ ?_
      | refine LeO.bind ?_ (fun _ => ?_)
    · intro y0 y1 y2 y3 y4 y5 y6
      unfold linguistlaw9_TabsEnds.j1
      repeat' first
      | (with_reducible exact ih0 _ _ _ _ _ _ _ _)
      | (with_reducible exact ih1 _ _ _ _ _ _ _)
      | (with_reducible exact ih2 _ _ _ _ _ _)
      | (with_reducible exact ih3 _ _ _ _)
      | (with_reducible exact linguistlaw9_TabsRuns.mono _)
      | (with_reducible exact tabs_Next.mono _ _ _ _)
      | (with_reducible exact tabs_Put.mono _ _ _)
      | (with_reducible exact LeO.refl _)
      | (with_reducible exact LeO.none _)
      | (with_reducible refine LeO.ite ?_ ?_)
      | (with_reducible refine LeO.bind ?_ (fun _ => ?_))
      | exact ih0 _ _ _ _ _ _ _ _
      | exact ih1 _ _ _ _ _ _ _
      | exact ih2 _ _ _ _ _ _
      | exact ih3 _ _ _ _
      | exact linguistlaw9_TabsRuns.mono _
      | exact tabs_Next.mono _ _ _ _
      | exact tabs_Put.mono _ _ _
      | exact LeO.none _
      | refine LeO.ite ?_ ?_
      | refine LeO.bind ?_ (fun _ => ?_)
    · intro y0 y1 y2 y3 y4 y5
      unfold linguistlaw9_TabsEnds.j2
      repeat' first
      | (with_reducible exact ih0 _ _ _ _ _ _ _ _)
      | (with_reducible exact ih1 _ _ _ _ _ _ _)
      | (with_reducible exact ih2 _ _ _ _ _ _)
      | (with_reducible exact ih3 _ _ _ _)
      | (with_reducible exact linguistlaw9_TabsRuns.mono _)
      | (with_reducible exact tabs_Next.mono _ _ _ _)
      | (with_reducible exact tabs_Put.mono _ _ _)
      | (with_reducible exact LeO.refl _)
      | (with_reducible exact LeO.none _)
      | (with_reducible refine LeO.ite ?_ ?_)
      | (with_reducible refine LeO.bind ?_ (fun _ => ?_))
      | exact ih0 _ _ _ _ _ _ _ _
      | exact ih1 _ _ _ _ _ _ _
      | exact ih2 _ _ _ _ _ _
      | exact ih3 _ _ _ _
      | exact linguistlaw9_TabsRuns.mono _
      | exact tabs_Next.mono _ _ _ _
      | exact tabs_Put.mono _ _ _
      | exact LeO.none _
      | refine LeO.ite ?_ ?_
      | refine LeO.bind ?_ (fun _ => ?_)
    · intro y0 y1 y2 y3
      unfold linguistlaw9_TabsEnds.j3
      repeat' first
      | (with_reducible exact ih0 _ _ _ _ _ _ _ _)
      | (with_reducible exact ih1 _ _ _ _ _ _ _)
      | (with_reducible exact ih2 _ _ _ _ _ _)
      | (with_reducible exact ih3 _ _ _ _)
      | (with_reducible exact linguistlaw9_TabsRuns.mono _)
      | (with_reducible exact tabs_Next.mono _ _ _ _)
      | (with_reducible exact tabs_Put.mono _ _ _)
      | (with_reducible exact LeO.refl _)
      | (with_reducible exact LeO.none _)
      | (with_reducible refine LeO.ite ?_ ?_)
      | (with_reducible refine LeO.bind ?_ (fun _ => ?_))
      | exact ih0 _ _ _ _ _ _ _ _
      | exact ih1 _ _ _ _ _ _ _
      | exact ih2 _ _ _ _ _ _
      | exact ih3 _ _ _ _
      | exact linguistlaw9_TabsRuns.mono _
      | exact tabs_Next.mono _ _ _ _
      | exact tabs_Put.mono _ _ _
      | exact LeO.none _
      | refine LeO.ite ?_ ?_
      | refine LeO.bind ?_ (fun _ => ?_)
theorem linguistlaw9_TabsEnds.mono : ∀ a0 a1 a2 a3 k, LeO (linguistlaw9_TabsEnds.f k a0 a1 a2 a3) (linguistlaw9_TabsEnds.f (k + 1) a0 a1 a2 a3) := by
  intro a0 a1 a2 a3 k
  obtain ⟨ih0, ih1, ih2, ih3⟩ := linguistlaw9_TabsEnds.mono_l k
  unfold linguistlaw9_TabsEnds.f
  repeat' first
      | (with_reducible exact ih0 _ _ _ _ _ _ _ _)
      | (with_reducible exact ih1 _ _ _ _ _ _ _)
      | (with_reducible exact ih2 _ _ _ _ _ _)
      | (with_reducible exact ih3 _ _ _ _)
      | (with_reducible exact linguistlaw9_TabsRuns.mono _)
      | (with_reducible exact tabs_Next.mono _ _ _ _)
      | (with_reducible exact tabs_Put.mono _ _ _)
      | (with_reducible exact LeO.refl _)
      | (with_reducible exact LeO.none _)
      | (with_reducible refine LeO.ite ?_ ?_)
      | (with_reducible refine LeO.bind ?_ (fun _ => ?_))
      | exact ih0 _ _ _ _ _ _ _ _
      | exact ih1 _ _ _ _ _ _ _
      | exact ih2 _ _ _ _ _ _
      | exact ih3 _ _ _ _
      | exact linguistlaw9_TabsRuns.mono _
      | exact tabs_Next.mono _ _ _ _
      | exact tabs_Put.mono _ _ _
      | exact LeO.none _
      | refine LeO.ite ?_ ?_
      | refine LeO.bind ?_ (fun _ => ?_)
set_option maxHeartbeats 8000000 in
set_option maxRecDepth 100000 in
theorem linguistlaw9_TabsEnds.calls (k : Nat) (a0 : Int) (a1 : Int) (a2 : Int) (a3 : Int) (r : Bool) (w : World) (h : linguistlaw9_TabsEnds.f k a0 a1 a2 a3 = some r) :
    Calls Try.prog 4 #[.int .u64 a0, .int .i64 a1, .int .i64 a2, .int .i64 a3] w fun e w' => e = .returned (.bool r) ∧ Below w.heap.size w w' := by
  have HB := Aside0.mk (Below.refl w.heap.size w)
  have H : ((linguistbook_Within.f a2 1 60).bind fun t126 => ((linguistbook_Within.f a1 0 59).bind fun t127 => ((linguistbook_Within.f a3 0 59).bind fun t128 => ((tabs_Next.f k a0 t127 t126).bind fun t129 => ((tabs_Put.f k a0 (([t128] : List Int))).bind fun t133 => ((tabs_Next.f k t133 t127 t126).bind fun t134 => (if t128 > t127 then (if t128 < t126 then (linguistlaw9_TabsEnds.j0 k a0 t126 t127 t128 t129 t134 t129 (decide (t128 < t129))) else (linguistlaw9_TabsEnds.j0 k a0 t126 t127 t128 t129 t134 t129 false)) else (linguistlaw9_TabsEnds.j0 k a0 t126 t127 t128 t129 t134 t129 false)))))))) = some r := h
  clear h
  replace H := Option.bind_eq_some_iff.mp H
  obtain ⟨t126, A50, H⟩ := H
  replace H : ((linguistbook_Within.f a1 0 59).bind fun t127 => ((linguistbook_Within.f a3 0 59).bind fun t128 => ((tabs_Next.f k a0 t127 t126).bind fun t129 => ((tabs_Put.f k a0 (([t128] : List Int))).bind fun t133 => ((tabs_Next.f k t133 t127 t126).bind fun t134 => (if t128 > t127 then (if t128 < t126 then (linguistlaw9_TabsEnds.j0 k a0 t126 t127 t128 t129 t134 t129 (decide (t128 < t129))) else (linguistlaw9_TabsEnds.j0 k a0 t126 t127 t128 t129 t134 t129 false)) else (linguistlaw9_TabsEnds.j0 k a0 t126 t127 t128 t129 t134 t129 false))))))) = some r := H
  have A5 := Aside0.mk A50
  clear A50
  replace H := Option.bind_eq_some_iff.mp H
  obtain ⟨t127, A60, H⟩ := H
  replace H : ((linguistbook_Within.f a3 0 59).bind fun t128 => ((tabs_Next.f k a0 t127 t126).bind fun t129 => ((tabs_Put.f k a0 (([t128] : List Int))).bind fun t133 => ((tabs_Next.f k t133 t127 t126).bind fun t134 => (if t128 > t127 then (if t128 < t126 then (linguistlaw9_TabsEnds.j0 k a0 t126 t127 t128 t129 t134 t129 (decide (t128 < t129))) else (linguistlaw9_TabsEnds.j0 k a0 t126 t127 t128 t129 t134 t129 false)) else (linguistlaw9_TabsEnds.j0 k a0 t126 t127 t128 t129 t134 t129 false)))))) = some r := H
  have A6 := Aside0.mk A60
  clear A60
  replace H := Option.bind_eq_some_iff.mp H
  obtain ⟨t128, A70, H⟩ := H
  replace H : ((tabs_Next.f k a0 t127 t126).bind fun t129 => ((tabs_Put.f k a0 (([t128] : List Int))).bind fun t133 => ((tabs_Next.f k t133 t127 t126).bind fun t134 => (if t128 > t127 then (if t128 < t126 then (linguistlaw9_TabsEnds.j0 k a0 t126 t127 t128 t129 t134 t129 (decide (t128 < t129))) else (linguistlaw9_TabsEnds.j0 k a0 t126 t127 t128 t129 t134 t129 false)) else (linguistlaw9_TabsEnds.j0 k a0 t126 t127 t128 t129 t134 t129 false))))) = some r := H
  have A7 := Aside0.mk A70
  clear A70
  replace H := Option.bind_eq_some_iff.mp H
  obtain ⟨t129, A80, H⟩ := H
  replace H : ((tabs_Put.f k a0 (([t128] : List Int))).bind fun t133 => ((tabs_Next.f k t133 t127 t126).bind fun t134 => (if t128 > t127 then (if t128 < t126 then (linguistlaw9_TabsEnds.j0 k a0 t126 t127 t128 t129 t134 t129 (decide (t128 < t129))) else (linguistlaw9_TabsEnds.j0 k a0 t126 t127 t128 t129 t134 t129 false)) else (linguistlaw9_TabsEnds.j0 k a0 t126 t127 t128 t129 t134 t129 false)))) = some r := H
  have A8 := Aside0.mk A80
  clear A80
  obtain ⟨y130, hy130⟩ : ∃ y_ : List Int, y_ = (([t128] : List Int)) := ⟨_, rfl⟩
  replace H : ((tabs_Put.f k a0 y130).bind fun t133 => ((tabs_Next.f k t133 t127 t126).bind fun t134 => (if t128 > t127 then (if t128 < t126 then (linguistlaw9_TabsEnds.j0 k a0 t126 t127 t128 t129 t134 t129 (decide (t128 < t129))) else (linguistlaw9_TabsEnds.j0 k a0 t126 t127 t128 t129 t134 t129 false)) else (linguistlaw9_TabsEnds.j0 k a0 t126 t127 t128 t129 t134 t129 false)))) = some r := by first | (rw [hy130]; with_reducible exact H) | (have H2_ := (Option.bind_some _ _).symm.trans H; rw [hy130]; with_reducible exact H2_) | (have H2_ := (Option.bind_some _ _).symm.trans H; with_reducible exact H2_) | with_reducible exact H | (rw [hy130]; exact H) | exact H
  have Ny130 := Aside0.mk hy130
  clear hy130
  replace H := Option.bind_eq_some_iff.mp H
  obtain ⟨t133, A90, H⟩ := H
  replace H : ((tabs_Next.f k t133 t127 t126).bind fun t134 => (if t128 > t127 then (if t128 < t126 then (linguistlaw9_TabsEnds.j0 k a0 t126 t127 t128 t129 t134 t129 (decide (t128 < t129))) else (linguistlaw9_TabsEnds.j0 k a0 t126 t127 t128 t129 t134 t129 false)) else (linguistlaw9_TabsEnds.j0 k a0 t126 t127 t128 t129 t134 t129 false))) = some r := H
  have A9 := Aside0.mk A90
  clear A90
  replace H := Option.bind_eq_some_iff.mp H
  obtain ⟨t134, A100, H⟩ := H
  replace H : (if t128 > t127 then (if t128 < t126 then (linguistlaw9_TabsEnds.j0 k a0 t126 t127 t128 t129 t134 t129 (decide (t128 < t129))) else (linguistlaw9_TabsEnds.j0 k a0 t126 t127 t128 t129 t134 t129 false)) else (linguistlaw9_TabsEnds.j0 k a0 t126 t127 t128 t129 t134 t129 false)) = some r := H
  have A10 := Aside0.mk A100
  clear A100
  have HC11 := Aside0.mk H
  clear H
  go_enter Try.func4, Try.ntmps4
  go_upto_region 6 with (first | ((with_reducible refine gate_callee (f := 13) rfl ?_); refine goesL_ (some 16) rfl rfl Try.func13 (by kernel_rfl) rfl #[.int .i64 a2, .int .i64 1, .int .i64 60] rfl (by (try simp only [List.map_toArray, List.map_cons, List.map_nil]); first | done | rfl | (simp only [List.length_drop, List.length_take]; rfl)) ?_; (with_reducible refine (linguistbook_Within.calls a2 1 60 t126 _ A5.out).mono ?_); rintro e w' ⟨rfl, ⟨nd, rfl⟩⟩; refine ⟨_, rfl, ?_⟩) | ((with_reducible refine gate_callee (f := 13) rfl ?_); refine goesL_ (some 18) rfl rfl Try.func13 (by kernel_rfl) rfl #[.int .i64 a1, .int .i64 0, .int .i64 59] rfl (by (try simp only [List.map_toArray, List.map_cons, List.map_nil]); first | done | rfl | (simp only [List.length_drop, List.length_take]; rfl)) ?_; (with_reducible refine (linguistbook_Within.calls a1 0 59 t127 _ A6.out).mono ?_); rintro e w' ⟨rfl, ⟨nd, rfl⟩⟩; refine ⟨_, rfl, ?_⟩) | ((with_reducible refine gate_callee (f := 13) rfl ?_); refine goesL_ (some 20) rfl rfl Try.func13 (by kernel_rfl) rfl #[.int .i64 a3, .int .i64 0, .int .i64 59] rfl (by (try simp only [List.map_toArray, List.map_cons, List.map_nil]); first | done | rfl | (simp only [List.length_drop, List.length_take]; rfl)) ?_; (with_reducible refine (linguistbook_Within.calls a3 0 59 t128 _ A7.out).mono ?_); rintro e w' ⟨rfl, ⟨nd, rfl⟩⟩; refine ⟨_, rfl, ?_⟩) | ((with_reducible refine gate_callee (f := 11) rfl ?_); refine goesL_ (some 24) rfl rfl Try.func11 (by kernel_rfl) rfl #[.int .u64 a0, .int .i64 t127, .int .i64 t126] rfl (by (try simp only [List.map_toArray, List.map_cons, List.map_nil]); first | done | rfl | (simp only [List.length_drop, List.length_take]; rfl)) ?_; (with_reducible refine (tabs_Next.calls k a0 t127 t126 t129 _ A8.out).mono ?_); rintro e w12 ⟨rfl, hb⟩; refine ⟨_, rfl, ?_⟩; have n0_ := Aside0.mk (below_step (by repeat (first | (with_reducible first | exact HB.out | apply below_alloc | apply pw_below_drewN | apply below_drew1) | exact HB.out)) hb); clear HB; have HB := n0_; clear n0_; (try clear hb); (try clear hb2); (try clear hk); (try clear hi)) | ((with_reducible refine gate_dst (N := 27) rfl ?_); (try (refine gate_guard (by rfl) ?_; dsimp only)); refine Kd.R_lit (Kd.int .i64) _ 3 ?hg (N := 27) ?hd (xs := ([t128] : List Int)) (inner := [.int .i64 t128]) (ok := fun _ => True) (okp := fun _ => True) ?hr ?hp (fun _ hk => hk) trivial (Below.refl _ _) (Nat.le_refl _) (by simp) ?_; (case hd => rfl); (case hg => rfl); (case hr => first | (go_simp; done) | (go_simp; rfl)); (case hp => exact (Reps.one (show Kd.M (Kd.int .i64) _ _ _ t128 [.int .i64 t128] from rfl) (Reps.none _ _))); intro v131 w13 ho14 hb hg_ hnew_; clear hg_ hnew_; (first | rw [← Ny130.out] at ho14 | (simp only [Int.reduceToNat] at ho14; rw [← Ny130.out] at ho14)); have n0_ := Aside0.mk (Kd.R_lower ho14 (below_size (by repeat (first | (with_reducible first | exact HB.out | apply below_alloc | apply pw_below_drewN | apply below_drew1) | exact HB.out)))); have n1_ := Aside0.mk (below_step (by repeat (first | (with_reducible first | exact HB.out | apply below_alloc | apply pw_below_drewN | apply below_drew1) | exact HB.out)) hb); clear HB; have HO132 := n0_; have HB := n1_; clear n0_ n1_; clear hb ho14; obtain ⟨Ao15, co15, eo15⟩ := Kd.R_slice HO132.out; subst eo15) | ((with_reducible refine gate_callee (f := 14) rfl ?_); refine goesL_ (some 28) rfl rfl Try.func14 (by kernel_rfl) rfl #[.int .u64 a0, .slice Ao15 y130.length co15] rfl (by (try simp only [List.map_toArray, List.map_cons, List.map_nil]); first | done | rfl | (simp only [List.length_drop, List.length_take]; rfl)) ?_; (with_reducible refine (tabs_Put.calls k a0 _ _ y130 t133 _ ?side1 ?side2 A9.out).mono ?_); (case side1 => repeat (first | exact (Kd.R_reads' HO132.out).2.2 | (with_reducible refine Kd.C_alloc ?_ _) | (with_reducible refine Kd.C_drewN ?_ _) | (with_reducible refine Kd.C_drew ?_))); (case side2 => exact (Kd.R_reads' HO132.out).2.1); rintro e w' ⟨rfl, ⟨nd, rfl⟩⟩; refine ⟨_, rfl, ?_⟩) | ((with_reducible refine gate_callee (f := 11) rfl ?_); refine goesL_ (some 31) rfl rfl Try.func11 (by kernel_rfl) rfl #[.int .u64 t133, .int .i64 t127, .int .i64 t126] rfl (by (try simp only [List.map_toArray, List.map_cons, List.map_nil]); first | done | rfl | (simp only [List.length_drop, List.length_take]; rfl)) ?_; (with_reducible refine (tabs_Next.calls k t133 t127 t126 t134 _ A10.out).mono ?_); rintro e w16 ⟨rfl, hb⟩; refine ⟨_, rfl, ?_⟩; have n0_ := Aside0.mk (Kd.R_below (by (with_reducible repeat (first | apply Kd.R_alloc | apply Kd.R_drewN | apply Kd.R_drew)); exact HO132.out) hb); have n1_ := Aside0.mk (below_step (by repeat (first | (with_reducible first | exact HB.out | apply below_alloc | apply pw_below_drewN | apply below_drew1) | exact HB.out)) hb); clear HO132; clear HB; have HO132 := n0_; have HB := n1_; clear n0_ n1_; (try clear hb); (try clear hb2); (try clear hk); (try clear hi)))
  (try simp only [Act.put, List.setIfInBounds_toArray, List.set_cons_zero, List.set_cons_succ])
  go_cut [45] (fun v45 wc => ∃ (kq : Nat) (x45_10 : Bool), v45 = .bool x45_10 ∧ Aside0 (linguistlaw9_TabsEnds.j0 kq a0 t126 t127 t128 t129 t134 t129 x45_10 = some r) ∧ Aside0 (kq ≤ k) ∧ Aside0 (Below w.heap.size w wc))
  case first =>
    have H := HC11.out
    clear HC11
    by_cases c17 : t128 > t127
    · rw [if_pos c17] at H
      have c17b0 : decide (t127 < t128) = true := decide_eq_true c17
      clear c17
      (first | rw [c17b0] | (simp only [i64_w, i32_w]; rw [c17b0]) | skip)
      by_cases c18 : t128 < t126
      · rw [if_pos c18] at H
        have c18b0 : decide (t128 < t126) = true := decide_eq_true c18
        clear c18
        have H' := Aside0.mk H
        clear H
        go_wp2
        go_meet
        case rel => exact ⟨_, (decide (t128 < t129)), (by first | rfl | (simp; done) | (simp [*]; done)), H', ⟨by first | omega | exact Nat.le_refl _⟩, ⟨by repeat (first | (with_reducible first | exact HB.out | apply below_alloc | apply pw_below_drewN | apply below_drew1) | exact HB.out)⟩⟩
      · rw [if_neg c18] at H
        have c18b0 : decide (t128 < t126) = false := decide_eq_false c18
        clear c18
        have H' := Aside0.mk H
        clear H
        go_wp2
        go_meet
        case rel => exact ⟨_, (false), (by first | rfl | (simp; done) | (simp [*]; done)), H', ⟨by first | omega | exact Nat.le_refl _⟩, ⟨by repeat (first | (with_reducible first | exact HB.out | apply below_alloc | apply pw_below_drewN | apply below_drew1) | exact HB.out)⟩⟩
    · rw [if_neg c17] at H
      have c17b0 : decide (t127 < t128) = false := decide_eq_false c17
      clear c17
      (first | rw [c17b0] | (simp only [i64_w, i32_w]; rw [c17b0]) | skip)
      have H' := Aside0.mk H
      clear H
      go_wp2
      go_meet
      case rel => exact ⟨_, (false), (by first | rfl | (simp; done) | (simp [*]; done)), H', ⟨by first | omega | exact Nat.le_refl _⟩, ⟨by repeat (first | (with_reducible first | exact HB.out | apply below_alloc | apply pw_below_drewN | apply below_drew1) | exact HB.out)⟩⟩
  case rest =>
    clear HC11
    try clear c1
    try clear p2
    try clear c4
    try clear c11
    try clear c13
    try clear c14
    try clear c17
    try clear c17b0
    try clear c18
    try clear c18b0
    obtain ⟨kq, x45_10, rfl, HA, HJ10, HB⟩ := hcut
    cases kq with
    | zero => exact absurd HA.out (by simp [linguistlaw9_TabsEnds.j0])
    | succ kj10 =>
      have H := HA.out
      clear HA
      simp only [linguistlaw9_TabsEnds.j0] at H
      have HC19 := Aside0.mk H
      clear H
      go_upto_if 45 with (fail)
      go_cut [14] (fun v14 wc => ∃ (kq : Nat) (x14_18 : Int), v14 = .int .i64 x14_18 ∧ Aside0 (linguistlaw9_TabsEnds.j1 kq a0 t126 t127 t128 t129 t134 x14_18 = some r) ∧ Aside0 (kq ≤ kj10) ∧ Aside0 (Below w.heap.size w wc))
      case first =>
        have H := HC19.out
        clear HC19
        by_cases c20 : x45_10 = true
        · subst c20
          have H1 : (linguistlaw9_TabsEnds.j1 kj10 a0 t126 t127 t128 t129 t134 t128) = some r := by rw [if_pos rfl] at H; exact H
          clear H
          have H := H1
          clear H1
          have H' := Aside0.mk H
          clear H
          go_wp2
          go_meet
          case rel => exact ⟨_, (t128), (by first | rfl | (simp; done) | (simp [*]; done)), H', ⟨by have := HJ10.out; first | omega | exact Nat.le_refl _⟩, ⟨by repeat (first | (with_reducible first | exact HB.out | apply below_alloc | apply pw_below_drewN | apply below_drew1) | exact HB.out)⟩⟩
        · replace c20 := Bool.eq_false_iff.mpr c20
          subst c20
          have H1 : (linguistlaw9_TabsEnds.j1 kj10 a0 t126 t127 t128 t129 t134 t129) = some r := by rw [if_neg (show ¬ (false = true) by decide)] at H; exact H
          clear H
          have H := H1
          clear H1
          have H' := Aside0.mk H
          clear H
          go_wp2
          go_meet
          case rel => exact ⟨_, (t129), (by first | rfl | (simp; done) | (simp [*]; done)), H', ⟨by have := HJ10.out; first | omega | exact Nat.le_refl _⟩, ⟨by repeat (first | (with_reducible first | exact HB.out | apply below_alloc | apply pw_below_drewN | apply below_drew1) | exact HB.out)⟩⟩
      case rest =>
        clear HC19
        try clear c1
        try clear c2
        try clear p2
        try clear c4
        try clear c11
        try clear c13
        try clear c14
        try clear c17
        try clear c17b0
        try clear c18
        try clear c18b0
        try clear c20
        try clear p2
        obtain ⟨kq, x14_18, rfl, HA, HJ18, HB⟩ := hcut
        cases kq with
        | zero => exact absurd HA.out (by simp [linguistlaw9_TabsEnds.j1])
        | succ kj18 =>
          have H := HA.out
          clear HA
          simp only [linguistlaw9_TabsEnds.j1] at H
          have HC21 := Aside0.mk H
          clear H
          go_upto_region 8 with (fail)
          go_cut [55] (fun v55 wc => ∃ (kq : Nat) (x55_20 : Bool), v55 = .bool x55_20 ∧ Aside0 (linguistlaw9_TabsEnds.j2 kq a0 t126 t129 t134 x14_18 x55_20 = some r) ∧ Aside0 (kq ≤ kj18) ∧ Aside0 (Below w.heap.size w wc))
          case first =>
            have H := HC21.out
            clear HC21
            by_cases c22 : t128 > t127
            · rw [if_pos c22] at H
              have c22b0 : decide (t127 < t128) = true := decide_eq_true c22
              clear c22
              (first | rw [c22b0] | (simp only [i64_w, i32_w]; rw [c22b0]) | skip)
              have H' := Aside0.mk H
              clear H
              go_wp2
              go_meet
              case rel => exact ⟨_, ((t128 == (wrap64 (t126 - 1)))), (by first | rfl | (simp; done) | (simp [*]; done)), H', ⟨by have := HJ10.out; have := HJ18.out; first | omega | exact Nat.le_refl _⟩, ⟨by repeat (first | (with_reducible first | exact HB.out | apply below_alloc | apply pw_below_drewN | apply below_drew1) | exact HB.out)⟩⟩
            · rw [if_neg c22] at H
              have c22b0 : decide (t127 < t128) = false := decide_eq_false c22
              clear c22
              (first | rw [c22b0] | (simp only [i64_w, i32_w]; rw [c22b0]) | skip)
              have H' := Aside0.mk H
              clear H
              go_wp2
              go_meet
              case rel => exact ⟨_, (false), (by first | rfl | (simp; done) | (simp [*]; done)), H', ⟨by have := HJ10.out; have := HJ18.out; first | omega | exact Nat.le_refl _⟩, ⟨by repeat (first | (with_reducible first | exact HB.out | apply below_alloc | apply pw_below_drewN | apply below_drew1) | exact HB.out)⟩⟩
          case rest =>
            clear HC21
            try clear c1
            try clear c2
            try clear p2
            try clear c4
            try clear p6
            try clear c11
            try clear c13
            try clear c14
            try clear c17
            try clear c17b0
            try clear c18
            try clear c18b0
            try clear c20
            try clear c22
            try clear c22b0
            try clear p2
            obtain ⟨kq, x55_20, rfl, HA, HJ20, HB⟩ := hcut
            cases kq with
            | zero => exact absurd HA.out (by simp [linguistlaw9_TabsEnds.j2])
            | succ kj20 =>
              have H := HA.out
              clear HA
              simp only [linguistlaw9_TabsEnds.j2] at H
              have HC23 := Aside0.mk H
              clear H
              go_upto_if 55 with (fail)
              go_cut [14] (fun v14 wc => ∃ (kq : Nat) (x14_22 : Int), v14 = .int .i64 x14_22 ∧ Aside0 (linguistlaw9_TabsEnds.j3 kq a0 t126 t134 x14_22 = some r) ∧ Aside0 (kq ≤ kj20) ∧ Aside0 (Below w.heap.size w wc))
              case first =>
                have H := HC23.out
                clear HC23
                by_cases c24 : x55_20 = true
                · subst c24
                  have H1 : (linguistlaw9_TabsEnds.j3 kj20 a0 t126 t134 t129) = some r := by rw [if_pos rfl] at H; exact H
                  clear H
                  have H := H1
                  clear H1
                  have H' := Aside0.mk H
                  clear H
                  go_wp2
                  go_meet
                  case rel => exact ⟨_, (t129), (by first | rfl | (simp; done) | (simp [*]; done)), H', ⟨by have := HJ10.out; have := HJ18.out; have := HJ20.out; first | omega | exact Nat.le_refl _⟩, ⟨by repeat (first | (with_reducible first | exact HB.out | apply below_alloc | apply pw_below_drewN | apply below_drew1) | exact HB.out)⟩⟩
                · replace c24 := Bool.eq_false_iff.mpr c24
                  subst c24
                  have H1 : (linguistlaw9_TabsEnds.j3 kj20 a0 t126 t134 x14_18) = some r := by rw [if_neg (show ¬ (false = true) by decide)] at H; exact H
                  clear H
                  have H := H1
                  clear H1
                  have H' := Aside0.mk H
                  clear H
                  go_wp2
                  go_meet
                  case rel => exact ⟨_, (x14_18), (by first | rfl | (simp; done) | (simp [*]; done)), H', ⟨by have := HJ10.out; have := HJ18.out; have := HJ20.out; first | omega | exact Nat.le_refl _⟩, ⟨by repeat (first | (with_reducible first | exact HB.out | apply below_alloc | apply pw_below_drewN | apply below_drew1) | exact HB.out)⟩⟩
              case rest =>
                clear HC23
                try clear c1
                try clear c2
                try clear p2
                try clear c4
                try clear p6
                try clear c11
                try clear c13
                try clear c14
                try clear c17
                try clear c17b0
                try clear c18
                try clear c18b0
                try clear c20
                try clear c22
                try clear c22b0
                try clear c24
                try clear p2
                try clear p6
                obtain ⟨kq, x14_22, rfl, HA, HJ22, HB⟩ := hcut
                cases kq with
                | zero => exact absurd HA.out (by simp [linguistlaw9_TabsEnds.j3])
                | succ kj22 =>
                  have H := HA.out
                  clear HA
                  simp only [linguistlaw9_TabsEnds.j3] at H
                  by_cases c25 : t134 = x14_22
                  · rw [if_pos c25] at H
                    have c25b0 : (t134 == x14_22) = true := beq_iff_eq.mpr c25
                    have c25b1 : (t134 != x14_22) = false := bne_eq_false_iff_eq.mpr c25
                    clear c25
                    replace H := Option.bind_eq_some_iff.mp H
                    obtain ⟨t135, A260, H⟩ := H
                    replace H : (if t135 = (wrap64 (t126 - 1)) then ((tabs_Next.f kj22 0 0 t126).bind fun t136 => (if t136 = (wrap64 (t126 - 1)) then ((tabs_Put.f kj22 0 (([t126] : List Int))).bind fun t140 => ((tabs_Next.f kj22 t140 0 t126).bind fun t141 => (if t141 = (wrap64 (t126 - 1)) then ((linguistlaw9_TabsRuns.f kj22).bind fun t142 => (some t142)) else (some false)))) else (some false))) else (some false)) = some r := H
                    have A26 := Aside0.mk A260
                    clear A260
                    by_cases c27 : t135 = (wrap64 (t126 - 1))
                    · rw [if_pos c27] at H
                      have c27b0 : (t135 == (wrap64 (t126 - 1))) = true := beq_iff_eq.mpr c27
                      have c27b1 : (t135 != (wrap64 (t126 - 1))) = false := bne_eq_false_iff_eq.mpr c27
                      clear c27
                      replace H := Option.bind_eq_some_iff.mp H
                      obtain ⟨t136, A280, H⟩ := H
                      replace H : (if t136 = (wrap64 (t126 - 1)) then ((tabs_Put.f kj22 0 (([t126] : List Int))).bind fun t140 => ((tabs_Next.f kj22 t140 0 t126).bind fun t141 => (if t141 = (wrap64 (t126 - 1)) then ((linguistlaw9_TabsRuns.f kj22).bind fun t142 => (some t142)) else (some false)))) else (some false)) = some r := H
                      have A28 := Aside0.mk A280
                      clear A280
                      by_cases c29 : t136 = (wrap64 (t126 - 1))
                      · rw [if_pos c29] at H
                        have c29b0 : (t136 == (wrap64 (t126 - 1))) = true := beq_iff_eq.mpr c29
                        have c29b1 : (t136 != (wrap64 (t126 - 1))) = false := bne_eq_false_iff_eq.mpr c29
                        clear c29
                        obtain ⟨y137, hy137⟩ : ∃ y_ : List Int, y_ = (([t126] : List Int)) := ⟨_, rfl⟩
                        replace H : ((tabs_Put.f kj22 0 y137).bind fun t140 => ((tabs_Next.f kj22 t140 0 t126).bind fun t141 => (if t141 = (wrap64 (t126 - 1)) then ((linguistlaw9_TabsRuns.f kj22).bind fun t142 => (some t142)) else (some false)))) = some r := by first | (rw [hy137]; with_reducible exact H) | (have H2_ := (Option.bind_some _ _).symm.trans H; rw [hy137]; with_reducible exact H2_) | (have H2_ := (Option.bind_some _ _).symm.trans H; with_reducible exact H2_) | with_reducible exact H | (rw [hy137]; exact H) | exact H
                        have Ny137 := Aside0.mk hy137
                        clear hy137
                        replace H := Option.bind_eq_some_iff.mp H
                        obtain ⟨t140, A300, H⟩ := H
                        replace H : ((tabs_Next.f kj22 t140 0 t126).bind fun t141 => (if t141 = (wrap64 (t126 - 1)) then ((linguistlaw9_TabsRuns.f kj22).bind fun t142 => (some t142)) else (some false))) = some r := H
                        have A30 := Aside0.mk A300
                        clear A300
                        replace H := Option.bind_eq_some_iff.mp H
                        obtain ⟨t141, A310, H⟩ := H
                        replace H : (if t141 = (wrap64 (t126 - 1)) then ((linguistlaw9_TabsRuns.f kj22).bind fun t142 => (some t142)) else (some false)) = some r := H
                        have A31 := Aside0.mk A310
                        clear A310
                        by_cases c32 : t141 = (wrap64 (t126 - 1))
                        · rw [if_pos c32] at H
                          have c32b0 : (t141 == (wrap64 (t126 - 1))) = true := beq_iff_eq.mpr c32
                          have c32b1 : (t141 != (wrap64 (t126 - 1))) = false := bne_eq_false_iff_eq.mpr c32
                          clear c32
                          replace H := Option.bind_eq_some_iff.mp H
                          obtain ⟨t142, A330, H⟩ := H
                          replace H : (some t142) = some r := H
                          have A33 := Aside0.mk A330
                          clear A330
                          obtain rfl := Option.some.inj H
                          go_wp2_with (first | (go_at_call 11; (with_reducible refine (tabs_Next.calls kj22 a0 (wrap64 (t126 - 1)) t126 t135 _ A26.out).mono ?_); rintro e w34 ⟨rfl, hb⟩; have n0_ := Aside0.mk (below_step (by repeat (first | (with_reducible first | exact HB.out | apply below_alloc | apply pw_below_drewN | apply below_drew1) | exact HB.out)) hb); clear HB; have HB := n0_; clear n0_; (try clear hb); (try clear hb2); (try clear hk); (try clear hi)) | (go_at_call 11; (with_reducible refine (tabs_Next.calls kj22 0 0 t126 t136 _ A28.out).mono ?_); rintro e w35 ⟨rfl, hb⟩; have n0_ := Aside0.mk (below_step (by repeat (first | (with_reducible first | exact HB.out | apply below_alloc | apply pw_below_drewN | apply below_drew1) | exact HB.out)) hb); clear HB; have HB := n0_; clear n0_; (try clear hb); (try clear hb2); (try clear hk); (try clear hi)) | ((with_reducible refine gate_dst (N := 79) rfl ?_); (try (refine gate_guard (by rfl) ?_; dsimp only)); refine Kd.R_lit (Kd.int .i64) _ 3 ?hg (N := 79) ?hd (xs := ([t126] : List Int)) (inner := [.int .i64 t126]) (ok := fun _ => True) (okp := fun _ => True) ?hr ?hp (fun _ hk => hk) trivial (Below.refl _ _) (Nat.le_refl _) (by simp) ?_; (case hd => rfl); (case hg => rfl); (case hr => first | (go_simp; done) | (go_simp; rfl)); (case hp => exact (Reps.one (show Kd.M (Kd.int .i64) _ _ _ t126 [.int .i64 t126] from rfl) (Reps.none _ _))); intro v138 w36 ho37 hb hg_ hnew_; clear hg_ hnew_; (first | rw [← Ny137.out] at ho37 | (simp only [Int.reduceToNat] at ho37; rw [← Ny137.out] at ho37)); have n0_ := Aside0.mk (Kd.R_lower ho37 (below_size (by repeat (first | (with_reducible first | exact HB.out | apply below_alloc | apply pw_below_drewN | apply below_drew1) | exact HB.out)))); have n1_ := Aside0.mk (below_step (by repeat (first | (with_reducible first | exact HB.out | apply below_alloc | apply pw_below_drewN | apply below_drew1) | exact HB.out)) hb); clear HB; have HO139 := n0_; have HB := n1_; clear n0_ n1_; clear hb ho37; obtain ⟨Ao38, co38, eo38⟩ := Kd.R_slice HO139.out; subst eo38) | (go_at_call 14; (with_reducible refine (tabs_Put.calls kj22 0 _ _ y137 t140 _ ?side1 ?side2 A30.out).mono ?_); (case side1 => repeat (first | exact (Kd.R_reads' HO139.out).2.2 | (with_reducible refine Kd.C_alloc ?_ _) | (with_reducible refine Kd.C_drewN ?_ _) | (with_reducible refine Kd.C_drew ?_))); (case side2 => exact (Kd.R_reads' HO139.out).2.1); rintro e w' ⟨rfl, ⟨nd, rfl⟩⟩) | (go_at_call 11; (with_reducible refine (tabs_Next.calls kj22 t140 0 t126 t141 _ A31.out).mono ?_); rintro e w39 ⟨rfl, hb⟩; have n0_ := Aside0.mk (Kd.R_below (by (with_reducible repeat (first | apply Kd.R_alloc | apply Kd.R_drewN | apply Kd.R_drew)); exact HO139.out) hb); have n1_ := Aside0.mk (below_step (by repeat (first | (with_reducible first | exact HB.out | apply below_alloc | apply pw_below_drewN | apply below_drew1) | exact HB.out)) hb); clear HO139; clear HB; have HO139 := n0_; have HB := n1_; clear n0_ n1_; (try clear hb); (try clear hb2); (try clear hk); (try clear hi)) | (go_at_call 3; (with_reducible refine (linguistlaw9_TabsRuns.calls kj22  t142 _ A33.out).mono ?_); rintro e w40 ⟨rfl, hb⟩; have n0_ := Aside0.mk (Kd.R_below (by (with_reducible repeat (first | apply Kd.R_alloc | apply Kd.R_drewN | apply Kd.R_drew)); exact HO139.out) hb); have n1_ := Aside0.mk (below_step (by repeat (first | (with_reducible first | exact HB.out | apply below_alloc | apply pw_below_drewN | apply below_drew1) | exact HB.out)) hb); clear HO139; clear HB; have HO139 := n0_; have HB := n1_; clear n0_ n1_; (try clear hb); (try clear hb2); (try clear hk); (try clear hi)))
                          go_ret
                          exact ⟨by first | rfl | (simp [errW_none, errW_some] <;> rfl) | (simp [*, errW_none, errW_some] <;> rfl), by repeat (first | (with_reducible first | exact HB.out | apply below_alloc | apply pw_below_drewN | apply below_drew1) | exact HB.out)⟩
                        · rw [if_neg c32] at H
                          have c32b0 : (t141 == (wrap64 (t126 - 1))) = false := beq_eq_false_iff_ne.mpr c32
                          have c32b1 : (t141 != (wrap64 (t126 - 1))) = true := bne_iff_ne.mpr c32
                          obtain rfl := Option.some.inj H
                          go_wp2_with (first | (go_at_call 11; (with_reducible refine (tabs_Next.calls kj22 a0 (wrap64 (t126 - 1)) t126 t135 _ A26.out).mono ?_); rintro e w41 ⟨rfl, hb⟩; have n0_ := Aside0.mk (below_step (by repeat (first | (with_reducible first | exact HB.out | apply below_alloc | apply pw_below_drewN | apply below_drew1) | exact HB.out)) hb); clear HB; have HB := n0_; clear n0_; (try clear hb); (try clear hb2); (try clear hk); (try clear hi)) | (go_at_call 11; (with_reducible refine (tabs_Next.calls kj22 0 0 t126 t136 _ A28.out).mono ?_); rintro e w42 ⟨rfl, hb⟩; have n0_ := Aside0.mk (below_step (by repeat (first | (with_reducible first | exact HB.out | apply below_alloc | apply pw_below_drewN | apply below_drew1) | exact HB.out)) hb); clear HB; have HB := n0_; clear n0_; (try clear hb); (try clear hb2); (try clear hk); (try clear hi)) | ((with_reducible refine gate_dst (N := 79) rfl ?_); (try (refine gate_guard (by rfl) ?_; dsimp only)); refine Kd.R_lit (Kd.int .i64) _ 3 ?hg (N := 79) ?hd (xs := ([t126] : List Int)) (inner := [.int .i64 t126]) (ok := fun _ => True) (okp := fun _ => True) ?hr ?hp (fun _ hk => hk) trivial (Below.refl _ _) (Nat.le_refl _) (by simp) ?_; (case hd => rfl); (case hg => rfl); (case hr => first | (go_simp; done) | (go_simp; rfl)); (case hp => exact (Reps.one (show Kd.M (Kd.int .i64) _ _ _ t126 [.int .i64 t126] from rfl) (Reps.none _ _))); intro v138 w43 ho44 hb hg_ hnew_; clear hg_ hnew_; (first | rw [← Ny137.out] at ho44 | (simp only [Int.reduceToNat] at ho44; rw [← Ny137.out] at ho44)); have n0_ := Aside0.mk (Kd.R_lower ho44 (below_size (by repeat (first | (with_reducible first | exact HB.out | apply below_alloc | apply pw_below_drewN | apply below_drew1) | exact HB.out)))); have n1_ := Aside0.mk (below_step (by repeat (first | (with_reducible first | exact HB.out | apply below_alloc | apply pw_below_drewN | apply below_drew1) | exact HB.out)) hb); clear HB; have HO139 := n0_; have HB := n1_; clear n0_ n1_; clear hb ho44; obtain ⟨Ao45, co45, eo45⟩ := Kd.R_slice HO139.out; subst eo45) | (go_at_call 14; (with_reducible refine (tabs_Put.calls kj22 0 _ _ y137 t140 _ ?side1 ?side2 A30.out).mono ?_); (case side1 => repeat (first | exact (Kd.R_reads' HO139.out).2.2 | (with_reducible refine Kd.C_alloc ?_ _) | (with_reducible refine Kd.C_drewN ?_ _) | (with_reducible refine Kd.C_drew ?_))); (case side2 => exact (Kd.R_reads' HO139.out).2.1); rintro e w' ⟨rfl, ⟨nd, rfl⟩⟩) | (go_at_call 11; (with_reducible refine (tabs_Next.calls kj22 t140 0 t126 t141 _ A31.out).mono ?_); rintro e w46 ⟨rfl, hb⟩; have n0_ := Aside0.mk (Kd.R_below (by (with_reducible repeat (first | apply Kd.R_alloc | apply Kd.R_drewN | apply Kd.R_drew)); exact HO139.out) hb); have n1_ := Aside0.mk (below_step (by repeat (first | (with_reducible first | exact HB.out | apply below_alloc | apply pw_below_drewN | apply below_drew1) | exact HB.out)) hb); clear HO139; clear HB; have HO139 := n0_; have HB := n1_; clear n0_ n1_; (try clear hb); (try clear hb2); (try clear hk); (try clear hi)))
                          go_ret
                          exact ⟨by first | rfl | (simp [errW_none, errW_some] <;> rfl) | (simp [*, errW_none, errW_some] <;> rfl), by repeat (first | (with_reducible first | exact HB.out | apply below_alloc | apply pw_below_drewN | apply below_drew1) | exact HB.out)⟩
                      · rw [if_neg c29] at H
                        have c29b0 : (t136 == (wrap64 (t126 - 1))) = false := beq_eq_false_iff_ne.mpr c29
                        have c29b1 : (t136 != (wrap64 (t126 - 1))) = true := bne_iff_ne.mpr c29
                        obtain rfl := Option.some.inj H
                        go_wp2_with (first | (go_at_call 11; (with_reducible refine (tabs_Next.calls kj22 a0 (wrap64 (t126 - 1)) t126 t135 _ A26.out).mono ?_); rintro e w47 ⟨rfl, hb⟩; have n0_ := Aside0.mk (below_step (by repeat (first | (with_reducible first | exact HB.out | apply below_alloc | apply pw_below_drewN | apply below_drew1) | exact HB.out)) hb); clear HB; have HB := n0_; clear n0_; (try clear hb); (try clear hb2); (try clear hk); (try clear hi)) | (go_at_call 11; (with_reducible refine (tabs_Next.calls kj22 0 0 t126 t136 _ A28.out).mono ?_); rintro e w48 ⟨rfl, hb⟩; have n0_ := Aside0.mk (below_step (by repeat (first | (with_reducible first | exact HB.out | apply below_alloc | apply pw_below_drewN | apply below_drew1) | exact HB.out)) hb); clear HB; have HB := n0_; clear n0_; (try clear hb); (try clear hb2); (try clear hk); (try clear hi)))
                        go_ret
                        exact ⟨by first | rfl | (simp [errW_none, errW_some] <;> rfl) | (simp [*, errW_none, errW_some] <;> rfl), by repeat (first | (with_reducible first | exact HB.out | apply below_alloc | apply pw_below_drewN | apply below_drew1) | exact HB.out)⟩
                    · rw [if_neg c27] at H
                      have c27b0 : (t135 == (wrap64 (t126 - 1))) = false := beq_eq_false_iff_ne.mpr c27
                      have c27b1 : (t135 != (wrap64 (t126 - 1))) = true := bne_iff_ne.mpr c27
                      obtain rfl := Option.some.inj H
                      go_wp2_with (first | (go_at_call 11; (with_reducible refine (tabs_Next.calls kj22 a0 (wrap64 (t126 - 1)) t126 t135 _ A26.out).mono ?_); rintro e w49 ⟨rfl, hb⟩; have n0_ := Aside0.mk (below_step (by repeat (first | (with_reducible first | exact HB.out | apply below_alloc | apply pw_below_drewN | apply below_drew1) | exact HB.out)) hb); clear HB; have HB := n0_; clear n0_; (try clear hb); (try clear hb2); (try clear hk); (try clear hi)))
                      go_ret
                      exact ⟨by first | rfl | (simp [errW_none, errW_some] <;> rfl) | (simp [*, errW_none, errW_some] <;> rfl), by repeat (first | (with_reducible first | exact HB.out | apply below_alloc | apply pw_below_drewN | apply below_drew1) | exact HB.out)⟩
                  · rw [if_neg c25] at H
                    have c25b0 : (t134 == x14_22) = false := beq_eq_false_iff_ne.mpr c25
                    have c25b1 : (t134 != x14_22) = true := bne_iff_ne.mpr c25
                    obtain rfl := Option.some.inj H
                    go_wp2
                    go_ret
                    exact ⟨by first | rfl | (simp [errW_none, errW_some] <;> rfl) | (simp [*, errW_none, errW_some] <;> rfl), by repeat (first | (with_reducible first | exact HB.out | apply below_alloc | apply pw_below_drewN | apply below_drew1) | exact HB.out)⟩

/-- THE ONE PURE STATEMENT of linguistlaw9_TabsEnds: yours. -/
def linguistlaw9_TabsEnds.Pure : Prop := ∀ (a0 : Int) (a1 : Int) (a2 : Int) (a3 : Int), (Lit.int .u64 a0).wf = true → (Lit.int .i64 a1).wf = true → (Lit.int .i64 a2).wf = true → (Lit.int .i64 a3).wf = true → ∃ k, linguistlaw9_TabsEnds.f k a0 a1 a2 a3 = some true
theorem linguistlaw9_TabsEnds.walk (P : linguistlaw9_TabsEnds.Pure) (a0 : Int) (a1 : Int) (a2 : Int) (a3 : Int) (w : World) (w0 : (Lit.int .u64 a0).wf = true) (w1 : (Lit.int .i64 a1).wf = true) (w2 : (Lit.int .i64 a2).wf = true) (w3 : (Lit.int .i64 a3).wf = true) :
    Calls Try.prog 4 #[.int .u64 a0, .int .i64 a1, .int .i64 a2, .int .i64 a3] w fun e w' => e = .returned (.bool true) ∧ Below w.heap.size w w' := by
  obtain ⟨k, h⟩ := P a0 a1 a2 a3 w0 w1 w2 w3
  refine (linguistlaw9_TabsEnds.calls k a0 a1 a2 a3 true w h).mono ?_
  rintro e w' ⟨rfl, hd⟩
  exact ⟨rfl, hd⟩

end Go.Proofs.Ytmbcoeicnlncbaa.PTabsEnds
