-- Written by a program of this session (out of the kit's printer); Lean checks it.
import Derived.Test.YtmbcoeicnlncbaaGTabsTellsx0
import Derived.Test.YtmbcoeicnlncbaaGTabsTellsx1
import Derived.Test.YtmbcoeicnlncbaaGTabsTellsx2
namespace Go.Proofs.Ytmbcoeicnlncbaa.GTabsTells
open Go.RowKit Go.Proofs.YtmbcoeicnlncbaaW.PrintWords Go.Proofs.YtmbcoeicnlncbaaW.PrintLast Go.Proofs.YtmbcoeicnlncbaaW.PrintMore
attribute [local go_sem] max2_int min2_int max_two min_two max_three min_three max_four min_four   -- for this text's walks alone
set_option linter.unusedVariables false
set_option linter.unusedSimpArgs false

/-! ### linguistlaw9_TabsTells: function 5 -/
mutual
def linguistlaw9_TabsTells.l0 : Nat → Int → Int → Int → List Int → Int → Int → List Int → Int → Int → Option (Bool)
  | 0, _, _, _, _, _, _, _, _, _ => none
  | k + 1, x0, x2, x3, x9, x10, x11, x28, x29, x30 => if x30 < x29 then (if 0 ≤ x30 then (if x30 < (x28.length : Int) then (if (rd x28 x30) ≥ 0 then (if (rd x28 x30) < 64 then (if 0 ≤ (IntKind.u64.wrap (rd x28 x30)) then (linguistlaw9_TabsTells.l0 k x0 x2 x3 x9 (Go.bits .or .u64 x10 (shl .u64 1 (IntKind.u64.wrap (rd x28 x30)))) (Go.bits .andNot .u64 x11 (shl .u64 1 (IntKind.u64.wrap (rd x28 x30)))) x28 x29 (wrap64 (x30 + 1))) else (none)) else (linguistlaw9_TabsTells.l0 k x0 x2 x3 x9 x10 x11 x28 x29 (wrap64 (x30 + 1)))) else (linguistlaw9_TabsTells.l0 k x0 x2 x3 x9 x10 x11 x28 x29 (wrap64 (x30 + 1)))) else (none)) else (none)) else ((linguistbook_Roomy_int.f k x9 7).bind fun t144 => ((linguistbook_Within.f x3 1 64).bind fun t147 => ((linguistbook_Within.f x2 0 63).bind fun t148 => (linguistlaw9_TabsTells.l1 k x0 x9 x10 x11 t144 t147 t148 ([] : List Int) 0))))
def linguistlaw9_TabsTells.l1 : Nat → Int → List Int → Int → Int → List Int → Int → Int → List Int → Int → Option (Bool)
  | 0, _, _, _, _, _, _, _, _, _ => none
  | k + 1, x0, x9, x10, x11, x14, x15, x16, x17, x57 => if x57 < 64 then (if 0 ≤ (IntKind.u64.wrap (x57)) then (if (Go.bits .and .u64 (shr .u64 x0 (IntKind.u64.wrap (x57))) 1) = 1 then (if x17.length < 17592186044416 then ((tabs_Has.f x0 x57).bind fun t152 => (if (t152 != ((Go.bits .and .u64 (shr .u64 x0 (IntKind.u64.wrap (x57))) 1) == 1)) = true then (none) else (linguistlaw9_TabsTells.l1 k x0 x9 x10 x11 x14 x15 x16 (x17 ++ [x57]) (wrap64 (x57 + 1))))) else (none)) else ((tabs_Has.f x0 x57).bind fun t153 => (if (t153 != ((Go.bits .and .u64 (shr .u64 x0 (IntKind.u64.wrap (x57))) 1) == 1)) = true then (none) else (linguistlaw9_TabsTells.l1 k x0 x9 x10 x11 x14 x15 x16 x17 (wrap64 (x57 + 1)))))) else (none)) else (if 0 ≤ (x9.length : Int) then (if (x9.length : Int) ≤ (x14.length : Int) then ((tabs_Put.f k x0 (x14.take ((x9.length : Int) : Int).toNat)).bind fun t158 => (if t158 = x10 then ((tabs_Drop.f k x0 x9).bind fun t159 => (if t159 = x11 then ((linguistbook_Intact_int.f k x14 x9 7).bind fun t160 => (if t160 = true then ((tabs_Next.f k x0 x16 x15).bind fun t161 => ((linguistref7_NextTab.f k x0 x16 x15).bind fun t162 => (if t161 = t162 then ((tabs_List.f k x0).bind fun t163 => ((linguistbook_Same_int.f k t163 x17).bind fun t166 => (if t166 = true then ((tabs_New.f k x15).bind fun t167 => ((linguistref7_Tabs.f k x15).bind fun t168 => (if t167 = t168 then ((tabs_Has.f x0 64).bind fun t169 => (if t169 = true then (none) else ((tabs_Has.f x0 (-1)).bind fun t170 => (if t170 = true then (none) else ((linguistlaw9_TabsRuns.f k).bind fun t171 => (some t171)))))) else (none)))) else (none)))) else (none)))) else (none))) else (none))) else (none))) else (none)) else (none))
end
def linguistlaw9_TabsTells.f (k : Nat) (a0 : Int) (l1 : List Int) (a2 : Int) (a3 : Int) : Option (Bool) := (some (([] : List Int) : List Int)).bind fun y136 => (if 0 ≤ (mn (l1.length : Int) 10) then (if (mn (l1.length : Int) 10) ≤ (l1.length : Int) then (if y136.length + (l1.take ((mn (l1.length : Int) 10) : Int).toNat).length < 17592186044416 then ((some (y136 ++ (l1.take ((mn (l1.length : Int) 10) : Int).toNat) : List Int)).bind fun y140 => (linguistlaw9_TabsTells.l0 k a0 a2 a3 y140 a0 a0 y140 (y140.length : Int) 0)) else (none)) else (none)) else (none))
theorem linguistlaw9_TabsTells.mono_l : ∀ k, (∀ y0 y1 y2 y3 y4 y5 y6 y7 y8, LeO (linguistlaw9_TabsTells.l0 k y0 y1 y2 y3 y4 y5 y6 y7 y8) (linguistlaw9_TabsTells.l0 (k + 1) y0 y1 y2 y3 y4 y5 y6 y7 y8)) ∧ (∀ y0 y1 y2 y3 y4 y5 y6 y7 y8, LeO (linguistlaw9_TabsTells.l1 k y0 y1 y2 y3 y4 y5 y6 y7 y8) (linguistlaw9_TabsTells.l1 (k + 1) y0 y1 y2 y3 y4 y5 y6 y7 y8))
  | 0 => ⟨fun _ _ _ _ _ _ _ _ _ r h => by simp [linguistlaw9_TabsTells.l0] at h, fun _ _ _ _ _ _ _ _ _ r h => by simp [linguistlaw9_TabsTells.l1] at h⟩
  | k + 1 => by
    obtain ⟨ih0, ih1⟩ := linguistlaw9_TabsTells.mono_l k
    refine ⟨?_, ?_⟩
    · intro y0 y1 y2 y3 y4 y5 y6 y7 y8
      unfold linguistlaw9_TabsTells.l0
      repeat' first
      | (with_reducible exact ih0 _ _ _ _ _ _ _ _ _)
      | (with_reducible exact ih1 _ _ _ _ _ _ _ _ _)
      | (with_reducible exact linguistbook_Intact_int.mono _ _ _ _)
      | (with_reducible exact linguistbook_Roomy_int.mono _ _ _)
      | (with_reducible exact linguistbook_Same_int.mono _ _ _)
      | (with_reducible exact linguistlaw9_TabsRuns.mono _)
      | (with_reducible exact linguistref7_NextTab.mono _ _ _ _)
      | (with_reducible exact linguistref7_Tabs.mono _ _)
      | (with_reducible exact tabs_Drop.mono _ _ _)
      | (with_reducible exact tabs_List.mono _ _)
      | (with_reducible exact tabs_New.mono _ _)
      | (with_reducible exact tabs_Next.mono _ _ _ _)
      | (with_reducible exact tabs_Put.mono _ _ _)
      | (with_reducible exact LeO.refl _)
      | (with_reducible exact LeO.none _)
      | (with_reducible refine LeO.ite ?_ ?_)
      | (with_reducible refine LeO.bind ?_ (fun _ => ?_))
      | exact ih0 _ _ _ _ _ _ _ _ _
      | exact ih1 _ _ _ _ _ _ _ _ _
      | exact linguistbook_Intact_int.mono _ _ _ _
      | exact linguistbook_Roomy_int.mono _ _ _
      | exact linguistbook_Same_int.mono _ _ _
      | exact linguistlaw9_TabsRuns.mono _
      | exact linguistref7_NextTab.mono _ _ _ _
      | exact linguistref7_Tabs.mono _ _
      | exact tabs_Drop.mono _ _ _
      | exact tabs_List.mono _ _
      | exact tabs_New.mono _ _
      | exact tabs_Next.mono _ _ _ _
      | exact tabs_Put.mono _ _ _
      | exact LeO.none _
      | refine LeO.ite ?_ ?_
      | refine LeO.bind ?_ (fun _ => ?_)
    · intro y0 y1 y2 y3 y4 y5 y6 y7 y8
      unfold linguistlaw9_TabsTells.l1
      repeat' first
      | (with_reducible exact ih0 _ _ _ _ _ _ _ _ _)
      | (with_reducible exact ih1 _ _ _ _ _ _ _ _ _)
      | (with_reducible exact linguistbook_Intact_int.mono _ _ _ _)
      | (with_reducible exact linguistbook_Roomy_int.mono _ _ _)
      | (with_reducible exact linguistbook_Same_int.mono _ _ _)
      | (with_reducible exact linguistlaw9_TabsRuns.mono _)
      | (with_reducible exact linguistref7_NextTab.mono _ _ _ _)
      | (with_reducible exact linguistref7_Tabs.mono _ _)
      | (with_reducible exact tabs_Drop.mono _ _ _)
      | (with_reducible exact tabs_List.mono _ _)
      | (with_reducible exact tabs_New.mono _ _)
      | (with_reducible exact tabs_Next.mono _ _ _ _)
      | (with_reducible exact tabs_Put.mono _ _ _)
      | (with_reducible exact LeO.refl _)
      | (with_reducible exact LeO.none _)
      | (with_reducible refine LeO.ite ?_ ?_)
      | (with_reducible refine LeO.bind ?_ (fun _ => ?_))
      | exact ih0 _ _ _ _ _ _ _ _ _
      | exact ih1 _ _ _ _ _ _ _ _ _
      | exact linguistbook_Intact_int.mono _ _ _ _
      | exact linguistbook_Roomy_int.mono _ _ _
      | exact linguistbook_Same_int.mono _ _ _
      | exact linguistlaw9_TabsRuns.mono _
      | exact linguistref7_NextTab.mono _ _ _ _
      | exact linguistref7_Tabs.mono _ _
      | exact tabs_Drop.mono _ _ _
      | exact tabs_List.mono _ _
      | exact tabs_New.mono _ _
      | exact tabs_Next.mono _ _ _ _
      | exact tabs_Put.mono _ _ _
      | exact LeO.none _
      | refine LeO.ite ?_ ?_
      | refine LeO.bind ?_ (fun _ => ?_)
theorem linguistlaw9_TabsTells.mono : ∀ a0 a1 a2 a3 k, LeO (linguistlaw9_TabsTells.f k a0 a1 a2 a3) (linguistlaw9_TabsTells.f (k + 1) a0 a1 a2 a3) := by
  intro a0 a1 a2 a3 k
  obtain ⟨ih0, ih1⟩ := linguistlaw9_TabsTells.mono_l k
  unfold linguistlaw9_TabsTells.f
  repeat' first
      | (with_reducible exact ih0 _ _ _ _ _ _ _ _ _)
      | (with_reducible exact ih1 _ _ _ _ _ _ _ _ _)
      | (with_reducible exact linguistbook_Intact_int.mono _ _ _ _)
      | (with_reducible exact linguistbook_Roomy_int.mono _ _ _)
      | (with_reducible exact linguistbook_Same_int.mono _ _ _)
      | (with_reducible exact linguistlaw9_TabsRuns.mono _)
      | (with_reducible exact linguistref7_NextTab.mono _ _ _ _)
      | (with_reducible exact linguistref7_Tabs.mono _ _)
      | (with_reducible exact tabs_Drop.mono _ _ _)
      | (with_reducible exact tabs_List.mono _ _)
      | (with_reducible exact tabs_New.mono _ _)
      | (with_reducible exact tabs_Next.mono _ _ _ _)
      | (with_reducible exact tabs_Put.mono _ _ _)
      | (with_reducible exact LeO.refl _)
      | (with_reducible exact LeO.none _)
      | (with_reducible refine LeO.ite ?_ ?_)
      | (with_reducible refine LeO.bind ?_ (fun _ => ?_))
      | exact ih0 _ _ _ _ _ _ _ _ _
      | exact ih1 _ _ _ _ _ _ _ _ _
      | exact linguistbook_Intact_int.mono _ _ _ _
      | exact linguistbook_Roomy_int.mono _ _ _
      | exact linguistbook_Same_int.mono _ _ _
      | exact linguistlaw9_TabsRuns.mono _
      | exact linguistref7_NextTab.mono _ _ _ _
      | exact linguistref7_Tabs.mono _ _
      | exact tabs_Drop.mono _ _ _
      | exact tabs_List.mono _ _
      | exact tabs_New.mono _ _
      | exact tabs_Next.mono _ _ _ _
      | exact tabs_Put.mono _ _ _
      | exact LeO.none _
      | refine LeO.ite ?_ ?_
      | refine LeO.bind ?_ (fun _ => ?_)
set_option maxHeartbeats 8000000 in
set_option maxRecDepth 100000 in
theorem linguistlaw9_TabsTells.calls (k : Nat) (a0 : Int) (A1 : Option Addr) (c1 : Nat) (l1 : List Int) (a2 : Int) (a3 : Int) (r : Bool) (w : World) (hr1 : Kd.C (Kd.int .i64) w A1 l1.length l1) (hc1 : l1.length ≤ c1) (h : linguistlaw9_TabsTells.f k a0 l1 a2 a3 = some r) :
    Calls Try.prog 5 #[.int .u64 a0, .slice A1 l1.length c1, .int .i64 a2, .int .i64 a3] w fun e w' => e = .returned (.bool r) ∧ Below w.heap.size w w' := by
  have HR1 := Aside0.mk hr1
  have HC1 := Aside0.mk hc1
  clear hr1 hc1
  have HB := Aside0.mk (Below.refl w.heap.size w)
  have H : ((some (([] : List Int) : List Int)).bind fun y136 => (if 0 ≤ (mn (l1.length : Int) 10) then (if (mn (l1.length : Int) 10) ≤ (l1.length : Int) then (if y136.length + (l1.take ((mn (l1.length : Int) 10) : Int).toNat).length < 17592186044416 then ((some (y136 ++ (l1.take ((mn (l1.length : Int) 10) : Int).toNat) : List Int)).bind fun y140 => (linguistlaw9_TabsTells.l0 k a0 a2 a3 y140 a0 a0 y140 (y140.length : Int) 0)) else (none)) else (none)) else (none))) = some r := h
  clear h
  obtain ⟨y136, hy136⟩ : ∃ y_ : List Int, y_ = (([] : List Int)) := ⟨_, rfl⟩
  replace H : (if 0 ≤ (mn (l1.length : Int) 10) then (if (mn (l1.length : Int) 10) ≤ (l1.length : Int) then (if y136.length + (l1.take ((mn (l1.length : Int) 10) : Int).toNat).length < 17592186044416 then ((some (y136 ++ (l1.take ((mn (l1.length : Int) 10) : Int).toNat) : List Int)).bind fun y140 => (linguistlaw9_TabsTells.l0 k a0 a2 a3 y140 a0 a0 y140 (y140.length : Int) 0)) else (none)) else (none)) else (none)) = some r := by first | (rw [hy136]; with_reducible exact H) | (have H2_ := (Option.bind_some _ _).symm.trans H; rw [hy136]; with_reducible exact H2_) | (have H2_ := (Option.bind_some _ _).symm.trans H; with_reducible exact H2_) | with_reducible exact H | (rw [hy136]; exact H) | exact H
  have Ny136 := Aside0.mk hy136
  clear hy136
  obtain ⟨ji5, hji5⟩ : ∃ j_ : Int, (mn (l1.length : Int) 10) = j_ := ⟨_, rfl⟩
  replace H : (if 0 ≤ (ji5) then (if (ji5) ≤ (l1.length : Int) then (if y136.length + (l1.take ((ji5) : Int).toNat).length < 17592186044416 then ((some (y136 ++ (l1.take ((ji5) : Int).toNat) : List Int)).bind fun y140 => (linguistlaw9_TabsTells.l0 k a0 a2 a3 y140 a0 a0 y140 (y140.length : Int) 0)) else (none)) else (none)) else (none)) = some r := by first | (rw [hji5] at H; exact H) | (simp only [hji5] at H ⊢; exact H)
  (try (have hji5h : ji5 ≤ 10 := by (rw [← hji5]; unfold mn; (repeat' split) <;> omega)))
  (try (have hji5g : ji5 ≤ 64 := by omega))
  (try (have hji5l : 0 ≤ ji5 := by (rw [← hji5]; unfold mn; (repeat' split) <;> omega)))
  (try (have hji5m : 0 ≤ ji5 := by omega))
  have hji5_ : (if 10 < (l1.length : Int) then 10 else (l1.length : Int)) = ji5 := hji5
  (try (have hji5n : ji5.toNat ≤ l1.length := by (have f_ := hji5_; split at f_ <;> omega)))
  by_cases c6 : 0 ≤ (ji5)
  · rw [if_pos c6] at H
    have c6b0 := eq_true c6
    have c6b1 : decide (0 ≤ (ji5)) = true := decide_eq_true c6
    clear c6
    by_cases c7 : (ji5) ≤ (l1.length : Int)
    · rw [if_pos c7] at H
      have c7b0 := eq_true c7
      have c7b1 : decide ((ji5) ≤ (l1.length : Int)) = true := decide_eq_true c7
      clear c7
      by_cases c8 : y136.length + (l1.take ((ji5) : Int).toNat).length < 17592186044416
      · rw [if_pos c8] at H
        have LMc8 := Aside0.mk c8
        clear c8
        obtain ⟨y140, hy140⟩ : ∃ y_ : List Int, y_ = (y136 ++ (l1.take ((ji5) : Int).toNat)) := ⟨_, rfl⟩
        replace H : (linguistlaw9_TabsTells.l0 k a0 a2 a3 y140 a0 a0 y140 (y140.length : Int) 0) = some r := by first | (rw [hy140]; with_reducible exact H) | (have H2_ := (Option.bind_some _ _).symm.trans H; rw [hy140]; with_reducible exact H2_) | (have H2_ := (Option.bind_some _ _).symm.trans H; with_reducible exact H2_) | with_reducible exact H | (rw [hy140]; exact H) | exact H
        have Ny140 := Aside0.mk hy140
        clear hy140
        have H' := Aside0.mk H
        clear H
        go_enter Try.func5, Try.ntmps5
        go_wp2_with (first | ((with_reducible refine gate_dst (N := 19) rfl ?_); refine Kd.R_lit (Kd.int .i64) _ 3 ?hg (N := 19) ?hd (xs := ([] : List Int)) (inner := []) (ok := fun _ => True) (okp := fun _ => True) ?hr ?hp (fun _ hk => hk) trivial (Below.refl _ _) (Nat.le_refl _) (by simp) ?_; (case hd => rfl); (case hg => rfl); (case hr => first | (go_simp; done) | (go_simp; rfl)); (case hp => exact (Reps.none _ _)); intro v137 w9 ho10 hb hg_ hnew_; clear hg_ hnew_; (first | rw [← Ny136.out] at ho10 | (simp only [Int.reduceToNat] at ho10; rw [← Ny136.out] at ho10)); have n0_ := Aside0.mk (Kd.R_lower ho10 (below_size (by repeat (first | (with_reducible first | exact HB.out | apply below_alloc | apply pw_below_drewN | apply below_drew1) | exact HB.out)))); have n1_ := Aside0.mk (below_step (by repeat (first | (with_reducible first | exact HB.out | apply below_alloc | apply pw_below_drewN | apply below_drew1) | exact HB.out)) hb); clear HB; have HO138 := n0_; have HB := n1_; clear n0_ n1_; clear hb ho10; obtain ⟨i011, hi011, _, hsz11, _⟩ := info_parts info3; obtain ⟨hcut11, hA11, hC11⟩ := print_take_of (P := Try.prog) (Value.int .i64) 0 25 3 .i64 Try.underlying25 hi011 hsz11 A1 c1 l1 (ji5) (of_decide_eq_true (by first | (with_reducible assumption) | assumption)) (of_decide_eq_true (by first | (with_reducible assumption) | assumption)) HC1.out; have HR139 := Aside0.mk (Kd.C_of_reads (h1 := fun _ => rfl) (hA11 _ (Kd.reads_of_C HR1.out))); have HC139 := Aside0.mk hC11; clear hA11 hC11 hi011 hsz11) | ((with_reducible refine gate_builtin (b := .append) (xs := #[.tmp 19, .tmp 24]) rfl ?_); at_builtin; refine Kd.R_append_rows (Kd.int .i64) (w0 := w) w.heap.size rfl (.tmp 19) (.tmp 24) 25 3 (.int .i64 0) 8 rfl Try.underlying25 info3 rfl (by decide) (by omega) v137 y136 (l1.take ((ji5) : Int).toNat) _ _ _ (fun _ => True) (fun _ => False) rfl rfl ?aO ?aR (fun _ _ h => h) (fun _ h => h.elim) ?aF ?aB ?aS ?aL ?_; (case aR => first | (refine row_len_ (show (l1.take ((ji5) : Int).toNat).length = (ji5).toNat from (by rw [List.length_take]; have h_ : ((ji5) : Int) ≤ (l1.length : Int) := of_decide_eq_true (by first | (with_reducible assumption) | assumption); omega)) ?_; repeat (first | exact (Kd.C_below HR139.out HB.out) | (with_reducible refine Kd.C_alloc ?_ _) | (with_reducible refine Kd.C_drewN ?_ _) | (with_reducible refine Kd.C_drew ?_))) | (repeat (first | exact (Kd.C_below HR139.out HB.out) | (with_reducible refine Kd.C_alloc ?_ _) | (with_reducible refine Kd.C_drewN ?_ _) | (with_reducible refine Kd.C_drew ?_)))); (case aB => exact (by repeat (first | (with_reducible first | exact HB.out | apply below_alloc | apply pw_below_drewN | apply below_drew1) | exact HB.out))); (case aF => exact (fun _ _ => trivial)); (case aO => exact (by (with_reducible repeat (first | apply Kd.R_alloc | apply Kd.R_drewN | apply Kd.R_drew)); exact HO138.out)); (case aS => exact (below_size (by repeat (first | (with_reducible first | exact HB.out | apply below_alloc | apply pw_below_drewN | apply below_drew1) | exact HB.out)))); (case aL => have := LMc8.out; have hlx_ := (show (l1.take ((ji5) : Int).toNat).length = (ji5).toNat from (by rw [List.length_take]; have h_ : ((ji5) : Int) ≤ (l1.length : Int) := of_decide_eq_true (by first | (with_reducible assumption) | assumption); omega)); omega); intro v141 w12 ho hb hg hat; rw [← Ny140.out] at ho; have n0_ := Aside0.mk (hb); have n1_ := Aside0.mk (ho); clear HB; clear HO138; have HB := n0_; have HO142 := n1_; clear n0_ n1_; clear ho hb hg hat; obtain ⟨Ao13, co13, eo13⟩ := Kd.R_slice HO142.out; subst eo13))
        go_loopg [10, 11, 30] k (fun kq v10 v11 v30 w' => ∃ (x10_1 : Int) (x11_1 : Int) (x30_1 : Int), v10 = .int .u64 x10_1 ∧ v11 = .int .u64 x11_1 ∧ v30 = .int .i64 x30_1 ∧ Aside0 (linguistlaw9_TabsTells.l0 kq a0 a2 a3 y140 x10_1 x11_1 y140 (y140.length : Int) x30_1 = some r) ∧ Aside0 (kq ≤ k) ∧ Aside0 (Kd.R (Kd.int .i64) 3 w' w.heap.size (fun _ => True) (.slice Ao13 y140.length co13) y140) ∧ Aside0 (Kd.R (Kd.int .i64) 3 w' w.heap.size (fun _ => True) (.slice Ao13 y140.length co13) y140) ∧ Aside0 (Below w.heap.size w w'))
        case atStart => exact ⟨(a0), (a0), (0), (by first | rfl | (simp; done) | (simp [*]; done)), (by first | rfl | (simp; done) | (simp [*]; done)), (by first | rfl | (simp; done) | (simp [*]; done)), H', ⟨Nat.le_refl _⟩, ⟨by (with_reducible repeat (first | apply Kd.R_alloc | apply Kd.R_drewN | apply Kd.R_drew)); exact HO142.out⟩, ⟨by (with_reducible repeat (first | apply Kd.R_alloc | apply Kd.R_drewN | apply Kd.R_drew)); exact HO142.out⟩, ⟨by repeat (first | (with_reducible first | exact HB.out | apply below_alloc | apply pw_below_drewN | apply below_drew1) | exact HB.out)⟩⟩
        case round =>
          clear H'
          try clear c1
          try clear p2
          try clear c5
          try clear c6
          try clear c6b0
          try clear c6b1
          try clear c7
          try clear c7b0
          try clear c7b1
          try clear c8
          obtain ⟨x10_1, x11_1, x30_1, rfl, rfl, rfl, HA, HK1, HO_9, HO_28, HB⟩ := hrel
          cases gk with
          | zero => exact absurd HA.out (by simp [linguistlaw9_TabsTells.l0])
          | succ k1 =>
            have H := HA.out
            clear HA
            simp only [linguistlaw9_TabsTells.l0] at H
            by_cases c14 : x30_1 < (y140.length : Int)
            · rw [if_pos c14] at H
              have c14b0 : decide (x30_1 < (y140.length : Int)) = true := decide_eq_true c14
              clear c14
              by_cases c15 : 0 ≤ x30_1
              · rw [if_pos c15] at H
                have c15b0 : decide (0 ≤ x30_1) = true := decide_eq_true c15
                clear c15
                by_cases c16 : x30_1 < (y140.length : Int)
                · rw [if_pos c16] at H
                  have c16b0 : decide (x30_1 < (y140.length : Int)) = true := decide_eq_true c16
                  clear c16
                  by_cases c17 : (rd y140 x30_1) ≥ 0
                  · rw [if_pos c17] at H
                    have c17b0 : decide (0 ≤ (rd y140 x30_1)) = true := decide_eq_true c17
                    clear c17
                    by_cases c18 : (rd y140 x30_1) < 64
                    · rw [if_pos c18] at H
                      have c18b0 : decide ((rd y140 x30_1) < 64) = true := decide_eq_true c18
                      clear c18
                      obtain ⟨ji19, hji19⟩ : ∃ j_ : Int, (IntKind.u64.wrap (rd y140 x30_1)) = j_ := ⟨_, rfl⟩
                      replace H : (if 0 ≤ (ji19) then (linguistlaw9_TabsTells.l0 k1 a0 a2 a3 y140 (Go.bits .or .u64 x10_1 (shl .u64 1 (ji19))) (Go.bits .andNot .u64 x11_1 (shl .u64 1 (ji19))) y140 (y140.length : Int) (wrap64 (x30_1 + 1))) else (none)) = some r := by first | (rw [hji19] at H; exact H) | (simp only [hji19] at H ⊢; exact H)
                      by_cases c20 : 0 ≤ (ji19)
                      · rw [if_pos c20] at H
                        have c20b0 := eq_true c20
                        have c20b1 : decide (0 ≤ (ji19)) = true := decide_eq_true c20
                        clear c20
                        obtain ⟨ji21, hji21⟩ : ∃ j_ : Int, (shl .u64 1 (ji19)) = j_ := ⟨_, rfl⟩
                        replace H : (linguistlaw9_TabsTells.l0 k1 a0 a2 a3 y140 (Go.bits .or .u64 x10_1 (ji21)) (Go.bits .andNot .u64 x11_1 (ji21)) y140 (y140.length : Int) (wrap64 (x30_1 + 1))) = some r := by first | (rw [hji21] at H; exact H) | (simp only [hji21] at H ⊢; exact H)
                        have hji21_ : (IntKind.u64.wrap (1 * 2 ^ min (ji19).toNat 64)) = ji21 := hji21
                        have hji21z : (ji19) ≤ 64 → (IntKind.u64.wrap (1 * 2 ^ (ji19).toNat)) = ji21 := shl_small hji21
                        have hji21u : (IntKind.u64.wrap (2 ^ min (ji19).toNat 64)) = ji21 := by have h_ := hji21_; rw [Int.one_mul] at h_; exact h_
                        have hji21v : (ji19) ≤ 64 → (IntKind.u64.wrap (2 ^ (ji19).toNat)) = ji21 := fun hle_ => by have h_ := hji21z hle_; rw [Int.one_mul] at h_; exact h_
                        have c22b0 := eq_true (of_decide_eq_true (by first | (with_reducible assumption) | assumption) : 0 ≤ (ji19))
                        have H' := Aside0.mk H
                        clear H
                        have p143 : 0 ≤ (x30_1 : Int) := of_decide_eq_true (by first | (with_reducible assumption) | assumption)
                        have q143 : x30_1 < (y140.length : Int) := of_decide_eq_true (by first | (with_reducible assumption) | assumption)
                        obtain ⟨ad143, e143, hx143_0⟩ := Kd.at_int (Kd.R_reads' HO_28.out).2.2 x30_1 p143 q143
                        cases e143
                        replace p143 := eq_true p143
                        replace q143 := eq_true q143
                        go_wp2
                        go_roundg k1
                        case measure => have := HK1.out; omega
                        case rel => exact ⟨(Go.bits .or .u64 x10_1 (ji21)), (Go.bits .andNot .u64 x11_1 (ji21)), (wrap64 (x30_1 + 1)), (by first | rfl | (simp; done) | (simp only [← hji21] <;> (first | rfl | simp)) | (simp [*]; done)), (by first | rfl | (simp; done) | (simp only [← hji21] <;> (first | rfl | simp)) | (simp [*]; done)), (by first | rfl | (simp; done) | (simp [*]; done)), H', ⟨by have := HK1.out; omega⟩, ⟨by (with_reducible repeat (first | apply Kd.R_alloc | apply Kd.R_drewN | apply Kd.R_drew)); exact HO_9.out⟩, ⟨by (with_reducible repeat (first | apply Kd.R_alloc | apply Kd.R_drewN | apply Kd.R_drew)); exact HO_28.out⟩, ⟨by repeat (first | (with_reducible first | exact HB.out | apply below_alloc | apply pw_below_drewN | apply below_drew1) | exact HB.out)⟩⟩
                      · rw [if_neg c20] at H
                        exact absurd H (by simp)
                    · rw [if_neg c18] at H
                      have c18b0 : decide ((rd y140 x30_1) < 64) = false := decide_eq_false c18
                      clear c18
                      have H' := Aside0.mk H
                      clear H
                      have p143 : 0 ≤ (x30_1 : Int) := of_decide_eq_true (by first | (with_reducible assumption) | assumption)
                      have q143 : x30_1 < (y140.length : Int) := of_decide_eq_true (by first | (with_reducible assumption) | assumption)
                      obtain ⟨ad143, e143, hx143_0⟩ := Kd.at_int (Kd.R_reads' HO_28.out).2.2 x30_1 p143 q143
                      cases e143
                      replace p143 := eq_true p143
                      replace q143 := eq_true q143
                      go_wp2
                      go_roundg k1
                      case measure => have := HK1.out; omega
                      case rel => exact ⟨(x10_1), (x11_1), (wrap64 (x30_1 + 1)), (by first | rfl | (simp; done) | (simp [*]; done)), (by first | rfl | (simp; done) | (simp [*]; done)), (by first | rfl | (simp; done) | (simp [*]; done)), H', ⟨by have := HK1.out; omega⟩, ⟨by (with_reducible repeat (first | apply Kd.R_alloc | apply Kd.R_drewN | apply Kd.R_drew)); exact HO_9.out⟩, ⟨by (with_reducible repeat (first | apply Kd.R_alloc | apply Kd.R_drewN | apply Kd.R_drew)); exact HO_28.out⟩, ⟨by repeat (first | (with_reducible first | exact HB.out | apply below_alloc | apply pw_below_drewN | apply below_drew1) | exact HB.out)⟩⟩
                  · rw [if_neg c17] at H
                    have c17b0 : decide (0 ≤ (rd y140 x30_1)) = false := decide_eq_false c17
                    clear c17
                    have H' := Aside0.mk H
                    clear H
                    have p143 : 0 ≤ (x30_1 : Int) := of_decide_eq_true (by first | (with_reducible assumption) | assumption)
                    have q143 : x30_1 < (y140.length : Int) := of_decide_eq_true (by first | (with_reducible assumption) | assumption)
                    obtain ⟨ad143, e143, hx143_0⟩ := Kd.at_int (Kd.R_reads' HO_28.out).2.2 x30_1 p143 q143
                    cases e143
                    replace p143 := eq_true p143
                    replace q143 := eq_true q143
                    go_wp2
                    go_roundg k1
                    case measure => have := HK1.out; omega
                    case rel => exact ⟨(x10_1), (x11_1), (wrap64 (x30_1 + 1)), (by first | rfl | (simp; done) | (simp [*]; done)), (by first | rfl | (simp; done) | (simp [*]; done)), (by first | rfl | (simp; done) | (simp [*]; done)), H', ⟨by have := HK1.out; omega⟩, ⟨by (with_reducible repeat (first | apply Kd.R_alloc | apply Kd.R_drewN | apply Kd.R_drew)); exact HO_9.out⟩, ⟨by (with_reducible repeat (first | apply Kd.R_alloc | apply Kd.R_drewN | apply Kd.R_drew)); exact HO_28.out⟩, ⟨by repeat (first | (with_reducible first | exact HB.out | apply below_alloc | apply pw_below_drewN | apply below_drew1) | exact HB.out)⟩⟩
                · rw [if_neg c16] at H
                  exact absurd H (by simp)
              · rw [if_neg c15] at H
                exact absurd H (by simp)
            · rw [if_neg c14] at H
              have c14b0 : decide (x30_1 < (y140.length : Int)) = false := decide_eq_false c14
              clear c14
              replace H := Option.bind_eq_some_iff.mp H
              obtain ⟨t144, A230, H⟩ := H
              replace H : ((linguistbook_Within.f a3 1 64).bind fun t147 => ((linguistbook_Within.f a2 0 63).bind fun t148 => (linguistlaw9_TabsTells.l1 k1 a0 y140 x10_1 x11_1 t144 t147 t148 ([] : List Int) 0))) = some r := H
              have A23 := Aside0.mk A230
              clear A230
              replace H := Option.bind_eq_some_iff.mp H
              obtain ⟨t147, A240, H⟩ := H
              replace H : ((linguistbook_Within.f a2 0 63).bind fun t148 => (linguistlaw9_TabsTells.l1 k1 a0 y140 x10_1 x11_1 t144 t147 t148 ([] : List Int) 0)) = some r := H
              have A24 := Aside0.mk A240
              clear A240
              replace H := Option.bind_eq_some_iff.mp H
              obtain ⟨t148, A250, H⟩ := H
              replace H : (linguistlaw9_TabsTells.l1 k1 a0 y140 x10_1 x11_1 t144 t147 t148 ([] : List Int) 0) = some r := H
              have A25 := Aside0.mk A250
              clear A250
              have H' := Aside0.mk H
              clear H
              go_wp2_with (first | ((with_reducible refine gate_callee (f := 15) rfl ?_); refine goesL_ (some 52) rfl rfl Try.func15 (by kernel_rfl) rfl #[.slice Ao13 y140.length co13, .int .i64 7] rfl (by (try simp only [List.map_toArray, List.map_cons, List.map_nil]); first | done | rfl | (simp only [List.length_drop, List.length_take]; rfl) | (simp only [List.length_drop, List.length_take]; rw [Nat.min_eq_left (by first | assumption | omega)]; rfl)) ?_; (with_reducible refine (linguistbook_Roomy_int.calls k1 _ _ y140 7 t144 _ ?side1 ?side2 A23.out).mono ?_); (case side1 => repeat (first | exact (Kd.R_reads' HO_9.out).2.2 | (with_reducible refine Kd.C_alloc ?_ _) | (with_reducible refine Kd.C_drewN ?_ _) | (with_reducible refine Kd.C_drew ?_))); (case side2 => exact (Kd.R_reads' HO_9.out).2.1); rintro e w26 ⟨v145, rfl, ho0, hb⟩; refine ⟨_, rfl, ?_⟩; have n0_ := Aside0.mk (Kd.R_elder' (by (with_reducible repeat (first | apply Kd.R_alloc | apply Kd.R_drewN | apply Kd.R_drew)); exact HO_9.out) (Kd.R_base ho0) hb); have n1_ := Aside0.mk (Kd.R_elder' (by (with_reducible repeat (first | apply Kd.R_alloc | apply Kd.R_drewN | apply Kd.R_drew)); exact HO_28.out) (Kd.R_base ho0) hb); have n2_ := Aside0.mk (Kd.R_lower (Kd.R_new' (Kd.R_new' ho0 (Kd.R_lt (by (with_reducible repeat (first | apply Kd.R_alloc | apply Kd.R_drewN | apply Kd.R_drew)); exact HO_9.out))) (Kd.R_lt (by (with_reducible repeat (first | apply Kd.R_alloc | apply Kd.R_drewN | apply Kd.R_drew)); exact HO_28.out))) (below_size (by repeat (first | (with_reducible first | exact HB.out | apply below_alloc | apply pw_below_drewN | apply below_drew1) | exact HB.out)))); have n3_ := Aside0.mk (below_step (by repeat (first | (with_reducible first | exact HB.out | apply below_alloc | apply pw_below_drewN | apply below_drew1) | exact HB.out)) hb); clear HO_9; clear HO_28; clear HB; have HO_9 := n0_; have HO_28 := n1_; have HO146 := n2_; have HB := n3_; clear n0_ n1_ n2_ n3_; (try clear hb); (try clear hb2); (try clear hk); (try clear hi); (try clear ho0)) | ((with_reducible refine gate_callee (f := 13) rfl ?_); refine goesL_ (some 54) rfl rfl Try.func13 (by kernel_rfl) rfl #[.int .i64 a3, .int .i64 1, .int .i64 64] rfl (by (try simp only [List.map_toArray, List.map_cons, List.map_nil]); first | done | rfl | (simp only [List.length_drop, List.length_take]; rfl) | (simp only [List.length_drop, List.length_take]; rw [Nat.min_eq_left (by first | assumption | omega)]; rfl)) ?_; (with_reducible refine (linguistbook_Within.calls a3 1 64 t147 _ A24.out).mono ?_); rintro e w' ⟨rfl, ⟨nd, rfl⟩⟩; refine ⟨_, rfl, ?_⟩) | ((with_reducible refine gate_callee (f := 13) rfl ?_); refine goesL_ (some 56) rfl rfl Try.func13 (by kernel_rfl) rfl #[.int .i64 a2, .int .i64 0, .int .i64 63] rfl (by (try simp only [List.map_toArray, List.map_cons, List.map_nil]); first | done | rfl | (simp only [List.length_drop, List.length_take]; rfl) | (simp only [List.length_drop, List.length_take]; rw [Nat.min_eq_left (by first | assumption | omega)]; rfl)) ?_; (with_reducible refine (linguistbook_Within.calls a2 0 63 t148 _ A25.out).mono ?_); rintro e w' ⟨rfl, ⟨nd, rfl⟩⟩; refine ⟨_, rfl, ?_⟩))
              go_loopg [17, 57] k1 (fun kq v17 v57 w' => ∃ (x17_2 : List Int) (x57_2 : Int), v57 = .int .i64 x57_2 ∧ Aside0 (linguistlaw9_TabsTells.l1 kq a0 y140 x10_1 x11_1 t144 t147 t148 x17_2 x57_2 = some r) ∧ Aside0 (kq ≤ k1) ∧ Aside0 (Kd.R (Kd.int .i64) 3 w' w.heap.size (fun k_ => some k_ ≠ (v145 : Value).ownBlock ∧ some k_ ≠ (v17 : Value).ownBlock) (.slice Ao13 y140.length co13) y140) ∧ Aside0 (Kd.R (Kd.int .i64) 3 w' w.heap.size (fun k_ => some k_ ≠ ((.slice Ao13 y140.length co13) : Value).ownBlock ∧ some k_ ≠ (v17 : Value).ownBlock) v145 t144) ∧ Aside0 (Kd.R (Kd.int .i64) 3 w' w.heap.size (fun k_ => some k_ ≠ ((.slice Ao13 y140.length co13) : Value).ownBlock ∧ some k_ ≠ (v145 : Value).ownBlock) v17 x17_2) ∧ Aside0 (Below w.heap.size w w'))
              case atStart => exact ⟨(([] : List Int)), (0), (by first | rfl | (simp; done) | (simp [*]; done)), H', ⟨Nat.le_refl _⟩, ⟨by (with_reducible repeat (first | apply Kd.R_alloc | apply Kd.R_drewN | apply Kd.R_drew)); exact Kd.R_mono HO_9.out (fun _ hk => ⟨hk.2, (by simp [Value.ownBlock])⟩)⟩, ⟨by (with_reducible repeat (first | apply Kd.R_alloc | apply Kd.R_drewN | apply Kd.R_drew)); exact Kd.R_mono HO146.out (fun _ hk => ⟨hk.1.2, (by simp [Value.ownBlock])⟩)⟩, ⟨by first | exact Kd.R_nil _ _ _ _ _ | exact Kd.N_nil _ _ _ _ _ | exact Kd.V_nil _ _ _ _ _ | exact Kd.Q_nil _ _ _ _ _ | exact Kd.S_nil _ _ _ _ _⟩, ⟨by repeat (first | (with_reducible first | exact HB.out | apply below_alloc | apply pw_below_drewN | apply below_drew1) | exact HB.out)⟩⟩
              case round =>
                clear H'
                try clear c1
                try clear p1
                try clear q1
                try clear hx1
                try clear c2
                try clear p2
                try clear c5
                try clear c6
                try clear c6b0
                try clear c6b1
                try clear p6
                try clear c7
                try clear c7b0
                try clear c7b1
                try clear c8
                try clear c13
                try clear c14
                try clear c14b0
                try clear p14
                try clear q14
                try clear hx14
                try clear c15
                try clear c15b0
                try clear c16
                try clear c16b0
                try clear c17
                try clear c17b0
                try clear c18
                try clear c18b0
                try clear c20
                try clear c20b0
                try clear c20b1
                try clear c22
                try clear c22b0
                try clear hx143_0
                try clear p143
                try clear p2
                try clear q143
                obtain ⟨x17_2, x57_2, rfl, HA, HK2, HO_9, HO_14, HO_17, HB⟩ := hrel
                cases gk with
                | zero => exact absurd HA.out (by simp [linguistlaw9_TabsTells.l1])
                | succ k2 =>
                  have H := HA.out
                  clear HA
                  simp only [linguistlaw9_TabsTells.l1] at H
                  by_cases c27 : x57_2 < 64
                  · rw [if_pos c27] at H
                    have c27b0 : decide (x57_2 < 64) = true := decide_eq_true c27
                    clear c27
                    obtain ⟨ji28, hji28⟩ : ∃ j_ : Int, (IntKind.u64.wrap (x57_2)) = j_ := ⟨_, rfl⟩
                    replace H : (if 0 ≤ (ji28) then (if (Go.bits .and .u64 (shr .u64 a0 (ji28)) 1) = 1 then (if x17_2.length < 17592186044416 then ((tabs_Has.f a0 x57_2).bind fun t152 => (if (t152 != ((Go.bits .and .u64 (shr .u64 a0 (ji28)) 1) == 1)) = true then (none) else (linguistlaw9_TabsTells.l1 k2 a0 y140 x10_1 x11_1 t144 t147 t148 (x17_2 ++ [x57_2]) (wrap64 (x57_2 + 1))))) else (none)) else ((tabs_Has.f a0 x57_2).bind fun t153 => (if (t153 != ((Go.bits .and .u64 (shr .u64 a0 (ji28)) 1) == 1)) = true then (none) else (linguistlaw9_TabsTells.l1 k2 a0 y140 x10_1 x11_1 t144 t147 t148 x17_2 (wrap64 (x57_2 + 1)))))) else (none)) = some r := by first | (rw [hji28] at H; exact H) | (simp only [hji28] at H ⊢; exact H)
                    by_cases c29 : 0 ≤ (ji28)
                    · rw [if_pos c29] at H
                      have c29b0 := eq_true c29
                      have c29b1 : decide (0 ≤ (ji28)) = true := decide_eq_true c29
                      clear c29
                      obtain ⟨ji30, hji30⟩ : ∃ j_ : Int, (shr .u64 a0 (ji28)) = j_ := ⟨_, rfl⟩
                      replace H : (if (Go.bits .and .u64 (ji30) 1) = 1 then (if x17_2.length < 17592186044416 then ((tabs_Has.f a0 x57_2).bind fun t152 => (if (t152 != ((Go.bits .and .u64 (ji30) 1) == 1)) = true then (none) else (linguistlaw9_TabsTells.l1 k2 a0 y140 x10_1 x11_1 t144 t147 t148 (x17_2 ++ [x57_2]) (wrap64 (x57_2 + 1))))) else (none)) else ((tabs_Has.f a0 x57_2).bind fun t153 => (if (t153 != ((Go.bits .and .u64 (ji30) 1) == 1)) = true then (none) else (linguistlaw9_TabsTells.l1 k2 a0 y140 x10_1 x11_1 t144 t147 t148 x17_2 (wrap64 (x57_2 + 1)))))) = some r := by first | (rw [hji30] at H; exact H) | (simp only [hji30] at H ⊢; exact H)
                      have hji30_ : (a0 / 2 ^ min (ji28).toNat 64) = ji30 := hji30
                      have hji30z : (ji28) ≤ 64 → (a0 / 2 ^ (ji28).toNat) = ji30 := shr_small hji30
                      by_cases c31 : (Go.bits .and .u64 (ji30) 1) = 1
                      · rw [if_pos c31] at H
                        have c31b0 : ((Go.bits .and .u64 (ji30) 1) == 1) = true := beq_iff_eq.mpr c31
                        have c31b1 : ((Go.bits .and .u64 (ji30) 1) != 1) = false := bne_eq_false_iff_eq.mpr c31
                        clear c31
                        by_cases c32 : x17_2.length < 17592186044416
                        · rw [if_pos c32] at H
                          have LMc32 := Aside0.mk c32
                          clear c32
                          obtain ⟨y149, hy149⟩ : ∃ y_ : List Int, y_ = (x17_2 ++ [x57_2]) := ⟨_, rfl⟩
                          replace H : ((tabs_Has.f a0 x57_2).bind fun t152 => (if (t152 != ((Go.bits .and .u64 (ji30) 1) == 1)) = true then (none) else (linguistlaw9_TabsTells.l1 k2 a0 y140 x10_1 x11_1 t144 t147 t148 y149 (wrap64 (x57_2 + 1))))) = some r := by first | (rw [hy149]; with_reducible exact H) | (have H2_ := (Option.bind_some _ _).symm.trans H; rw [hy149]; with_reducible exact H2_) | (have H2_ := (Option.bind_some _ _).symm.trans H; with_reducible exact H2_) | with_reducible exact H | (rw [hy149]; exact H) | exact H
                          have Ny149 := Aside0.mk hy149
                          clear hy149
                          replace H := Option.bind_eq_some_iff.mp H
                          obtain ⟨t152, A330, H⟩ := H
                          replace H : (if (t152 != ((Go.bits .and .u64 (ji30) 1) == 1)) = true then (none) else (linguistlaw9_TabsTells.l1 k2 a0 y140 x10_1 x11_1 t144 t147 t148 y149 (wrap64 (x57_2 + 1)))) = some r := H
                          have A33 := Aside0.mk A330
                          clear A330
                          have c34b0 := eq_true (of_decide_eq_true (by first | (with_reducible assumption) | assumption) : 0 ≤ (ji28))
                          by_cases c35 : (t152 != ((Go.bits .and .u64 (ji30) 1) == 1)) = true
                          · rw [if_pos c35] at H
                            exact absurd H (by simp)
                          · rw [if_neg c35] at H
                            have c35b0 : (t152 != ((Go.bits .and .u64 (ji30) 1) == 1)) = false := by simpa using c35
                            (try (have c35b1 : decide (t152 = ((Go.bits .and .u64 (ji30) 1) == 1)) = true := by simpa using c35))
                            (try (have c35b2 : (t152 == ((Go.bits .and .u64 (ji30) 1) == 1)) = true := by simpa using c35))
                            (try (have c35b3 : t152 = true := by (have e_ : ((Go.bits .and .u64 (ji30) 1) == 1) = true := (by assumption); have c_ := c35; rw [e_] at c_; simpa using c_)))
                            (try (have c35b4 : t152 = false := by (have e_ : ((Go.bits .and .u64 (ji30) 1) == 1) = false := (by assumption); have c_ := c35; rw [e_] at c_; simpa using c_)))
                            clear c35
                            have H' := Aside0.mk H
                            clear H
                            go_wp2_with (first | ((with_reducible refine gate_builtin (b := .append) (xs := #[.tmp 66, .tmp 68]) rfl ?_); at_builtin; refine Kd.R_append (Kd.int .i64) (w0 := w) w.heap.size rfl (.tmp 66) (.tmp 68) 25 3 (.int .i64 0) 8 rfl Try.underlying25 info3 rfl (by decide) (by omega) u17 x17_2 x57_2 [.int .i64 x57_2] (fun k_ => some k_ ≠ (.slice Ao13 y140.length co13 : Value).ownBlock ∧ some k_ ≠ (v145 : Value).ownBlock) (fun _ => False) rfl rfl ?aP (fun _ hk => hk.elim) ?aF ?aO ?aB ?aS ?aL ?_; (case aP => exact rfl); (case aB => exact (by repeat (first | (with_reducible first | exact HB.out | apply below_alloc | apply pw_below_drewN | apply below_drew1) | exact HB.out))); (case aF => exact (fun k_ hk => ⟨Kd.fresh' (Kd.R_lt (by (with_reducible repeat (first | apply Kd.R_alloc | apply Kd.R_drewN | apply Kd.R_drew)); exact HO_9.out)) k_ hk, Kd.fresh' (Kd.R_lt (by (with_reducible repeat (first | apply Kd.R_alloc | apply Kd.R_drewN | apply Kd.R_drew)); exact HO_14.out)) k_ hk⟩)); (case aO => exact (by (with_reducible repeat (first | apply Kd.R_alloc | apply Kd.R_drewN | apply Kd.R_drew)); exact HO_17.out)); (case aS => exact (below_size (by repeat (first | (with_reducible first | exact HB.out | apply below_alloc | apply pw_below_drewN | apply below_drew1) | exact HB.out)))); (case aL => have := LMc32.out; omega); intro v150 w36 ho hb hg hat; rw [← Ny149.out] at ho; have n0_ := Aside0.mk (Kd.R_after (ok := (fun k_ => some k_ ≠ (v145 : Value).ownBlock)) (by (with_reducible repeat (first | apply Kd.R_alloc | apply Kd.R_drewN | apply Kd.R_drew)); exact HO_9.out) hg hat); have n1_ := Aside0.mk (Kd.R_after (ok := (fun k_ => some k_ ≠ (.slice Ao13 y140.length co13 : Value).ownBlock)) (by (with_reducible repeat (first | apply Kd.R_alloc | apply Kd.R_drewN | apply Kd.R_drew)); exact HO_14.out) hg hat); have n2_ := Aside0.mk (hb); have n3_ := Aside0.mk (ho); clear HO_9; clear HO_14; clear HB; clear HO_17; have HO_9 := n0_; have HO_14 := n1_; have HB := n2_; have HO151 := n3_; clear n0_ n1_ n2_ n3_; clear ho hb hg hat) | ((with_reducible refine gate_callee (f := 12) rfl ?_); refine goesL_ (some 72) rfl rfl Try.func12 (by kernel_rfl) rfl #[.int .u64 a0, .int .i64 x57_2] rfl (by (try simp only [List.map_toArray, List.map_cons, List.map_nil]); first | done | rfl | (simp only [List.length_drop, List.length_take]; rfl) | (simp only [List.length_drop, List.length_take]; rw [Nat.min_eq_left (by first | assumption | omega)]; rfl)) ?_; (with_reducible refine (tabs_Has.calls a0 x57_2 t152 _ A33.out).mono ?_); rintro e w' ⟨rfl, ⟨nd, rfl⟩⟩; refine ⟨_, rfl, ?_⟩))
                            go_roundg k2
                            case measure => have := HK1.out; have := HK2.out; omega
                            case rel => exact ⟨(y149), (wrap64 (x57_2 + 1)), (by first | rfl | (simp; done) | (simp [*]; done)), H', ⟨by have := HK1.out; have := HK2.out; omega⟩, ⟨by (with_reducible repeat (first | apply Kd.R_alloc | apply Kd.R_drewN | apply Kd.R_drew)); exact HO_9.out⟩, ⟨by (with_reducible repeat (first | apply Kd.R_alloc | apply Kd.R_drewN | apply Kd.R_drew)); exact HO_14.out⟩, ⟨by (with_reducible repeat (first | apply Kd.R_alloc | apply Kd.R_drewN | apply Kd.R_drew)); exact HO151.out⟩, ⟨by repeat (first | (with_reducible first | exact HB.out | apply below_alloc | apply pw_below_drewN | apply below_drew1) | exact HB.out)⟩⟩
                        · rw [if_neg c32] at H
                          exact absurd H (by simp)
                      · rw [if_neg c31] at H
                        have c31b0 : ((Go.bits .and .u64 (ji30) 1) == 1) = false := beq_eq_false_iff_ne.mpr c31
                        have c31b1 : ((Go.bits .and .u64 (ji30) 1) != 1) = true := bne_iff_ne.mpr c31
                        replace H := Option.bind_eq_some_iff.mp H
                        obtain ⟨t153, A370, H⟩ := H
                        replace H : (if (t153 != ((Go.bits .and .u64 (ji30) 1) == 1)) = true then (none) else (linguistlaw9_TabsTells.l1 k2 a0 y140 x10_1 x11_1 t144 t147 t148 x17_2 (wrap64 (x57_2 + 1)))) = some r := H
                        have A37 := Aside0.mk A370
                        clear A370
                        have c38b0 := eq_true (of_decide_eq_true (by first | (with_reducible assumption) | assumption) : 0 ≤ (ji28))
                        by_cases c39 : (t153 != ((Go.bits .and .u64 (ji30) 1) == 1)) = true
                        · rw [if_pos c39] at H
                          exact absurd H (by simp)
                        · rw [if_neg c39] at H
                          have c39b0 : (t153 != ((Go.bits .and .u64 (ji30) 1) == 1)) = false := by simpa using c39
                          (try (have c39b1 : decide (t153 = ((Go.bits .and .u64 (ji30) 1) == 1)) = true := by simpa using c39))
                          (try (have c39b2 : (t153 == ((Go.bits .and .u64 (ji30) 1) == 1)) = true := by simpa using c39))
                          (try (have c39b3 : t153 = true := by (have e_ : ((Go.bits .and .u64 (ji30) 1) == 1) = true := (by assumption); have c_ := c39; rw [e_] at c_; simpa using c_)))
                          (try (have c39b4 : t153 = false := by (have e_ : ((Go.bits .and .u64 (ji30) 1) == 1) = false := (by assumption); have c_ := c39; rw [e_] at c_; simpa using c_)))
                          clear c39
                          have H' := Aside0.mk H
                          clear H
                          go_wp2_with (first | ((with_reducible refine gate_callee (f := 12) rfl ?_); refine goesL_ (some 72) rfl rfl Try.func12 (by kernel_rfl) rfl #[.int .u64 a0, .int .i64 x57_2] rfl (by (try simp only [List.map_toArray, List.map_cons, List.map_nil]); first | done | rfl | (simp only [List.length_drop, List.length_take]; rfl) | (simp only [List.length_drop, List.length_take]; rw [Nat.min_eq_left (by first | assumption | omega)]; rfl)) ?_; (with_reducible refine (tabs_Has.calls a0 x57_2 t153 _ A37.out).mono ?_); rintro e w' ⟨rfl, ⟨nd, rfl⟩⟩; refine ⟨_, rfl, ?_⟩))
                          go_roundg k2
                          case measure => have := HK1.out; have := HK2.out; omega
                          case rel => exact ⟨(x17_2), (wrap64 (x57_2 + 1)), (by first | rfl | (simp; done) | (simp [*]; done)), H', ⟨by have := HK1.out; have := HK2.out; omega⟩, ⟨by (with_reducible repeat (first | apply Kd.R_alloc | apply Kd.R_drewN | apply Kd.R_drew)); exact HO_9.out⟩, ⟨by (with_reducible repeat (first | apply Kd.R_alloc | apply Kd.R_drewN | apply Kd.R_drew)); exact HO_14.out⟩, ⟨by (with_reducible repeat (first | apply Kd.R_alloc | apply Kd.R_drewN | apply Kd.R_drew)); exact HO_17.out⟩, ⟨by repeat (first | (with_reducible first | exact HB.out | apply below_alloc | apply pw_below_drewN | apply below_drew1) | exact HB.out)⟩⟩
                    · rw [if_neg c29] at H
                      exact absurd H (by simp)
                  · rw [if_neg c27] at H
                    have c27b0 : decide (x57_2 < 64) = false := decide_eq_false c27
                    clear c27
                    by_cases c40 : 0 ≤ (y140.length : Int)
                    · rw [if_pos c40] at H
                      have c40b0 := eq_true c40
                      have c40b1 : decide (0 ≤ (y140.length : Int)) = true := decide_eq_true c40
                      clear c40
                      by_cases c41 : (y140.length : Int) ≤ (t144.length : Int)
                      · rw [if_pos c41] at H
                        have c41b0 := eq_true c41
                        have c41b1 : decide ((y140.length : Int) ≤ (t144.length : Int)) = true := decide_eq_true c41
                        clear c41
                        obtain ⟨y154, hy154⟩ : ∃ y_ : List Int, y_ = (t144.take ((y140.length : Int) : Int).toNat) := ⟨_, rfl⟩
                        replace H : ((tabs_Put.f k2 a0 y154).bind fun t158 => (if t158 = x10_1 then ((tabs_Drop.f k2 a0 y140).bind fun t159 => (if t159 = x11_1 then ((linguistbook_Intact_int.f k2 t144 y140 7).bind fun t160 => (if t160 = true then ((tabs_Next.f k2 a0 t148 t147).bind fun t161 => ((linguistref7_NextTab.f k2 a0 t148 t147).bind fun t162 => (if t161 = t162 then ((tabs_List.f k2 a0).bind fun t163 => ((linguistbook_Same_int.f k2 t163 x17_2).bind fun t166 => (if t166 = true then ((tabs_New.f k2 t147).bind fun t167 => ((linguistref7_Tabs.f k2 t147).bind fun t168 => (if t167 = t168 then ((tabs_Has.f a0 64).bind fun t169 => (if t169 = true then (none) else ((tabs_Has.f a0 (-1)).bind fun t170 => (if t170 = true then (none) else ((linguistlaw9_TabsRuns.f k2).bind fun t171 => (some t171)))))) else (none)))) else (none)))) else (none)))) else (none))) else (none))) else (none))) = some r := by first | (rw [hy154]; with_reducible exact H) | (have H2_ := (Option.bind_some _ _).symm.trans H; rw [hy154]; with_reducible exact H2_) | (have H2_ := (Option.bind_some _ _).symm.trans H; with_reducible exact H2_) | with_reducible exact H | (rw [hy154]; exact H) | exact H
                        have Ny154 := Aside0.mk hy154
                        clear hy154
                        replace H := Option.bind_eq_some_iff.mp H
                        obtain ⟨t158, A420, H⟩ := H
                        replace H : (if t158 = x10_1 then ((tabs_Drop.f k2 a0 y140).bind fun t159 => (if t159 = x11_1 then ((linguistbook_Intact_int.f k2 t144 y140 7).bind fun t160 => (if t160 = true then ((tabs_Next.f k2 a0 t148 t147).bind fun t161 => ((linguistref7_NextTab.f k2 a0 t148 t147).bind fun t162 => (if t161 = t162 then ((tabs_List.f k2 a0).bind fun t163 => ((linguistbook_Same_int.f k2 t163 x17_2).bind fun t166 => (if t166 = true then ((tabs_New.f k2 t147).bind fun t167 => ((linguistref7_Tabs.f k2 t147).bind fun t168 => (if t167 = t168 then ((tabs_Has.f a0 64).bind fun t169 => (if t169 = true then (none) else ((tabs_Has.f a0 (-1)).bind fun t170 => (if t170 = true then (none) else ((linguistlaw9_TabsRuns.f k2).bind fun t171 => (some t171)))))) else (none)))) else (none)))) else (none)))) else (none))) else (none))) else (none)) = some r := H
                        have A42 := Aside0.mk A420
                        clear A420
                        by_cases c43 : t158 = x10_1
                        · rw [if_pos c43] at H
                          have c43b0 : (t158 == x10_1) = true := beq_iff_eq.mpr c43
                          have c43b1 : (t158 != x10_1) = false := bne_eq_false_iff_eq.mpr c43
                          clear c43
                          replace H := Option.bind_eq_some_iff.mp H
                          obtain ⟨t159, A440, H⟩ := H
                          replace H : (if t159 = x11_1 then ((linguistbook_Intact_int.f k2 t144 y140 7).bind fun t160 => (if t160 = true then ((tabs_Next.f k2 a0 t148 t147).bind fun t161 => ((linguistref7_NextTab.f k2 a0 t148 t147).bind fun t162 => (if t161 = t162 then ((tabs_List.f k2 a0).bind fun t163 => ((linguistbook_Same_int.f k2 t163 x17_2).bind fun t166 => (if t166 = true then ((tabs_New.f k2 t147).bind fun t167 => ((linguistref7_Tabs.f k2 t147).bind fun t168 => (if t167 = t168 then ((tabs_Has.f a0 64).bind fun t169 => (if t169 = true then (none) else ((tabs_Has.f a0 (-1)).bind fun t170 => (if t170 = true then (none) else ((linguistlaw9_TabsRuns.f k2).bind fun t171 => (some t171)))))) else (none)))) else (none)))) else (none)))) else (none))) else (none)) = some r := H
                          have A44 := Aside0.mk A440
                          clear A440
                          by_cases c45 : t159 = x11_1
                          · rw [if_pos c45] at H
                            have c45b0 : (t159 == x11_1) = true := beq_iff_eq.mpr c45
                            have c45b1 : (t159 != x11_1) = false := bne_eq_false_iff_eq.mpr c45
                            clear c45
                            replace H := Option.bind_eq_some_iff.mp H
                            obtain ⟨t160, A460, H⟩ := H
                            replace H : (if t160 = true then ((tabs_Next.f k2 a0 t148 t147).bind fun t161 => ((linguistref7_NextTab.f k2 a0 t148 t147).bind fun t162 => (if t161 = t162 then ((tabs_List.f k2 a0).bind fun t163 => ((linguistbook_Same_int.f k2 t163 x17_2).bind fun t166 => (if t166 = true then ((tabs_New.f k2 t147).bind fun t167 => ((linguistref7_Tabs.f k2 t147).bind fun t168 => (if t167 = t168 then ((tabs_Has.f a0 64).bind fun t169 => (if t169 = true then (none) else ((tabs_Has.f a0 (-1)).bind fun t170 => (if t170 = true then (none) else ((linguistlaw9_TabsRuns.f k2).bind fun t171 => (some t171)))))) else (none)))) else (none)))) else (none)))) else (none)) = some r := H
                            have A46 := Aside0.mk A460
                            clear A460
                            by_cases c47 : t160 = true
                            · subst c47
                              have H1 : ((tabs_Next.f k2 a0 t148 t147).bind fun t161 => ((linguistref7_NextTab.f k2 a0 t148 t147).bind fun t162 => (if t161 = t162 then ((tabs_List.f k2 a0).bind fun t163 => ((linguistbook_Same_int.f k2 t163 x17_2).bind fun t166 => (if t166 = true then ((tabs_New.f k2 t147).bind fun t167 => ((linguistref7_Tabs.f k2 t147).bind fun t168 => (if t167 = t168 then ((tabs_Has.f a0 64).bind fun t169 => (if t169 = true then (none) else ((tabs_Has.f a0 (-1)).bind fun t170 => (if t170 = true then (none) else ((linguistlaw9_TabsRuns.f k2).bind fun t171 => (some t171)))))) else (none)))) else (none)))) else (none)))) = some r := by rw [if_pos rfl] at H; exact H
                              clear H
                              have H := H1
                              clear H1
                              replace H := Option.bind_eq_some_iff.mp H
                              obtain ⟨t161, A480, H⟩ := H
                              replace H : ((linguistref7_NextTab.f k2 a0 t148 t147).bind fun t162 => (if t161 = t162 then ((tabs_List.f k2 a0).bind fun t163 => ((linguistbook_Same_int.f k2 t163 x17_2).bind fun t166 => (if t166 = true then ((tabs_New.f k2 t147).bind fun t167 => ((linguistref7_Tabs.f k2 t147).bind fun t168 => (if t167 = t168 then ((tabs_Has.f a0 64).bind fun t169 => (if t169 = true then (none) else ((tabs_Has.f a0 (-1)).bind fun t170 => (if t170 = true then (none) else ((linguistlaw9_TabsRuns.f k2).bind fun t171 => (some t171)))))) else (none)))) else (none)))) else (none))) = some r := H
                              have A48 := Aside0.mk A480
                              clear A480
                              replace H := Option.bind_eq_some_iff.mp H
                              obtain ⟨t162, A490, H⟩ := H
                              replace H : (if t161 = t162 then ((tabs_List.f k2 a0).bind fun t163 => ((linguistbook_Same_int.f k2 t163 x17_2).bind fun t166 => (if t166 = true then ((tabs_New.f k2 t147).bind fun t167 => ((linguistref7_Tabs.f k2 t147).bind fun t168 => (if t167 = t168 then ((tabs_Has.f a0 64).bind fun t169 => (if t169 = true then (none) else ((tabs_Has.f a0 (-1)).bind fun t170 => (if t170 = true then (none) else ((linguistlaw9_TabsRuns.f k2).bind fun t171 => (some t171)))))) else (none)))) else (none)))) else (none)) = some r := H
                              have A49 := Aside0.mk A490
                              clear A490
                              by_cases c50 : t161 = t162
                              · rw [if_pos c50] at H
                                have c50b0 : (t161 == t162) = true := beq_iff_eq.mpr c50
                                have c50b1 : (t161 != t162) = false := bne_eq_false_iff_eq.mpr c50
                                clear c50
                                replace H := Option.bind_eq_some_iff.mp H
                                obtain ⟨t163, A510, H⟩ := H
                                replace H : ((linguistbook_Same_int.f k2 t163 x17_2).bind fun t166 => (if t166 = true then ((tabs_New.f k2 t147).bind fun t167 => ((linguistref7_Tabs.f k2 t147).bind fun t168 => (if t167 = t168 then ((tabs_Has.f a0 64).bind fun t169 => (if t169 = true then (none) else ((tabs_Has.f a0 (-1)).bind fun t170 => (if t170 = true then (none) else ((linguistlaw9_TabsRuns.f k2).bind fun t171 => (some t171)))))) else (none)))) else (none))) = some r := H
                                have A51 := Aside0.mk A510
                                clear A510
                                replace H := Option.bind_eq_some_iff.mp H
                                obtain ⟨t166, A520, H⟩ := H
                                replace H : (if t166 = true then ((tabs_New.f k2 t147).bind fun t167 => ((linguistref7_Tabs.f k2 t147).bind fun t168 => (if t167 = t168 then ((tabs_Has.f a0 64).bind fun t169 => (if t169 = true then (none) else ((tabs_Has.f a0 (-1)).bind fun t170 => (if t170 = true then (none) else ((linguistlaw9_TabsRuns.f k2).bind fun t171 => (some t171)))))) else (none)))) else (none)) = some r := H
                                have A52 := Aside0.mk A520
                                clear A520
                                by_cases c53 : t166 = true
                                · subst c53
                                  have H1 : ((tabs_New.f k2 t147).bind fun t167 => ((linguistref7_Tabs.f k2 t147).bind fun t168 => (if t167 = t168 then ((tabs_Has.f a0 64).bind fun t169 => (if t169 = true then (none) else ((tabs_Has.f a0 (-1)).bind fun t170 => (if t170 = true then (none) else ((linguistlaw9_TabsRuns.f k2).bind fun t171 => (some t171)))))) else (none)))) = some r := by rw [if_pos rfl] at H; exact H
                                  clear H
                                  have H := H1
                                  clear H1
                                  replace H := Option.bind_eq_some_iff.mp H
                                  obtain ⟨t167, A540, H⟩ := H
                                  replace H : ((linguistref7_Tabs.f k2 t147).bind fun t168 => (if t167 = t168 then ((tabs_Has.f a0 64).bind fun t169 => (if t169 = true then (none) else ((tabs_Has.f a0 (-1)).bind fun t170 => (if t170 = true then (none) else ((linguistlaw9_TabsRuns.f k2).bind fun t171 => (some t171)))))) else (none))) = some r := H
                                  have A54 := Aside0.mk A540
                                  clear A540
                                  replace H := Option.bind_eq_some_iff.mp H
                                  obtain ⟨t168, A550, H⟩ := H
                                  replace H : (if t167 = t168 then ((tabs_Has.f a0 64).bind fun t169 => (if t169 = true then (none) else ((tabs_Has.f a0 (-1)).bind fun t170 => (if t170 = true then (none) else ((linguistlaw9_TabsRuns.f k2).bind fun t171 => (some t171)))))) else (none)) = some r := H
                                  have A55 := Aside0.mk A550
                                  clear A550
                                  by_cases c56 : t167 = t168
                                  · rw [if_pos c56] at H
                                    have c56b0 : (t167 == t168) = true := beq_iff_eq.mpr c56
                                    have c56b1 : (t167 != t168) = false := bne_eq_false_iff_eq.mpr c56
                                    clear c56
                                    replace H := Option.bind_eq_some_iff.mp H
                                    obtain ⟨t169, A570, H⟩ := H
                                    replace H : (if t169 = true then (none) else ((tabs_Has.f a0 (-1)).bind fun t170 => (if t170 = true then (none) else ((linguistlaw9_TabsRuns.f k2).bind fun t171 => (some t171))))) = some r := H
                                    have A57 := Aside0.mk A570
                                    clear A570
                                    by_cases c58 : t169 = true
                                    · subst c58
                                      have H1 : (none) = some r := by rw [if_pos rfl] at H; exact H
                                      clear H
                                      have H := H1
                                      clear H1
                                      exact absurd H (by simp)
                                    · replace c58 := Bool.eq_false_iff.mpr c58
                                      subst c58
                                      have H1 : ((tabs_Has.f a0 (-1)).bind fun t170 => (if t170 = true then (none) else ((linguistlaw9_TabsRuns.f k2).bind fun t171 => (some t171)))) = some r := by rw [if_neg (show ¬ (false = true) by decide)] at H; exact H
                                      clear H
                                      have H := H1
                                      clear H1
                                      replace H := Option.bind_eq_some_iff.mp H
                                      obtain ⟨t170, A590, H⟩ := H
                                      replace H : (if t170 = true then (none) else ((linguistlaw9_TabsRuns.f k2).bind fun t171 => (some t171))) = some r := H
                                      have A59 := Aside0.mk A590
                                      clear A590
                                      by_cases c60 : t170 = true
                                      · subst c60
                                        have H1 : (none) = some r := by rw [if_pos rfl] at H; exact H
                                        clear H
                                        have H := H1
                                        clear H1
                                        exact absurd H (by simp)
                                      · replace c60 := Bool.eq_false_iff.mpr c60
                                        subst c60
                                        have H1 : ((linguistlaw9_TabsRuns.f k2).bind fun t171 => (some t171)) = some r := by rw [if_neg (show ¬ (false = true) by decide)] at H; exact H
                                        clear H
                                        have H := H1
                                        clear H1
                                        replace H := Option.bind_eq_some_iff.mp H
                                        obtain ⟨t171, A610, H⟩ := H
                                        replace H : (some t171) = some r := H
                                        have A61 := Aside0.mk A610
                                        clear A610
                                        obtain rfl := Option.some.inj H
                                        obtain ⟨Ao63, co63, eo63⟩ := Kd.R_slice HO_14.out
                                        subst eo63
                                        have q62 : ((y140.length : Int) : Int) ≤ ((t144.length : Int) : Int) := of_decide_eq_true (by first | (with_reducible assumption) | assumption)
                                        obtain ⟨i062, hi062, _, hsz62, _⟩ := info_parts info3
                                        have hroom62 : t144.length ≤ co63 := (Kd.R_reads' HO_14.out).2.1
                                        have hC62 : Kd.C (Kd.int .i64) _ Ao63 t144.length t144 := (Kd.R_reads' HO_14.out).2.2
                                        have hcut62 := cut_to (P := Try.prog) 25 3 .i64 Try.underlying25 hi062 Ao63 t144.length co63 (y140.length : Int) (of_decide_eq_true (by first | (with_reducible assumption) | assumption)) q62 hroom62
                                        have hr62 := Kd.C_take (m := ((y140.length : Int) : Int).toNat) hC62 (by omega)
                                        have hy62 : y154.length = ((y140.length : Int) : Int).toNat := (by rw [Ny154.out, List.length_take]; omega)
                                        rw [← Ny154.out] at hr62
                                        rw [← hy62] at hcut62
                                        have HR157 := Aside0.mk hr62
                                        have HC157 := Aside0.mk (show y154.length ≤ co63 from by omega)
                                        clear hr62 hC62 hroom62 hi062 hsz62
                                        have KY62 := Aside0.mk hy62
                                        clear hy62
                                        have KL62 := Aside0.mk (show ((y140.length : Int) : Int).toNat ≤ t144.length from by omega)
                                        replace q62 := eq_true q62
                                        go_wp2_with (first | ((with_reducible refine gate_callee (f := 14) rfl ?_); refine goesL_ (some 86) rfl rfl Try.func14 (by kernel_rfl) rfl #[.int .u64 a0, .slice Ao63 y154.length co63] rfl (by (try simp only [List.map_toArray, List.map_cons, List.map_nil]); first | done | rfl | (simp only [List.length_drop, List.length_take]; rfl) | (simp only [List.length_drop, List.length_take]; rw [Nat.min_eq_left (by first | assumption | omega)]; rfl)) ?_; (with_reducible refine (tabs_Put.calls k2 a0 _ _ y154 t158 _ ?side1 ?side2 A42.out).mono ?_); (case side1 => repeat (first | exact (by repeat (first | (with_reducible exact HR157.out) | (with_reducible refine Kd.C_alloc ?_ _) | (with_reducible refine Kd.C_drewN ?_ _) | (with_reducible refine Kd.C_drew ?_) | exact HR157.out)) | (with_reducible refine Kd.C_alloc ?_ _) | (with_reducible refine Kd.C_drewN ?_ _) | (with_reducible refine Kd.C_drew ?_))); (case side2 => exact HC157.out); rintro e w' ⟨rfl, ⟨nd, rfl⟩⟩; refine ⟨_, rfl, ?_⟩) | (go_at_call 16; (with_reducible refine (tabs_Drop.calls k2 a0 _ _ y140 t159 _ ?side1 ?side2 A44.out).mono ?_); (case side1 => repeat (first | exact (Kd.R_reads' HO_9.out).2.2 | (with_reducible refine Kd.C_alloc ?_ _) | (with_reducible refine Kd.C_drewN ?_ _) | (with_reducible refine Kd.C_drew ?_))); (case side2 => exact (Kd.R_reads' HO_9.out).2.1); rintro e w' ⟨rfl, ⟨nd, rfl⟩⟩) | (go_at_call 17; (with_reducible refine (linguistbook_Intact_int.calls k2 _ _ t144 _ _ y140 7 true _ ?side1 ?side2 ?side3 ?side4 A46.out).mono ?_); (case side1 => repeat (first | exact (Kd.R_reads' HO_14.out).2.2 | (with_reducible refine Kd.C_alloc ?_ _) | (with_reducible refine Kd.C_drewN ?_ _) | (with_reducible refine Kd.C_drew ?_))); (case side2 => exact (Kd.R_reads' HO_14.out).2.1); (case side3 => repeat (first | exact (Kd.R_reads' HO_9.out).2.2 | (with_reducible refine Kd.C_alloc ?_ _) | (with_reducible refine Kd.C_drewN ?_ _) | (with_reducible refine Kd.C_drew ?_))); (case side4 => exact (Kd.R_reads' HO_9.out).2.1); rintro e w' ⟨rfl, ⟨nd, rfl⟩⟩) | (go_at_call 11; (with_reducible refine (tabs_Next.calls k2 a0 t148 t147 t161 _ A48.out).mono ?_); rintro e w64 ⟨rfl, hb⟩; have n0_ := Aside0.mk (Kd.R_below (by (with_reducible repeat (first | apply Kd.R_alloc | apply Kd.R_drewN | apply Kd.R_drew)); exact HO_9.out) hb); have n1_ := Aside0.mk (Kd.R_below (by (with_reducible repeat (first | apply Kd.R_alloc | apply Kd.R_drewN | apply Kd.R_drew)); exact HO_14.out) hb); have n2_ := Aside0.mk (Kd.R_below (by (with_reducible repeat (first | apply Kd.R_alloc | apply Kd.R_drewN | apply Kd.R_drew)); exact HO_17.out) hb); have n3_ := Aside0.mk (Kd.C_below (by repeat (first | (with_reducible exact HR157.out) | (with_reducible refine Kd.C_alloc ?_ _) | (with_reducible refine Kd.C_drewN ?_ _) | (with_reducible refine Kd.C_drew ?_) | exact HR157.out)) hb); have n4_ := Aside0.mk (below_step (by repeat (first | (with_reducible first | exact HB.out | apply below_alloc | apply pw_below_drewN | apply below_drew1) | exact HB.out)) hb); clear HO_9; clear HO_14; clear HO_17; clear HR157; clear HB; have HO_9 := n0_; have HO_14 := n1_; have HO_17 := n2_; have HR157 := n3_; have HB := n4_; clear n0_ n1_ n2_ n3_ n4_; (try clear hb); (try clear hb2); (try clear hk); (try clear hi)) | (go_at_call 18; (with_reducible refine (linguistref7_NextTab.calls k2 a0 t148 t147 t162 _ A49.out).mono ?_); rintro e w' ⟨rfl, ⟨nd, rfl⟩⟩) | (go_at_call 10; (with_reducible refine (tabs_List.calls k2 a0 t163 _ A51.out).mono ?_); rintro e w65 ⟨v164, rfl, ho0, hb⟩; have n0_ := Aside0.mk (Kd.R_elder' (by (with_reducible repeat (first | apply Kd.R_alloc | apply Kd.R_drewN | apply Kd.R_drew)); exact HO_9.out) (Kd.R_base ho0) hb); have n1_ := Aside0.mk (Kd.R_elder' (by (with_reducible repeat (first | apply Kd.R_alloc | apply Kd.R_drewN | apply Kd.R_drew)); exact HO_14.out) (Kd.R_base ho0) hb); have n2_ := Aside0.mk (Kd.R_elder' (by (with_reducible repeat (first | apply Kd.R_alloc | apply Kd.R_drewN | apply Kd.R_drew)); exact HO_17.out) (Kd.R_base ho0) hb); have n3_ := Aside0.mk (Kd.R_lower (Kd.R_new' (Kd.R_new' (Kd.R_new' ho0 (Kd.R_lt (by (with_reducible repeat (first | apply Kd.R_alloc | apply Kd.R_drewN | apply Kd.R_drew)); exact HO_9.out))) (Kd.R_lt (by (with_reducible repeat (first | apply Kd.R_alloc | apply Kd.R_drewN | apply Kd.R_drew)); exact HO_14.out))) (Kd.R_lt (by (with_reducible repeat (first | apply Kd.R_alloc | apply Kd.R_drewN | apply Kd.R_drew)); exact HO_17.out))) (below_size (by repeat (first | (with_reducible first | exact HB.out | apply below_alloc | apply pw_below_drewN | apply below_drew1) | exact HB.out)))); have n4_ := Aside0.mk (Kd.C_below (by repeat (first | (with_reducible exact HR157.out) | (with_reducible refine Kd.C_alloc ?_ _) | (with_reducible refine Kd.C_drewN ?_ _) | (with_reducible refine Kd.C_drew ?_) | exact HR157.out)) hb); have n5_ := Aside0.mk (below_step (by repeat (first | (with_reducible first | exact HB.out | apply below_alloc | apply pw_below_drewN | apply below_drew1) | exact HB.out)) hb); clear HO_9; clear HO_14; clear HO_17; clear HR157; clear HB; have HO_9 := n0_; have HO_14 := n1_; have HO_17 := n2_; have HO165 := n3_; have HR157 := n4_; have HB := n5_; clear n0_ n1_ n2_ n3_ n4_ n5_; (try clear hb); (try clear hb2); (try clear hk); (try clear hi); (try clear ho0); obtain ⟨Ao66, co66, eo66⟩ := Kd.R_slice HO165.out; subst eo66; obtain ⟨Ao67, co67, eo67⟩ := Kd.R_slice HO_17.out; subst eo67) | (go_at_call 9; (with_reducible refine (linguistbook_Same_int.calls k2 _ _ t163 _ _ x17_2 true _ ?side1 ?side2 ?side3 ?side4 A52.out).mono ?_); (case side1 => repeat (first | exact (Kd.R_reads' HO165.out).2.2 | (with_reducible refine Kd.C_alloc ?_ _) | (with_reducible refine Kd.C_drewN ?_ _) | (with_reducible refine Kd.C_drew ?_))); (case side2 => exact (Kd.R_reads' HO165.out).2.1); (case side3 => repeat (first | exact (Kd.R_reads' HO_17.out).2.2 | (with_reducible refine Kd.C_alloc ?_ _) | (with_reducible refine Kd.C_drewN ?_ _) | (with_reducible refine Kd.C_drew ?_))); (case side4 => exact (Kd.R_reads' HO_17.out).2.1); rintro e w' ⟨rfl, ⟨nd, rfl⟩⟩) | (go_at_call 8; (with_reducible refine (tabs_New.calls k2 t147 t167 _ A54.out).mono ?_); rintro e w68 ⟨rfl, hb⟩; have n0_ := Aside0.mk (Kd.R_below (by (with_reducible repeat (first | apply Kd.R_alloc | apply Kd.R_drewN | apply Kd.R_drew)); exact HO_9.out) hb); have n1_ := Aside0.mk (Kd.R_below (by (with_reducible repeat (first | apply Kd.R_alloc | apply Kd.R_drewN | apply Kd.R_drew)); exact HO_14.out) hb); have n2_ := Aside0.mk (Kd.R_below (by (with_reducible repeat (first | apply Kd.R_alloc | apply Kd.R_drewN | apply Kd.R_drew)); exact HO_17.out) hb); have n3_ := Aside0.mk (Kd.R_below (by (with_reducible repeat (first | apply Kd.R_alloc | apply Kd.R_drewN | apply Kd.R_drew)); exact HO165.out) hb); have n4_ := Aside0.mk (Kd.C_below (by repeat (first | (with_reducible exact HR157.out) | (with_reducible refine Kd.C_alloc ?_ _) | (with_reducible refine Kd.C_drewN ?_ _) | (with_reducible refine Kd.C_drew ?_) | exact HR157.out)) hb); have n5_ := Aside0.mk (below_step (by repeat (first | (with_reducible first | exact HB.out | apply below_alloc | apply pw_below_drewN | apply below_drew1) | exact HB.out)) hb); clear HO_9; clear HO_14; clear HO_17; clear HO165; clear HR157; clear HB; have HO_9 := n0_; have HO_14 := n1_; have HO_17 := n2_; have HO165 := n3_; have HR157 := n4_; have HB := n5_; clear n0_ n1_ n2_ n3_ n4_ n5_; (try clear hb); (try clear hb2); (try clear hk); (try clear hi)) | (go_at_call 19; (with_reducible refine (linguistref7_Tabs.calls k2 t147 t168 _ A55.out).mono ?_); rintro e w' ⟨rfl, ⟨nd, rfl⟩⟩) | (go_at_call 12; (with_reducible refine (tabs_Has.calls a0 64 false _ A57.out).mono ?_); rintro e w' ⟨rfl, ⟨nd, rfl⟩⟩) | (go_at_call 12; (with_reducible refine (tabs_Has.calls a0 (-1) false _ A59.out).mono ?_); rintro e w' ⟨rfl, ⟨nd, rfl⟩⟩) | (go_at_call 3; (with_reducible refine (linguistlaw9_TabsRuns.calls k2  t171 _ A61.out).mono ?_); rintro e w69 ⟨rfl, hb⟩; have n0_ := Aside0.mk (Kd.R_below (by (with_reducible repeat (first | apply Kd.R_alloc | apply Kd.R_drewN | apply Kd.R_drew)); exact HO_9.out) hb); have n1_ := Aside0.mk (Kd.R_below (by (with_reducible repeat (first | apply Kd.R_alloc | apply Kd.R_drewN | apply Kd.R_drew)); exact HO_14.out) hb); have n2_ := Aside0.mk (Kd.R_below (by (with_reducible repeat (first | apply Kd.R_alloc | apply Kd.R_drewN | apply Kd.R_drew)); exact HO_17.out) hb); have n3_ := Aside0.mk (Kd.R_below (by (with_reducible repeat (first | apply Kd.R_alloc | apply Kd.R_drewN | apply Kd.R_drew)); exact HO165.out) hb); have n4_ := Aside0.mk (Kd.C_below (by repeat (first | (with_reducible exact HR157.out) | (with_reducible refine Kd.C_alloc ?_ _) | (with_reducible refine Kd.C_drewN ?_ _) | (with_reducible refine Kd.C_drew ?_) | exact HR157.out)) hb); have n5_ := Aside0.mk (below_step (by repeat (first | (with_reducible first | exact HB.out | apply below_alloc | apply pw_below_drewN | apply below_drew1) | exact HB.out)) hb); clear HO_9; clear HO_14; clear HO_17; clear HO165; clear HR157; clear HB; have HO_9 := n0_; have HO_14 := n1_; have HO_17 := n2_; have HO165 := n3_; have HR157 := n4_; have HB := n5_; clear n0_ n1_ n2_ n3_ n4_ n5_; (try clear hb); (try clear hb2); (try clear hk); (try clear hi)))
                                        go_ret
                                        exact ⟨by first | rfl | (simp [errW_none, errW_some] <;> rfl) | (simp only [← hji5]; first | rfl | (simp [errW_none, errW_some] <;> rfl)) | (simp [*, errW_none, errW_some] <;> rfl), by repeat (first | (with_reducible first | exact HB.out | apply below_alloc | apply pw_below_drewN | apply below_drew1) | exact HB.out)⟩
                                  · rw [if_neg c56] at H
                                    exact absurd H (by simp)
                                · replace c53 := Bool.eq_false_iff.mpr c53
                                  subst c53
                                  have H1 : (none) = some r := by rw [if_neg (show ¬ (false = true) by decide)] at H; exact H
                                  clear H
                                  have H := H1
                                  clear H1
                                  exact absurd H (by simp)
                              · rw [if_neg c50] at H
                                exact absurd H (by simp)
                            · replace c47 := Bool.eq_false_iff.mpr c47
                              subst c47
                              have H1 : (none) = some r := by rw [if_neg (show ¬ (false = true) by decide)] at H; exact H
                              clear H
                              have H := H1
                              clear H1
                              exact absurd H (by simp)
                          · rw [if_neg c45] at H
                            exact absurd H (by simp)
                        · rw [if_neg c43] at H
                          exact absurd H (by simp)
                      · rw [if_neg c41] at H
                        exact absurd H (by simp)
                    · rw [if_neg c40] at H
                      exact absurd H (by simp)
      · rw [if_neg c8] at H
        exact absurd H (by simp)
    · rw [if_neg c7] at H
      exact absurd H (by simp)
  · rw [if_neg c6] at H
    exact absurd H (by simp)

/-- THE ONE PURE STATEMENT of linguistlaw9_TabsTells. -/
def linguistlaw9_TabsTells.Pure : Prop := ∀ (a0 : Int) (l1 : List Int) (a2 : Int) (a3 : Int), (Lit.int .u64 a0).wf = true → l1.length ≤ 9223372036854775807 → l1.length * 8 ≤ 140737488351232 → (∀ x ∈ l1, (Lit.int .i64 x).wf = true) → (Lit.int .i64 a2).wf = true → (Lit.int .i64 a3).wf = true → ∃ k, linguistlaw9_TabsTells.f k a0 l1 a2 a3 = some true
theorem linguistlaw9_TabsTells.walk (P : linguistlaw9_TabsTells.Pure) (a0 : Int) (A1 : Option Addr) (c1 : Nat) (l1 : List Int) (a2 : Int) (a3 : Int) (w : World) (w0 : (Lit.int .u64 a0).wf = true) (v1_0 : l1.length ≤ 9223372036854775807) (v1_1 : l1.length * 8 ≤ 140737488351232) (v1_2 : (∀ x ∈ l1, (Lit.int .i64 x).wf = true)) (w2 : (Lit.int .i64 a2).wf = true) (w3 : (Lit.int .i64 a3).wf = true) (hr1 : Kd.C (Kd.int .i64) w A1 l1.length l1) (hc1 : l1.length ≤ c1) :
    Calls Try.prog 5 #[.int .u64 a0, .slice A1 l1.length c1, .int .i64 a2, .int .i64 a3] w fun e w' => e = .returned (.bool true) ∧ Below w.heap.size w w' := by
  obtain ⟨k, h⟩ := P a0 l1 a2 a3 w0 v1_0 v1_1 v1_2 w2 w3
  refine (linguistlaw9_TabsTells.calls k a0 A1 c1 l1 a2 a3 true w hr1 hc1 h).mono ?_
  rintro e w' ⟨rfl, hd⟩
  exact ⟨rfl, hd⟩

end Go.Proofs.Ytmbcoeicnlncbaa.GTabsTells
