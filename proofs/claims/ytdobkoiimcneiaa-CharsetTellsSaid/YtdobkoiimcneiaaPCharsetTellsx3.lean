-- PRINTED BY print.sh 35421559b90ae4d0a3588c463048766b98c2df88dd9212a6774a882060cdf62d: not written by this session
import Derived.Test.YtdobkoiimcneiaaPCharsetTellsx0
import Derived.Test.YtdobkoiimcneiaaPCharsetTellsx1
import Derived.Test.YtdobkoiimcneiaaPCharsetTellsx2
namespace Go.Proofs.Ytdobkoiimcneiaa.PCharsetTells
open Go.RowKit Go.Proofs.YtdobkoiimcneiaaW.PrintWords Go.Proofs.YtdobkoiimcneiaaW.PrintLast Go.Proofs.YtdobkoiimcneiaaW.PrintMore
attribute [local go_sem] max2_int min2_int max_two min_two max_three min_three max_four min_four   -- for this text's walks alone
set_option linter.unusedVariables false
set_option linter.unusedSimpArgs false

/-! ### linguistlaw4_CharsetTells: function 4 -/
mutual
def linguistlaw4_CharsetTells.j0 : Nat → Int → Int → List Int → Option (Bool)
  | 0, _, _, _ => none
  | k + 1, x0, x1, x9 => linguistlaw4_CharsetTells.l0 k x0 x1 x9 0 false x9 (x9.length : Int) 0
def linguistlaw4_CharsetTells.l0 : Nat → Int → Int → List Int → Int → Bool → List Int → Int → Int → Option (Bool)
  | 0, _, _, _, _, _, _, _, _ => none
  | k + 1, x0, x1, x9, x10, x11, x27, x28, x29 => if x29 < x28 then (if 0 ≤ x29 then (if x29 < (x27.length : Int) then (if (rd x27 x29) = x1 then (linguistlaw4_CharsetTells.l0 k x0 x1 x9 ((wrap64 (96 + x29)) % 256) true x27 x28 (wrap64 (x29 + 1))) else (linguistlaw4_CharsetTells.l0 k x0 x1 x9 x10 x11 x27 x28 (wrap64 (x29 + 1)))) else (none)) else (none)) else (if x0 = 95 then (linguistlaw4_CharsetTells.j2 k x0 x1 x9 x10 x11 32) else (linguistlaw4_CharsetTells.j2 k x0 x1 x9 x10 x11 (wrap32 (x0))))
def linguistlaw4_CharsetTells.j2 : Nat → Int → Int → List Int → Int → Bool → Int → Option (Bool)
  | 0, _, _, _, _, _, _ => none
  | k + 1, x0, x1, x9, x10, x11, x14 => if x0 ≥ 96 then (linguistlaw4_CharsetTells.j3 k x0 x1 x9 x10 x11 x14 (decide (x0 ≤ 126))) else (linguistlaw4_CharsetTells.j3 k x0 x1 x9 x10 x11 x14 false)
def linguistlaw4_CharsetTells.j3 : Nat → Int → Int → List Int → Int → Bool → Int → Bool → Option (Bool)
  | 0, _, _, _, _, _, _, _ => none
  | k + 1, x0, x1, x9, x10, x11, x14, x50 => if x50 = true then (if 0 ≤ ((x0 - 96) % 256) then (if ((x0 - 96) % 256) < (x9.length : Int) then (linguistlaw4_CharsetTells.j4 k x0 x1 x10 x11 (rd x9 ((x0 - 96) % 256))) else (none)) else (none)) else (linguistlaw4_CharsetTells.j4 k x0 x1 x10 x11 x14)
def linguistlaw4_CharsetTells.j4 : Nat → Int → Int → Int → Bool → Int → Option (Bool)
  | 0, _, _, _, _, _ => none
  | k + 1, x0, x1, x10, x11, x14 => (charset_Undraw.f k x1).bind fun bt146 => ((charset_Draw.f x0).bind fun t148 => (if t148 = x14 then (if bt146.1 = x10 then (if (bt146.2 == x11) = true then ((charset_Plain.f k x1).bind fun t149 => ((linguistref1_Plain.f k x1).bind fun t150 => (if t149 = t150 then ((linguistlaw4_CharsetRuns.f k).bind fun t151 => (some t151)) else (some false)))) else (some false)) else (some false)) else (some false)))
end
def linguistlaw4_CharsetTells.f (k : Nat) (a0 : Int) (a1 : Int) (a2 : Int) (a3 : Bool) : Option (Bool) := (linguistref1_Drawn.f).bind fun t139 => (if a3 = true then ((linguistbook_Within.f a2 0 (wrap64 ((t139.length : Int) - 1))).bind fun t142 => (if 0 ≤ t142 then (if t142 < (t139.length : Int) then (linguistlaw4_CharsetTells.j0 k a0 (rd t139 t142) t139) else (none)) else (none))) else (linguistlaw4_CharsetTells.j0 k a0 a1 t139))
theorem linguistlaw4_CharsetTells.mono_l : ∀ k, (∀ y0 y1 y2, LeO (linguistlaw4_CharsetTells.j0 k y0 y1 y2) (linguistlaw4_CharsetTells.j0 (k + 1) y0 y1 y2)) ∧ (∀ y0 y1 y2 y3 y4 y5 y6 y7, LeO (linguistlaw4_CharsetTells.l0 k y0 y1 y2 y3 y4 y5 y6 y7) (linguistlaw4_CharsetTells.l0 (k + 1) y0 y1 y2 y3 y4 y5 y6 y7)) ∧ (∀ y0 y1 y2 y3 y4 y5, LeO (linguistlaw4_CharsetTells.j2 k y0 y1 y2 y3 y4 y5) (linguistlaw4_CharsetTells.j2 (k + 1) y0 y1 y2 y3 y4 y5)) ∧ (∀ y0 y1 y2 y3 y4 y5 y6, LeO (linguistlaw4_CharsetTells.j3 k y0 y1 y2 y3 y4 y5 y6) (linguistlaw4_CharsetTells.j3 (k + 1) y0 y1 y2 y3 y4 y5 y6)) ∧ (∀ y0 y1 y2 y3 y4, LeO (linguistlaw4_CharsetTells.j4 k y0 y1 y2 y3 y4) (linguistlaw4_CharsetTells.j4 (k + 1) y0 y1 y2 y3 y4))
  | 0 => ⟨fun _ _ _ r h => by simp [linguistlaw4_CharsetTells.j0] at h, fun _ _ _ _ _ _ _ _ r h => by simp [linguistlaw4_CharsetTells.l0] at h, fun _ _ _ _ _ _ r h => by simp [linguistlaw4_CharsetTells.j2] at h, fun _ _ _ _ _ _ _ r h => by simp [linguistlaw4_CharsetTells.j3] at h, fun _ _ _ _ _ r h => by simp [linguistlaw4_CharsetTells.j4] at h⟩
  | k + 1 => by
    obtain ⟨ih0, ih1, ih2, ih3, ih4⟩ := linguistlaw4_CharsetTells.mono_l k
    refine ⟨?_, ?_, ?_, ?_, ?_⟩
    · intro y0 y1 y2
      unfold linguistlaw4_CharsetTells.j0
      repeat' first
      | (with_reducible exact ih0 _ _ _)
      | (with_reducible exact ih1 _ _ _ _ _ _ _ _)
      | (with_reducible exact ih2 _ _ _ _ _ _)
      | (with_reducible exact ih3 _ _ _ _ _ _ _)
      | (with_reducible exact ih4 _ _ _ _ _)
      | (with_reducible exact charset_Plain.mono _ _)
      | (with_reducible exact charset_Undraw.mono _ _)
      | (with_reducible exact linguistlaw4_CharsetRuns.mono _)
      | (with_reducible exact linguistref1_Plain.mono _ _)
      | (with_reducible exact LeO.refl _)
      | (with_reducible exact LeO.none _)
      | (with_reducible refine LeO.ite ?_ ?_)
      | (with_reducible refine LeO.bind ?_ (fun _ => ?_))
      | exact ih0 _ _ _
      | exact ih1 _ _ _ _ _ _ _ _
      | exact ih2 _ _ _ _ _ _
      | exact ih3 _ _ _ _ _ _ _
      | exact ih4 _ _ _ _ _
      | exact charset_Plain.mono _ _
      | exact charset_Undraw.mono _ _
      | exact linguistlaw4_CharsetRuns.mono _
      | exact linguistref1_Plain.mono _ _
      | exact LeO.none _
      | refine LeO.ite ?_ ?_
      | refine LeO.bind ?_ (fun _ => ?_)
    · intro y0 y1 y2 y3 y4 y5 y6 y7
      unfold linguistlaw4_CharsetTells.l0
      repeat' first
      | (with_reducible exact ih0 _ _ _)
      | (with_reducible exact ih1 _ _ _ _ _ _ _ _)
      | (with_reducible exact ih2 _ _ _ _ _ _)
      | (with_reducible exact ih3 _ _ _ _ _ _ _)
      | (with_reducible exact ih4 _ _ _ _ _)
      | (with_reducible exact charset_Plain.mono _ _)
      | (with_reducible exact charset_Undraw.mono _ _)
      | (with_reducible exact linguistlaw4_CharsetRuns.mono _)
      | (with_reducible exact linguistref1_Plain.mono _ _)
      | (with_reducible exact LeO.refl _)
      | (with_reducible exact LeO.none _)
      | (with_reducible refine LeO.ite ?_ ?_)
      | (with_reducible refine LeO.bind ?_ (fun _ => ?_))
      | exact ih0 _ _ _
      | exact ih1 _ _ _ _ _ _ _ _
      | exact ih2 _ _ _ _ _ _
      | exact ih3 _ _ _ _ _ _ _
      | exact ih4 _ _ _ _ _
      | exact charset_Plain.mono _ _
      | exact charset_Undraw.mono _ _
      | exact linguistlaw4_CharsetRuns.mono _
      | exact linguistref1_Plain.mono _ _
      | exact LeO.none _
      | refine LeO.ite ?_ ?_
      | refine LeO.bind ?_ (fun _ => ?_)
    · intro y0 y1 y2 y3 y4 y5
      unfold linguistlaw4_CharsetTells.j2
      repeat' first
      | (with_reducible exact ih0 _ _ _)
      | (with_reducible exact ih1 _ _ _ _ _ _ _ _)
      | (with_reducible exact ih2 _ _ _ _ _ _)
      | (with_reducible exact ih3 _ _ _ _ _ _ _)
      | (with_reducible exact ih4 _ _ _ _ _)
      | (with_reducible exact charset_Plain.mono _ _)
      | (with_reducible exact charset_Undraw.mono _ _)
      | (with_reducible exact linguistlaw4_CharsetRuns.mono _)
      | (with_reducible exact linguistref1_Plain.mono _ _)
      | (with_reducible exact LeO.refl _)
      | (with_reducible exact LeO.none _)
      | (with_reducible refine LeO.ite ?_ ?_)
      | (with_reducible refine LeO.bind ?_ (fun _ => ?_))
      | exact ih0 _ _ _
      | exact ih1 _ _ _ _ _ _ _ _
      | exact ih2 _ _ _ _ _ _
      | exact ih3 _ _ _ _ _ _ _
      | exact ih4 _ _ _ _ _
      | exact charset_Plain.mono _ _
      | exact charset_Undraw.mono _ _
      | exact linguistlaw4_CharsetRuns.mono _
      | exact linguistref1_Plain.mono _ _
      | exact LeO.none _
      | refine LeO.ite ?_ ?_
      | refine LeO.bind ?_ (fun _ => ?_)
    · intro y0 y1 y2 y3 y4 y5 y6
      unfold linguistlaw4_CharsetTells.j3
      repeat' first
      | (with_reducible exact ih0 _ _ _)
      | (with_reducible exact ih1 _ _ _ _ _ _ _ _)
      | (with_reducible exact ih2 _ _ _ _ _ _)
      | (with_reducible exact ih3 _ _ _ _ _ _ _)
      | (with_reducible exact ih4 _ _ _ _ _)
      | (with_reducible exact charset_Plain.mono _ _)
      | (with_reducible exact charset_Undraw.mono _ _)
      | (with_reducible exact linguistlaw4_CharsetRuns.mono _)
      | (with_reducible exact linguistref1_Plain.mono _ _)
      | (with_reducible exact LeO.refl _)
      | (with_reducible exact LeO.none _)
      | (with_reducible refine LeO.ite ?_ ?_)
      | (with_reducible refine LeO.bind ?_ (fun _ => ?_))
      | exact ih0 _ _ _
      | exact ih1 _ _ _ _ _ _ _ _
      | exact ih2 _ _ _ _ _ _
      | exact ih3 _ _ _ _ _ _ _
      | exact ih4 _ _ _ _ _
      | exact charset_Plain.mono _ _
      | exact charset_Undraw.mono _ _
      | exact linguistlaw4_CharsetRuns.mono _
      | exact linguistref1_Plain.mono _ _
      | exact LeO.none _
      | refine LeO.ite ?_ ?_
      | refine LeO.bind ?_ (fun _ => ?_)
    · intro y0 y1 y2 y3 y4
      unfold linguistlaw4_CharsetTells.j4
      repeat' first
      | (with_reducible exact ih0 _ _ _)
      | (with_reducible exact ih1 _ _ _ _ _ _ _ _)
      | (with_reducible exact ih2 _ _ _ _ _ _)
      | (with_reducible exact ih3 _ _ _ _ _ _ _)
      | (with_reducible exact ih4 _ _ _ _ _)
      | (with_reducible exact charset_Plain.mono _ _)
      | (with_reducible exact charset_Undraw.mono _ _)
      | (with_reducible exact linguistlaw4_CharsetRuns.mono _)
      | (with_reducible exact linguistref1_Plain.mono _ _)
      | (with_reducible exact LeO.refl _)
      | (with_reducible exact LeO.none _)
      | (with_reducible refine LeO.ite ?_ ?_)
      | (with_reducible refine LeO.bind ?_ (fun _ => ?_))
      | exact ih0 _ _ _
      | exact ih1 _ _ _ _ _ _ _ _
      | exact ih2 _ _ _ _ _ _
      | exact ih3 _ _ _ _ _ _ _
      | exact ih4 _ _ _ _ _
      | exact charset_Plain.mono _ _
      | exact charset_Undraw.mono _ _
      | exact linguistlaw4_CharsetRuns.mono _
      | exact linguistref1_Plain.mono _ _
      | exact LeO.none _
      | refine LeO.ite ?_ ?_
      | refine LeO.bind ?_ (fun _ => ?_)
theorem linguistlaw4_CharsetTells.mono : ∀ a0 a1 a2 a3 k, LeO (linguistlaw4_CharsetTells.f k a0 a1 a2 a3) (linguistlaw4_CharsetTells.f (k + 1) a0 a1 a2 a3) := by
  intro a0 a1 a2 a3 k
  obtain ⟨ih0, ih1, ih2, ih3, ih4⟩ := linguistlaw4_CharsetTells.mono_l k
  unfold linguistlaw4_CharsetTells.f
  repeat' first
      | (with_reducible exact ih0 _ _ _)
      | (with_reducible exact ih1 _ _ _ _ _ _ _ _)
      | (with_reducible exact ih2 _ _ _ _ _ _)
      | (with_reducible exact ih3 _ _ _ _ _ _ _)
      | (with_reducible exact ih4 _ _ _ _ _)
      | (with_reducible exact charset_Plain.mono _ _)
      | (with_reducible exact charset_Undraw.mono _ _)
      | (with_reducible exact linguistlaw4_CharsetRuns.mono _)
      | (with_reducible exact linguistref1_Plain.mono _ _)
      | (with_reducible exact LeO.refl _)
      | (with_reducible exact LeO.none _)
      | (with_reducible refine LeO.ite ?_ ?_)
      | (with_reducible refine LeO.bind ?_ (fun _ => ?_))
      | exact ih0 _ _ _
      | exact ih1 _ _ _ _ _ _ _ _
      | exact ih2 _ _ _ _ _ _
      | exact ih3 _ _ _ _ _ _ _
      | exact ih4 _ _ _ _ _
      | exact charset_Plain.mono _ _
      | exact charset_Undraw.mono _ _
      | exact linguistlaw4_CharsetRuns.mono _
      | exact linguistref1_Plain.mono _ _
      | exact LeO.none _
      | refine LeO.ite ?_ ?_
      | refine LeO.bind ?_ (fun _ => ?_)
set_option maxHeartbeats 8000000 in
set_option maxRecDepth 100000 in
theorem linguistlaw4_CharsetTells.calls (k : Nat) (a0 : Int) (a1 : Int) (a2 : Int) (a3 : Bool) (r : Bool) (w : World) (h : linguistlaw4_CharsetTells.f k a0 a1 a2 a3 = some r) :
    Calls Try.prog 4 #[.int .u8 a0, .int .i32 a1, .int .i64 a2, .bool a3] w fun e w' => e = .returned (.bool r) ∧ Below w.heap.size w w' := by
  have HB := Aside0.mk (Below.refl w.heap.size w)
  have H : ((linguistref1_Drawn.f).bind fun t139 => (if a3 = true then ((linguistbook_Within.f a2 0 (wrap64 ((t139.length : Int) - 1))).bind fun t142 => (if 0 ≤ t142 then (if t142 < (t139.length : Int) then (linguistlaw4_CharsetTells.j0 k a0 (rd t139 t142) t139) else (none)) else (none))) else (linguistlaw4_CharsetTells.j0 k a0 a1 t139))) = some r := h
  clear h
  replace H := Option.bind_eq_some_iff.mp H
  obtain ⟨t139, A50, H⟩ := H
  replace H : (if a3 = true then ((linguistbook_Within.f a2 0 (wrap64 ((t139.length : Int) - 1))).bind fun t142 => (if 0 ≤ t142 then (if t142 < (t139.length : Int) then (linguistlaw4_CharsetTells.j0 k a0 (rd t139 t142) t139) else (none)) else (none))) else (linguistlaw4_CharsetTells.j0 k a0 a1 t139)) = some r := H
  have A5 := Aside0.mk A50
  clear A50
  have HC6 := Aside0.mk H
  clear H
  go_enter Try.func4, Try.ntmps4
  go_upto_if 18 with (first | ((with_reducible refine gate_callee (f := 12) rfl ?_); refine goesL_ (some 17) rfl rfl Try.func12 (by kernel_rfl) rfl #[] rfl (by (try simp only [List.map_toArray, List.map_cons, List.map_nil]); first | done | rfl | (simp only [List.length_drop, List.length_take]; rfl)) ?_; (with_reducible refine (linguistref1_Drawn.calls  t139 _ A5.out).mono ?_); rintro e w7 ⟨v140, rfl, ho0, hb⟩; refine ⟨_, rfl, ?_⟩; have n0_ := Aside0.mk (Kd.R_lower ho0 (below_size (by repeat (first | (with_reducible first | exact HB.out | apply below_alloc | apply pw_below_drewN | apply below_drew1) | exact HB.out)))); have n1_ := Aside0.mk (below_step (by repeat (first | (with_reducible first | exact HB.out | apply below_alloc | apply pw_below_drewN | apply below_drew1) | exact HB.out)) hb); clear HB; have HO141 := n0_; have HB := n1_; clear n0_ n1_; (try clear hb); (try clear hb2); (try clear hk); (try clear hi); (try clear ho0)))
  (try simp only [Act.put, List.setIfInBounds_toArray, List.set_cons_zero, List.set_cons_succ])
  go_cut [1] (fun v1 wc => ∃ (kq : Nat) (x1_5 : Int), v1 = .int .i32 x1_5 ∧ Aside0 (linguistlaw4_CharsetTells.j0 kq a0 x1_5 t139 = some r) ∧ Aside0 (kq ≤ k) ∧ Aside0 (Kd.R (Kd.int .i32) 21 wc w.heap.size (fun _ => True) v140 t139) ∧ Aside0 (Below w.heap.size w wc))
  case first =>
    have H := HC6.out
    clear HC6
    by_cases c8 : a3 = true
    · subst c8
      have H1 : ((linguistbook_Within.f a2 0 (wrap64 ((t139.length : Int) - 1))).bind fun t142 => (if 0 ≤ t142 then (if t142 < (t139.length : Int) then (linguistlaw4_CharsetTells.j0 k a0 (rd t139 t142) t139) else (none)) else (none))) = some r := by rw [if_pos rfl] at H; exact H
      clear H
      have H := H1
      clear H1
      replace H := Option.bind_eq_some_iff.mp H
      obtain ⟨t142, A90, H⟩ := H
      replace H : (if 0 ≤ t142 then (if t142 < (t139.length : Int) then (linguistlaw4_CharsetTells.j0 k a0 (rd t139 t142) t139) else (none)) else (none)) = some r := H
      have A9 := Aside0.mk A90
      clear A90
      by_cases c10 : 0 ≤ t142
      · rw [if_pos c10] at H
        have c10b0 : decide (0 ≤ t142) = true := decide_eq_true c10
        clear c10
        (first | rw [c10b0] | (simp only [i64_w, i32_w]; rw [c10b0]) | skip)
        by_cases c11 : t142 < (t139.length : Int)
        · rw [if_pos c11] at H
          have c11b0 : decide (t142 < (t139.length : Int)) = true := decide_eq_true c11
          clear c11
          have H' := Aside0.mk H
          clear H
          obtain ⟨Ao12, co12, eo12⟩ := Kd.R_slice HO141.out
          subst eo12
          go_wp2_with (first | ((with_reducible refine gate_callee (f := 13) rfl ?_); refine goesL_ (some 24) rfl rfl Try.func13 (by kernel_rfl) rfl #[.int .i64 a2, .int .i64 0, .int .i64 (wrap64 ((t139.length : Int) - 1))] rfl (by (try simp only [List.map_toArray, List.map_cons, List.map_nil]); first | done | rfl | (simp only [List.length_drop, List.length_take]; rfl)) ?_; (with_reducible refine (linguistbook_Within.calls a2 0 (wrap64 ((t139.length : Int) - 1)) t142 _ A9.out).mono ?_); rintro e w' ⟨rfl, ⟨nd, rfl⟩⟩; refine ⟨_, rfl, ?_⟩; have p143 : 0 ≤ (t142 : Int) := of_decide_eq_true (by first | (with_reducible assumption) | assumption); have q143 : t142 < (t139.length : Int) := of_decide_eq_true (by first | (with_reducible assumption) | assumption); obtain ⟨ad143, e143, hx143_0⟩ := Kd.at_int (Kd.R_reads' HO141.out).2.2 t142 p143 q143; cases e143; replace p143 := eq_true p143; replace q143 := eq_true q143))
          go_meet
          case rel => exact ⟨_, (rd t139 t142), (by first | rfl | (simp; done) | (simp [*]; done)), H', ⟨by first | omega | exact Nat.le_refl _⟩, ⟨by (with_reducible repeat (first | apply Kd.R_alloc | apply Kd.R_drewN | apply Kd.R_drew)); exact HO141.out⟩, ⟨by repeat (first | (with_reducible first | exact HB.out | apply below_alloc | apply pw_below_drewN | apply below_drew1) | exact HB.out)⟩⟩
        · rw [if_neg c11] at H
          exact absurd H (by simp)
      · rw [if_neg c10] at H
        exact absurd H (by simp)
    · replace c8 := Bool.eq_false_iff.mpr c8
      subst c8
      have H1 : (linguistlaw4_CharsetTells.j0 k a0 a1 t139) = some r := by rw [if_neg (show ¬ (false = true) by decide)] at H; exact H
      clear H
      have H := H1
      clear H1
      have H' := Aside0.mk H
      clear H
      go_wp2
      go_meet
      case rel => exact ⟨_, (a1), (by first | rfl | (simp; done) | (simp [*]; done)), H', ⟨by first | omega | exact Nat.le_refl _⟩, ⟨by (with_reducible repeat (first | apply Kd.R_alloc | apply Kd.R_drewN | apply Kd.R_drew)); exact HO141.out⟩, ⟨by repeat (first | (with_reducible first | exact HB.out | apply below_alloc | apply pw_below_drewN | apply below_drew1) | exact HB.out)⟩⟩
  case rest =>
    clear HC6
    try clear c1
    try clear p1
    try clear q1
    try clear hx1
    try clear p2
    try clear c4
    try clear p6
    try clear c8
    try clear c10
    try clear c10b0
    try clear c11
    try clear c11b0
    try clear c12
    try clear hx143_0
    try clear p143
    try clear q143
    obtain ⟨kq, x1_5, rfl, HA, HJ5, HO_9, HB⟩ := hcut
    cases kq with
    | zero => exact absurd HA.out (by simp [linguistlaw4_CharsetTells.j0])
    | succ kj5 =>
      have H := HA.out
      clear HA
      simp only [linguistlaw4_CharsetTells.j0] at H
      have H' := Aside0.mk H
      clear H
      obtain ⟨Ao13, co13, eo13⟩ := Kd.R_slice HO_9.out
      subst eo13
      go_wp2
      go_loopg [10, 11, 29] kj5 (fun kq v10 v11 v29 w' => ∃ (x10_2 : Int) (x11_2 : Bool) (x29_2 : Int), v10 = .int .u8 x10_2 ∧ v11 = .bool x11_2 ∧ v29 = .int .i64 x29_2 ∧ Aside0 (linguistlaw4_CharsetTells.l0 kq a0 x1_5 t139 x10_2 x11_2 t139 (t139.length : Int) x29_2 = some r) ∧ Aside0 (kq ≤ kj5) ∧ Aside0 (Kd.R (Kd.int .i32) 21 w' w.heap.size (fun _ => True) (.slice Ao13 t139.length co13) t139) ∧ Aside0 (Kd.R (Kd.int .i32) 21 w' w.heap.size (fun _ => True) (.slice Ao13 t139.length co13) t139) ∧ Aside0 (Below w.heap.size w w'))
      case atStart => exact ⟨(0), (false), (0), (by first | rfl | (simp; done) | (simp [*]; done)), (by first | rfl | (simp; done) | (simp [*]; done)), (by first | rfl | (simp; done) | (simp [*]; done)), H', ⟨Nat.le_refl _⟩, ⟨by (with_reducible repeat (first | apply Kd.R_alloc | apply Kd.R_drewN | apply Kd.R_drew)); exact HO_9.out⟩, ⟨by (with_reducible repeat (first | apply Kd.R_alloc | apply Kd.R_drewN | apply Kd.R_drew)); exact HO_9.out⟩, ⟨by repeat (first | (with_reducible first | exact HB.out | apply below_alloc | apply pw_below_drewN | apply below_drew1) | exact HB.out)⟩⟩
      case round =>
        clear H'
        try clear c1
        try clear p1
        try clear q1
        try clear hx1
        try clear p2
        try clear c4
        try clear p6
        try clear c8
        try clear c10
        try clear c10b0
        try clear c11
        try clear c11b0
        try clear c12
        try clear c13
        try clear hx143_0
        try clear p1
        try clear p143
        try clear p2
        try clear p6
        try clear q1
        try clear q143
        obtain ⟨x10_2, x11_2, x29_2, rfl, rfl, rfl, HA, HK2, HO_9, HO_27, HB⟩ := hrel
        cases gk with
        | zero => exact absurd HA.out (by simp [linguistlaw4_CharsetTells.l0])
        | succ k2 =>
          have H := HA.out
          clear HA
          simp only [linguistlaw4_CharsetTells.l0] at H
          by_cases c14 : x29_2 < (t139.length : Int)
          · rw [if_pos c14] at H
            have c14b0 : decide (x29_2 < (t139.length : Int)) = true := decide_eq_true c14
            clear c14
            by_cases c15 : 0 ≤ x29_2
            · rw [if_pos c15] at H
              have c15b0 : decide (0 ≤ x29_2) = true := decide_eq_true c15
              clear c15
              by_cases c16 : x29_2 < (t139.length : Int)
              · rw [if_pos c16] at H
                have c16b0 : decide (x29_2 < (t139.length : Int)) = true := decide_eq_true c16
                clear c16
                by_cases c17 : (rd t139 x29_2) = x1_5
                · rw [if_pos c17] at H
                  have c17b0 : ((rd t139 x29_2) == x1_5) = true := beq_iff_eq.mpr c17
                  have c17b1 : ((rd t139 x29_2) != x1_5) = false := bne_eq_false_iff_eq.mpr c17
                  clear c17
                  have H' := Aside0.mk H
                  clear H
                  have p144 : 0 ≤ (x29_2 : Int) := of_decide_eq_true (by first | (with_reducible assumption) | assumption)
                  have q144 : x29_2 < (t139.length : Int) := of_decide_eq_true (by first | (with_reducible assumption) | assumption)
                  obtain ⟨ad144, e144, hx144_0⟩ := Kd.at_int (Kd.R_reads' HO_27.out).2.2 x29_2 p144 q144
                  cases e144
                  replace p144 := eq_true p144
                  replace q144 := eq_true q144
                  go_wp2
                  go_roundg k2
                  case measure => have := HJ5.out; have := HK2.out; omega
                  case rel => exact ⟨((wrap64 (96 + x29_2)) % 256), (true), (wrap64 (x29_2 + 1)), (by first | rfl | (simp; done) | (simp [*]; done)), (by first | rfl | (simp; done) | (simp [*]; done)), (by first | rfl | (simp; done) | (simp [*]; done)), H', ⟨by have := HJ5.out; have := HK2.out; omega⟩, ⟨by (with_reducible repeat (first | apply Kd.R_alloc | apply Kd.R_drewN | apply Kd.R_drew)); exact HO_9.out⟩, ⟨by (with_reducible repeat (first | apply Kd.R_alloc | apply Kd.R_drewN | apply Kd.R_drew)); exact HO_27.out⟩, ⟨by repeat (first | (with_reducible first | exact HB.out | apply below_alloc | apply pw_below_drewN | apply below_drew1) | exact HB.out)⟩⟩
                · rw [if_neg c17] at H
                  have c17b0 : ((rd t139 x29_2) == x1_5) = false := beq_eq_false_iff_ne.mpr c17
                  have c17b1 : ((rd t139 x29_2) != x1_5) = true := bne_iff_ne.mpr c17
                  have H' := Aside0.mk H
                  clear H
                  have p144 : 0 ≤ (x29_2 : Int) := of_decide_eq_true (by first | (with_reducible assumption) | assumption)
                  have q144 : x29_2 < (t139.length : Int) := of_decide_eq_true (by first | (with_reducible assumption) | assumption)
                  obtain ⟨ad144, e144, hx144_0⟩ := Kd.at_int (Kd.R_reads' HO_27.out).2.2 x29_2 p144 q144
                  cases e144
                  replace p144 := eq_true p144
                  replace q144 := eq_true q144
                  go_wp2
                  go_roundg k2
                  case measure => have := HJ5.out; have := HK2.out; omega
                  case rel => exact ⟨(x10_2), (x11_2), (wrap64 (x29_2 + 1)), (by first | rfl | (simp; done) | (simp [*]; done)), (by first | rfl | (simp; done) | (simp [*]; done)), (by first | rfl | (simp; done) | (simp [*]; done)), H', ⟨by have := HJ5.out; have := HK2.out; omega⟩, ⟨by (with_reducible repeat (first | apply Kd.R_alloc | apply Kd.R_drewN | apply Kd.R_drew)); exact HO_9.out⟩, ⟨by (with_reducible repeat (first | apply Kd.R_alloc | apply Kd.R_drewN | apply Kd.R_drew)); exact HO_27.out⟩, ⟨by repeat (first | (with_reducible first | exact HB.out | apply below_alloc | apply pw_below_drewN | apply below_drew1) | exact HB.out)⟩⟩
              · rw [if_neg c16] at H
                exact absurd H (by simp)
            · rw [if_neg c15] at H
              exact absurd H (by simp)
          · rw [if_neg c14] at H
            have c14b0 : decide (x29_2 < (t139.length : Int)) = false := decide_eq_false c14
            clear c14
            have HC18 := Aside0.mk H
            clear H
            go_upto_if 44 with (fail)
            go_cut [14] (fun v14 wc => ∃ (kq : Nat) (x14_17 : Int), v14 = .int .i32 x14_17 ∧ Aside0 (linguistlaw4_CharsetTells.j2 kq a0 x1_5 t139 x10_2 x11_2 x14_17 = some r) ∧ Aside0 (kq ≤ k2) ∧ Aside0 (Kd.R (Kd.int .i32) 21 wc w.heap.size (fun _ => True) (.slice Ao13 t139.length co13) t139) ∧ Aside0 (Below w.heap.size w wc))
            case first =>
              have H := HC18.out
              clear HC18
              by_cases c19 : a0 = 95
              · rw [if_pos c19] at H
                have c19b0 : (a0 == 95) = true := beq_iff_eq.mpr c19
                have c19b1 : (a0 != 95) = false := bne_eq_false_iff_eq.mpr c19
                clear c19
                (first | rw [c19b0] | (simp only [i64_w, i32_w]; rw [c19b0]) | skip)
                have H' := Aside0.mk H
                clear H
                go_wp2
                go_meet
                case rel => exact ⟨_, (32), (by first | rfl | (simp; done) | (simp [*]; done)), H', ⟨by have := HJ5.out; have := HK2.out; first | omega | exact Nat.le_refl _⟩, ⟨by (with_reducible repeat (first | apply Kd.R_alloc | apply Kd.R_drewN | apply Kd.R_drew)); exact HO_9.out⟩, ⟨by repeat (first | (with_reducible first | exact HB.out | apply below_alloc | apply pw_below_drewN | apply below_drew1) | exact HB.out)⟩⟩
              · rw [if_neg c19] at H
                have c19b0 : (a0 == 95) = false := beq_eq_false_iff_ne.mpr c19
                have c19b1 : (a0 != 95) = true := bne_iff_ne.mpr c19
                (first | rw [c19b0] | (simp only [i64_w, i32_w]; rw [c19b0]) | skip)
                have H' := Aside0.mk H
                clear H
                go_wp2
                go_meet
                case rel => exact ⟨_, (wrap32 (a0)), (by first | rfl | (simp; done) | (simp [*]; done)), H', ⟨by have := HJ5.out; have := HK2.out; first | omega | exact Nat.le_refl _⟩, ⟨by (with_reducible repeat (first | apply Kd.R_alloc | apply Kd.R_drewN | apply Kd.R_drew)); exact HO_9.out⟩, ⟨by repeat (first | (with_reducible first | exact HB.out | apply below_alloc | apply pw_below_drewN | apply below_drew1) | exact HB.out)⟩⟩
            case rest =>
              clear HC18
              try clear c1
              try clear p1
              try clear q1
              try clear hx1
              try clear p2
              try clear p3
              try clear c4
              try clear p6
              try clear c8
              try clear c10
              try clear c10b0
              try clear c11
              try clear c11b0
              try clear c12
              try clear c13
              try clear c14
              try clear c14b0
              try clear p14
              try clear q14
              try clear hx14
              try clear c15
              try clear c15b0
              try clear c16
              try clear c16b0
              try clear c17
              try clear c17b0
              try clear c17b1
              try clear c19
              try clear c19b0
              try clear c19b1
              try clear hx143_0
              try clear hx144_0
              try clear p1
              try clear p143
              try clear p144
              try clear p2
              try clear p6
              try clear q1
              try clear q143
              try clear q144
              obtain ⟨kq, x14_17, rfl, HA, HJ17, HO_9, HB⟩ := hcut
              cases kq with
              | zero => exact absurd HA.out (by simp [linguistlaw4_CharsetTells.j2])
              | succ kj17 =>
                have H := HA.out
                clear HA
                simp only [linguistlaw4_CharsetTells.j2] at H
                have HC20 := Aside0.mk H
                clear H
                go_upto_region 14 with (fail)
                go_cut [50] (fun v50 wc => ∃ (kq : Nat) (x50_19 : Bool), v50 = .bool x50_19 ∧ Aside0 (linguistlaw4_CharsetTells.j3 kq a0 x1_5 t139 x10_2 x11_2 x14_17 x50_19 = some r) ∧ Aside0 (kq ≤ kj17) ∧ Aside0 (Kd.R (Kd.int .i32) 21 wc w.heap.size (fun _ => True) (.slice Ao13 t139.length co13) t139) ∧ Aside0 (Below w.heap.size w wc))
                case first =>
                  have H := HC20.out
                  clear HC20
                  by_cases c21 : a0 ≥ 96
                  · rw [if_pos c21] at H
                    have c21b0 : decide (96 ≤ a0) = true := decide_eq_true c21
                    clear c21
                    (first | rw [c21b0] | (simp only [i64_w, i32_w]; rw [c21b0]) | skip)
                    have H' := Aside0.mk H
                    clear H
                    go_wp2
                    go_meet
                    case rel => exact ⟨_, (decide (a0 ≤ 126)), (by first | rfl | (simp; done) | (simp [*]; done)), H', ⟨by have := HJ5.out; have := HK2.out; have := HJ17.out; first | omega | exact Nat.le_refl _⟩, ⟨by (with_reducible repeat (first | apply Kd.R_alloc | apply Kd.R_drewN | apply Kd.R_drew)); exact HO_9.out⟩, ⟨by repeat (first | (with_reducible first | exact HB.out | apply below_alloc | apply pw_below_drewN | apply below_drew1) | exact HB.out)⟩⟩
                  · rw [if_neg c21] at H
                    have c21b0 : decide (96 ≤ a0) = false := decide_eq_false c21
                    clear c21
                    (first | rw [c21b0] | (simp only [i64_w, i32_w]; rw [c21b0]) | skip)
                    have H' := Aside0.mk H
                    clear H
                    go_wp2
                    go_meet
                    case rel => exact ⟨_, (false), (by first | rfl | (simp; done) | (simp [*]; done)), H', ⟨by have := HJ5.out; have := HK2.out; have := HJ17.out; first | omega | exact Nat.le_refl _⟩, ⟨by (with_reducible repeat (first | apply Kd.R_alloc | apply Kd.R_drewN | apply Kd.R_drew)); exact HO_9.out⟩, ⟨by repeat (first | (with_reducible first | exact HB.out | apply below_alloc | apply pw_below_drewN | apply below_drew1) | exact HB.out)⟩⟩
                case rest =>
                  clear HC20
                  try clear c1
                  try clear p1
                  try clear q1
                  try clear hx1
                  try clear c2
                  try clear p2
                  try clear p3
                  try clear c4
                  try clear p6
                  try clear c8
                  try clear c10
                  try clear c10b0
                  try clear c11
                  try clear c11b0
                  try clear c12
                  try clear c13
                  try clear c14
                  try clear c14b0
                  try clear p14
                  try clear q14
                  try clear hx14
                  try clear c15
                  try clear c15b0
                  try clear c16
                  try clear c16b0
                  try clear c17
                  try clear c17b0
                  try clear c17b1
                  try clear c19
                  try clear c19b0
                  try clear c19b1
                  try clear c21
                  try clear c21b0
                  try clear hx143_0
                  try clear hx144_0
                  try clear p1
                  try clear p14
                  try clear p143
                  try clear p144
                  try clear p2
                  try clear p3
                  try clear p6
                  try clear q1
                  try clear q14
                  try clear q143
                  try clear q144
                  obtain ⟨kq, x50_19, rfl, HA, HJ19, HO_9, HB⟩ := hcut
                  cases kq with
                  | zero => exact absurd HA.out (by simp [linguistlaw4_CharsetTells.j3])
                  | succ kj19 =>
                    have H := HA.out
                    clear HA
                    simp only [linguistlaw4_CharsetTells.j3] at H
                    have HC22 := Aside0.mk H
                    clear H
                    go_upto_if 50 with (fail)
                    go_cut [14] (fun v14 wc => ∃ (kq : Nat) (x14_21 : Int), v14 = .int .i32 x14_21 ∧ Aside0 (linguistlaw4_CharsetTells.j4 kq a0 x1_5 x10_2 x11_2 x14_21 = some r) ∧ Aside0 (kq ≤ kj19) ∧ Aside0 (Below w.heap.size w wc))
                    case first =>
                      have H := HC22.out
                      clear HC22
                      by_cases c23 : x50_19 = true
                      · subst c23
                        have H1 : (if 0 ≤ ((a0 - 96) % 256) then (if ((a0 - 96) % 256) < (t139.length : Int) then (linguistlaw4_CharsetTells.j4 kj19 a0 x1_5 x10_2 x11_2 (rd t139 ((a0 - 96) % 256))) else (none)) else (none)) = some r := by rw [if_pos rfl] at H; exact H
                        clear H
                        have H := H1
                        clear H1
                        obtain ⟨ji24, hji24⟩ : ∃ j_ : Int, ((a0 - 96) % 256) = j_ := ⟨_, rfl⟩
                        replace H : (if 0 ≤ (ji24) then (if (ji24) < (t139.length : Int) then (linguistlaw4_CharsetTells.j4 kj19 a0 x1_5 x10_2 x11_2 (rd t139 (ji24))) else (none)) else (none)) = some r := by first | (rw [hji24] at H; exact H) | (simp only [hji24] at H ⊢; exact H)
                        by_cases c25 : 0 ≤ (ji24)
                        · rw [if_pos c25] at H
                          have c25b0 : decide (0 ≤ (ji24)) = true := decide_eq_true c25
                          clear c25
                          (first | rw [c25b0] | (simp only [i64_w, i32_w]; rw [c25b0]) | skip)
                          by_cases c26 : (ji24) < (t139.length : Int)
                          · rw [if_pos c26] at H
                            have c26b0 : decide ((ji24) < (t139.length : Int)) = true := decide_eq_true c26
                            clear c26
                            have H' := Aside0.mk H
                            clear H
                            have p145 : 0 ≤ ((ji24) : Int) := of_decide_eq_true (by first | (with_reducible assumption) | assumption)
                            have q145 : (ji24) < (t139.length : Int) := of_decide_eq_true (by first | (with_reducible assumption) | assumption)
                            obtain ⟨ad145, e145, hx145_0⟩ := Kd.at_int (Kd.R_reads' HO_9.out).2.2 (ji24) p145 q145
                            cases e145
                            replace p145 := eq_true p145
                            replace q145 := eq_true q145
                            go_wp2
                            go_meet
                            case rel => exact ⟨_, (rd t139 (ji24)), (by first | rfl | (simp; done) | (simp only [← hji24] <;> (first | rfl | simp)) | (simp [*]; done)), H', ⟨by have := HJ5.out; have := HK2.out; have := HJ17.out; have := HJ19.out; first | omega | exact Nat.le_refl _⟩, ⟨by repeat (first | (with_reducible first | exact HB.out | apply below_alloc | apply pw_below_drewN | apply below_drew1) | exact HB.out)⟩⟩
                          · rw [if_neg c26] at H
                            exact absurd H (by simp)
                        · rw [if_neg c25] at H
                          exact absurd H (by simp)
                      · replace c23 := Bool.eq_false_iff.mpr c23
                        subst c23
                        have H1 : (linguistlaw4_CharsetTells.j4 kj19 a0 x1_5 x10_2 x11_2 x14_17) = some r := by rw [if_neg (show ¬ (false = true) by decide)] at H; exact H
                        clear H
                        have H := H1
                        clear H1
                        have H' := Aside0.mk H
                        clear H
                        go_wp2
                        go_meet
                        case rel => exact ⟨_, (x14_17), (by first | rfl | (simp; done) | (simp [*]; done)), H', ⟨by have := HJ5.out; have := HK2.out; have := HJ17.out; have := HJ19.out; first | omega | exact Nat.le_refl _⟩, ⟨by repeat (first | (with_reducible first | exact HB.out | apply below_alloc | apply pw_below_drewN | apply below_drew1) | exact HB.out)⟩⟩
                    case rest =>
                      clear HC22
                      try clear c1
                      try clear p1
                      try clear q1
                      try clear hx1
                      try clear c2
                      try clear p2
                      try clear p3
                      try clear c4
                      try clear p6
                      try clear c8
                      try clear c10
                      try clear c10b0
                      try clear c11
                      try clear c11b0
                      try clear c12
                      try clear c13
                      try clear c14
                      try clear c14b0
                      try clear p14
                      try clear q14
                      try clear hx14
                      try clear c15
                      try clear c15b0
                      try clear c16
                      try clear c16b0
                      try clear c17
                      try clear c17b0
                      try clear c17b1
                      try clear c19
                      try clear c19b0
                      try clear c19b1
                      try clear c21
                      try clear c21b0
                      try clear c23
                      try clear c25
                      try clear c25b0
                      try clear c26
                      try clear c26b0
                      try clear hx143_0
                      try clear hx144_0
                      try clear hx145_0
                      try clear p1
                      try clear p14
                      try clear p143
                      try clear p144
                      try clear p145
                      try clear p2
                      try clear p3
                      try clear p6
                      try clear q1
                      try clear q14
                      try clear q143
                      try clear q144
                      try clear q145
                      obtain ⟨kq, x14_21, rfl, HA, HJ21, HB⟩ := hcut
                      cases kq with
                      | zero => exact absurd HA.out (by simp [linguistlaw4_CharsetTells.j4])
                      | succ kj21 =>
                        have H := HA.out
                        clear HA
                        simp only [linguistlaw4_CharsetTells.j4] at H
                        replace H := Option.bind_eq_some_iff.mp H
                        obtain ⟨⟨t146, t147⟩, A270, H⟩ := H
                        replace H : ((charset_Draw.f a0).bind fun t148 => (if t148 = x14_21 then (if t146 = x10_2 then (if (t147 == x11_2) = true then ((charset_Plain.f kj21 x1_5).bind fun t149 => ((linguistref1_Plain.f kj21 x1_5).bind fun t150 => (if t149 = t150 then ((linguistlaw4_CharsetRuns.f kj21).bind fun t151 => (some t151)) else (some false)))) else (some false)) else (some false)) else (some false))) = some r := H
                        have A27 := Aside0.mk A270
                        clear A270
                        replace H := Option.bind_eq_some_iff.mp H
                        obtain ⟨t148, A280, H⟩ := H
                        replace H : (if t148 = x14_21 then (if t146 = x10_2 then (if (t147 == x11_2) = true then ((charset_Plain.f kj21 x1_5).bind fun t149 => ((linguistref1_Plain.f kj21 x1_5).bind fun t150 => (if t149 = t150 then ((linguistlaw4_CharsetRuns.f kj21).bind fun t151 => (some t151)) else (some false)))) else (some false)) else (some false)) else (some false)) = some r := H
                        have A28 := Aside0.mk A280
                        clear A280
                        by_cases c29 : t148 = x14_21
                        · rw [if_pos c29] at H
                          have c29b0 : (t148 == x14_21) = true := beq_iff_eq.mpr c29
                          have c29b1 : (t148 != x14_21) = false := bne_eq_false_iff_eq.mpr c29
                          clear c29
                          by_cases c30 : t146 = x10_2
                          · rw [if_pos c30] at H
                            have c30b0 : (t146 == x10_2) = true := beq_iff_eq.mpr c30
                            have c30b1 : (t146 != x10_2) = false := bne_eq_false_iff_eq.mpr c30
                            clear c30
                            by_cases c31 : (t147 == x11_2) = true
                            · rw [if_pos c31] at H
                              have c31b0 : (t147 == x11_2) = true := c31
                              (try (have c31b1 : decide (t147 = x11_2) = true := by simpa using c31))
                              (try (have c31b2 : (t147 == x11_2) = true := by simpa using c31))
                              clear c31
                              replace H := Option.bind_eq_some_iff.mp H
                              obtain ⟨t149, A320, H⟩ := H
                              replace H : ((linguistref1_Plain.f kj21 x1_5).bind fun t150 => (if t149 = t150 then ((linguistlaw4_CharsetRuns.f kj21).bind fun t151 => (some t151)) else (some false))) = some r := H
                              have A32 := Aside0.mk A320
                              clear A320
                              replace H := Option.bind_eq_some_iff.mp H
                              obtain ⟨t150, A330, H⟩ := H
                              replace H : (if t149 = t150 then ((linguistlaw4_CharsetRuns.f kj21).bind fun t151 => (some t151)) else (some false)) = some r := H
                              have A33 := Aside0.mk A330
                              clear A330
                              by_cases c34 : t149 = t150
                              · rw [if_pos c34] at H
                                have c34b0 : (t149 == t150) = true := beq_iff_eq.mpr c34
                                have c34b1 : (t149 != t150) = false := bne_eq_false_iff_eq.mpr c34
                                clear c34
                                replace H := Option.bind_eq_some_iff.mp H
                                obtain ⟨t151, A350, H⟩ := H
                                replace H : (some t151) = some r := H
                                have A35 := Aside0.mk A350
                                clear A350
                                obtain rfl := Option.some.inj H
                                go_wp2_with (first | ((with_reducible refine gate_callee (f := 7) rfl ?_); refine goesL_ (some 58) rfl rfl Try.func7 (by kernel_rfl) rfl #[.int .i32 x1_5] rfl (by (try simp only [List.map_toArray, List.map_cons, List.map_nil]); first | done | rfl | (simp only [List.length_drop, List.length_take]; rfl)) ?_; (with_reducible refine (charset_Undraw.calls kj21 x1_5 t146 t147 _ A27.out).mono ?_); rintro e w36 ⟨rfl, hb⟩; refine ⟨_, rfl, ?_⟩; have n0_ := Aside0.mk (below_step (by repeat (first | (with_reducible first | exact HB.out | apply below_alloc | apply pw_below_drewN | apply below_drew1) | exact HB.out)) hb); clear HB; have HB := n0_; clear n0_; (try clear hb); (try clear hb2); (try clear hk); (try clear hi)) | ((with_reducible refine gate_callee (f := 8) rfl ?_); refine goesL_ (some 62) rfl rfl Try.func8 (by kernel_rfl) rfl #[.int .u8 a0] rfl (by (try simp only [List.map_toArray, List.map_cons, List.map_nil]); first | done | rfl | (simp only [List.length_drop, List.length_take]; rfl)) ?_; (with_reducible refine (charset_Draw.calls a0 t148 _ A28.out).mono ?_); rintro e w37 ⟨rfl, hb⟩; refine ⟨_, rfl, ?_⟩; have n0_ := Aside0.mk (below_step (by repeat (first | (with_reducible first | exact HB.out | apply below_alloc | apply pw_below_drewN | apply below_drew1) | exact HB.out)) hb); clear HB; have HB := n0_; clear n0_; (try clear hb); (try clear hb2); (try clear hk); (try clear hi)) | (go_at_call 9; (with_reducible refine (charset_Plain.calls kj21 x1_5 t149 _ A32.out).mono ?_); rintro e w38 ⟨rfl, hb⟩; have n0_ := Aside0.mk (below_step (by repeat (first | (with_reducible first | exact HB.out | apply below_alloc | apply pw_below_drewN | apply below_drew1) | exact HB.out)) hb); clear HB; have HB := n0_; clear n0_; (try clear hb); (try clear hb2); (try clear hk); (try clear hi)) | (go_at_call 14; (with_reducible refine (linguistref1_Plain.calls kj21 x1_5 t150 _ A33.out).mono ?_); rintro e w39 ⟨rfl, hb⟩; have n0_ := Aside0.mk (below_step (by repeat (first | (with_reducible first | exact HB.out | apply below_alloc | apply pw_below_drewN | apply below_drew1) | exact HB.out)) hb); clear HB; have HB := n0_; clear n0_; (try clear hb); (try clear hb2); (try clear hk); (try clear hi)) | (go_at_call 3; (with_reducible refine (linguistlaw4_CharsetRuns.calls kj21  t151 _ A35.out).mono ?_); rintro e w40 ⟨rfl, hb⟩; have n0_ := Aside0.mk (below_step (by repeat (first | (with_reducible first | exact HB.out | apply below_alloc | apply pw_below_drewN | apply below_drew1) | exact HB.out)) hb); clear HB; have HB := n0_; clear n0_; (try clear hb); (try clear hb2); (try clear hk); (try clear hi)))
                                go_ret
                                exact ⟨by first | rfl | (simp [errW_none, errW_some] <;> rfl) | (simp [*, errW_none, errW_some] <;> rfl), by repeat (first | (with_reducible first | exact HB.out | apply below_alloc | apply pw_below_drewN | apply below_drew1) | exact HB.out)⟩
                              · rw [if_neg c34] at H
                                have c34b0 : (t149 == t150) = false := beq_eq_false_iff_ne.mpr c34
                                have c34b1 : (t149 != t150) = true := bne_iff_ne.mpr c34
                                obtain rfl := Option.some.inj H
                                go_wp2_with (first | ((with_reducible refine gate_callee (f := 7) rfl ?_); refine goesL_ (some 58) rfl rfl Try.func7 (by kernel_rfl) rfl #[.int .i32 x1_5] rfl (by (try simp only [List.map_toArray, List.map_cons, List.map_nil]); first | done | rfl | (simp only [List.length_drop, List.length_take]; rfl)) ?_; (with_reducible refine (charset_Undraw.calls kj21 x1_5 t146 t147 _ A27.out).mono ?_); rintro e w41 ⟨rfl, hb⟩; refine ⟨_, rfl, ?_⟩; have n0_ := Aside0.mk (below_step (by repeat (first | (with_reducible first | exact HB.out | apply below_alloc | apply pw_below_drewN | apply below_drew1) | exact HB.out)) hb); clear HB; have HB := n0_; clear n0_; (try clear hb); (try clear hb2); (try clear hk); (try clear hi)) | ((with_reducible refine gate_callee (f := 8) rfl ?_); refine goesL_ (some 62) rfl rfl Try.func8 (by kernel_rfl) rfl #[.int .u8 a0] rfl (by (try simp only [List.map_toArray, List.map_cons, List.map_nil]); first | done | rfl | (simp only [List.length_drop, List.length_take]; rfl)) ?_; (with_reducible refine (charset_Draw.calls a0 t148 _ A28.out).mono ?_); rintro e w42 ⟨rfl, hb⟩; refine ⟨_, rfl, ?_⟩; have n0_ := Aside0.mk (below_step (by repeat (first | (with_reducible first | exact HB.out | apply below_alloc | apply pw_below_drewN | apply below_drew1) | exact HB.out)) hb); clear HB; have HB := n0_; clear n0_; (try clear hb); (try clear hb2); (try clear hk); (try clear hi)) | (go_at_call 9; (with_reducible refine (charset_Plain.calls kj21 x1_5 t149 _ A32.out).mono ?_); rintro e w43 ⟨rfl, hb⟩; have n0_ := Aside0.mk (below_step (by repeat (first | (with_reducible first | exact HB.out | apply below_alloc | apply pw_below_drewN | apply below_drew1) | exact HB.out)) hb); clear HB; have HB := n0_; clear n0_; (try clear hb); (try clear hb2); (try clear hk); (try clear hi)) | (go_at_call 14; (with_reducible refine (linguistref1_Plain.calls kj21 x1_5 t150 _ A33.out).mono ?_); rintro e w44 ⟨rfl, hb⟩; have n0_ := Aside0.mk (below_step (by repeat (first | (with_reducible first | exact HB.out | apply below_alloc | apply pw_below_drewN | apply below_drew1) | exact HB.out)) hb); clear HB; have HB := n0_; clear n0_; (try clear hb); (try clear hb2); (try clear hk); (try clear hi)))
                                go_ret
                                exact ⟨by first | rfl | (simp [errW_none, errW_some] <;> rfl) | (simp [*, errW_none, errW_some] <;> rfl), by repeat (first | (with_reducible first | exact HB.out | apply below_alloc | apply pw_below_drewN | apply below_drew1) | exact HB.out)⟩
                            · rw [if_neg c31] at H
                              have c31b0 : (t147 == x11_2) = false := by simpa using c31
                              (try (have c31b1 : decide (t147 = x11_2) = false := by simpa using c31))
                              (try (have c31b2 : (t147 == x11_2) = false := by simpa using c31))
                              (try (have c31b3 : ¬ (t147 = x11_2) := by simpa using c31))
                              clear c31
                              obtain rfl := Option.some.inj H
                              go_wp2_with (first | ((with_reducible refine gate_callee (f := 7) rfl ?_); refine goesL_ (some 58) rfl rfl Try.func7 (by kernel_rfl) rfl #[.int .i32 x1_5] rfl (by (try simp only [List.map_toArray, List.map_cons, List.map_nil]); first | done | rfl | (simp only [List.length_drop, List.length_take]; rfl)) ?_; (with_reducible refine (charset_Undraw.calls kj21 x1_5 t146 t147 _ A27.out).mono ?_); rintro e w45 ⟨rfl, hb⟩; refine ⟨_, rfl, ?_⟩; have n0_ := Aside0.mk (below_step (by repeat (first | (with_reducible first | exact HB.out | apply below_alloc | apply pw_below_drewN | apply below_drew1) | exact HB.out)) hb); clear HB; have HB := n0_; clear n0_; (try clear hb); (try clear hb2); (try clear hk); (try clear hi)) | ((with_reducible refine gate_callee (f := 8) rfl ?_); refine goesL_ (some 62) rfl rfl Try.func8 (by kernel_rfl) rfl #[.int .u8 a0] rfl (by (try simp only [List.map_toArray, List.map_cons, List.map_nil]); first | done | rfl | (simp only [List.length_drop, List.length_take]; rfl)) ?_; (with_reducible refine (charset_Draw.calls a0 t148 _ A28.out).mono ?_); rintro e w46 ⟨rfl, hb⟩; refine ⟨_, rfl, ?_⟩; have n0_ := Aside0.mk (below_step (by repeat (first | (with_reducible first | exact HB.out | apply below_alloc | apply pw_below_drewN | apply below_drew1) | exact HB.out)) hb); clear HB; have HB := n0_; clear n0_; (try clear hb); (try clear hb2); (try clear hk); (try clear hi)))
                              go_ret
                              exact ⟨by first | rfl | (simp [errW_none, errW_some] <;> rfl) | (simp [*, errW_none, errW_some] <;> rfl), by repeat (first | (with_reducible first | exact HB.out | apply below_alloc | apply pw_below_drewN | apply below_drew1) | exact HB.out)⟩
                          · rw [if_neg c30] at H
                            have c30b0 : (t146 == x10_2) = false := beq_eq_false_iff_ne.mpr c30
                            have c30b1 : (t146 != x10_2) = true := bne_iff_ne.mpr c30
                            obtain rfl := Option.some.inj H
                            go_wp2_with (first | ((with_reducible refine gate_callee (f := 7) rfl ?_); refine goesL_ (some 58) rfl rfl Try.func7 (by kernel_rfl) rfl #[.int .i32 x1_5] rfl (by (try simp only [List.map_toArray, List.map_cons, List.map_nil]); first | done | rfl | (simp only [List.length_drop, List.length_take]; rfl)) ?_; (with_reducible refine (charset_Undraw.calls kj21 x1_5 t146 t147 _ A27.out).mono ?_); rintro e w47 ⟨rfl, hb⟩; refine ⟨_, rfl, ?_⟩; have n0_ := Aside0.mk (below_step (by repeat (first | (with_reducible first | exact HB.out | apply below_alloc | apply pw_below_drewN | apply below_drew1) | exact HB.out)) hb); clear HB; have HB := n0_; clear n0_; (try clear hb); (try clear hb2); (try clear hk); (try clear hi)) | ((with_reducible refine gate_callee (f := 8) rfl ?_); refine goesL_ (some 62) rfl rfl Try.func8 (by kernel_rfl) rfl #[.int .u8 a0] rfl (by (try simp only [List.map_toArray, List.map_cons, List.map_nil]); first | done | rfl | (simp only [List.length_drop, List.length_take]; rfl)) ?_; (with_reducible refine (charset_Draw.calls a0 t148 _ A28.out).mono ?_); rintro e w48 ⟨rfl, hb⟩; refine ⟨_, rfl, ?_⟩; have n0_ := Aside0.mk (below_step (by repeat (first | (with_reducible first | exact HB.out | apply below_alloc | apply pw_below_drewN | apply below_drew1) | exact HB.out)) hb); clear HB; have HB := n0_; clear n0_; (try clear hb); (try clear hb2); (try clear hk); (try clear hi)))
                            go_ret
                            exact ⟨by first | rfl | (simp [errW_none, errW_some] <;> rfl) | (simp [*, errW_none, errW_some] <;> rfl), by repeat (first | (with_reducible first | exact HB.out | apply below_alloc | apply pw_below_drewN | apply below_drew1) | exact HB.out)⟩
                        · rw [if_neg c29] at H
                          have c29b0 : (t148 == x14_21) = false := beq_eq_false_iff_ne.mpr c29
                          have c29b1 : (t148 != x14_21) = true := bne_iff_ne.mpr c29
                          obtain rfl := Option.some.inj H
                          go_wp2_with (first | ((with_reducible refine gate_callee (f := 7) rfl ?_); refine goesL_ (some 58) rfl rfl Try.func7 (by kernel_rfl) rfl #[.int .i32 x1_5] rfl (by (try simp only [List.map_toArray, List.map_cons, List.map_nil]); first | done | rfl | (simp only [List.length_drop, List.length_take]; rfl)) ?_; (with_reducible refine (charset_Undraw.calls kj21 x1_5 t146 t147 _ A27.out).mono ?_); rintro e w49 ⟨rfl, hb⟩; refine ⟨_, rfl, ?_⟩; have n0_ := Aside0.mk (below_step (by repeat (first | (with_reducible first | exact HB.out | apply below_alloc | apply pw_below_drewN | apply below_drew1) | exact HB.out)) hb); clear HB; have HB := n0_; clear n0_; (try clear hb); (try clear hb2); (try clear hk); (try clear hi)) | ((with_reducible refine gate_callee (f := 8) rfl ?_); refine goesL_ (some 62) rfl rfl Try.func8 (by kernel_rfl) rfl #[.int .u8 a0] rfl (by (try simp only [List.map_toArray, List.map_cons, List.map_nil]); first | done | rfl | (simp only [List.length_drop, List.length_take]; rfl)) ?_; (with_reducible refine (charset_Draw.calls a0 t148 _ A28.out).mono ?_); rintro e w50 ⟨rfl, hb⟩; refine ⟨_, rfl, ?_⟩; have n0_ := Aside0.mk (below_step (by repeat (first | (with_reducible first | exact HB.out | apply below_alloc | apply pw_below_drewN | apply below_drew1) | exact HB.out)) hb); clear HB; have HB := n0_; clear n0_; (try clear hb); (try clear hb2); (try clear hk); (try clear hi)))
                          go_ret
                          exact ⟨by first | rfl | (simp [errW_none, errW_some] <;> rfl) | (simp [*, errW_none, errW_some] <;> rfl), by repeat (first | (with_reducible first | exact HB.out | apply below_alloc | apply pw_below_drewN | apply below_drew1) | exact HB.out)⟩

/-- THE ONE PURE STATEMENT of linguistlaw4_CharsetTells: yours. -/
def linguistlaw4_CharsetTells.Pure : Prop := ∀ (a0 : Int) (a1 : Int) (a2 : Int) (a3 : Bool), (Lit.int .u8 a0).wf = true → (Lit.int .i32 a1).wf = true → (Lit.int .i64 a2).wf = true → ∃ k, linguistlaw4_CharsetTells.f k a0 a1 a2 a3 = some true
theorem linguistlaw4_CharsetTells.walk (P : linguistlaw4_CharsetTells.Pure) (a0 : Int) (a1 : Int) (a2 : Int) (a3 : Bool) (w : World) (w0 : (Lit.int .u8 a0).wf = true) (w1 : (Lit.int .i32 a1).wf = true) (w2 : (Lit.int .i64 a2).wf = true) :
    Calls Try.prog 4 #[.int .u8 a0, .int .i32 a1, .int .i64 a2, .bool a3] w fun e w' => e = .returned (.bool true) ∧ Below w.heap.size w w' := by
  obtain ⟨k, h⟩ := P a0 a1 a2 a3 w0 w1 w2
  refine (linguistlaw4_CharsetTells.calls k a0 a1 a2 a3 true w h).mono ?_
  rintro e w' ⟨rfl, hd⟩
  exact ⟨rfl, hd⟩

end Go.Proofs.Ytdobkoiimcneiaa.PCharsetTells
