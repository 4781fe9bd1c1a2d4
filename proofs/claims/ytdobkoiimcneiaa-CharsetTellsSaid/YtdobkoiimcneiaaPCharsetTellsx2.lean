-- PRINTED BY print.sh 35421559b90ae4d0a3588c463048766b98c2df88dd9212a6774a882060cdf62d: not written by this session
import Derived.Test.YtdobkoiimcneiaaPCharsetTellsx0
import Derived.Test.YtdobkoiimcneiaaPCharsetTellsx1
namespace Go.Proofs.Ytdobkoiimcneiaa.PCharsetTells
open Go.RowKit Go.Proofs.YtdobkoiimcneiaaW.PrintWords Go.Proofs.YtdobkoiimcneiaaW.PrintLast Go.Proofs.YtdobkoiimcneiaaW.PrintMore
attribute [local go_sem] max2_int min2_int max_two min_two max_three min_three max_four min_four   -- for this text's walks alone
set_option linter.unusedVariables false
set_option linter.unusedSimpArgs false

/-! ### linguistref1_Plain: function 14 -/
mutual
def linguistref1_Plain.j0 : Nat → Int → Bool → Option (Int)
  | 0, _, _ => none
  | k + 1, x0, x10 => if x10 = true then (some ((x0) % 256)) else ((linguistref1_Drawn.f).bind fun t134 => (linguistref1_Plain.l0 k x0 t134 (t134.length : Int) 0))
def linguistref1_Plain.l0 : Nat → Int → List Int → Int → Int → Option (Int)
  | 0, _, _, _, _ => none
  | k + 1, x0, x13, x14, x15 => if x15 < x14 then (if 0 ≤ x15 then (if x15 < (x13.length : Int) then (if (rd x13 x15) = x0 then ((linguistref1_plainTable.f).bind fun t138 => (if x15 < (t138.size : Int) then (some (bt t138 x15)) else (none))) else (linguistref1_Plain.l0 k x0 x13 x14 (wrap64 (x15 + 1)))) else (none)) else (none)) else (some 63)
end
def linguistref1_Plain.f (k : Nat) (a0 : Int) : Option (Int) := if a0 ≥ 32 then (linguistref1_Plain.j0 k a0 (decide (a0 < 127))) else (linguistref1_Plain.j0 k a0 false)
theorem linguistref1_Plain.mono_l : ∀ k, (∀ y0 y1, LeO (linguistref1_Plain.j0 k y0 y1) (linguistref1_Plain.j0 (k + 1) y0 y1)) ∧ (∀ y0 y1 y2 y3, LeO (linguistref1_Plain.l0 k y0 y1 y2 y3) (linguistref1_Plain.l0 (k + 1) y0 y1 y2 y3))
  | 0 => ⟨fun _ _ r h => by simp [linguistref1_Plain.j0] at h, fun _ _ _ _ r h => by simp [linguistref1_Plain.l0] at h⟩
  | k + 1 => by
    obtain ⟨ih0, ih1⟩ := linguistref1_Plain.mono_l k
    refine ⟨?_, ?_⟩
    · intro y0 y1
      unfold linguistref1_Plain.j0
      repeat' first
      | (with_reducible exact ih0 _ _)
      | (with_reducible exact ih1 _ _ _ _)
      | (with_reducible exact LeO.refl _)
      | (with_reducible exact LeO.none _)
      | (with_reducible refine LeO.ite ?_ ?_)
      | (with_reducible refine LeO.bind ?_ (fun _ => ?_))
      | exact ih0 _ _
      | exact ih1 _ _ _ _
      | exact LeO.none _
      | refine LeO.ite ?_ ?_
      | refine LeO.bind ?_ (fun _ => ?_)
    · intro y0 y1 y2 y3
      unfold linguistref1_Plain.l0
      repeat' first
      | (with_reducible exact ih0 _ _)
      | (with_reducible exact ih1 _ _ _ _)
      | (with_reducible exact LeO.refl _)
      | (with_reducible exact LeO.none _)
      | (with_reducible refine LeO.ite ?_ ?_)
      | (with_reducible refine LeO.bind ?_ (fun _ => ?_))
      | exact ih0 _ _
      | exact ih1 _ _ _ _
      | exact LeO.none _
      | refine LeO.ite ?_ ?_
      | refine LeO.bind ?_ (fun _ => ?_)
theorem linguistref1_Plain.mono : ∀ a0 k, LeO (linguistref1_Plain.f k a0) (linguistref1_Plain.f (k + 1) a0) := by
  intro a0 k
  obtain ⟨ih0, ih1⟩ := linguistref1_Plain.mono_l k
  unfold linguistref1_Plain.f
  repeat' first
      | (with_reducible exact ih0 _ _)
      | (with_reducible exact ih1 _ _ _ _)
      | (with_reducible exact LeO.refl _)
      | (with_reducible exact LeO.none _)
      | (with_reducible refine LeO.ite ?_ ?_)
      | (with_reducible refine LeO.bind ?_ (fun _ => ?_))
      | exact ih0 _ _
      | exact ih1 _ _ _ _
      | exact LeO.none _
      | refine LeO.ite ?_ ?_
      | refine LeO.bind ?_ (fun _ => ?_)
set_option maxHeartbeats 8000000 in
set_option maxRecDepth 100000 in
theorem linguistref1_Plain.calls (k : Nat) (a0 : Int) (r : Int) (w : World) (h : linguistref1_Plain.f k a0 = some r) :
    Calls Try.prog 14 #[.int .i32 a0] w fun e w' => e = .returned (.int .u8 r) ∧ Below w.heap.size w w' := by
  have HB := Aside0.mk (Below.refl w.heap.size w)
  have H : (if a0 ≥ 32 then (linguistref1_Plain.j0 k a0 (decide (a0 < 127))) else (linguistref1_Plain.j0 k a0 false)) = some r := h
  clear h
  have HC2 := Aside0.mk H
  clear H
  go_enter Try.func14, Try.ntmps14
  go_upto_region 1 with (fail)
  go_cut [10] (fun v10 wc => ∃ (kq : Nat) (x10_1 : Bool), v10 = .bool x10_1 ∧ Aside0 (linguistref1_Plain.j0 kq a0 x10_1 = some r) ∧ Aside0 (kq ≤ k) ∧ Aside0 (Below w.heap.size w wc))
  case first =>
    have H := HC2.out
    clear HC2
    by_cases c3 : a0 ≥ 32
    · rw [if_pos c3] at H
      have c3b0 : decide (32 ≤ a0) = true := decide_eq_true c3
      clear c3
      (first | rw [c3b0] | (simp only [i64_w, i32_w]; rw [c3b0]) | skip)
      have H' := Aside0.mk H
      clear H
      go_wp2
      go_meet
      case rel => exact ⟨_, (decide (a0 < 127)), (by first | rfl | (simp; done) | (simp [*]; done)), H', ⟨by first | omega | exact Nat.le_refl _⟩, ⟨by repeat (first | (with_reducible first | exact HB.out | apply below_alloc | apply pw_below_drewN | apply below_drew1) | exact HB.out)⟩⟩
    · rw [if_neg c3] at H
      have c3b0 : decide (32 ≤ a0) = false := decide_eq_false c3
      clear c3
      (first | rw [c3b0] | (simp only [i64_w, i32_w]; rw [c3b0]) | skip)
      have H' := Aside0.mk H
      clear H
      go_wp2
      go_meet
      case rel => exact ⟨_, (false), (by first | rfl | (simp; done) | (simp [*]; done)), H', ⟨by first | omega | exact Nat.le_refl _⟩, ⟨by repeat (first | (with_reducible first | exact HB.out | apply below_alloc | apply pw_below_drewN | apply below_drew1) | exact HB.out)⟩⟩
  case rest =>
    clear HC2
    try clear c1
    try clear p2
    try clear c3
    try clear c3b0
    obtain ⟨kq, x10_1, rfl, HA, HJ1, HB⟩ := hcut
    cases kq with
    | zero => exact absurd HA.out (by simp [linguistref1_Plain.j0])
    | succ kj1 =>
      have H := HA.out
      clear HA
      simp only [linguistref1_Plain.j0] at H
      by_cases c4 : x10_1 = true
      · subst c4
        have H1 : (some ((a0) % 256)) = some r := by rw [if_pos rfl] at H; exact H
        clear H
        have H := H1
        clear H1
        obtain rfl := Option.some.inj H
        go_wp2
        go_ret
        exact ⟨by first | rfl | (simp [errW_none, errW_some] <;> rfl) | (simp [*, errW_none, errW_some] <;> rfl), by repeat (first | (with_reducible first | exact HB.out | apply below_alloc | apply pw_below_drewN | apply below_drew1) | exact HB.out)⟩
      · replace c4 := Bool.eq_false_iff.mpr c4
        subst c4
        have H1 : ((linguistref1_Drawn.f).bind fun t134 => (linguistref1_Plain.l0 kj1 a0 t134 (t134.length : Int) 0)) = some r := by rw [if_neg (show ¬ (false = true) by decide)] at H; exact H
        clear H
        have H := H1
        clear H1
        replace H := Option.bind_eq_some_iff.mp H
        obtain ⟨t134, A50, H⟩ := H
        replace H : (linguistref1_Plain.l0 kj1 a0 t134 (t134.length : Int) 0) = some r := H
        have A5 := Aside0.mk A50
        clear A50
        have H' := Aside0.mk H
        clear H
        go_wp2_with (first | ((with_reducible refine gate_callee (f := 12) rfl ?_); refine goesL_ (some 13) rfl rfl Try.func12 (by kernel_rfl) rfl #[] rfl (by (try simp only [List.map_toArray, List.map_cons, List.map_nil]); first | done | rfl | (simp only [List.length_drop, List.length_take]; rfl)) ?_; (with_reducible refine (linguistref1_Drawn.calls  t134 _ A5.out).mono ?_); rintro e w6 ⟨v135, rfl, ho0, hb⟩; refine ⟨_, rfl, ?_⟩; have n0_ := Aside0.mk (Kd.R_lower ho0 (below_size (by repeat (first | (with_reducible first | exact HB.out | apply below_alloc | apply pw_below_drewN | apply below_drew1) | exact HB.out)))); have n1_ := Aside0.mk (below_step (by repeat (first | (with_reducible first | exact HB.out | apply below_alloc | apply pw_below_drewN | apply below_drew1) | exact HB.out)) hb); clear HB; have HO136 := n0_; have HB := n1_; clear n0_ n1_; (try clear hb); (try clear hb2); (try clear hk); (try clear hi); (try clear ho0); obtain ⟨Ao7, co7, eo7⟩ := Kd.R_slice HO136.out; subst eo7))
        go_loopg [15] kj1 (fun kq v15 w' => ∃ (x15_2 : Int), v15 = .int .i64 x15_2 ∧ Aside0 (linguistref1_Plain.l0 kq a0 t134 (t134.length : Int) x15_2 = some r) ∧ Aside0 (kq ≤ kj1) ∧ Aside0 (Kd.R (Kd.int .i32) 21 w' w.heap.size (fun _ => True) (.slice Ao7 t134.length co7) t134) ∧ Aside0 (Below w.heap.size w w'))
        case atStart => exact ⟨(0), (by first | rfl | (simp; done) | (simp [*]; done)), H', ⟨Nat.le_refl _⟩, ⟨by (with_reducible repeat (first | apply Kd.R_alloc | apply Kd.R_drewN | apply Kd.R_drew)); exact HO136.out⟩, ⟨by repeat (first | (with_reducible first | exact HB.out | apply below_alloc | apply pw_below_drewN | apply below_drew1) | exact HB.out)⟩⟩
        case round =>
          clear H'
          try clear c1
          try clear p2
          try clear c3
          try clear c3b0
          try clear c4
          try clear p2
          obtain ⟨x15_2, rfl, HA, HK2, HO_13, HB⟩ := hrel
          cases gk with
          | zero => exact absurd HA.out (by simp [linguistref1_Plain.l0])
          | succ k2 =>
            have H := HA.out
            clear HA
            simp only [linguistref1_Plain.l0] at H
            by_cases c8 : x15_2 < (t134.length : Int)
            · rw [if_pos c8] at H
              have c8b0 : decide (x15_2 < (t134.length : Int)) = true := decide_eq_true c8
              clear c8
              by_cases c9 : 0 ≤ x15_2
              · rw [if_pos c9] at H
                have c9b0 : decide (0 ≤ x15_2) = true := decide_eq_true c9
                clear c9
                by_cases c10 : x15_2 < (t134.length : Int)
                · rw [if_pos c10] at H
                  have c10b0 : decide (x15_2 < (t134.length : Int)) = true := decide_eq_true c10
                  clear c10
                  by_cases c11 : (rd t134 x15_2) = a0
                  · rw [if_pos c11] at H
                    have c11b0 : ((rd t134 x15_2) == a0) = true := beq_iff_eq.mpr c11
                    have c11b1 : ((rd t134 x15_2) != a0) = false := bne_eq_false_iff_eq.mpr c11
                    clear c11
                    replace H := Option.bind_eq_some_iff.mp H
                    obtain ⟨t138, A120, H⟩ := H
                    replace H : (if x15_2 < (t138.size : Int) then (some (bt t138 x15_2)) else (none)) = some r := H
                    have A12 := Aside0.mk A120
                    clear A120
                    by_cases c13 : x15_2 < (t138.size : Int)
                    · rw [if_pos c13] at H
                      have c13b0 : decide (x15_2 < (t138.size : Int)) = true := decide_eq_true c13
                      clear c13
                      obtain rfl := Option.some.inj H
                      have p137 : 0 ≤ (x15_2 : Int) := of_decide_eq_true (by first | (with_reducible assumption) | assumption)
                      have q137 : x15_2 < (t134.length : Int) := of_decide_eq_true (by first | (with_reducible assumption) | assumption)
                      obtain ⟨ad137, e137, hx137_0⟩ := Kd.at_int (Kd.R_reads' HO_13.out).2.2 x15_2 p137 q137
                      cases e137
                      replace p137 := eq_true p137
                      replace q137 := eq_true q137
                      go_wp2_with (first | ((with_reducible refine gate_callee (f := 16) rfl ?_); refine goesL_ (some 23) rfl rfl Try.func16 (by kernel_rfl) rfl #[] rfl (by (try simp only [List.map_toArray, List.map_cons, List.map_nil]); first | done | rfl | (simp only [List.length_drop, List.length_take]; rfl)) ?_; (with_reducible refine (linguistref1_plainTable.calls  t138 _ A12.out).mono ?_); rintro e w' ⟨rfl, ⟨nd, rfl⟩⟩; refine ⟨_, rfl, ?_⟩; have p14 : 0 ≤ (x15_2 : Int) := of_decide_eq_true (by first | (with_reducible assumption) | assumption); have q14 : x15_2 < (t138.size : Int) := of_decide_eq_true (by first | (with_reducible assumption) | assumption); have hx14 := bt_at t138 x15_2; replace p14 := eq_true p14; replace q14 := eq_true q14))
                      go_ret
                      exact ⟨by first | rfl | (simp [errW_none, errW_some] <;> rfl) | (simp [*, errW_none, errW_some] <;> rfl), by repeat (first | (with_reducible first | exact HB.out | apply below_alloc | apply pw_below_drewN | apply below_drew1) | exact HB.out)⟩
                    · rw [if_neg c13] at H
                      exact absurd H (by simp)
                  · rw [if_neg c11] at H
                    have c11b0 : ((rd t134 x15_2) == a0) = false := beq_eq_false_iff_ne.mpr c11
                    have c11b1 : ((rd t134 x15_2) != a0) = true := bne_iff_ne.mpr c11
                    have H' := Aside0.mk H
                    clear H
                    have p137 : 0 ≤ (x15_2 : Int) := of_decide_eq_true (by first | (with_reducible assumption) | assumption)
                    have q137 : x15_2 < (t134.length : Int) := of_decide_eq_true (by first | (with_reducible assumption) | assumption)
                    obtain ⟨ad137, e137, hx137_0⟩ := Kd.at_int (Kd.R_reads' HO_13.out).2.2 x15_2 p137 q137
                    cases e137
                    replace p137 := eq_true p137
                    replace q137 := eq_true q137
                    go_wp2
                    go_roundg k2
                    case measure => have := HJ1.out; have := HK2.out; omega
                    case rel => exact ⟨(wrap64 (x15_2 + 1)), (by first | rfl | (simp; done) | (simp [*]; done)), H', ⟨by have := HJ1.out; have := HK2.out; omega⟩, ⟨by (with_reducible repeat (first | apply Kd.R_alloc | apply Kd.R_drewN | apply Kd.R_drew)); exact HO_13.out⟩, ⟨by repeat (first | (with_reducible first | exact HB.out | apply below_alloc | apply pw_below_drewN | apply below_drew1) | exact HB.out)⟩⟩
                · rw [if_neg c10] at H
                  exact absurd H (by simp)
              · rw [if_neg c9] at H
                exact absurd H (by simp)
            · rw [if_neg c8] at H
              have c8b0 : decide (x15_2 < (t134.length : Int)) = false := decide_eq_false c8
              clear c8
              obtain rfl := Option.some.inj H
              go_wp2
              go_ret
              exact ⟨by first | rfl | (simp [errW_none, errW_some] <;> rfl) | (simp [*, errW_none, errW_some] <;> rfl), by repeat (first | (with_reducible first | exact HB.out | apply below_alloc | apply pw_below_drewN | apply below_drew1) | exact HB.out)⟩

end Go.Proofs.Ytdobkoiimcneiaa.PCharsetTells
