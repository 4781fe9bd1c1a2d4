-- Written by a program of this session (out of the kit's printer); Lean checks it.
import Derived.Test.YtnammlamdhpnpaaGUtfTellsx0
namespace Go.Proofs.Ytnammlamdhpnpaa.GUtfTells
open Go.RowKit Go.Proofs.YtnammlamdhpnpaaW.PrintWords Go.Proofs.YtnammlamdhpnpaaW.PrintLast Go.Proofs.YtnammlamdhpnpaaW.PrintMore
attribute [local go_sem] max2_int min2_int max_two min_two max_three min_three max_four min_four   -- for this text's walks alone
set_option linter.unusedVariables false
set_option linter.unusedSimpArgs false

/-! ### linguistref1_Decode: function 14 -/
mutual
def linguistref1_Decode.l0 : Nat → List Int → List Int → Int → Option (List Int × Int)
  | 0, _, _, _ => none
  | k + 1, x0, x4, x5 => if x5 < (x0.length : Int) then (if 0 ≤ x5 then (if (wrap64 (rd x0 x5)) < 128 then (if x4.length < 35184372088832 then (linguistref1_Decode.l0 k x0 (x4 ++ [wrap32 (wrap64 (rd x0 x5))]) (wrap64 (x5 + 1))) else (none)) else (if (wrap64 (rd x0 x5)) ≥ 194 then (linguistref1_Decode.j1 k x0 x4 x5 (wrap64 (rd x0 x5)) (decide ((wrap64 (rd x0 x5)) ≤ 223))) else (linguistref1_Decode.j1 k x0 x4 x5 (wrap64 (rd x0 x5)) false))) else (none)) else (some (x4, 0))
def linguistref1_Decode.j3 : Nat → List Int → List Int → Int → Int → Int → Option (List Int × Int)
  | 0, _, _, _, _, _ => none
  | k + 1, x0, x4, x5, x6, x7 => linguistref1_Decode.l1 k x0 x4 x5 x6 x7 1
def linguistref1_Decode.j5 : Nat → List Int → List Int → Int → Int → Int → Int → Option (List Int × Int)
  | 0, _, _, _, _, _, _ => none
  | k + 1, x0, x4, x5, x6, x7, x8 => if x8 ≤ x7 then (linguistref1_Decode.j6 k x0 x4 x5 x6 x7 x8 ((wrap64 (x5 + x8)) == (x0.length : Int))) else (linguistref1_Decode.j6 k x0 x4 x5 x6 x7 x8 false)
def linguistref1_Decode.j6 : Nat → List Int → List Int → Int → Int → Int → Int → Bool → Option (List Int × Int)
  | 0, _, _, _, _, _, _, _ => none
  | k + 1, x0, x4, x5, x6, x7, x8, x105 => if x105 = true then (some (x4, wrap64 ((x0.length : Int) - x5))) else ((some (([0, 128, 2048, 65536] : List Int) : List Int)).bind fun y261 => (if 0 ≤ x7 then (if x7 < (y261.length : Int) then (if x8 ≤ x7 then (if x4.length < 35184372088832 then (linguistref1_Decode.l0 k x0 (x4 ++ [65533]) (wrap64 (x5 + x8))) else (none)) else (if x6 < (rd y261 x7) then (if x4.length < 35184372088832 then (linguistref1_Decode.l0 k x0 (x4 ++ [65533]) (wrap64 (x5 + x8))) else (none)) else (if x6 > 1114111 then (if x4.length < 35184372088832 then (linguistref1_Decode.l0 k x0 (x4 ++ [65533]) (wrap64 (x5 + x8))) else (none)) else (if x6 ≥ 55296 then (if x6 ≤ 57343 then (if x4.length < 35184372088832 then (linguistref1_Decode.l0 k x0 (x4 ++ [65533]) (wrap64 (x5 + x8))) else (none)) else (if x4.length < 35184372088832 then (linguistref1_Decode.l0 k x0 (x4 ++ [wrap32 (x6)]) (wrap64 (x5 + x8))) else (none))) else (if x4.length < 35184372088832 then (linguistref1_Decode.l0 k x0 (x4 ++ [wrap32 (x6)]) (wrap64 (x5 + x8))) else (none)))))) else (none)) else (none)))
def linguistref1_Decode.l1 : Nat → List Int → List Int → Int → Int → Int → Int → Option (List Int × Int)
  | 0, _, _, _, _, _, _ => none
  | k + 1, x0, x4, x5, x6, x7, x8 => if x8 ≤ x7 then (if (wrap64 (x5 + x8)) < (x0.length : Int) then (if 0 ≤ (wrap64 (x5 + x8)) then (if (Go.bits .and .u8 (rd x0 (wrap64 (x5 + x8))) 192) = 128 then (linguistref1_Decode.l1 k x0 x4 x5 (Go.bits .or .i64 (wrap64 (x6 * 64)) (wrap64 (Go.bits .and .u8 (rd x0 (wrap64 (x5 + x8))) 63))) x7 (wrap64 (x8 + 1))) else (linguistref1_Decode.j5 k x0 x4 x5 x6 x7 x8)) else (none)) else (linguistref1_Decode.j5 k x0 x4 x5 x6 x7 x8)) else (linguistref1_Decode.j5 k x0 x4 x5 x6 x7 x8)
def linguistref1_Decode.j1 : Nat → List Int → List Int → Int → Int → Bool → Option (List Int × Int)
  | 0, _, _, _, _, _ => none
  | k + 1, x0, x4, x5, x6, x34 => if x34 = true then (linguistref1_Decode.j3 k x0 x4 x5 (Go.bits .and .i64 x6 31) 1) else (if x6 ≥ 224 then (linguistref1_Decode.j2 k x0 x4 x5 x6 (decide (x6 ≤ 239))) else (linguistref1_Decode.j2 k x0 x4 x5 x6 false))
def linguistref1_Decode.j2 : Nat → List Int → List Int → Int → Int → Bool → Option (List Int × Int)
  | 0, _, _, _, _, _ => none
  | k + 1, x0, x4, x5, x6, x43 => if x43 = true then (linguistref1_Decode.j3 k x0 x4 x5 (Go.bits .and .i64 x6 15) 2) else (if x6 ≥ 240 then (if x6 ≤ 244 then (linguistref1_Decode.j3 k x0 x4 x5 (Go.bits .and .i64 x6 7) 3) else (if x4.length < 35184372088832 then (linguistref1_Decode.l0 k x0 (x4 ++ [65533]) (wrap64 (x5 + 1))) else (none))) else (if x4.length < 35184372088832 then (linguistref1_Decode.l0 k x0 (x4 ++ [65533]) (wrap64 (x5 + 1))) else (none)))
end
def linguistref1_Decode.f (k : Nat) (l0 : List Int) : Option (List Int × Int) := linguistref1_Decode.l0 k l0 ([] : List Int) 0
theorem linguistref1_Decode.mono_l : ∀ k, (∀ y0 y1 y2, LeO (linguistref1_Decode.l0 k y0 y1 y2) (linguistref1_Decode.l0 (k + 1) y0 y1 y2)) ∧ (∀ y0 y1 y2 y3 y4, LeO (linguistref1_Decode.j3 k y0 y1 y2 y3 y4) (linguistref1_Decode.j3 (k + 1) y0 y1 y2 y3 y4)) ∧ (∀ y0 y1 y2 y3 y4 y5, LeO (linguistref1_Decode.j5 k y0 y1 y2 y3 y4 y5) (linguistref1_Decode.j5 (k + 1) y0 y1 y2 y3 y4 y5)) ∧ (∀ y0 y1 y2 y3 y4 y5 y6, LeO (linguistref1_Decode.j6 k y0 y1 y2 y3 y4 y5 y6) (linguistref1_Decode.j6 (k + 1) y0 y1 y2 y3 y4 y5 y6)) ∧ (∀ y0 y1 y2 y3 y4 y5, LeO (linguistref1_Decode.l1 k y0 y1 y2 y3 y4 y5) (linguistref1_Decode.l1 (k + 1) y0 y1 y2 y3 y4 y5)) ∧ (∀ y0 y1 y2 y3 y4, LeO (linguistref1_Decode.j1 k y0 y1 y2 y3 y4) (linguistref1_Decode.j1 (k + 1) y0 y1 y2 y3 y4)) ∧ (∀ y0 y1 y2 y3 y4, LeO (linguistref1_Decode.j2 k y0 y1 y2 y3 y4) (linguistref1_Decode.j2 (k + 1) y0 y1 y2 y3 y4))
  | 0 => ⟨fun _ _ _ r h => by simp [linguistref1_Decode.l0] at h, fun _ _ _ _ _ r h => by simp [linguistref1_Decode.j3] at h, fun _ _ _ _ _ _ r h => by simp [linguistref1_Decode.j5] at h, fun _ _ _ _ _ _ _ r h => by simp [linguistref1_Decode.j6] at h, fun _ _ _ _ _ _ r h => by simp [linguistref1_Decode.l1] at h, fun _ _ _ _ _ r h => by simp [linguistref1_Decode.j1] at h, fun _ _ _ _ _ r h => by simp [linguistref1_Decode.j2] at h⟩
  | k + 1 => by
    obtain ⟨ih0, ih1, ih2, ih3, ih4, ih5, ih6⟩ := linguistref1_Decode.mono_l k
    refine ⟨?_, ?_, ?_, ?_, ?_, ?_, ?_⟩
    · intro y0 y1 y2
      unfold linguistref1_Decode.l0
      repeat' first
      | (with_reducible exact ih0 _ _ _)
      | (with_reducible exact ih1 _ _ _ _ _)
      | (with_reducible exact ih2 _ _ _ _ _ _)
      | (with_reducible exact ih3 _ _ _ _ _ _ _)
      | (with_reducible exact ih4 _ _ _ _ _ _)
      | (with_reducible exact ih5 _ _ _ _ _)
      | (with_reducible exact ih6 _ _ _ _ _)
      | (with_reducible exact LeO.refl _)
      | (with_reducible exact LeO.none _)
      | (with_reducible refine LeO.ite ?_ ?_)
      | (with_reducible refine LeO.bind ?_ (fun _ => ?_))
      | exact ih0 _ _ _
      | exact ih1 _ _ _ _ _
      | exact ih2 _ _ _ _ _ _
      | exact ih3 _ _ _ _ _ _ _
      | exact ih4 _ _ _ _ _ _
      | exact ih5 _ _ _ _ _
      | exact ih6 _ _ _ _ _
      | exact LeO.none _
      | refine LeO.ite ?_ ?_
      | refine LeO.bind ?_ (fun _ => ?_)
    · intro y0 y1 y2 y3 y4
      unfold linguistref1_Decode.j3
      repeat' first
      | (with_reducible exact ih0 _ _ _)
      | (with_reducible exact ih1 _ _ _ _ _)
      | (with_reducible exact ih2 _ _ _ _ _ _)
      | (with_reducible exact ih3 _ _ _ _ _ _ _)
      | (with_reducible exact ih4 _ _ _ _ _ _)
      | (with_reducible exact ih5 _ _ _ _ _)
      | (with_reducible exact ih6 _ _ _ _ _)
      | (with_reducible exact LeO.refl _)
      | (with_reducible exact LeO.none _)
      | (with_reducible refine LeO.ite ?_ ?_)
      | (with_reducible refine LeO.bind ?_ (fun _ => ?_))
      | exact ih0 _ _ _
      | exact ih1 _ _ _ _ _
      | exact ih2 _ _ _ _ _ _
      | exact ih3 _ _ _ _ _ _ _
      | exact ih4 _ _ _ _ _ _
      | exact ih5 _ _ _ _ _
      | exact ih6 _ _ _ _ _
      | exact LeO.none _
      | refine LeO.ite ?_ ?_
      | refine LeO.bind ?_ (fun _ => ?_)
    · intro y0 y1 y2 y3 y4 y5
      unfold linguistref1_Decode.j5
      repeat' first
      | (with_reducible exact ih0 _ _ _)
      | (with_reducible exact ih1 _ _ _ _ _)
      | (with_reducible exact ih2 _ _ _ _ _ _)
      | (with_reducible exact ih3 _ _ _ _ _ _ _)
      | (with_reducible exact ih4 _ _ _ _ _ _)
      | (with_reducible exact ih5 _ _ _ _ _)
      | (with_reducible exact ih6 _ _ _ _ _)
      | (with_reducible exact LeO.refl _)
      | (with_reducible exact LeO.none _)
      | (with_reducible refine LeO.ite ?_ ?_)
      | (with_reducible refine LeO.bind ?_ (fun _ => ?_))
      | exact ih0 _ _ _
      | exact ih1 _ _ _ _ _
      | exact ih2 _ _ _ _ _ _
      | exact ih3 _ _ _ _ _ _ _
      | exact ih4 _ _ _ _ _ _
      | exact ih5 _ _ _ _ _
      | exact ih6 _ _ _ _ _
      | exact LeO.none _
      | refine LeO.ite ?_ ?_
      | refine LeO.bind ?_ (fun _ => ?_)
    · intro y0 y1 y2 y3 y4 y5 y6
      unfold linguistref1_Decode.j6
      repeat' first
      | (with_reducible exact ih0 _ _ _)
      | (with_reducible exact ih1 _ _ _ _ _)
      | (with_reducible exact ih2 _ _ _ _ _ _)
      | (with_reducible exact ih3 _ _ _ _ _ _ _)
      | (with_reducible exact ih4 _ _ _ _ _ _)
      | (with_reducible exact ih5 _ _ _ _ _)
      | (with_reducible exact ih6 _ _ _ _ _)
      | (with_reducible exact LeO.refl _)
      | (with_reducible exact LeO.none _)
      | (with_reducible refine LeO.ite ?_ ?_)
      | (with_reducible refine LeO.bind ?_ (fun _ => ?_))
      | exact ih0 _ _ _
      | exact ih1 _ _ _ _ _
      | exact ih2 _ _ _ _ _ _
      | exact ih3 _ _ _ _ _ _ _
      | exact ih4 _ _ _ _ _ _
      | exact ih5 _ _ _ _ _
      | exact ih6 _ _ _ _ _
      | exact LeO.none _
      | refine LeO.ite ?_ ?_
      | refine LeO.bind ?_ (fun _ => ?_)
    · intro y0 y1 y2 y3 y4 y5
      unfold linguistref1_Decode.l1
      repeat' first
      | (with_reducible exact ih0 _ _ _)
      | (with_reducible exact ih1 _ _ _ _ _)
      | (with_reducible exact ih2 _ _ _ _ _ _)
      | (with_reducible exact ih3 _ _ _ _ _ _ _)
      | (with_reducible exact ih4 _ _ _ _ _ _)
      | (with_reducible exact ih5 _ _ _ _ _)
      | (with_reducible exact ih6 _ _ _ _ _)
      | (with_reducible exact LeO.refl _)
      | (with_reducible exact LeO.none _)
      | (with_reducible refine LeO.ite ?_ ?_)
      | (with_reducible refine LeO.bind ?_ (fun _ => ?_))
      | exact ih0 _ _ _
      | exact ih1 _ _ _ _ _
      | exact ih2 _ _ _ _ _ _
      | exact ih3 _ _ _ _ _ _ _
      | exact ih4 _ _ _ _ _ _
      | exact ih5 _ _ _ _ _
      | exact ih6 _ _ _ _ _
      | exact LeO.none _
      | refine LeO.ite ?_ ?_
      | refine LeO.bind ?_ (fun _ => ?_)
    · intro y0 y1 y2 y3 y4
      unfold linguistref1_Decode.j1
      repeat' first
      | (with_reducible exact ih0 _ _ _)
      | (with_reducible exact ih1 _ _ _ _ _)
      | (with_reducible exact ih2 _ _ _ _ _ _)
      | (with_reducible exact ih3 _ _ _ _ _ _ _)
      | (with_reducible exact ih4 _ _ _ _ _ _)
      | (with_reducible exact ih5 _ _ _ _ _)
      | (with_reducible exact ih6 _ _ _ _ _)
      | (with_reducible exact LeO.refl _)
      | (with_reducible exact LeO.none _)
      | (with_reducible refine LeO.ite ?_ ?_)
      | (with_reducible refine LeO.bind ?_ (fun _ => ?_))
      | exact ih0 _ _ _
      | exact ih1 _ _ _ _ _
      | exact ih2 _ _ _ _ _ _
      | exact ih3 _ _ _ _ _ _ _
      | exact ih4 _ _ _ _ _ _
      | exact ih5 _ _ _ _ _
      | exact ih6 _ _ _ _ _
      | exact LeO.none _
      | refine LeO.ite ?_ ?_
      | refine LeO.bind ?_ (fun _ => ?_)
    · intro y0 y1 y2 y3 y4
      unfold linguistref1_Decode.j2
      repeat' first
      | (with_reducible exact ih0 _ _ _)
      | (with_reducible exact ih1 _ _ _ _ _)
      | (with_reducible exact ih2 _ _ _ _ _ _)
      | (with_reducible exact ih3 _ _ _ _ _ _ _)
      | (with_reducible exact ih4 _ _ _ _ _ _)
      | (with_reducible exact ih5 _ _ _ _ _)
      | (with_reducible exact ih6 _ _ _ _ _)
      | (with_reducible exact LeO.refl _)
      | (with_reducible exact LeO.none _)
      | (with_reducible refine LeO.ite ?_ ?_)
      | (with_reducible refine LeO.bind ?_ (fun _ => ?_))
      | exact ih0 _ _ _
      | exact ih1 _ _ _ _ _
      | exact ih2 _ _ _ _ _ _
      | exact ih3 _ _ _ _ _ _ _
      | exact ih4 _ _ _ _ _ _
      | exact ih5 _ _ _ _ _
      | exact ih6 _ _ _ _ _
      | exact LeO.none _
      | refine LeO.ite ?_ ?_
      | refine LeO.bind ?_ (fun _ => ?_)
theorem linguistref1_Decode.mono : ∀ a0 k, LeO (linguistref1_Decode.f k a0) (linguistref1_Decode.f (k + 1) a0) := by
  intro a0 k
  obtain ⟨ih0, ih1, ih2, ih3, ih4, ih5, ih6⟩ := linguistref1_Decode.mono_l k
  unfold linguistref1_Decode.f
  repeat' first
      | (with_reducible exact ih0 _ _ _)
      | (with_reducible exact ih1 _ _ _ _ _)
      | (with_reducible exact ih2 _ _ _ _ _ _)
      | (with_reducible exact ih3 _ _ _ _ _ _ _)
      | (with_reducible exact ih4 _ _ _ _ _ _)
      | (with_reducible exact ih5 _ _ _ _ _)
      | (with_reducible exact ih6 _ _ _ _ _)
      | (with_reducible exact LeO.refl _)
      | (with_reducible exact LeO.none _)
      | (with_reducible refine LeO.ite ?_ ?_)
      | (with_reducible refine LeO.bind ?_ (fun _ => ?_))
      | exact ih0 _ _ _
      | exact ih1 _ _ _ _ _
      | exact ih2 _ _ _ _ _ _
      | exact ih3 _ _ _ _ _ _ _
      | exact ih4 _ _ _ _ _ _
      | exact ih5 _ _ _ _ _
      | exact ih6 _ _ _ _ _
      | exact LeO.none _
      | refine LeO.ite ?_ ?_
      | refine LeO.bind ?_ (fun _ => ?_)
set_option maxHeartbeats 8000000 in
set_option maxRecDepth 100000 in
theorem linguistref1_Decode.calls (k : Nat) (A0 : Option Addr) (c0 : Nat) (l0 : List Int) (r1 : List Int) (r2 : Int) (w : World) (hr0 : Kd.C (Kd.int .u8) w A0 l0.length l0) (hc0 : l0.length ≤ c0) (h : linguistref1_Decode.f k l0 = some (r1, r2)) :
    Calls Try.prog 14 #[.slice A0 l0.length c0] w fun e w' => ∃ v0_ : Value, e = .returned (.tuple #[v0_, .int .i64 r2]) ∧ Kd.R (Kd.int .i32) 21 w' w.heap.size (fun _ => True) v0_ r1 ∧ Below w.heap.size w w' := by
  have HR0 := Aside0.mk hr0
  have HC0 := Aside0.mk hc0
  clear hr0 hc0
  have HB := Aside0.mk (Below.refl w.heap.size w)
  have H : (linguistref1_Decode.l0 k l0 ([] : List Int) 0) = some (r1, r2) := h
  clear h
  have H' := Aside0.mk H
  clear H
  go_enter Try.func14, Try.ntmps14
  go_wp2
  go_loopg [4, 5] k (fun kq v4 v5 w' => ∃ (x4_1 : List Int) (x5_1 : Int), v5 = .int .i64 x5_1 ∧ Aside0 (linguistref1_Decode.l0 kq l0 x4_1 x5_1 = some (r1, r2)) ∧ Aside0 (kq ≤ k) ∧ Aside0 (Kd.R (Kd.int .i32) 21 w' w.heap.size (fun _ => True) v4 x4_1) ∧ Aside0 (Below w.heap.size w w'))
  case atStart => exact ⟨(([] : List Int)), (0), (by first | rfl | (simp; done) | (simp [*]; done)), H', ⟨Nat.le_refl _⟩, ⟨by first | exact Kd.R_nil _ _ _ _ _ | exact Kd.N_nil _ _ _ _ _ | exact Kd.V_nil _ _ _ _ _ | exact Kd.Q_nil _ _ _ _ _ | exact Kd.S_nil _ _ _ _ _⟩, ⟨by repeat (first | (with_reducible first | exact HB.out | apply below_alloc | apply pw_below_drewN | apply below_drew1) | exact HB.out)⟩⟩
  case round =>
    clear H'
    try clear c1
    obtain ⟨x4_1, x5_1, rfl, HA, HK1, HO_4, HB⟩ := hrel
    cases gk with
    | zero => exact absurd HA.out (by simp [linguistref1_Decode.l0])
    | succ k1 =>
      have H := HA.out
      clear HA
      simp only [linguistref1_Decode.l0] at H
      by_cases c2 : x5_1 < (l0.length : Int)
      · rw [if_pos c2] at H
        have c2b0 : decide (x5_1 < (l0.length : Int)) = true := decide_eq_true c2
        clear c2
        by_cases c3 : 0 ≤ x5_1
        · rw [if_pos c3] at H
          have c3b0 : decide (0 ≤ x5_1) = true := decide_eq_true c3
          clear c3
          have HC4 := Aside0.mk H
          clear H
          have p249 : 0 ≤ (x5_1 : Int) := of_decide_eq_true (by first | (with_reducible assumption) | assumption)
          have q249 : x5_1 < (l0.length : Int) := of_decide_eq_true (by first | (with_reducible assumption) | assumption)
          obtain ⟨ad249, e249, hx249_0⟩ := Kd.at_int HR0.out x5_1 p249 q249
          cases e249
          replace hx249_0 := (HB.out.cell (World.block_lt_of_cell? w _ hx249_0)).trans hx249_0
          replace p249 := eq_true p249
          replace q249 := eq_true q249
          go_upto_block 2 with (fail)
          go_cut [4, 5, 6, 7] (fun v4 v5 v6 v7 wc => ∃ (kq : Nat) (x4_3 : List Int) (x5_3 : Int) (x6_3 : Int) (x7_3 : Int), v5 = .int .i64 x5_3 ∧ v6 = .int .i64 x6_3 ∧ v7 = .int .i64 x7_3 ∧ Aside0 (linguistref1_Decode.j3 kq l0 x4_3 x5_3 x6_3 x7_3 = some (r1, r2)) ∧ Aside0 (kq ≤ k1) ∧ Aside0 (Kd.R (Kd.int .i32) 21 wc w.heap.size (fun _ => True) v4 x4_3) ∧ Aside0 (Below w.heap.size w wc))
          case first =>
            have H := HC4.out
            clear HC4
            by_cases c5 : (wrap64 (rd l0 x5_1)) < 128
            · rw [if_pos c5] at H
              have c5b0 : decide ((wrap64 (rd l0 x5_1)) < 128) = true := decide_eq_true c5
              clear c5
              (first | rw [c5b0] | (simp only [i64_w, i32_w]; rw [c5b0]) | skip)
              by_cases c6 : x4_1.length < 35184372088832
              · rw [if_pos c6] at H
                have LMc6 := Aside0.mk c6
                clear c6
                obtain ⟨y250, hy250⟩ : ∃ y_ : List Int, y_ = (x4_1 ++ [wrap32 (wrap64 (rd l0 x5_1))]) := ⟨_, rfl⟩
                replace H : (linguistref1_Decode.l0 k1 l0 y250 (wrap64 (x5_1 + 1))) = some (r1, r2) := by first | (rw [hy250]; with_reducible exact H) | (have H2_ := (Option.bind_some _ _).symm.trans H; rw [hy250]; with_reducible exact H2_) | (have H2_ := (Option.bind_some _ _).symm.trans H; with_reducible exact H2_) | with_reducible exact H | (rw [hy250]; exact H) | exact H
                have Ny250 := Aside0.mk hy250
                clear hy250
                have H' := Aside0.mk H
                clear H
                go_wp2_with (first | ((with_reducible refine gate_builtin (b := .append) (xs := #[.tmp 27, .tmp 30]) rfl ?_); (try (refine gate_guard (by rfl) ?_; dsimp only)); at_builtin; refine Kd.R_append (Kd.int .i32) (w0 := w) w.heap.size rfl (.tmp 27) (.tmp 30) 22 21 (.int .i32 0) 4 rfl Try.underlying22 info21 rfl (by decide) (by omega) u4 x4_1 (wrap32 (wrap64 (rd l0 x5_1))) [.int .i32 (wrap32 (wrap64 (rd l0 x5_1)))] (fun _ => True) (fun _ => False) rfl rfl ?aP (fun _ hk => hk.elim) ?aF ?aO ?aB ?aS ?aL ?_; (case aP => exact rfl); (case aB => exact (by repeat (first | (with_reducible first | exact HB.out | apply below_alloc | apply pw_below_drewN | apply below_drew1) | exact HB.out))); (case aF => exact (fun _ _ => trivial)); (case aO => exact (by (with_reducible repeat (first | apply Kd.R_alloc | apply Kd.R_drewN | apply Kd.R_drew)); exact HO_4.out)); (case aS => exact (below_size (by repeat (first | (with_reducible first | exact HB.out | apply below_alloc | apply pw_below_drewN | apply below_drew1) | exact HB.out)))); (case aL => have := LMc6.out; omega); intro v251 w7 ho hb hg hat; rw [← Ny250.out] at ho; have n0_ := Aside0.mk (hb); have n1_ := Aside0.mk (ho); clear HB; clear HO_4; have HB := n0_; have HO252 := n1_; clear n0_ n1_; clear ho hb hg hat))
                go_roundg k1
                case measure => have := HK1.out; omega
                case rel => exact ⟨(y250), (wrap64 (x5_1 + 1)), (by first | rfl | (simp; done) | (simp [*]; done)), H', ⟨by have := HK1.out; omega⟩, ⟨by (with_reducible repeat (first | apply Kd.R_alloc | apply Kd.R_drewN | apply Kd.R_drew)); exact HO252.out⟩, ⟨by repeat (first | (with_reducible first | exact HB.out | apply below_alloc | apply pw_below_drewN | apply below_drew1) | exact HB.out)⟩⟩
              · rw [if_neg c6] at H
                exact absurd H (by simp)
            · rw [if_neg c5] at H
              have c5b0 : decide ((wrap64 (rd l0 x5_1)) < 128) = false := decide_eq_false c5
              clear c5
              (first | rw [c5b0] | (simp only [i64_w, i32_w]; rw [c5b0]) | skip)
              have HC8 := Aside0.mk H
              clear H
              go_upto_region 10 with (fail)
              go_cut [34] (fun v34 wc => ∃ (kq : Nat) (x34_7 : Bool), v34 = .bool x34_7 ∧ Aside0 (linguistref1_Decode.j1 kq l0 x4_1 x5_1 (wrap64 (rd l0 x5_1)) x34_7 = some (r1, r2)) ∧ Aside0 (kq ≤ k1) ∧ Aside0 (Kd.R (Kd.int .i32) 21 wc w.heap.size (fun _ => True) u4 x4_1) ∧ Aside0 (Below w.heap.size w wc))
              case first =>
                have H := HC8.out
                clear HC8
                by_cases c9 : (wrap64 (rd l0 x5_1)) ≥ 194
                · rw [if_pos c9] at H
                  have c9b0 : decide (194 ≤ (wrap64 (rd l0 x5_1))) = true := decide_eq_true c9
                  clear c9
                  (first | rw [c9b0] | (simp only [i64_w, i32_w]; rw [c9b0]) | skip)
                  have H' := Aside0.mk H
                  clear H
                  go_wp2
                  go_meet
                  case rel => exact ⟨_, (decide ((wrap64 (rd l0 x5_1)) ≤ 223)), (by first | rfl | (simp; done) | (simp [*]; done)), H', ⟨by have := HK1.out; first | omega | exact Nat.le_refl _⟩, ⟨by (with_reducible repeat (first | apply Kd.R_alloc | apply Kd.R_drewN | apply Kd.R_drew)); exact HO_4.out⟩, ⟨by repeat (first | (with_reducible first | exact HB.out | apply below_alloc | apply pw_below_drewN | apply below_drew1) | exact HB.out)⟩⟩
                · rw [if_neg c9] at H
                  have c9b0 : decide (194 ≤ (wrap64 (rd l0 x5_1))) = false := decide_eq_false c9
                  clear c9
                  (first | rw [c9b0] | (simp only [i64_w, i32_w]; rw [c9b0]) | skip)
                  have H' := Aside0.mk H
                  clear H
                  go_wp2
                  go_meet
                  case rel => exact ⟨_, (false), (by first | rfl | (simp; done) | (simp [*]; done)), H', ⟨by have := HK1.out; first | omega | exact Nat.le_refl _⟩, ⟨by (with_reducible repeat (first | apply Kd.R_alloc | apply Kd.R_drewN | apply Kd.R_drew)); exact HO_4.out⟩, ⟨by repeat (first | (with_reducible first | exact HB.out | apply below_alloc | apply pw_below_drewN | apply below_drew1) | exact HB.out)⟩⟩
              case rest =>
                clear HC8
                try clear c1
                try clear c2
                try clear c2b0
                try clear p2
                try clear q2
                try clear hx2
                try clear c3
                try clear c3b0
                try clear p3
                try clear c5
                try clear c5b0
                try clear c6
                try clear p6
                try clear c9
                try clear c9b0
                try clear hx249_0
                try clear p249
                try clear q249
                obtain ⟨kq, x34_7, rfl, HA, HJ7, HO_4, HB⟩ := hcut
                cases kq with
                | zero => exact absurd HA.out (by simp [linguistref1_Decode.j1])
                | succ kj7 =>
                  have H := HA.out
                  clear HA
                  simp only [linguistref1_Decode.j1] at H
                  by_cases c10 : x34_7 = true
                  · subst c10
                    have H1 : (linguistref1_Decode.j3 kj7 l0 x4_1 x5_1 (Go.bits .and .i64 (wrap64 (rd l0 x5_1)) 31) 1) = some (r1, r2) := by rw [if_pos rfl] at H; exact H
                    clear H
                    have H := H1
                    clear H1
                    have H' := Aside0.mk H
                    clear H
                    go_wp2
                    go_meet
                    case rel => exact ⟨_, (x4_1), (x5_1), (Go.bits .and .i64 (wrap64 (rd l0 x5_1)) 31), (1), (by first | rfl | (simp; done) | (simp [*]; done)), (by first | rfl | (simp; done) | (simp [*]; done)), (by first | rfl | (simp; done) | (simp [*]; done)), H', ⟨by have := HK1.out; have := HJ7.out; first | omega | exact Nat.le_refl _⟩, ⟨by (with_reducible repeat (first | apply Kd.R_alloc | apply Kd.R_drewN | apply Kd.R_drew)); exact HO_4.out⟩, ⟨by repeat (first | (with_reducible first | exact HB.out | apply below_alloc | apply pw_below_drewN | apply below_drew1) | exact HB.out)⟩⟩
                  · replace c10 := Bool.eq_false_iff.mpr c10
                    subst c10
                    have H1 : (if (wrap64 (rd l0 x5_1)) ≥ 224 then (linguistref1_Decode.j2 kj7 l0 x4_1 x5_1 (wrap64 (rd l0 x5_1)) (decide ((wrap64 (rd l0 x5_1)) ≤ 239))) else (linguistref1_Decode.j2 kj7 l0 x4_1 x5_1 (wrap64 (rd l0 x5_1)) false)) = some (r1, r2) := by rw [if_neg (show ¬ (false = true) by decide)] at H; exact H
                    clear H
                    have H := H1
                    clear H1
                    have HC11 := Aside0.mk H
                    clear H
                    go_upto_region 12 with (fail)
                    go_cut [43] (fun v43 wc => ∃ (kq : Nat) (x43_10 : Bool), v43 = .bool x43_10 ∧ Aside0 (linguistref1_Decode.j2 kq l0 x4_1 x5_1 (wrap64 (rd l0 x5_1)) x43_10 = some (r1, r2)) ∧ Aside0 (kq ≤ kj7) ∧ Aside0 (Kd.R (Kd.int .i32) 21 wc w.heap.size (fun _ => True) u4 x4_1) ∧ Aside0 (Below w.heap.size w wc))
                    case first =>
                      have H := HC11.out
                      clear HC11
                      by_cases c12 : (wrap64 (rd l0 x5_1)) ≥ 224
                      · rw [if_pos c12] at H
                        have c12b0 : decide (224 ≤ (wrap64 (rd l0 x5_1))) = true := decide_eq_true c12
                        clear c12
                        (first | rw [c12b0] | (simp only [i64_w, i32_w]; rw [c12b0]) | skip)
                        have H' := Aside0.mk H
                        clear H
                        go_wp2
                        go_meet
                        case rel => exact ⟨_, (decide ((wrap64 (rd l0 x5_1)) ≤ 239)), (by first | rfl | (simp; done) | (simp [*]; done)), H', ⟨by have := HK1.out; have := HJ7.out; first | omega | exact Nat.le_refl _⟩, ⟨by (with_reducible repeat (first | apply Kd.R_alloc | apply Kd.R_drewN | apply Kd.R_drew)); exact HO_4.out⟩, ⟨by repeat (first | (with_reducible first | exact HB.out | apply below_alloc | apply pw_below_drewN | apply below_drew1) | exact HB.out)⟩⟩
                      · rw [if_neg c12] at H
                        have c12b0 : decide (224 ≤ (wrap64 (rd l0 x5_1))) = false := decide_eq_false c12
                        clear c12
                        (first | rw [c12b0] | (simp only [i64_w, i32_w]; rw [c12b0]) | skip)
                        have H' := Aside0.mk H
                        clear H
                        go_wp2
                        go_meet
                        case rel => exact ⟨_, (false), (by first | rfl | (simp; done) | (simp [*]; done)), H', ⟨by have := HK1.out; have := HJ7.out; first | omega | exact Nat.le_refl _⟩, ⟨by (with_reducible repeat (first | apply Kd.R_alloc | apply Kd.R_drewN | apply Kd.R_drew)); exact HO_4.out⟩, ⟨by repeat (first | (with_reducible first | exact HB.out | apply below_alloc | apply pw_below_drewN | apply below_drew1) | exact HB.out)⟩⟩
                    case rest =>
                      clear HC11
                      try clear c1
                      try clear c2
                      try clear c2b0
                      try clear p2
                      try clear q2
                      try clear hx2
                      try clear c3
                      try clear c3b0
                      try clear p3
                      try clear c5
                      try clear c5b0
                      try clear c6
                      try clear p6
                      try clear c9
                      try clear c9b0
                      try clear c10
                      try clear c12
                      try clear c12b0
                      try clear hx249_0
                      try clear p2
                      try clear p249
                      try clear p3
                      try clear p6
                      try clear q2
                      try clear q249
                      obtain ⟨kq, x43_10, rfl, HA, HJ10, HO_4, HB⟩ := hcut
                      cases kq with
                      | zero => exact absurd HA.out (by simp [linguistref1_Decode.j2])
                      | succ kj10 =>
                        have H := HA.out
                        clear HA
                        simp only [linguistref1_Decode.j2] at H
                        by_cases c13 : x43_10 = true
                        · subst c13
                          have H1 : (linguistref1_Decode.j3 kj10 l0 x4_1 x5_1 (Go.bits .and .i64 (wrap64 (rd l0 x5_1)) 15) 2) = some (r1, r2) := by rw [if_pos rfl] at H; exact H
                          clear H
                          have H := H1
                          clear H1
                          have H' := Aside0.mk H
                          clear H
                          go_wp2
                          go_meet
                          case rel => exact ⟨_, (x4_1), (x5_1), (Go.bits .and .i64 (wrap64 (rd l0 x5_1)) 15), (2), (by first | rfl | (simp; done) | (simp [*]; done)), (by first | rfl | (simp; done) | (simp [*]; done)), (by first | rfl | (simp; done) | (simp [*]; done)), H', ⟨by have := HK1.out; have := HJ7.out; have := HJ10.out; first | omega | exact Nat.le_refl _⟩, ⟨by (with_reducible repeat (first | apply Kd.R_alloc | apply Kd.R_drewN | apply Kd.R_drew)); exact HO_4.out⟩, ⟨by repeat (first | (with_reducible first | exact HB.out | apply below_alloc | apply pw_below_drewN | apply below_drew1) | exact HB.out)⟩⟩
                        · replace c13 := Bool.eq_false_iff.mpr c13
                          subst c13
                          have H1 : (if (wrap64 (rd l0 x5_1)) ≥ 240 then (if (wrap64 (rd l0 x5_1)) ≤ 244 then (linguistref1_Decode.j3 kj10 l0 x4_1 x5_1 (Go.bits .and .i64 (wrap64 (rd l0 x5_1)) 7) 3) else (if x4_1.length < 35184372088832 then (linguistref1_Decode.l0 kj10 l0 (x4_1 ++ [65533]) (wrap64 (x5_1 + 1))) else (none))) else (if x4_1.length < 35184372088832 then (linguistref1_Decode.l0 kj10 l0 (x4_1 ++ [65533]) (wrap64 (x5_1 + 1))) else (none))) = some (r1, r2) := by rw [if_neg (show ¬ (false = true) by decide)] at H; exact H
                          clear H
                          have H := H1
                          clear H1
                          by_cases c14 : (wrap64 (rd l0 x5_1)) ≥ 240
                          · rw [if_pos c14] at H
                            have c14b0 : decide (240 ≤ (wrap64 (rd l0 x5_1))) = true := decide_eq_true c14
                            clear c14
                            by_cases c15 : (wrap64 (rd l0 x5_1)) ≤ 244
                            · rw [if_pos c15] at H
                              have c15b0 : decide ((wrap64 (rd l0 x5_1)) ≤ 244) = true := decide_eq_true c15
                              clear c15
                              have H' := Aside0.mk H
                              clear H
                              go_wp2
                              go_meet
                              case rel => exact ⟨_, (x4_1), (x5_1), (Go.bits .and .i64 (wrap64 (rd l0 x5_1)) 7), (3), (by first | rfl | (simp; done) | (simp [*]; done)), (by first | rfl | (simp; done) | (simp [*]; done)), (by first | rfl | (simp; done) | (simp [*]; done)), H', ⟨by have := HK1.out; have := HJ7.out; have := HJ10.out; first | omega | exact Nat.le_refl _⟩, ⟨by (with_reducible repeat (first | apply Kd.R_alloc | apply Kd.R_drewN | apply Kd.R_drew)); exact HO_4.out⟩, ⟨by repeat (first | (with_reducible first | exact HB.out | apply below_alloc | apply pw_below_drewN | apply below_drew1) | exact HB.out)⟩⟩
                            · rw [if_neg c15] at H
                              have c15b0 : decide ((wrap64 (rd l0 x5_1)) ≤ 244) = false := decide_eq_false c15
                              clear c15
                              by_cases c16 : x4_1.length < 35184372088832
                              · rw [if_pos c16] at H
                                have LMc16 := Aside0.mk c16
                                clear c16
                                obtain ⟨y253, hy253⟩ : ∃ y_ : List Int, y_ = (x4_1 ++ [65533]) := ⟨_, rfl⟩
                                replace H : (linguistref1_Decode.l0 kj10 l0 y253 (wrap64 (x5_1 + 1))) = some (r1, r2) := by first | (rw [hy253]; with_reducible exact H) | (have H2_ := (Option.bind_some _ _).symm.trans H; rw [hy253]; with_reducible exact H2_) | (have H2_ := (Option.bind_some _ _).symm.trans H; with_reducible exact H2_) | with_reducible exact H | (rw [hy253]; exact H) | exact H
                                have Ny253 := Aside0.mk hy253
                                clear hy253
                                have H' := Aside0.mk H
                                clear H
                                go_wp2_with (first | ((with_reducible refine gate_builtin (b := .append) (xs := #[.tmp 19, .tmp 20]) rfl ?_); (try (refine gate_guard (by rfl) ?_; dsimp only)); at_builtin; refine Kd.R_append (Kd.int .i32) (w0 := w) w.heap.size rfl (.tmp 19) (.tmp 20) 22 21 (.int .i32 0) 4 rfl Try.underlying22 info21 rfl (by decide) (by omega) u4 x4_1 65533 [.int .i32 65533] (fun _ => True) (fun _ => False) rfl rfl ?aP (fun _ hk => hk.elim) ?aF ?aO ?aB ?aS ?aL ?_; (case aP => exact rfl); (case aB => exact (by repeat (first | (with_reducible first | exact HB.out | apply below_alloc | apply pw_below_drewN | apply below_drew1) | exact HB.out))); (case aF => exact (fun _ _ => trivial)); (case aO => exact (by (with_reducible repeat (first | apply Kd.R_alloc | apply Kd.R_drewN | apply Kd.R_drew)); exact HO_4.out)); (case aS => exact (below_size (by repeat (first | (with_reducible first | exact HB.out | apply below_alloc | apply pw_below_drewN | apply below_drew1) | exact HB.out)))); (case aL => have := LMc16.out; omega); intro v254 w17 ho hb hg hat; rw [← Ny253.out] at ho; have n0_ := Aside0.mk (hb); have n1_ := Aside0.mk (ho); clear HB; clear HO_4; have HB := n0_; have HO255 := n1_; clear n0_ n1_; clear ho hb hg hat))
                                go_roundg kj10
                                case measure => have := HK1.out; have := HJ7.out; have := HJ10.out; omega
                                case rel => exact ⟨(y253), (wrap64 (x5_1 + 1)), (by first | rfl | (simp; done) | (simp [*]; done)), H', ⟨by have := HK1.out; have := HJ7.out; have := HJ10.out; omega⟩, ⟨by (with_reducible repeat (first | apply Kd.R_alloc | apply Kd.R_drewN | apply Kd.R_drew)); exact HO255.out⟩, ⟨by repeat (first | (with_reducible first | exact HB.out | apply below_alloc | apply pw_below_drewN | apply below_drew1) | exact HB.out)⟩⟩
                              · rw [if_neg c16] at H
                                exact absurd H (by simp)
                          · rw [if_neg c14] at H
                            have c14b0 : decide (240 ≤ (wrap64 (rd l0 x5_1))) = false := decide_eq_false c14
                            clear c14
                            by_cases c18 : x4_1.length < 35184372088832
                            · rw [if_pos c18] at H
                              have LMc18 := Aside0.mk c18
                              clear c18
                              obtain ⟨y256, hy256⟩ : ∃ y_ : List Int, y_ = (x4_1 ++ [65533]) := ⟨_, rfl⟩
                              replace H : (linguistref1_Decode.l0 kj10 l0 y256 (wrap64 (x5_1 + 1))) = some (r1, r2) := by first | (rw [hy256]; with_reducible exact H) | (have H2_ := (Option.bind_some _ _).symm.trans H; rw [hy256]; with_reducible exact H2_) | (have H2_ := (Option.bind_some _ _).symm.trans H; with_reducible exact H2_) | with_reducible exact H | (rw [hy256]; exact H) | exact H
                              have Ny256 := Aside0.mk hy256
                              clear hy256
                              have H' := Aside0.mk H
                              clear H
                              go_wp2_with (first | ((with_reducible refine gate_builtin (b := .append) (xs := #[.tmp 19, .tmp 20]) rfl ?_); (try (refine gate_guard (by rfl) ?_; dsimp only)); at_builtin; refine Kd.R_append (Kd.int .i32) (w0 := w) w.heap.size rfl (.tmp 19) (.tmp 20) 22 21 (.int .i32 0) 4 rfl Try.underlying22 info21 rfl (by decide) (by omega) u4 x4_1 65533 [.int .i32 65533] (fun _ => True) (fun _ => False) rfl rfl ?aP (fun _ hk => hk.elim) ?aF ?aO ?aB ?aS ?aL ?_; (case aP => exact rfl); (case aB => exact (by repeat (first | (with_reducible first | exact HB.out | apply below_alloc | apply pw_below_drewN | apply below_drew1) | exact HB.out))); (case aF => exact (fun _ _ => trivial)); (case aO => exact (by (with_reducible repeat (first | apply Kd.R_alloc | apply Kd.R_drewN | apply Kd.R_drew)); exact HO_4.out)); (case aS => exact (below_size (by repeat (first | (with_reducible first | exact HB.out | apply below_alloc | apply pw_below_drewN | apply below_drew1) | exact HB.out)))); (case aL => have := LMc18.out; omega); intro v257 w19 ho hb hg hat; rw [← Ny256.out] at ho; have n0_ := Aside0.mk (hb); have n1_ := Aside0.mk (ho); clear HB; clear HO_4; have HB := n0_; have HO258 := n1_; clear n0_ n1_; clear ho hb hg hat))
                              go_roundg kj10
                              case measure => have := HK1.out; have := HJ7.out; have := HJ10.out; omega
                              case rel => exact ⟨(y256), (wrap64 (x5_1 + 1)), (by first | rfl | (simp; done) | (simp [*]; done)), H', ⟨by have := HK1.out; have := HJ7.out; have := HJ10.out; omega⟩, ⟨by (with_reducible repeat (first | apply Kd.R_alloc | apply Kd.R_drewN | apply Kd.R_drew)); exact HO258.out⟩, ⟨by repeat (first | (with_reducible first | exact HB.out | apply below_alloc | apply pw_below_drewN | apply below_drew1) | exact HB.out)⟩⟩
                            · rw [if_neg c18] at H
                              exact absurd H (by simp)
          case rest =>
            clear HC4
            try clear c1
            try clear c2
            try clear c2b0
            try clear p2
            try clear q2
            try clear hx2
            try clear c3
            try clear c3b0
            try clear p3
            try clear c5
            try clear c5b0
            try clear c6
            try clear p6
            try clear c9
            try clear c9b0
            try clear c10
            try clear c12
            try clear c12b0
            try clear c13
            try clear c14
            try clear c14b0
            try clear c15
            try clear c15b0
            try clear c16
            try clear c18
            try clear hx249_0
            try clear p2
            try clear p249
            try clear p3
            try clear p6
            try clear q2
            try clear q249
            obtain ⟨kq, x4_3, x5_3, x6_3, x7_3, rfl, rfl, rfl, HA, HJ3, HO_4, HB⟩ := hcut
            cases kq with
            | zero => exact absurd HA.out (by simp [linguistref1_Decode.j3])
            | succ kj3 =>
              have H := HA.out
              clear HA
              simp only [linguistref1_Decode.j3] at H
              have HC20 := Aside0.mk H
              clear H
              go_upto_block 3 with (fail)
              go_cut [6, 8] (fun v6 v8 wc => ∃ (kq : Nat) (x6_19 : Int) (x8_19 : Int), v6 = .int .i64 x6_19 ∧ v8 = .int .i64 x8_19 ∧ Aside0 (linguistref1_Decode.j5 kq l0 x4_3 x5_3 x6_19 x7_3 x8_19 = some (r1, r2)) ∧ Aside0 (kq ≤ kj3) ∧ Aside0 (Kd.R (Kd.int .i32) 21 wc w.heap.size (fun _ => True) u4 x4_3) ∧ Aside0 (Below w.heap.size w wc))
              case first =>
                have H := HC20.out
                clear HC20
                have H' := Aside0.mk H
                clear H
                go_wp2
                go_loopg [6, 8] kj3 (fun kq v6 v8 w' => ∃ (x6_3 : Int) (x8_3 : Int), v6 = .int .i64 x6_3 ∧ v8 = .int .i64 x8_3 ∧ Aside0 (linguistref1_Decode.l1 kq l0 x4_3 x5_3 x6_3 x7_3 x8_3 = some (r1, r2)) ∧ Aside0 (kq ≤ kj3) ∧ Aside0 (Kd.R (Kd.int .i32) 21 w' w.heap.size (fun _ => True) u4 x4_3) ∧ Aside0 (Below w.heap.size w w'))
                case atStart => exact ⟨(x6_3), (1), (by first | rfl | (simp; done) | (simp [*]; done)), (by first | rfl | (simp; done) | (simp [*]; done)), H', ⟨Nat.le_refl _⟩, ⟨by (with_reducible repeat (first | apply Kd.R_alloc | apply Kd.R_drewN | apply Kd.R_drew)); exact HO_4.out⟩, ⟨by repeat (first | (with_reducible first | exact HB.out | apply below_alloc | apply pw_below_drewN | apply below_drew1) | exact HB.out)⟩⟩
                case round =>
                  clear H'
                  try clear c1
                  try clear c2
                  try clear c2b0
                  try clear p2
                  try clear q2
                  try clear hx2
                  try clear c3
                  try clear c3b0
                  try clear p3
                  try clear c5
                  try clear c5b0
                  try clear c6
                  try clear p6
                  try clear c9
                  try clear c9b0
                  try clear c10
                  try clear c12
                  try clear c12b0
                  try clear c13
                  try clear c14
                  try clear c14b0
                  try clear c15
                  try clear c15b0
                  try clear c16
                  try clear c18
                  try clear hx249_0
                  try clear p2
                  try clear p249
                  try clear p3
                  try clear p6
                  try clear q2
                  try clear q249
                  obtain ⟨x6_3, x8_3, rfl, rfl, HA, HK3, HO_4, HB⟩ := hrel
                  cases gk with
                  | zero => exact absurd HA.out (by simp [linguistref1_Decode.l1])
                  | succ k3 =>
                    have H := HA.out
                    clear HA
                    simp only [linguistref1_Decode.l1] at H
                    by_cases c21 : x8_3 ≤ x7_3
                    · rw [if_pos c21] at H
                      have c21b0 : decide (x8_3 ≤ x7_3) = true := decide_eq_true c21
                      clear c21
                      (first | rw [c21b0] | (simp only [i64_w, i32_w]; rw [c21b0]) | skip)
                      by_cases c22 : (wrap64 (x5_3 + x8_3)) < (l0.length : Int)
                      · rw [if_pos c22] at H
                        have c22b0 : decide ((wrap64 (x5_3 + x8_3)) < (l0.length : Int)) = true := decide_eq_true c22
                        clear c22
                        obtain ⟨ji23, hji23⟩ : ∃ j_ : Int, (wrap64 (x5_3 + x8_3)) = j_ := ⟨_, rfl⟩
                        replace H : (if 0 ≤ (ji23) then (if (Go.bits .and .u8 (rd l0 (ji23)) 192) = 128 then (linguistref1_Decode.l1 k3 l0 x4_3 x5_3 (Go.bits .or .i64 (wrap64 (x6_3 * 64)) (wrap64 (Go.bits .and .u8 (rd l0 (ji23)) 63))) x7_3 (wrap64 (x8_3 + 1))) else (linguistref1_Decode.j5 k3 l0 x4_3 x5_3 x6_3 x7_3 x8_3)) else (none)) = some (r1, r2) := by first | (rw [hji23] at H; exact H) | (simp only [hji23] at H ⊢; exact H)
                        (try rw [hji23] at c22b0)
                        have hji23w : (IntKind.i64.wrap (x5_3 + x8_3)) = ji23 := (i64_w _).trans hji23
                        by_cases c24 : 0 ≤ (ji23)
                        · rw [if_pos c24] at H
                          have c24b0 : decide (0 ≤ (ji23)) = true := decide_eq_true c24
                          clear c24
                          by_cases c25 : (Go.bits .and .u8 (rd l0 (ji23)) 192) = 128
                          · rw [if_pos c25] at H
                            have c25b0 : ((Go.bits .and .u8 (rd l0 (ji23)) 192) == 128) = true := beq_iff_eq.mpr c25
                            have c25b1 : ((Go.bits .and .u8 (rd l0 (ji23)) 192) != 128) = false := bne_eq_false_iff_eq.mpr c25
                            clear c25
                            have H' := Aside0.mk H
                            clear H
                            have p259 : 0 ≤ ((ji23) : Int) := of_decide_eq_true (by first | (with_reducible assumption) | assumption)
                            have q259 : (ji23) < (l0.length : Int) := of_decide_eq_true (by first | (with_reducible assumption) | assumption)
                            obtain ⟨ad259, e259, hx259_0⟩ := Kd.at_int HR0.out (ji23) p259 q259
                            obtain rfl : ad249 = ad259 := (by injection e259)
                            replace hx259_0 := (HB.out.cell (World.block_lt_of_cell? w _ hx259_0)).trans hx259_0
                            replace p259 := eq_true p259
                            replace q259 := eq_true q259
                            have p260 : 0 ≤ ((ji23) : Int) := of_decide_eq_true (by first | (with_reducible assumption) | assumption)
                            have q260 : (ji23) < (l0.length : Int) := of_decide_eq_true (by first | (with_reducible assumption) | assumption)
                            obtain ⟨ad260, e260, hx260_0⟩ := Kd.at_int HR0.out (ji23) p260 q260
                            obtain rfl : ad249 = ad260 := (by injection e260)
                            replace hx260_0 := (HB.out.cell (World.block_lt_of_cell? w _ hx260_0)).trans hx260_0
                            replace p260 := eq_true p260
                            replace q260 := eq_true q260
                            go_wp2
                            go_roundg k3
                            case measure => have := HK1.out; have := HJ3.out; have := HK3.out; omega
                            case rel => exact ⟨(Go.bits .or .i64 (wrap64 (x6_3 * 64)) (wrap64 (Go.bits .and .u8 (rd l0 (ji23)) 63))), (wrap64 (x8_3 + 1)), (by first | rfl | (simp; done) | (simp only [← hji23] <;> (first | rfl | simp)) | (simp [*]; done)), (by first | rfl | (simp; done) | (simp [*]; done)), H', ⟨by have := HK1.out; have := HJ3.out; have := HK3.out; omega⟩, ⟨by (with_reducible repeat (first | apply Kd.R_alloc | apply Kd.R_drewN | apply Kd.R_drew)); exact HO_4.out⟩, ⟨by repeat (first | (with_reducible first | exact HB.out | apply below_alloc | apply pw_below_drewN | apply below_drew1) | exact HB.out)⟩⟩
                          · rw [if_neg c25] at H
                            have c25b0 : ((Go.bits .and .u8 (rd l0 (ji23)) 192) == 128) = false := beq_eq_false_iff_ne.mpr c25
                            have c25b1 : ((Go.bits .and .u8 (rd l0 (ji23)) 192) != 128) = true := bne_iff_ne.mpr c25
                            have H' := Aside0.mk H
                            clear H
                            have p259 : 0 ≤ ((ji23) : Int) := of_decide_eq_true (by first | (with_reducible assumption) | assumption)
                            have q259 : (ji23) < (l0.length : Int) := of_decide_eq_true (by first | (with_reducible assumption) | assumption)
                            obtain ⟨ad259, e259, hx259_0⟩ := Kd.at_int HR0.out (ji23) p259 q259
                            obtain rfl : ad249 = ad259 := (by injection e259)
                            replace hx259_0 := (HB.out.cell (World.block_lt_of_cell? w _ hx259_0)).trans hx259_0
                            replace p259 := eq_true p259
                            replace q259 := eq_true q259
                            go_wp2
                            go_meet
                            case rel => exact ⟨_, (x6_3), (x8_3), (by first | rfl | (simp; done) | (simp [*]; done)), (by first | rfl | (simp; done) | (simp [*]; done)), H', ⟨by have := HK1.out; have := HJ3.out; have := HK3.out; first | omega | exact Nat.le_refl _⟩, ⟨by (with_reducible repeat (first | apply Kd.R_alloc | apply Kd.R_drewN | apply Kd.R_drew)); exact HO_4.out⟩, ⟨by repeat (first | (with_reducible first | exact HB.out | apply below_alloc | apply pw_below_drewN | apply below_drew1) | exact HB.out)⟩⟩
                        · rw [if_neg c24] at H
                          exact absurd H (by simp)
                      · rw [if_neg c22] at H
                        have c22b0 : decide ((wrap64 (x5_3 + x8_3)) < (l0.length : Int)) = false := decide_eq_false c22
                        clear c22
                        have H' := Aside0.mk H
                        clear H
                        go_wp2
                        go_meet
                        case rel => exact ⟨_, (x6_3), (x8_3), (by first | rfl | (simp; done) | (simp [*]; done)), (by first | rfl | (simp; done) | (simp [*]; done)), H', ⟨by have := HK1.out; have := HJ3.out; have := HK3.out; first | omega | exact Nat.le_refl _⟩, ⟨by (with_reducible repeat (first | apply Kd.R_alloc | apply Kd.R_drewN | apply Kd.R_drew)); exact HO_4.out⟩, ⟨by repeat (first | (with_reducible first | exact HB.out | apply below_alloc | apply pw_below_drewN | apply below_drew1) | exact HB.out)⟩⟩
                    · rw [if_neg c21] at H
                      have c21b0 : decide (x8_3 ≤ x7_3) = false := decide_eq_false c21
                      clear c21
                      (first | rw [c21b0] | (simp only [i64_w, i32_w]; rw [c21b0]) | skip)
                      have H' := Aside0.mk H
                      clear H
                      go_wp2
                      go_meet
                      case rel => exact ⟨_, (x6_3), (x8_3), (by first | rfl | (simp; done) | (simp [*]; done)), (by first | rfl | (simp; done) | (simp [*]; done)), H', ⟨by have := HK1.out; have := HJ3.out; have := HK3.out; first | omega | exact Nat.le_refl _⟩, ⟨by (with_reducible repeat (first | apply Kd.R_alloc | apply Kd.R_drewN | apply Kd.R_drew)); exact HO_4.out⟩, ⟨by repeat (first | (with_reducible first | exact HB.out | apply below_alloc | apply pw_below_drewN | apply below_drew1) | exact HB.out)⟩⟩
              case rest =>
                clear HC20
                try clear c1
                try clear c2
                try clear c2b0
                try clear p2
                try clear q2
                try clear hx2
                try clear c3
                try clear c3b0
                try clear p3
                try clear c5
                try clear c5b0
                try clear c6
                try clear p6
                try clear c9
                try clear c9b0
                try clear c10
                try clear c12
                try clear c12b0
                try clear c13
                try clear c14
                try clear c14b0
                try clear c15
                try clear c15b0
                try clear c16
                try clear c18
                try clear c21
                try clear c21b0
                try clear c22
                try clear c22b0
                try clear c24
                try clear c24b0
                try clear p24
                try clear q24
                try clear hx24
                try clear c25
                try clear c25b0
                try clear c25b1
                try clear p25
                try clear q25
                try clear hx25
                try clear hx249_0
                try clear hx259_0
                try clear hx260_0
                try clear p2
                try clear p249
                try clear p259
                try clear p260
                try clear p3
                try clear p6
                try clear q2
                try clear q249
                try clear q259
                try clear q260
                obtain ⟨kq, x6_19, x8_19, rfl, rfl, HA, HJ19, HO_4, HB⟩ := hcut
                cases kq with
                | zero => exact absurd HA.out (by simp [linguistref1_Decode.j5])
                | succ kj19 =>
                  have H := HA.out
                  clear HA
                  simp only [linguistref1_Decode.j5] at H
                  have HC26 := Aside0.mk H
                  clear H
                  go_upto_region 20 with (fail)
                  go_cut [105] (fun v105 wc => ∃ (kq : Nat) (x105_25 : Bool), v105 = .bool x105_25 ∧ Aside0 (linguistref1_Decode.j6 kq l0 x4_3 x5_3 x6_19 x7_3 x8_19 x105_25 = some (r1, r2)) ∧ Aside0 (kq ≤ kj19) ∧ Aside0 (Kd.R (Kd.int .i32) 21 wc w.heap.size (fun _ => True) u4 x4_3) ∧ Aside0 (Below w.heap.size w wc))
                  case first =>
                    have H := HC26.out
                    clear HC26
                    by_cases c27 : x8_19 ≤ x7_3
                    · rw [if_pos c27] at H
                      have c27b0 : decide (x8_19 ≤ x7_3) = true := decide_eq_true c27
                      clear c27
                      (first | rw [c27b0] | (simp only [i64_w, i32_w]; rw [c27b0]) | skip)
                      have H' := Aside0.mk H
                      clear H
                      go_wp2
                      go_meet
                      case rel => exact ⟨_, (((wrap64 (x5_3 + x8_19)) == (l0.length : Int))), (by first | rfl | (simp; done) | (simp [*]; done)), H', ⟨by have := HK1.out; have := HJ3.out; have := HJ19.out; first | omega | exact Nat.le_refl _⟩, ⟨by (with_reducible repeat (first | apply Kd.R_alloc | apply Kd.R_drewN | apply Kd.R_drew)); exact HO_4.out⟩, ⟨by repeat (first | (with_reducible first | exact HB.out | apply below_alloc | apply pw_below_drewN | apply below_drew1) | exact HB.out)⟩⟩
                    · rw [if_neg c27] at H
                      have c27b0 : decide (x8_19 ≤ x7_3) = false := decide_eq_false c27
                      clear c27
                      (first | rw [c27b0] | (simp only [i64_w, i32_w]; rw [c27b0]) | skip)
                      have H' := Aside0.mk H
                      clear H
                      go_wp2
                      go_meet
                      case rel => exact ⟨_, (false), (by first | rfl | (simp; done) | (simp [*]; done)), H', ⟨by have := HK1.out; have := HJ3.out; have := HJ19.out; first | omega | exact Nat.le_refl _⟩, ⟨by (with_reducible repeat (first | apply Kd.R_alloc | apply Kd.R_drewN | apply Kd.R_drew)); exact HO_4.out⟩, ⟨by repeat (first | (with_reducible first | exact HB.out | apply below_alloc | apply pw_below_drewN | apply below_drew1) | exact HB.out)⟩⟩
                  case rest =>
                    clear HC26
                    try clear c1
                    try clear c2
                    try clear c2b0
                    try clear p2
                    try clear q2
                    try clear hx2
                    try clear c3
                    try clear c3b0
                    try clear p3
                    try clear c5
                    try clear c5b0
                    try clear c6
                    try clear p6
                    try clear c9
                    try clear c9b0
                    try clear c10
                    try clear c12
                    try clear c12b0
                    try clear c13
                    try clear c14
                    try clear c14b0
                    try clear c15
                    try clear c15b0
                    try clear c16
                    try clear c18
                    try clear c21
                    try clear c21b0
                    try clear c22
                    try clear c22b0
                    try clear c24
                    try clear c24b0
                    try clear p24
                    try clear q24
                    try clear hx24
                    try clear c25
                    try clear c25b0
                    try clear c25b1
                    try clear p25
                    try clear q25
                    try clear hx25
                    try clear p26
                    try clear q26
                    try clear hx26
                    try clear c27
                    try clear c27b0
                    try clear hx249_0
                    try clear hx259_0
                    try clear hx260_0
                    try clear p2
                    try clear p24
                    try clear p249
                    try clear p25
                    try clear p259
                    try clear p260
                    try clear p3
                    try clear p6
                    try clear q2
                    try clear q24
                    try clear q249
                    try clear q25
                    try clear q259
                    try clear q260
                    obtain ⟨kq, x105_25, rfl, HA, HJ25, HO_4, HB⟩ := hcut
                    cases kq with
                    | zero => exact absurd HA.out (by simp [linguistref1_Decode.j6])
                    | succ kj25 =>
                      have H := HA.out
                      clear HA
                      simp only [linguistref1_Decode.j6] at H
                      by_cases c28 : x105_25 = true
                      · subst c28
                        have H1 : (some (x4_3, wrap64 ((l0.length : Int) - x5_3))) = some (r1, r2) := by rw [if_pos rfl] at H; exact H
                        clear H
                        have H := H1
                        clear H1
                        simp only [Option.some.injEq, Prod.mk.injEq] at H
                        obtain ⟨rfl, rfl⟩ := H
                        go_wp2
                        go_ret2
                        exact ⟨_, by first | rfl | (simp [errW_none, errW_some] <;> rfl) | (simp [*, errW_none, errW_some] <;> rfl), by (with_reducible repeat (first | apply Kd.R_alloc | apply Kd.R_drewN | apply Kd.R_drew)); exact HO_4.out, by repeat (first | (with_reducible first | exact HB.out | apply below_alloc | apply pw_below_drewN | apply below_drew1) | exact HB.out)⟩
                      · replace c28 := Bool.eq_false_iff.mpr c28
                        subst c28
                        have H1 : ((some (([0, 128, 2048, 65536] : List Int) : List Int)).bind fun y261 => (if 0 ≤ x7_3 then (if x7_3 < (y261.length : Int) then (if x8_19 ≤ x7_3 then (if x4_3.length < 35184372088832 then (linguistref1_Decode.l0 kj25 l0 (x4_3 ++ [65533]) (wrap64 (x5_3 + x8_19))) else (none)) else (if x6_19 < (rd y261 x7_3) then (if x4_3.length < 35184372088832 then (linguistref1_Decode.l0 kj25 l0 (x4_3 ++ [65533]) (wrap64 (x5_3 + x8_19))) else (none)) else (if x6_19 > 1114111 then (if x4_3.length < 35184372088832 then (linguistref1_Decode.l0 kj25 l0 (x4_3 ++ [65533]) (wrap64 (x5_3 + x8_19))) else (none)) else (if x6_19 ≥ 55296 then (if x6_19 ≤ 57343 then (if x4_3.length < 35184372088832 then (linguistref1_Decode.l0 kj25 l0 (x4_3 ++ [65533]) (wrap64 (x5_3 + x8_19))) else (none)) else (if x4_3.length < 35184372088832 then (linguistref1_Decode.l0 kj25 l0 (x4_3 ++ [wrap32 (x6_19)]) (wrap64 (x5_3 + x8_19))) else (none))) else (if x4_3.length < 35184372088832 then (linguistref1_Decode.l0 kj25 l0 (x4_3 ++ [wrap32 (x6_19)]) (wrap64 (x5_3 + x8_19))) else (none)))))) else (none)) else (none))) = some (r1, r2) := by rw [if_neg (show ¬ (false = true) by decide)] at H; exact H
                        clear H
                        have H := H1
                        clear H1
                        obtain ⟨y261, hy261⟩ : ∃ y_ : List Int, y_ = (([0, 128, 2048, 65536] : List Int)) := ⟨_, rfl⟩
                        replace H : (if 0 ≤ x7_3 then (if x7_3 < (y261.length : Int) then (if x8_19 ≤ x7_3 then (if x4_3.length < 35184372088832 then (linguistref1_Decode.l0 kj25 l0 (x4_3 ++ [65533]) (wrap64 (x5_3 + x8_19))) else (none)) else (if x6_19 < (rd y261 x7_3) then (if x4_3.length < 35184372088832 then (linguistref1_Decode.l0 kj25 l0 (x4_3 ++ [65533]) (wrap64 (x5_3 + x8_19))) else (none)) else (if x6_19 > 1114111 then (if x4_3.length < 35184372088832 then (linguistref1_Decode.l0 kj25 l0 (x4_3 ++ [65533]) (wrap64 (x5_3 + x8_19))) else (none)) else (if x6_19 ≥ 55296 then (if x6_19 ≤ 57343 then (if x4_3.length < 35184372088832 then (linguistref1_Decode.l0 kj25 l0 (x4_3 ++ [65533]) (wrap64 (x5_3 + x8_19))) else (none)) else (if x4_3.length < 35184372088832 then (linguistref1_Decode.l0 kj25 l0 (x4_3 ++ [wrap32 (x6_19)]) (wrap64 (x5_3 + x8_19))) else (none))) else (if x4_3.length < 35184372088832 then (linguistref1_Decode.l0 kj25 l0 (x4_3 ++ [wrap32 (x6_19)]) (wrap64 (x5_3 + x8_19))) else (none)))))) else (none)) else (none)) = some (r1, r2) := by first | (rw [hy261]; with_reducible exact H) | (have H2_ := (Option.bind_some _ _).symm.trans H; rw [hy261]; with_reducible exact H2_) | (have H2_ := (Option.bind_some _ _).symm.trans H; with_reducible exact H2_) | with_reducible exact H | (rw [hy261]; exact H) | exact H
                        have Ny261 := Aside0.mk hy261
                        clear hy261
                        by_cases c29 : 0 ≤ x7_3
                        · rw [if_pos c29] at H
                          have c29b0 : decide (0 ≤ x7_3) = true := decide_eq_true c29
                          clear c29
                          by_cases c30 : x7_3 < (y261.length : Int)
                          · rw [if_pos c30] at H
                            have c30b0 : decide (x7_3 < (y261.length : Int)) = true := decide_eq_true c30
                            clear c30
                            by_cases c31 : x8_19 ≤ x7_3
                            · rw [if_pos c31] at H
                              have c31b0 : decide (x8_19 ≤ x7_3) = true := decide_eq_true c31
                              clear c31
                              by_cases c32 : x4_3.length < 35184372088832
                              · rw [if_pos c32] at H
                                have LMc32 := Aside0.mk c32
                                clear c32
                                obtain ⟨y265, hy265⟩ : ∃ y_ : List Int, y_ = (x4_3 ++ [65533]) := ⟨_, rfl⟩
                                replace H : (linguistref1_Decode.l0 kj25 l0 y265 (wrap64 (x5_3 + x8_19))) = some (r1, r2) := by first | (rw [hy265]; with_reducible exact H) | (have H2_ := (Option.bind_some _ _).symm.trans H; rw [hy265]; with_reducible exact H2_) | (have H2_ := (Option.bind_some _ _).symm.trans H; with_reducible exact H2_) | with_reducible exact H | (rw [hy265]; exact H) | exact H
                                have Ny265 := Aside0.mk hy265
                                clear hy265
                                have H' := Aside0.mk H
                                clear H
                                go_wp2_with (first | ((with_reducible refine gate_dst (N := 114) rfl ?_); (try (refine gate_guard (by rfl) ?_; dsimp only)); refine Kd.R_lit (Kd.int .i64) _ 3 ?hg (N := 114) ?hd (xs := ([0, 128, 2048, 65536] : List Int)) (inner := [.int .i64 0, .int .i64 128, .int .i64 2048, .int .i64 65536]) (ok := fun _ => True) (okp := fun _ => True) ?hr ?hp (fun _ hk => hk) trivial (Below.refl _ _) (Nat.le_refl _) (by simp) ?_; (case hd => rfl); (case hg => rfl); (case hr => first | (go_simp; done) | (go_simp; rfl)); (case hp => exact (Reps.one (show Kd.M (Kd.int .i64) _ _ _ 0 [.int .i64 0] from rfl) (Reps.one (show Kd.M (Kd.int .i64) _ _ _ 128 [.int .i64 128] from rfl) (Reps.one (show Kd.M (Kd.int .i64) _ _ _ 2048 [.int .i64 2048] from rfl) (Reps.one (show Kd.M (Kd.int .i64) _ _ _ 65536 [.int .i64 65536] from rfl) (Reps.none _ _)))))); intro v262 w33 ho34 hb hg_ hnew_; clear hg_ hnew_; (first | rw [← Ny261.out] at ho34 | (simp only [Int.reduceToNat] at ho34; rw [← Ny261.out] at ho34)); have n0_ := Aside0.mk (Kd.R_below (by (with_reducible repeat (first | apply Kd.R_alloc | apply Kd.R_drewN | apply Kd.R_drew)); exact HO_4.out) hb); have n1_ := Aside0.mk (Kd.R_lower ho34 (below_size (by repeat (first | (with_reducible first | exact HB.out | apply below_alloc | apply pw_below_drewN | apply below_drew1) | exact HB.out)))); have n2_ := Aside0.mk (below_step (by repeat (first | (with_reducible first | exact HB.out | apply below_alloc | apply pw_below_drewN | apply below_drew1) | exact HB.out)) hb); clear HO_4; clear HB; have HO_4 := n0_; have HO263 := n1_; have HB := n2_; clear n0_ n1_ n2_; clear hb ho34; obtain ⟨Ao35, co35, eo35⟩ := Kd.R_slice HO263.out; subst eo35; have p264 : 0 ≤ (x7_3 : Int) := of_decide_eq_true (by first | (with_reducible assumption) | assumption); have q264 : x7_3 < (y261.length : Int) := of_decide_eq_true (by first | (with_reducible assumption) | assumption); obtain ⟨ad264, e264, hx264_0⟩ := Kd.at_int (Kd.R_reads' HO263.out).2.2 x7_3 p264 q264; cases e264; replace p264 := eq_true p264; replace q264 := eq_true q264) | ((with_reducible refine gate_builtin (b := .append) (xs := #[.tmp 138, .tmp 141]) rfl ?_); (try (refine gate_guard (by rfl) ?_; dsimp only)); at_builtin; refine Kd.R_append (Kd.int .i32) (w0 := w) w.heap.size rfl (.tmp 138) (.tmp 141) 22 21 (.int .i32 0) 4 rfl Try.underlying22 info21 rfl (by decide) (by omega) u4 x4_3 65533 [.int .i32 65533] (fun _ => True) (fun _ => False) rfl rfl ?aP (fun _ hk => hk.elim) ?aF ?aO ?aB ?aS ?aL ?_; (case aP => exact rfl); (case aB => exact (by repeat (first | (with_reducible first | exact HB.out | apply below_alloc | apply pw_below_drewN | apply below_drew1) | exact HB.out))); (case aF => exact (fun _ _ => trivial)); (case aO => exact (by (with_reducible repeat (first | apply Kd.R_alloc | apply Kd.R_drewN | apply Kd.R_drew)); exact HO_4.out)); (case aS => exact (below_size (by repeat (first | (with_reducible first | exact HB.out | apply below_alloc | apply pw_below_drewN | apply below_drew1) | exact HB.out)))); (case aL => have := LMc32.out; omega); intro v266 w36 ho hb hg hat; rw [← Ny265.out] at ho; have n0_ := Aside0.mk (Kd.R_over' (by (with_reducible repeat (first | apply Kd.R_alloc | apply Kd.R_drewN | apply Kd.R_drew)); exact HO263.out) (Kd.R_typed (by (with_reducible repeat (first | apply Kd.R_alloc | apply Kd.R_drewN | apply Kd.R_drew)); exact HO_4.out)) (by decide) hg); have n1_ := Aside0.mk (hb); have n2_ := Aside0.mk (ho); clear HO263; clear HB; clear HO_4; have HO263 := n0_; have HB := n1_; have HO267 := n2_; clear n0_ n1_ n2_; clear ho hb hg hat))
                                go_roundg kj25
                                case measure => have := HK1.out; have := HJ3.out; have := HJ19.out; have := HJ25.out; omega
                                case rel => exact ⟨(y265), (wrap64 (x5_3 + x8_19)), (by first | rfl | (simp; done) | (simp [*]; done)), H', ⟨by have := HK1.out; have := HJ3.out; have := HJ19.out; have := HJ25.out; omega⟩, ⟨by (with_reducible repeat (first | apply Kd.R_alloc | apply Kd.R_drewN | apply Kd.R_drew)); exact HO267.out⟩, ⟨by repeat (first | (with_reducible first | exact HB.out | apply below_alloc | apply pw_below_drewN | apply below_drew1) | exact HB.out)⟩⟩
                              · rw [if_neg c32] at H
                                exact absurd H (by simp)
                            · rw [if_neg c31] at H
                              have c31b0 : decide (x8_19 ≤ x7_3) = false := decide_eq_false c31
                              clear c31
                              by_cases c37 : x6_19 < (rd y261 x7_3)
                              · rw [if_pos c37] at H
                                have c37b0 : decide (x6_19 < (rd y261 x7_3)) = true := decide_eq_true c37
                                clear c37
                                by_cases c38 : x4_3.length < 35184372088832
                                · rw [if_pos c38] at H
                                  have LMc38 := Aside0.mk c38
                                  clear c38
                                  obtain ⟨y268, hy268⟩ : ∃ y_ : List Int, y_ = (x4_3 ++ [65533]) := ⟨_, rfl⟩
                                  replace H : (linguistref1_Decode.l0 kj25 l0 y268 (wrap64 (x5_3 + x8_19))) = some (r1, r2) := by first | (rw [hy268]; with_reducible exact H) | (have H2_ := (Option.bind_some _ _).symm.trans H; rw [hy268]; with_reducible exact H2_) | (have H2_ := (Option.bind_some _ _).symm.trans H; with_reducible exact H2_) | with_reducible exact H | (rw [hy268]; exact H) | exact H
                                  have Ny268 := Aside0.mk hy268
                                  clear hy268
                                  have H' := Aside0.mk H
                                  clear H
                                  go_wp2_with (first | ((with_reducible refine gate_dst (N := 114) rfl ?_); (try (refine gate_guard (by rfl) ?_; dsimp only)); refine Kd.R_lit (Kd.int .i64) _ 3 ?hg (N := 114) ?hd (xs := ([0, 128, 2048, 65536] : List Int)) (inner := [.int .i64 0, .int .i64 128, .int .i64 2048, .int .i64 65536]) (ok := fun _ => True) (okp := fun _ => True) ?hr ?hp (fun _ hk => hk) trivial (Below.refl _ _) (Nat.le_refl _) (by simp) ?_; (case hd => rfl); (case hg => rfl); (case hr => first | (go_simp; done) | (go_simp; rfl)); (case hp => exact (Reps.one (show Kd.M (Kd.int .i64) _ _ _ 0 [.int .i64 0] from rfl) (Reps.one (show Kd.M (Kd.int .i64) _ _ _ 128 [.int .i64 128] from rfl) (Reps.one (show Kd.M (Kd.int .i64) _ _ _ 2048 [.int .i64 2048] from rfl) (Reps.one (show Kd.M (Kd.int .i64) _ _ _ 65536 [.int .i64 65536] from rfl) (Reps.none _ _)))))); intro v262 w39 ho40 hb hg_ hnew_; clear hg_ hnew_; (first | rw [← Ny261.out] at ho40 | (simp only [Int.reduceToNat] at ho40; rw [← Ny261.out] at ho40)); have n0_ := Aside0.mk (Kd.R_below (by (with_reducible repeat (first | apply Kd.R_alloc | apply Kd.R_drewN | apply Kd.R_drew)); exact HO_4.out) hb); have n1_ := Aside0.mk (Kd.R_lower ho40 (below_size (by repeat (first | (with_reducible first | exact HB.out | apply below_alloc | apply pw_below_drewN | apply below_drew1) | exact HB.out)))); have n2_ := Aside0.mk (below_step (by repeat (first | (with_reducible first | exact HB.out | apply below_alloc | apply pw_below_drewN | apply below_drew1) | exact HB.out)) hb); clear HO_4; clear HB; have HO_4 := n0_; have HO263 := n1_; have HB := n2_; clear n0_ n1_ n2_; clear hb ho40; obtain ⟨Ao41, co41, eo41⟩ := Kd.R_slice HO263.out; subst eo41; have p264 : 0 ≤ (x7_3 : Int) := of_decide_eq_true (by first | (with_reducible assumption) | assumption); have q264 : x7_3 < (y261.length : Int) := of_decide_eq_true (by first | (with_reducible assumption) | assumption); obtain ⟨ad264, e264, hx264_0⟩ := Kd.at_int (Kd.R_reads' HO263.out).2.2 x7_3 p264 q264; cases e264; replace p264 := eq_true p264; replace q264 := eq_true q264) | ((with_reducible refine gate_builtin (b := .append) (xs := #[.tmp 138, .tmp 141]) rfl ?_); (try (refine gate_guard (by rfl) ?_; dsimp only)); at_builtin; refine Kd.R_append (Kd.int .i32) (w0 := w) w.heap.size rfl (.tmp 138) (.tmp 141) 22 21 (.int .i32 0) 4 rfl Try.underlying22 info21 rfl (by decide) (by omega) u4 x4_3 65533 [.int .i32 65533] (fun _ => True) (fun _ => False) rfl rfl ?aP (fun _ hk => hk.elim) ?aF ?aO ?aB ?aS ?aL ?_; (case aP => exact rfl); (case aB => exact (by repeat (first | (with_reducible first | exact HB.out | apply below_alloc | apply pw_below_drewN | apply below_drew1) | exact HB.out))); (case aF => exact (fun _ _ => trivial)); (case aO => exact (by (with_reducible repeat (first | apply Kd.R_alloc | apply Kd.R_drewN | apply Kd.R_drew)); exact HO_4.out)); (case aS => exact (below_size (by repeat (first | (with_reducible first | exact HB.out | apply below_alloc | apply pw_below_drewN | apply below_drew1) | exact HB.out)))); (case aL => have := LMc38.out; omega); intro v269 w42 ho hb hg hat; rw [← Ny268.out] at ho; have n0_ := Aside0.mk (Kd.R_over' (by (with_reducible repeat (first | apply Kd.R_alloc | apply Kd.R_drewN | apply Kd.R_drew)); exact HO263.out) (Kd.R_typed (by (with_reducible repeat (first | apply Kd.R_alloc | apply Kd.R_drewN | apply Kd.R_drew)); exact HO_4.out)) (by decide) hg); have n1_ := Aside0.mk (hb); have n2_ := Aside0.mk (ho); clear HO263; clear HB; clear HO_4; have HO263 := n0_; have HB := n1_; have HO270 := n2_; clear n0_ n1_ n2_; clear ho hb hg hat))
                                  go_roundg kj25
                                  case measure => have := HK1.out; have := HJ3.out; have := HJ19.out; have := HJ25.out; omega
                                  case rel => exact ⟨(y268), (wrap64 (x5_3 + x8_19)), (by first | rfl | (simp; done) | (simp [*]; done)), H', ⟨by have := HK1.out; have := HJ3.out; have := HJ19.out; have := HJ25.out; omega⟩, ⟨by (with_reducible repeat (first | apply Kd.R_alloc | apply Kd.R_drewN | apply Kd.R_drew)); exact HO270.out⟩, ⟨by repeat (first | (with_reducible first | exact HB.out | apply below_alloc | apply pw_below_drewN | apply below_drew1) | exact HB.out)⟩⟩
                                · rw [if_neg c38] at H
                                  exact absurd H (by simp)
                              · rw [if_neg c37] at H
                                have c37b0 : decide (x6_19 < (rd y261 x7_3)) = false := decide_eq_false c37
                                clear c37
                                by_cases c43 : x6_19 > 1114111
                                · rw [if_pos c43] at H
                                  have c43b0 : decide (1114111 < x6_19) = true := decide_eq_true c43
                                  clear c43
                                  by_cases c44 : x4_3.length < 35184372088832
                                  · rw [if_pos c44] at H
                                    have LMc44 := Aside0.mk c44
                                    clear c44
                                    obtain ⟨y271, hy271⟩ : ∃ y_ : List Int, y_ = (x4_3 ++ [65533]) := ⟨_, rfl⟩
                                    replace H : (linguistref1_Decode.l0 kj25 l0 y271 (wrap64 (x5_3 + x8_19))) = some (r1, r2) := by first | (rw [hy271]; with_reducible exact H) | (have H2_ := (Option.bind_some _ _).symm.trans H; rw [hy271]; with_reducible exact H2_) | (have H2_ := (Option.bind_some _ _).symm.trans H; with_reducible exact H2_) | with_reducible exact H | (rw [hy271]; exact H) | exact H
                                    have Ny271 := Aside0.mk hy271
                                    clear hy271
                                    have H' := Aside0.mk H
                                    clear H
                                    go_wp2_with (first | ((with_reducible refine gate_dst (N := 114) rfl ?_); (try (refine gate_guard (by rfl) ?_; dsimp only)); refine Kd.R_lit (Kd.int .i64) _ 3 ?hg (N := 114) ?hd (xs := ([0, 128, 2048, 65536] : List Int)) (inner := [.int .i64 0, .int .i64 128, .int .i64 2048, .int .i64 65536]) (ok := fun _ => True) (okp := fun _ => True) ?hr ?hp (fun _ hk => hk) trivial (Below.refl _ _) (Nat.le_refl _) (by simp) ?_; (case hd => rfl); (case hg => rfl); (case hr => first | (go_simp; done) | (go_simp; rfl)); (case hp => exact (Reps.one (show Kd.M (Kd.int .i64) _ _ _ 0 [.int .i64 0] from rfl) (Reps.one (show Kd.M (Kd.int .i64) _ _ _ 128 [.int .i64 128] from rfl) (Reps.one (show Kd.M (Kd.int .i64) _ _ _ 2048 [.int .i64 2048] from rfl) (Reps.one (show Kd.M (Kd.int .i64) _ _ _ 65536 [.int .i64 65536] from rfl) (Reps.none _ _)))))); intro v262 w45 ho46 hb hg_ hnew_; clear hg_ hnew_; (first | rw [← Ny261.out] at ho46 | (simp only [Int.reduceToNat] at ho46; rw [← Ny261.out] at ho46)); have n0_ := Aside0.mk (Kd.R_below (by (with_reducible repeat (first | apply Kd.R_alloc | apply Kd.R_drewN | apply Kd.R_drew)); exact HO_4.out) hb); have n1_ := Aside0.mk (Kd.R_lower ho46 (below_size (by repeat (first | (with_reducible first | exact HB.out | apply below_alloc | apply pw_below_drewN | apply below_drew1) | exact HB.out)))); have n2_ := Aside0.mk (below_step (by repeat (first | (with_reducible first | exact HB.out | apply below_alloc | apply pw_below_drewN | apply below_drew1) | exact HB.out)) hb); clear HO_4; clear HB; have HO_4 := n0_; have HO263 := n1_; have HB := n2_; clear n0_ n1_ n2_; clear hb ho46; obtain ⟨Ao47, co47, eo47⟩ := Kd.R_slice HO263.out; subst eo47; have p264 : 0 ≤ (x7_3 : Int) := of_decide_eq_true (by first | (with_reducible assumption) | assumption); have q264 : x7_3 < (y261.length : Int) := of_decide_eq_true (by first | (with_reducible assumption) | assumption); obtain ⟨ad264, e264, hx264_0⟩ := Kd.at_int (Kd.R_reads' HO263.out).2.2 x7_3 p264 q264; cases e264; replace p264 := eq_true p264; replace q264 := eq_true q264) | ((with_reducible refine gate_builtin (b := .append) (xs := #[.tmp 138, .tmp 141]) rfl ?_); (try (refine gate_guard (by rfl) ?_; dsimp only)); at_builtin; refine Kd.R_append (Kd.int .i32) (w0 := w) w.heap.size rfl (.tmp 138) (.tmp 141) 22 21 (.int .i32 0) 4 rfl Try.underlying22 info21 rfl (by decide) (by omega) u4 x4_3 65533 [.int .i32 65533] (fun _ => True) (fun _ => False) rfl rfl ?aP (fun _ hk => hk.elim) ?aF ?aO ?aB ?aS ?aL ?_; (case aP => exact rfl); (case aB => exact (by repeat (first | (with_reducible first | exact HB.out | apply below_alloc | apply pw_below_drewN | apply below_drew1) | exact HB.out))); (case aF => exact (fun _ _ => trivial)); (case aO => exact (by (with_reducible repeat (first | apply Kd.R_alloc | apply Kd.R_drewN | apply Kd.R_drew)); exact HO_4.out)); (case aS => exact (below_size (by repeat (first | (with_reducible first | exact HB.out | apply below_alloc | apply pw_below_drewN | apply below_drew1) | exact HB.out)))); (case aL => have := LMc44.out; omega); intro v272 w48 ho hb hg hat; rw [← Ny271.out] at ho; have n0_ := Aside0.mk (Kd.R_over' (by (with_reducible repeat (first | apply Kd.R_alloc | apply Kd.R_drewN | apply Kd.R_drew)); exact HO263.out) (Kd.R_typed (by (with_reducible repeat (first | apply Kd.R_alloc | apply Kd.R_drewN | apply Kd.R_drew)); exact HO_4.out)) (by decide) hg); have n1_ := Aside0.mk (hb); have n2_ := Aside0.mk (ho); clear HO263; clear HB; clear HO_4; have HO263 := n0_; have HB := n1_; have HO273 := n2_; clear n0_ n1_ n2_; clear ho hb hg hat))
                                    go_roundg kj25
                                    case measure => have := HK1.out; have := HJ3.out; have := HJ19.out; have := HJ25.out; omega
                                    case rel => exact ⟨(y271), (wrap64 (x5_3 + x8_19)), (by first | rfl | (simp; done) | (simp [*]; done)), H', ⟨by have := HK1.out; have := HJ3.out; have := HJ19.out; have := HJ25.out; omega⟩, ⟨by (with_reducible repeat (first | apply Kd.R_alloc | apply Kd.R_drewN | apply Kd.R_drew)); exact HO273.out⟩, ⟨by repeat (first | (with_reducible first | exact HB.out | apply below_alloc | apply pw_below_drewN | apply below_drew1) | exact HB.out)⟩⟩
                                  · rw [if_neg c44] at H
                                    exact absurd H (by simp)
                                · rw [if_neg c43] at H
                                  have c43b0 : decide (1114111 < x6_19) = false := decide_eq_false c43
                                  clear c43
                                  by_cases c49 : x6_19 ≥ 55296
                                  · rw [if_pos c49] at H
                                    have c49b0 : decide (55296 ≤ x6_19) = true := decide_eq_true c49
                                    clear c49
                                    by_cases c50 : x6_19 ≤ 57343
                                    · rw [if_pos c50] at H
                                      have c50b0 : decide (x6_19 ≤ 57343) = true := decide_eq_true c50
                                      clear c50
                                      by_cases c51 : x4_3.length < 35184372088832
                                      · rw [if_pos c51] at H
                                        have LMc51 := Aside0.mk c51
                                        clear c51
                                        obtain ⟨y274, hy274⟩ : ∃ y_ : List Int, y_ = (x4_3 ++ [65533]) := ⟨_, rfl⟩
                                        replace H : (linguistref1_Decode.l0 kj25 l0 y274 (wrap64 (x5_3 + x8_19))) = some (r1, r2) := by first | (rw [hy274]; with_reducible exact H) | (have H2_ := (Option.bind_some _ _).symm.trans H; rw [hy274]; with_reducible exact H2_) | (have H2_ := (Option.bind_some _ _).symm.trans H; with_reducible exact H2_) | with_reducible exact H | (rw [hy274]; exact H) | exact H
                                        have Ny274 := Aside0.mk hy274
                                        clear hy274
                                        have H' := Aside0.mk H
                                        clear H
                                        go_wp2_with (first | ((with_reducible refine gate_dst (N := 114) rfl ?_); (try (refine gate_guard (by rfl) ?_; dsimp only)); refine Kd.R_lit (Kd.int .i64) _ 3 ?hg (N := 114) ?hd (xs := ([0, 128, 2048, 65536] : List Int)) (inner := [.int .i64 0, .int .i64 128, .int .i64 2048, .int .i64 65536]) (ok := fun _ => True) (okp := fun _ => True) ?hr ?hp (fun _ hk => hk) trivial (Below.refl _ _) (Nat.le_refl _) (by simp) ?_; (case hd => rfl); (case hg => rfl); (case hr => first | (go_simp; done) | (go_simp; rfl)); (case hp => exact (Reps.one (show Kd.M (Kd.int .i64) _ _ _ 0 [.int .i64 0] from rfl) (Reps.one (show Kd.M (Kd.int .i64) _ _ _ 128 [.int .i64 128] from rfl) (Reps.one (show Kd.M (Kd.int .i64) _ _ _ 2048 [.int .i64 2048] from rfl) (Reps.one (show Kd.M (Kd.int .i64) _ _ _ 65536 [.int .i64 65536] from rfl) (Reps.none _ _)))))); intro v262 w52 ho53 hb hg_ hnew_; clear hg_ hnew_; (first | rw [← Ny261.out] at ho53 | (simp only [Int.reduceToNat] at ho53; rw [← Ny261.out] at ho53)); have n0_ := Aside0.mk (Kd.R_below (by (with_reducible repeat (first | apply Kd.R_alloc | apply Kd.R_drewN | apply Kd.R_drew)); exact HO_4.out) hb); have n1_ := Aside0.mk (Kd.R_lower ho53 (below_size (by repeat (first | (with_reducible first | exact HB.out | apply below_alloc | apply pw_below_drewN | apply below_drew1) | exact HB.out)))); have n2_ := Aside0.mk (below_step (by repeat (first | (with_reducible first | exact HB.out | apply below_alloc | apply pw_below_drewN | apply below_drew1) | exact HB.out)) hb); clear HO_4; clear HB; have HO_4 := n0_; have HO263 := n1_; have HB := n2_; clear n0_ n1_ n2_; clear hb ho53; obtain ⟨Ao54, co54, eo54⟩ := Kd.R_slice HO263.out; subst eo54; have p264 : 0 ≤ (x7_3 : Int) := of_decide_eq_true (by first | (with_reducible assumption) | assumption); have q264 : x7_3 < (y261.length : Int) := of_decide_eq_true (by first | (with_reducible assumption) | assumption); obtain ⟨ad264, e264, hx264_0⟩ := Kd.at_int (Kd.R_reads' HO263.out).2.2 x7_3 p264 q264; cases e264; replace p264 := eq_true p264; replace q264 := eq_true q264) | ((with_reducible refine gate_builtin (b := .append) (xs := #[.tmp 138, .tmp 141]) rfl ?_); (try (refine gate_guard (by rfl) ?_; dsimp only)); at_builtin; refine Kd.R_append (Kd.int .i32) (w0 := w) w.heap.size rfl (.tmp 138) (.tmp 141) 22 21 (.int .i32 0) 4 rfl Try.underlying22 info21 rfl (by decide) (by omega) u4 x4_3 65533 [.int .i32 65533] (fun _ => True) (fun _ => False) rfl rfl ?aP (fun _ hk => hk.elim) ?aF ?aO ?aB ?aS ?aL ?_; (case aP => exact rfl); (case aB => exact (by repeat (first | (with_reducible first | exact HB.out | apply below_alloc | apply pw_below_drewN | apply below_drew1) | exact HB.out))); (case aF => exact (fun _ _ => trivial)); (case aO => exact (by (with_reducible repeat (first | apply Kd.R_alloc | apply Kd.R_drewN | apply Kd.R_drew)); exact HO_4.out)); (case aS => exact (below_size (by repeat (first | (with_reducible first | exact HB.out | apply below_alloc | apply pw_below_drewN | apply below_drew1) | exact HB.out)))); (case aL => have := LMc51.out; omega); intro v275 w55 ho hb hg hat; rw [← Ny274.out] at ho; have n0_ := Aside0.mk (Kd.R_over' (by (with_reducible repeat (first | apply Kd.R_alloc | apply Kd.R_drewN | apply Kd.R_drew)); exact HO263.out) (Kd.R_typed (by (with_reducible repeat (first | apply Kd.R_alloc | apply Kd.R_drewN | apply Kd.R_drew)); exact HO_4.out)) (by decide) hg); have n1_ := Aside0.mk (hb); have n2_ := Aside0.mk (ho); clear HO263; clear HB; clear HO_4; have HO263 := n0_; have HB := n1_; have HO276 := n2_; clear n0_ n1_ n2_; clear ho hb hg hat))
                                        go_roundg kj25
                                        case measure => have := HK1.out; have := HJ3.out; have := HJ19.out; have := HJ25.out; omega
                                        case rel => exact ⟨(y274), (wrap64 (x5_3 + x8_19)), (by first | rfl | (simp; done) | (simp [*]; done)), H', ⟨by have := HK1.out; have := HJ3.out; have := HJ19.out; have := HJ25.out; omega⟩, ⟨by (with_reducible repeat (first | apply Kd.R_alloc | apply Kd.R_drewN | apply Kd.R_drew)); exact HO276.out⟩, ⟨by repeat (first | (with_reducible first | exact HB.out | apply below_alloc | apply pw_below_drewN | apply below_drew1) | exact HB.out)⟩⟩
                                      · rw [if_neg c51] at H
                                        exact absurd H (by simp)
                                    · rw [if_neg c50] at H
                                      have c50b0 : decide (x6_19 ≤ 57343) = false := decide_eq_false c50
                                      clear c50
                                      by_cases c56 : x4_3.length < 35184372088832
                                      · rw [if_pos c56] at H
                                        have LMc56 := Aside0.mk c56
                                        clear c56
                                        obtain ⟨y277, hy277⟩ : ∃ y_ : List Int, y_ = (x4_3 ++ [wrap32 (x6_19)]) := ⟨_, rfl⟩
                                        replace H : (linguistref1_Decode.l0 kj25 l0 y277 (wrap64 (x5_3 + x8_19))) = some (r1, r2) := by first | (rw [hy277]; with_reducible exact H) | (have H2_ := (Option.bind_some _ _).symm.trans H; rw [hy277]; with_reducible exact H2_) | (have H2_ := (Option.bind_some _ _).symm.trans H; with_reducible exact H2_) | with_reducible exact H | (rw [hy277]; exact H) | exact H
                                        have Ny277 := Aside0.mk hy277
                                        clear hy277
                                        have H' := Aside0.mk H
                                        clear H
                                        go_wp2_with (first | ((with_reducible refine gate_dst (N := 114) rfl ?_); (try (refine gate_guard (by rfl) ?_; dsimp only)); refine Kd.R_lit (Kd.int .i64) _ 3 ?hg (N := 114) ?hd (xs := ([0, 128, 2048, 65536] : List Int)) (inner := [.int .i64 0, .int .i64 128, .int .i64 2048, .int .i64 65536]) (ok := fun _ => True) (okp := fun _ => True) ?hr ?hp (fun _ hk => hk) trivial (Below.refl _ _) (Nat.le_refl _) (by simp) ?_; (case hd => rfl); (case hg => rfl); (case hr => first | (go_simp; done) | (go_simp; rfl)); (case hp => exact (Reps.one (show Kd.M (Kd.int .i64) _ _ _ 0 [.int .i64 0] from rfl) (Reps.one (show Kd.M (Kd.int .i64) _ _ _ 128 [.int .i64 128] from rfl) (Reps.one (show Kd.M (Kd.int .i64) _ _ _ 2048 [.int .i64 2048] from rfl) (Reps.one (show Kd.M (Kd.int .i64) _ _ _ 65536 [.int .i64 65536] from rfl) (Reps.none _ _)))))); intro v262 w57 ho58 hb hg_ hnew_; clear hg_ hnew_; (first | rw [← Ny261.out] at ho58 | (simp only [Int.reduceToNat] at ho58; rw [← Ny261.out] at ho58)); have n0_ := Aside0.mk (Kd.R_below (by (with_reducible repeat (first | apply Kd.R_alloc | apply Kd.R_drewN | apply Kd.R_drew)); exact HO_4.out) hb); have n1_ := Aside0.mk (Kd.R_lower ho58 (below_size (by repeat (first | (with_reducible first | exact HB.out | apply below_alloc | apply pw_below_drewN | apply below_drew1) | exact HB.out)))); have n2_ := Aside0.mk (below_step (by repeat (first | (with_reducible first | exact HB.out | apply below_alloc | apply pw_below_drewN | apply below_drew1) | exact HB.out)) hb); clear HO_4; clear HB; have HO_4 := n0_; have HO263 := n1_; have HB := n2_; clear n0_ n1_ n2_; clear hb ho58; obtain ⟨Ao59, co59, eo59⟩ := Kd.R_slice HO263.out; subst eo59; have p264 : 0 ≤ (x7_3 : Int) := of_decide_eq_true (by first | (with_reducible assumption) | assumption); have q264 : x7_3 < (y261.length : Int) := of_decide_eq_true (by first | (with_reducible assumption) | assumption); obtain ⟨ad264, e264, hx264_0⟩ := Kd.at_int (Kd.R_reads' HO263.out).2.2 x7_3 p264 q264; cases e264; replace p264 := eq_true p264; replace q264 := eq_true q264) | ((with_reducible refine gate_builtin (b := .append) (xs := #[.tmp 138, .tmp 141]) rfl ?_); (try (refine gate_guard (by rfl) ?_; dsimp only)); at_builtin; refine Kd.R_append (Kd.int .i32) (w0 := w) w.heap.size rfl (.tmp 138) (.tmp 141) 22 21 (.int .i32 0) 4 rfl Try.underlying22 info21 rfl (by decide) (by omega) u4 x4_3 (wrap32 (x6_19)) [.int .i32 (wrap32 (x6_19))] (fun _ => True) (fun _ => False) rfl rfl ?aP (fun _ hk => hk.elim) ?aF ?aO ?aB ?aS ?aL ?_; (case aP => exact rfl); (case aB => exact (by repeat (first | (with_reducible first | exact HB.out | apply below_alloc | apply pw_below_drewN | apply below_drew1) | exact HB.out))); (case aF => exact (fun _ _ => trivial)); (case aO => exact (by (with_reducible repeat (first | apply Kd.R_alloc | apply Kd.R_drewN | apply Kd.R_drew)); exact HO_4.out)); (case aS => exact (below_size (by repeat (first | (with_reducible first | exact HB.out | apply below_alloc | apply pw_below_drewN | apply below_drew1) | exact HB.out)))); (case aL => have := LMc56.out; omega); intro v278 w60 ho hb hg hat; rw [← Ny277.out] at ho; have n0_ := Aside0.mk (Kd.R_over' (by (with_reducible repeat (first | apply Kd.R_alloc | apply Kd.R_drewN | apply Kd.R_drew)); exact HO263.out) (Kd.R_typed (by (with_reducible repeat (first | apply Kd.R_alloc | apply Kd.R_drewN | apply Kd.R_drew)); exact HO_4.out)) (by decide) hg); have n1_ := Aside0.mk (hb); have n2_ := Aside0.mk (ho); clear HO263; clear HB; clear HO_4; have HO263 := n0_; have HB := n1_; have HO279 := n2_; clear n0_ n1_ n2_; clear ho hb hg hat))
                                        go_roundg kj25
                                        case measure => have := HK1.out; have := HJ3.out; have := HJ19.out; have := HJ25.out; omega
                                        case rel => exact ⟨(y277), (wrap64 (x5_3 + x8_19)), (by first | rfl | (simp; done) | (simp [*]; done)), H', ⟨by have := HK1.out; have := HJ3.out; have := HJ19.out; have := HJ25.out; omega⟩, ⟨by (with_reducible repeat (first | apply Kd.R_alloc | apply Kd.R_drewN | apply Kd.R_drew)); exact HO279.out⟩, ⟨by repeat (first | (with_reducible first | exact HB.out | apply below_alloc | apply pw_below_drewN | apply below_drew1) | exact HB.out)⟩⟩
                                      · rw [if_neg c56] at H
                                        exact absurd H (by simp)
                                  · rw [if_neg c49] at H
                                    have c49b0 : decide (55296 ≤ x6_19) = false := decide_eq_false c49
                                    clear c49
                                    by_cases c61 : x4_3.length < 35184372088832
                                    · rw [if_pos c61] at H
                                      have LMc61 := Aside0.mk c61
                                      clear c61
                                      obtain ⟨y280, hy280⟩ : ∃ y_ : List Int, y_ = (x4_3 ++ [wrap32 (x6_19)]) := ⟨_, rfl⟩
                                      replace H : (linguistref1_Decode.l0 kj25 l0 y280 (wrap64 (x5_3 + x8_19))) = some (r1, r2) := by first | (rw [hy280]; with_reducible exact H) | (have H2_ := (Option.bind_some _ _).symm.trans H; rw [hy280]; with_reducible exact H2_) | (have H2_ := (Option.bind_some _ _).symm.trans H; with_reducible exact H2_) | with_reducible exact H | (rw [hy280]; exact H) | exact H
                                      have Ny280 := Aside0.mk hy280
                                      clear hy280
                                      have H' := Aside0.mk H
                                      clear H
                                      go_wp2_with (first | ((with_reducible refine gate_dst (N := 114) rfl ?_); (try (refine gate_guard (by rfl) ?_; dsimp only)); refine Kd.R_lit (Kd.int .i64) _ 3 ?hg (N := 114) ?hd (xs := ([0, 128, 2048, 65536] : List Int)) (inner := [.int .i64 0, .int .i64 128, .int .i64 2048, .int .i64 65536]) (ok := fun _ => True) (okp := fun _ => True) ?hr ?hp (fun _ hk => hk) trivial (Below.refl _ _) (Nat.le_refl _) (by simp) ?_; (case hd => rfl); (case hg => rfl); (case hr => first | (go_simp; done) | (go_simp; rfl)); (case hp => exact (Reps.one (show Kd.M (Kd.int .i64) _ _ _ 0 [.int .i64 0] from rfl) (Reps.one (show Kd.M (Kd.int .i64) _ _ _ 128 [.int .i64 128] from rfl) (Reps.one (show Kd.M (Kd.int .i64) _ _ _ 2048 [.int .i64 2048] from rfl) (Reps.one (show Kd.M (Kd.int .i64) _ _ _ 65536 [.int .i64 65536] from rfl) (Reps.none _ _)))))); intro v262 w62 ho63 hb hg_ hnew_; clear hg_ hnew_; (first | rw [← Ny261.out] at ho63 | (simp only [Int.reduceToNat] at ho63; rw [← Ny261.out] at ho63)); have n0_ := Aside0.mk (Kd.R_below (by (with_reducible repeat (first | apply Kd.R_alloc | apply Kd.R_drewN | apply Kd.R_drew)); exact HO_4.out) hb); have n1_ := Aside0.mk (Kd.R_lower ho63 (below_size (by repeat (first | (with_reducible first | exact HB.out | apply below_alloc | apply pw_below_drewN | apply below_drew1) | exact HB.out)))); have n2_ := Aside0.mk (below_step (by repeat (first | (with_reducible first | exact HB.out | apply below_alloc | apply pw_below_drewN | apply below_drew1) | exact HB.out)) hb); clear HO_4; clear HB; have HO_4 := n0_; have HO263 := n1_; have HB := n2_; clear n0_ n1_ n2_; clear hb ho63; obtain ⟨Ao64, co64, eo64⟩ := Kd.R_slice HO263.out; subst eo64; have p264 : 0 ≤ (x7_3 : Int) := of_decide_eq_true (by first | (with_reducible assumption) | assumption); have q264 : x7_3 < (y261.length : Int) := of_decide_eq_true (by first | (with_reducible assumption) | assumption); obtain ⟨ad264, e264, hx264_0⟩ := Kd.at_int (Kd.R_reads' HO263.out).2.2 x7_3 p264 q264; cases e264; replace p264 := eq_true p264; replace q264 := eq_true q264) | ((with_reducible refine gate_builtin (b := .append) (xs := #[.tmp 138, .tmp 141]) rfl ?_); (try (refine gate_guard (by rfl) ?_; dsimp only)); at_builtin; refine Kd.R_append (Kd.int .i32) (w0 := w) w.heap.size rfl (.tmp 138) (.tmp 141) 22 21 (.int .i32 0) 4 rfl Try.underlying22 info21 rfl (by decide) (by omega) u4 x4_3 (wrap32 (x6_19)) [.int .i32 (wrap32 (x6_19))] (fun _ => True) (fun _ => False) rfl rfl ?aP (fun _ hk => hk.elim) ?aF ?aO ?aB ?aS ?aL ?_; (case aP => exact rfl); (case aB => exact (by repeat (first | (with_reducible first | exact HB.out | apply below_alloc | apply pw_below_drewN | apply below_drew1) | exact HB.out))); (case aF => exact (fun _ _ => trivial)); (case aO => exact (by (with_reducible repeat (first | apply Kd.R_alloc | apply Kd.R_drewN | apply Kd.R_drew)); exact HO_4.out)); (case aS => exact (below_size (by repeat (first | (with_reducible first | exact HB.out | apply below_alloc | apply pw_below_drewN | apply below_drew1) | exact HB.out)))); (case aL => have := LMc61.out; omega); intro v281 w65 ho hb hg hat; rw [← Ny280.out] at ho; have n0_ := Aside0.mk (Kd.R_over' (by (with_reducible repeat (first | apply Kd.R_alloc | apply Kd.R_drewN | apply Kd.R_drew)); exact HO263.out) (Kd.R_typed (by (with_reducible repeat (first | apply Kd.R_alloc | apply Kd.R_drewN | apply Kd.R_drew)); exact HO_4.out)) (by decide) hg); have n1_ := Aside0.mk (hb); have n2_ := Aside0.mk (ho); clear HO263; clear HB; clear HO_4; have HO263 := n0_; have HB := n1_; have HO282 := n2_; clear n0_ n1_ n2_; clear ho hb hg hat))
                                      go_roundg kj25
                                      case measure => have := HK1.out; have := HJ3.out; have := HJ19.out; have := HJ25.out; omega
                                      case rel => exact ⟨(y280), (wrap64 (x5_3 + x8_19)), (by first | rfl | (simp; done) | (simp [*]; done)), H', ⟨by have := HK1.out; have := HJ3.out; have := HJ19.out; have := HJ25.out; omega⟩, ⟨by (with_reducible repeat (first | apply Kd.R_alloc | apply Kd.R_drewN | apply Kd.R_drew)); exact HO282.out⟩, ⟨by repeat (first | (with_reducible first | exact HB.out | apply below_alloc | apply pw_below_drewN | apply below_drew1) | exact HB.out)⟩⟩
                                    · rw [if_neg c61] at H
                                      exact absurd H (by simp)
                          · rw [if_neg c30] at H
                            exact absurd H (by simp)
                        · rw [if_neg c29] at H
                          exact absurd H (by simp)
        · rw [if_neg c3] at H
          exact absurd H (by simp)
      · rw [if_neg c2] at H
        have c2b0 : decide (x5_1 < (l0.length : Int)) = false := decide_eq_false c2
        clear c2
        simp only [Option.some.injEq, Prod.mk.injEq] at H
        obtain ⟨rfl, rfl⟩ := H
        go_wp2
        go_ret2
        exact ⟨_, by first | rfl | (simp [errW_none, errW_some] <;> rfl) | (simp [*, errW_none, errW_some] <;> rfl), by (with_reducible repeat (first | apply Kd.R_alloc | apply Kd.R_drewN | apply Kd.R_drew)); exact HO_4.out, by repeat (first | (with_reducible first | exact HB.out | apply below_alloc | apply pw_below_drewN | apply below_drew1) | exact HB.out)⟩

end Go.Proofs.Ytnammlamdhpnpaa.GUtfTells
