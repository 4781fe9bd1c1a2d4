-- Written by a program of this session (out of the kit's printer); Lean checks it.
import Derived.Test.YtnammlamdhpnpaaGUtfBackx0
import Derived.Test.YtnammlamdhpnpaaGUtfBackx1
import Derived.Test.YtnammlamdhpnpaaGUtfBackx3
import Derived.Test.YtnammlamdhpnpaaGUtfBackx4
namespace Go.Proofs.Ytnammlamdhpnpaa.GUtfBack
open Go.RowKit Go.Proofs.YtnammlamdhpnpaaW.PrintWords Go.Proofs.YtnammlamdhpnpaaW.PrintLast Go.Proofs.YtnammlamdhpnpaaW.PrintMore
attribute [local go_sem] max2_int min2_int max_two min_two max_three min_three max_four min_four   -- for this text's walks alone
set_option linter.unusedVariables false
set_option linter.unusedSimpArgs false

/-! ### linguistlaw1_UtfBack: function 5 -/
mutual
def linguistlaw1_UtfBack.j2 : Nat → List Int → List Int → Option (Bool)
  | 0, _, _ => none
  | k + 1, x1, x5 => (utf_Encode.f k x5).bind fun t257 => ((utf_Decode.f k t257).bind fun bt260 => (if 0 ≤ (mn (x1.length : Int) 12) then (if (mn (x1.length : Int) 12) ≤ (x1.length : Int) then ((some (([] : List Int) : List Int)).bind fun y268 => (if y268.length + (x1.take ((mn (x1.length : Int) 12) : Int).toNat).length < 140737488355328 then ((some (y268 ++ (x1.take ((mn (x1.length : Int) 12) : Int).toNat) : List Int)).bind fun y271 => ((utf_Encode.f k x5).bind fun t274 => (if y271.length + t274.length < 140737488355328 then ((utf_Decode.f k (y271 ++ t274)).bind fun bt280 => (if (bt280.1.length : Int) < (bt260.1.length : Int) then (none) else (if 0 ≤ (wrap64 ((bt280.1.length : Int) - (bt260.1.length : Int))) then (if (wrap64 ((bt280.1.length : Int) - (bt260.1.length : Int))) ≤ (bt280.1.length : Int) then ((linguistbook_Same_rune.f k (bt280.1.drop ((wrap64 ((bt280.1.length : Int) - (bt260.1.length : Int))) : Int).toNat) bt260.1).bind fun t291 => (if t291 = true then ((linguistbook_Same_rune.f k bt260.1 x5).bind fun t292 => (if t292 = true then ((utf_Decoder_Held.f bt260.2.1 bt260.2.2.1 bt260.2.2.2).bind fun t293 => (if t293 = true then (none) else ((linguistlaw1_UtfRuns.f k).bind fun t294 => (some t294)))) else (none))) else (none))) else (none)) else (none)))) else (none)))) else (none))) else (none)) else (none)))
def linguistlaw1_UtfBack.l0 : Nat → List Int → List Int → List Int → Int → Option (Bool)
  | 0, _, _, _, _ => none
  | k + 1, x0, x1, x5, x6 => if x6 < (x0.length : Int) then (linguistlaw1_UtfBack.j1 k x0 x1 x5 x6 (decide (x6 < 12))) else (linguistlaw1_UtfBack.j1 k x0 x1 x5 x6 false)
def linguistlaw1_UtfBack.j1 : Nat → List Int → List Int → List Int → Int → Bool → Option (Bool)
  | 0, _, _, _, _, _ => none
  | k + 1, x0, x1, x5, x6, x20 => if x20 = true then (if 0 ≤ x6 then (if x6 < (x0.length : Int) then ((linguistbook_Within.f (wrap64 (rd x0 x6)) 0 1112063).bind fun t250 => (if t250 ≥ 55296 then (if x5.length < 35184372088832 then (linguistlaw1_UtfBack.l0 k x0 x1 (x5 ++ [wrap32 (wrap64 (t250 + 2048))]) (wrap64 (x6 + 1))) else (none)) else (if x5.length < 35184372088832 then (linguistlaw1_UtfBack.l0 k x0 x1 (x5 ++ [wrap32 (t250)]) (wrap64 (x6 + 1))) else (none)))) else (none)) else (none)) else (linguistlaw1_UtfBack.j2 k x1 x5)
end
def linguistlaw1_UtfBack.f (k : Nat) (l0 : List Int) (l1 : List Int) : Option (Bool) := linguistlaw1_UtfBack.l0 k l0 l1 ([] : List Int) 0
theorem linguistlaw1_UtfBack.mono_l : ∀ k, (∀ y0 y1, LeO (linguistlaw1_UtfBack.j2 k y0 y1) (linguistlaw1_UtfBack.j2 (k + 1) y0 y1)) ∧ (∀ y0 y1 y2 y3, LeO (linguistlaw1_UtfBack.l0 k y0 y1 y2 y3) (linguistlaw1_UtfBack.l0 (k + 1) y0 y1 y2 y3)) ∧ (∀ y0 y1 y2 y3 y4, LeO (linguistlaw1_UtfBack.j1 k y0 y1 y2 y3 y4) (linguistlaw1_UtfBack.j1 (k + 1) y0 y1 y2 y3 y4))
  | 0 => ⟨fun _ _ r h => by simp [linguistlaw1_UtfBack.j2] at h, fun _ _ _ _ r h => by simp [linguistlaw1_UtfBack.l0] at h, fun _ _ _ _ _ r h => by simp [linguistlaw1_UtfBack.j1] at h⟩
  | k + 1 => by
    obtain ⟨ih0, ih1, ih2⟩ := linguistlaw1_UtfBack.mono_l k
    refine ⟨?_, ?_, ?_⟩
    · intro y0 y1
      unfold linguistlaw1_UtfBack.j2
      repeat' first
      | (with_reducible exact ih0 _ _)
      | (with_reducible exact ih1 _ _ _ _)
      | (with_reducible exact ih2 _ _ _ _ _)
      | (with_reducible exact linguistbook_Same_rune.mono _ _ _)
      | (with_reducible exact linguistlaw1_UtfRuns.mono _)
      | (with_reducible exact utf_Decode.mono _ _)
      | (with_reducible exact utf_Encode.mono _ _)
      | (with_reducible exact LeO.refl _)
      | (with_reducible exact LeO.none _)
      | (with_reducible refine LeO.ite ?_ ?_)
      | (with_reducible refine LeO.bind ?_ (fun _ => ?_))
      | exact ih0 _ _
      | exact ih1 _ _ _ _
      | exact ih2 _ _ _ _ _
      | exact linguistbook_Same_rune.mono _ _ _
      | exact linguistlaw1_UtfRuns.mono _
      | exact utf_Decode.mono _ _
      | exact utf_Encode.mono _ _
      | exact LeO.none _
      | refine LeO.ite ?_ ?_
      | refine LeO.bind ?_ (fun _ => ?_)
    · intro y0 y1 y2 y3
      unfold linguistlaw1_UtfBack.l0
      repeat' first
      | (with_reducible exact ih0 _ _)
      | (with_reducible exact ih1 _ _ _ _)
      | (with_reducible exact ih2 _ _ _ _ _)
      | (with_reducible exact linguistbook_Same_rune.mono _ _ _)
      | (with_reducible exact linguistlaw1_UtfRuns.mono _)
      | (with_reducible exact utf_Decode.mono _ _)
      | (with_reducible exact utf_Encode.mono _ _)
      | (with_reducible exact LeO.refl _)
      | (with_reducible exact LeO.none _)
      | (with_reducible refine LeO.ite ?_ ?_)
      | (with_reducible refine LeO.bind ?_ (fun _ => ?_))
      | exact ih0 _ _
      | exact ih1 _ _ _ _
      | exact ih2 _ _ _ _ _
      | exact linguistbook_Same_rune.mono _ _ _
      | exact linguistlaw1_UtfRuns.mono _
      | exact utf_Decode.mono _ _
      | exact utf_Encode.mono _ _
      | exact LeO.none _
      | refine LeO.ite ?_ ?_
      | refine LeO.bind ?_ (fun _ => ?_)
    · intro y0 y1 y2 y3 y4
      unfold linguistlaw1_UtfBack.j1
      repeat' first
      | (with_reducible exact ih0 _ _)
      | (with_reducible exact ih1 _ _ _ _)
      | (with_reducible exact ih2 _ _ _ _ _)
      | (with_reducible exact linguistbook_Same_rune.mono _ _ _)
      | (with_reducible exact linguistlaw1_UtfRuns.mono _)
      | (with_reducible exact utf_Decode.mono _ _)
      | (with_reducible exact utf_Encode.mono _ _)
      | (with_reducible exact LeO.refl _)
      | (with_reducible exact LeO.none _)
      | (with_reducible refine LeO.ite ?_ ?_)
      | (with_reducible refine LeO.bind ?_ (fun _ => ?_))
      | exact ih0 _ _
      | exact ih1 _ _ _ _
      | exact ih2 _ _ _ _ _
      | exact linguistbook_Same_rune.mono _ _ _
      | exact linguistlaw1_UtfRuns.mono _
      | exact utf_Decode.mono _ _
      | exact utf_Encode.mono _ _
      | exact LeO.none _
      | refine LeO.ite ?_ ?_
      | refine LeO.bind ?_ (fun _ => ?_)
theorem linguistlaw1_UtfBack.mono : ∀ a0 a1 k, LeO (linguistlaw1_UtfBack.f k a0 a1) (linguistlaw1_UtfBack.f (k + 1) a0 a1) := by
  intro a0 a1 k
  obtain ⟨ih0, ih1, ih2⟩ := linguistlaw1_UtfBack.mono_l k
  unfold linguistlaw1_UtfBack.f
  repeat' first
      | (with_reducible exact ih0 _ _)
      | (with_reducible exact ih1 _ _ _ _)
      | (with_reducible exact ih2 _ _ _ _ _)
      | (with_reducible exact linguistbook_Same_rune.mono _ _ _)
      | (with_reducible exact linguistlaw1_UtfRuns.mono _)
      | (with_reducible exact utf_Decode.mono _ _)
      | (with_reducible exact utf_Encode.mono _ _)
      | (with_reducible exact LeO.refl _)
      | (with_reducible exact LeO.none _)
      | (with_reducible refine LeO.ite ?_ ?_)
      | (with_reducible refine LeO.bind ?_ (fun _ => ?_))
      | exact ih0 _ _
      | exact ih1 _ _ _ _
      | exact ih2 _ _ _ _ _
      | exact linguistbook_Same_rune.mono _ _ _
      | exact linguistlaw1_UtfRuns.mono _
      | exact utf_Decode.mono _ _
      | exact utf_Encode.mono _ _
      | exact LeO.none _
      | refine LeO.ite ?_ ?_
      | refine LeO.bind ?_ (fun _ => ?_)
set_option maxHeartbeats 8000000 in
set_option maxRecDepth 100000 in
theorem linguistlaw1_UtfBack.calls (k : Nat) (A0 : Option Addr) (c0 : Nat) (l0 : List Int) (A1 : Option Addr) (c1 : Nat) (l1 : List Int) (r : Bool) (w : World) (hr0 : Kd.C (Kd.int .i32) w A0 l0.length l0) (hc0 : l0.length ≤ c0) (hr1 : Kd.C (Kd.int .u8) w A1 l1.length l1) (hc1 : l1.length ≤ c1) (h : linguistlaw1_UtfBack.f k l0 l1 = some r) :
    Calls Try.prog 5 #[.slice A0 l0.length c0, .slice A1 l1.length c1] w fun e w' => e = .returned (.bool r) ∧ Below w.heap.size w w' := by
  have hu24 := Try.underlying24
  have HR0 := Aside0.mk hr0
  have HC0 := Aside0.mk hc0
  clear hr0 hc0
  have HR1 := Aside0.mk hr1
  have HC1 := Aside0.mk hc1
  clear hr1 hc1
  have HB := Aside0.mk (Below.refl w.heap.size w)
  have H : (linguistlaw1_UtfBack.l0 k l0 l1 ([] : List Int) 0) = some r := h
  clear h
  have HC3 := Aside0.mk H
  clear H
  go_enter Try.func5, Try.ntmps5
  go_upto_block 0 with (fail)
  go_cut [5] (fun v5 wc => ∃ (kq : Nat) (x5_2 : List Int), Aside0 (linguistlaw1_UtfBack.j2 kq l1 x5_2 = some r) ∧ Aside0 (kq ≤ k) ∧ Aside0 (Kd.R (Kd.int .i32) 21 wc w.heap.size (fun _ => True) v5 x5_2) ∧ Aside0 (Below w.heap.size w wc))
  case first =>
    have H := HC3.out
    clear HC3
    have H' := Aside0.mk H
    clear H
    go_wp2
    go_loopg [5, 6] k (fun kq v5 v6 w' => ∃ (x5_1 : List Int) (x6_1 : Int), v6 = .int .i64 x6_1 ∧ Aside0 (linguistlaw1_UtfBack.l0 kq l0 l1 x5_1 x6_1 = some r) ∧ Aside0 (kq ≤ k) ∧ Aside0 (Kd.R (Kd.int .i32) 21 w' w.heap.size (fun _ => True) v5 x5_1) ∧ Aside0 (Below w.heap.size w w'))
    case atStart => exact ⟨(([] : List Int)), (0), (by first | rfl | (simp; done) | (simp [*]; done)), H', ⟨Nat.le_refl _⟩, ⟨by first | exact Kd.R_nil _ _ _ _ _ | exact Kd.N_nil _ _ _ _ _ | exact Kd.V_nil _ _ _ _ _ | exact Kd.Q_nil _ _ _ _ _ | exact Kd.S_nil _ _ _ _ _⟩, ⟨by repeat (first | (with_reducible first | exact HB.out | apply below_alloc | apply pw_below_drewN | apply below_drew1) | exact HB.out)⟩⟩
    case round =>
      clear H'
      try clear c1
      try clear p2
      obtain ⟨x5_1, x6_1, rfl, HA, HK1, HO_5, HB⟩ := hrel
      cases gk with
      | zero => exact absurd HA.out (by simp [linguistlaw1_UtfBack.l0])
      | succ k1 =>
        have H := HA.out
        clear HA
        simp only [linguistlaw1_UtfBack.l0] at H
        have HC4 := Aside0.mk H
        clear H
        go_upto_region 3 with (fail)
        go_cut [20] (fun v20 wc => ∃ (kq : Nat) (x20_3 : Bool), v20 = .bool x20_3 ∧ Aside0 (linguistlaw1_UtfBack.j1 kq l0 l1 x5_1 x6_1 x20_3 = some r) ∧ Aside0 (kq ≤ k1) ∧ Aside0 (Kd.R (Kd.int .i32) 21 wc w.heap.size (fun _ => True) u5 x5_1) ∧ Aside0 (Below w.heap.size w wc))
        case first =>
          have H := HC4.out
          clear HC4
          by_cases c5 : x6_1 < (l0.length : Int)
          · rw [if_pos c5] at H
            have c5b0 : decide (x6_1 < (l0.length : Int)) = true := decide_eq_true c5
            clear c5
            (first | rw [c5b0] | (simp only [i64_w, i32_w]; rw [c5b0]) | skip)
            have H' := Aside0.mk H
            clear H
            go_wp2
            go_meet
            case rel => exact ⟨_, (decide (x6_1 < 12)), (by first | rfl | (simp; done) | (simp [*]; done)), H', ⟨by have := HK1.out; first | omega | exact Nat.le_refl _⟩, ⟨by (with_reducible repeat (first | apply Kd.R_alloc | apply Kd.R_drewN | apply Kd.R_drew)); exact HO_5.out⟩, ⟨by repeat (first | (with_reducible first | exact HB.out | apply below_alloc | apply pw_below_drewN | apply below_drew1) | exact HB.out)⟩⟩
          · rw [if_neg c5] at H
            have c5b0 : decide (x6_1 < (l0.length : Int)) = false := decide_eq_false c5
            clear c5
            (first | rw [c5b0] | (simp only [i64_w, i32_w]; rw [c5b0]) | skip)
            have H' := Aside0.mk H
            clear H
            go_wp2
            go_meet
            case rel => exact ⟨_, (false), (by first | rfl | (simp; done) | (simp [*]; done)), H', ⟨by have := HK1.out; first | omega | exact Nat.le_refl _⟩, ⟨by (with_reducible repeat (first | apply Kd.R_alloc | apply Kd.R_drewN | apply Kd.R_drew)); exact HO_5.out⟩, ⟨by repeat (first | (with_reducible first | exact HB.out | apply below_alloc | apply pw_below_drewN | apply below_drew1) | exact HB.out)⟩⟩
        case rest =>
          clear HC4
          try clear c1
          try clear p2
          try clear c5
          try clear c5b0
          try clear p2
          obtain ⟨kq, x20_3, rfl, HA, HJ3, HO_5, HB⟩ := hcut
          cases kq with
          | zero => exact absurd HA.out (by simp [linguistlaw1_UtfBack.j1])
          | succ kj3 =>
            have H := HA.out
            clear HA
            simp only [linguistlaw1_UtfBack.j1] at H
            by_cases c6 : x20_3 = true
            · subst c6
              have H1 : (if 0 ≤ x6_1 then (if x6_1 < (l0.length : Int) then ((linguistbook_Within.f (wrap64 (rd l0 x6_1)) 0 1112063).bind fun t250 => (if t250 ≥ 55296 then (if x5_1.length < 35184372088832 then (linguistlaw1_UtfBack.l0 kj3 l0 l1 (x5_1 ++ [wrap32 (wrap64 (t250 + 2048))]) (wrap64 (x6_1 + 1))) else (none)) else (if x5_1.length < 35184372088832 then (linguistlaw1_UtfBack.l0 kj3 l0 l1 (x5_1 ++ [wrap32 (t250)]) (wrap64 (x6_1 + 1))) else (none)))) else (none)) else (none)) = some r := by rw [if_pos rfl] at H; exact H
              clear H
              have H := H1
              clear H1
              by_cases c7 : 0 ≤ x6_1
              · rw [if_pos c7] at H
                have c7b0 : decide (0 ≤ x6_1) = true := decide_eq_true c7
                clear c7
                by_cases c8 : x6_1 < (l0.length : Int)
                · rw [if_pos c8] at H
                  have c8b0 : decide (x6_1 < (l0.length : Int)) = true := decide_eq_true c8
                  clear c8
                  replace H := Option.bind_eq_some_iff.mp H
                  obtain ⟨t250, A90, H⟩ := H
                  replace H : (if t250 ≥ 55296 then (if x5_1.length < 35184372088832 then (linguistlaw1_UtfBack.l0 kj3 l0 l1 (x5_1 ++ [wrap32 (wrap64 (t250 + 2048))]) (wrap64 (x6_1 + 1))) else (none)) else (if x5_1.length < 35184372088832 then (linguistlaw1_UtfBack.l0 kj3 l0 l1 (x5_1 ++ [wrap32 (t250)]) (wrap64 (x6_1 + 1))) else (none))) = some r := H
                  have A9 := Aside0.mk A90
                  clear A90
                  by_cases c10 : t250 ≥ 55296
                  · rw [if_pos c10] at H
                    have c10b0 : decide (55296 ≤ t250) = true := decide_eq_true c10
                    clear c10
                    by_cases c11 : x5_1.length < 35184372088832
                    · rw [if_pos c11] at H
                      have LMc11 := Aside0.mk c11
                      clear c11
                      obtain ⟨y251, hy251⟩ : ∃ y_ : List Int, y_ = (x5_1 ++ [wrap32 (wrap64 (t250 + 2048))]) := ⟨_, rfl⟩
                      replace H : (linguistlaw1_UtfBack.l0 kj3 l0 l1 y251 (wrap64 (x6_1 + 1))) = some r := by first | (rw [hy251]; with_reducible exact H) | (have H2_ := (Option.bind_some _ _).symm.trans H; rw [hy251]; with_reducible exact H2_) | (have H2_ := (Option.bind_some _ _).symm.trans H; with_reducible exact H2_) | with_reducible exact H | (rw [hy251]; exact H) | exact H
                      have Ny251 := Aside0.mk hy251
                      clear hy251
                      have H' := Aside0.mk H
                      clear H
                      have p249 : 0 ≤ (x6_1 : Int) := of_decide_eq_true (by first | (with_reducible assumption) | assumption)
                      have q249 : x6_1 < (l0.length : Int) := of_decide_eq_true (by first | (with_reducible assumption) | assumption)
                      obtain ⟨ad249, e249, hx249_0⟩ := Kd.at_int HR0.out x6_1 p249 q249
                      cases e249
                      replace hx249_0 := (HB.out.cell (World.block_lt_of_cell? w _ hx249_0)).trans hx249_0
                      replace p249 := eq_true p249
                      replace q249 := eq_true q249
                      go_wp2_with (first | ((with_reducible refine gate_callee (f := 18) rfl ?_); refine goesL_ (some 28) rfl rfl Try.func18 (by kernel_rfl) rfl #[.int .i64 (wrap64 (rd l0 x6_1)), .int .i64 0, .int .i64 1112063] rfl (by (try simp only [List.map_toArray, List.map_cons, List.map_nil]); first | done | rfl | (simp only [List.length_drop, List.length_take]; rfl) | (simp only [List.length_drop, List.length_take]; rw [Nat.min_eq_left (by first | assumption | omega)]; rfl)) ?_; (with_reducible refine (linguistbook_Within.calls (wrap64 (rd l0 x6_1)) 0 1112063 t250 _ A9.out).mono ?_); rintro e w' ⟨rfl, ⟨nd, rfl⟩⟩; refine ⟨_, rfl, ?_⟩) | ((with_reducible refine gate_builtin (b := .append) (xs := #[.tmp 33, .tmp 36]) rfl ?_); (try (refine gate_guard (by rfl) ?_; dsimp only)); at_builtin; refine Kd.R_append (Kd.int .i32) (w0 := w) w.heap.size rfl (.tmp 33) (.tmp 36) 22 21 (.int .i32 0) 4 rfl Try.underlying22 info21 rfl (by decide) (by omega) u5 x5_1 (wrap32 (wrap64 (t250 + 2048))) [.int .i32 (wrap32 (wrap64 (t250 + 2048)))] (fun _ => True) (fun _ => False) rfl rfl ?aP (fun _ hk => hk.elim) ?aF ?aO ?aB ?aS ?aL ?_; (case aP => exact rfl); (case aB => exact (by repeat (first | (with_reducible first | exact HB.out | apply below_alloc | apply pw_below_drewN | apply below_drew1) | exact HB.out))); (case aF => exact (fun _ _ => trivial)); (case aO => exact (by (with_reducible repeat (first | apply Kd.R_alloc | apply Kd.R_drewN | apply Kd.R_drew)); exact HO_5.out)); (case aS => exact (below_size (by repeat (first | (with_reducible first | exact HB.out | apply below_alloc | apply pw_below_drewN | apply below_drew1) | exact HB.out)))); (case aL => have := LMc11.out; omega); intro v252 w12 ho hb hg hat; rw [← Ny251.out] at ho; have n0_ := Aside0.mk (hb); have n1_ := Aside0.mk (ho); clear HB; clear HO_5; have HB := n0_; have HO253 := n1_; clear n0_ n1_; clear ho hb hg hat))
                      go_roundg kj3
                      case measure => have := HK1.out; have := HJ3.out; omega
                      case rel => exact ⟨(y251), (wrap64 (x6_1 + 1)), (by first | rfl | (simp; done) | (simp [*]; done)), H', ⟨by have := HK1.out; have := HJ3.out; omega⟩, ⟨by (with_reducible repeat (first | apply Kd.R_alloc | apply Kd.R_drewN | apply Kd.R_drew)); exact HO253.out⟩, ⟨by repeat (first | (with_reducible first | exact HB.out | apply below_alloc | apply pw_below_drewN | apply below_drew1) | exact HB.out)⟩⟩
                    · rw [if_neg c11] at H
                      exact absurd H (by simp)
                  · rw [if_neg c10] at H
                    have c10b0 : decide (55296 ≤ t250) = false := decide_eq_false c10
                    clear c10
                    by_cases c13 : x5_1.length < 35184372088832
                    · rw [if_pos c13] at H
                      have LMc13 := Aside0.mk c13
                      clear c13
                      obtain ⟨y254, hy254⟩ : ∃ y_ : List Int, y_ = (x5_1 ++ [wrap32 (t250)]) := ⟨_, rfl⟩
                      replace H : (linguistlaw1_UtfBack.l0 kj3 l0 l1 y254 (wrap64 (x6_1 + 1))) = some r := by first | (rw [hy254]; with_reducible exact H) | (have H2_ := (Option.bind_some _ _).symm.trans H; rw [hy254]; with_reducible exact H2_) | (have H2_ := (Option.bind_some _ _).symm.trans H; with_reducible exact H2_) | with_reducible exact H | (rw [hy254]; exact H) | exact H
                      have Ny254 := Aside0.mk hy254
                      clear hy254
                      have H' := Aside0.mk H
                      clear H
                      have p249 : 0 ≤ (x6_1 : Int) := of_decide_eq_true (by first | (with_reducible assumption) | assumption)
                      have q249 : x6_1 < (l0.length : Int) := of_decide_eq_true (by first | (with_reducible assumption) | assumption)
                      obtain ⟨ad249, e249, hx249_0⟩ := Kd.at_int HR0.out x6_1 p249 q249
                      cases e249
                      replace hx249_0 := (HB.out.cell (World.block_lt_of_cell? w _ hx249_0)).trans hx249_0
                      replace p249 := eq_true p249
                      replace q249 := eq_true q249
                      go_wp2_with (first | ((with_reducible refine gate_callee (f := 18) rfl ?_); refine goesL_ (some 28) rfl rfl Try.func18 (by kernel_rfl) rfl #[.int .i64 (wrap64 (rd l0 x6_1)), .int .i64 0, .int .i64 1112063] rfl (by (try simp only [List.map_toArray, List.map_cons, List.map_nil]); first | done | rfl | (simp only [List.length_drop, List.length_take]; rfl) | (simp only [List.length_drop, List.length_take]; rw [Nat.min_eq_left (by first | assumption | omega)]; rfl)) ?_; (with_reducible refine (linguistbook_Within.calls (wrap64 (rd l0 x6_1)) 0 1112063 t250 _ A9.out).mono ?_); rintro e w' ⟨rfl, ⟨nd, rfl⟩⟩; refine ⟨_, rfl, ?_⟩) | ((with_reducible refine gate_builtin (b := .append) (xs := #[.tmp 33, .tmp 36]) rfl ?_); (try (refine gate_guard (by rfl) ?_; dsimp only)); at_builtin; refine Kd.R_append (Kd.int .i32) (w0 := w) w.heap.size rfl (.tmp 33) (.tmp 36) 22 21 (.int .i32 0) 4 rfl Try.underlying22 info21 rfl (by decide) (by omega) u5 x5_1 (wrap32 (t250)) [.int .i32 (wrap32 (t250))] (fun _ => True) (fun _ => False) rfl rfl ?aP (fun _ hk => hk.elim) ?aF ?aO ?aB ?aS ?aL ?_; (case aP => exact rfl); (case aB => exact (by repeat (first | (with_reducible first | exact HB.out | apply below_alloc | apply pw_below_drewN | apply below_drew1) | exact HB.out))); (case aF => exact (fun _ _ => trivial)); (case aO => exact (by (with_reducible repeat (first | apply Kd.R_alloc | apply Kd.R_drewN | apply Kd.R_drew)); exact HO_5.out)); (case aS => exact (below_size (by repeat (first | (with_reducible first | exact HB.out | apply below_alloc | apply pw_below_drewN | apply below_drew1) | exact HB.out)))); (case aL => have := LMc13.out; omega); intro v255 w14 ho hb hg hat; rw [← Ny254.out] at ho; have n0_ := Aside0.mk (hb); have n1_ := Aside0.mk (ho); clear HB; clear HO_5; have HB := n0_; have HO256 := n1_; clear n0_ n1_; clear ho hb hg hat))
                      go_roundg kj3
                      case measure => have := HK1.out; have := HJ3.out; omega
                      case rel => exact ⟨(y254), (wrap64 (x6_1 + 1)), (by first | rfl | (simp; done) | (simp [*]; done)), H', ⟨by have := HK1.out; have := HJ3.out; omega⟩, ⟨by (with_reducible repeat (first | apply Kd.R_alloc | apply Kd.R_drewN | apply Kd.R_drew)); exact HO256.out⟩, ⟨by repeat (first | (with_reducible first | exact HB.out | apply below_alloc | apply pw_below_drewN | apply below_drew1) | exact HB.out)⟩⟩
                    · rw [if_neg c13] at H
                      exact absurd H (by simp)
                · rw [if_neg c8] at H
                  exact absurd H (by simp)
              · rw [if_neg c7] at H
                exact absurd H (by simp)
            · replace c6 := Bool.eq_false_iff.mpr c6
              subst c6
              have H1 : (linguistlaw1_UtfBack.j2 kj3 l1 x5_1) = some r := by rw [if_neg (show ¬ (false = true) by decide)] at H; exact H
              clear H
              have H := H1
              clear H1
              have H' := Aside0.mk H
              clear H
              go_wp2
              go_meet
              case rel => exact ⟨_, (x5_1), H', ⟨by have := HK1.out; have := HJ3.out; first | omega | exact Nat.le_refl _⟩, ⟨by (with_reducible repeat (first | apply Kd.R_alloc | apply Kd.R_drewN | apply Kd.R_drew)); exact HO_5.out⟩, ⟨by repeat (first | (with_reducible first | exact HB.out | apply below_alloc | apply pw_below_drewN | apply below_drew1) | exact HB.out)⟩⟩
  case rest =>
    clear HC3
    try clear c1
    try clear p2
    try clear q2
    try clear hx2
    try clear p3
    try clear c5
    try clear c5b0
    try clear c6
    try clear p6
    try clear c7
    try clear c7b0
    try clear c8
    try clear c8b0
    try clear c10
    try clear c10b0
    try clear c11
    try clear c13
    try clear hx249_0
    try clear p2
    try clear p249
    try clear q249
    obtain ⟨kq, x5_2, HA, HJ2, HO_5, HB⟩ := hcut
    cases kq with
    | zero => exact absurd HA.out (by simp [linguistlaw1_UtfBack.j2])
    | succ kj2 =>
      have H := HA.out
      clear HA
      simp only [linguistlaw1_UtfBack.j2] at H
      replace H := Option.bind_eq_some_iff.mp H
      obtain ⟨t257, A150, H⟩ := H
      replace H : ((utf_Decode.f kj2 t257).bind fun bt260 => (if 0 ≤ (mn (l1.length : Int) 12) then (if (mn (l1.length : Int) 12) ≤ (l1.length : Int) then ((some (([] : List Int) : List Int)).bind fun y268 => (if y268.length + (l1.take ((mn (l1.length : Int) 12) : Int).toNat).length < 140737488355328 then ((some (y268 ++ (l1.take ((mn (l1.length : Int) 12) : Int).toNat) : List Int)).bind fun y271 => ((utf_Encode.f kj2 x5_2).bind fun t274 => (if y271.length + t274.length < 140737488355328 then ((utf_Decode.f kj2 (y271 ++ t274)).bind fun bt280 => (if (bt280.1.length : Int) < (bt260.1.length : Int) then (none) else (if 0 ≤ (wrap64 ((bt280.1.length : Int) - (bt260.1.length : Int))) then (if (wrap64 ((bt280.1.length : Int) - (bt260.1.length : Int))) ≤ (bt280.1.length : Int) then ((linguistbook_Same_rune.f kj2 (bt280.1.drop ((wrap64 ((bt280.1.length : Int) - (bt260.1.length : Int))) : Int).toNat) bt260.1).bind fun t291 => (if t291 = true then ((linguistbook_Same_rune.f kj2 bt260.1 x5_2).bind fun t292 => (if t292 = true then ((utf_Decoder_Held.f bt260.2.1 bt260.2.2.1 bt260.2.2.2).bind fun t293 => (if t293 = true then (none) else ((linguistlaw1_UtfRuns.f kj2).bind fun t294 => (some t294)))) else (none))) else (none))) else (none)) else (none)))) else (none)))) else (none))) else (none)) else (none))) = some r := H
      have A15 := Aside0.mk A150
      clear A150
      replace H := Option.bind_eq_some_iff.mp H
      obtain ⟨⟨t260, t263, t264, t265⟩, A160, H⟩ := H
      replace H : (if 0 ≤ (mn (l1.length : Int) 12) then (if (mn (l1.length : Int) 12) ≤ (l1.length : Int) then ((some (([] : List Int) : List Int)).bind fun y268 => (if y268.length + (l1.take ((mn (l1.length : Int) 12) : Int).toNat).length < 140737488355328 then ((some (y268 ++ (l1.take ((mn (l1.length : Int) 12) : Int).toNat) : List Int)).bind fun y271 => ((utf_Encode.f kj2 x5_2).bind fun t274 => (if y271.length + t274.length < 140737488355328 then ((utf_Decode.f kj2 (y271 ++ t274)).bind fun bt280 => (if (bt280.1.length : Int) < (t260.length : Int) then (none) else (if 0 ≤ (wrap64 ((bt280.1.length : Int) - (t260.length : Int))) then (if (wrap64 ((bt280.1.length : Int) - (t260.length : Int))) ≤ (bt280.1.length : Int) then ((linguistbook_Same_rune.f kj2 (bt280.1.drop ((wrap64 ((bt280.1.length : Int) - (t260.length : Int))) : Int).toNat) t260).bind fun t291 => (if t291 = true then ((linguistbook_Same_rune.f kj2 t260 x5_2).bind fun t292 => (if t292 = true then ((utf_Decoder_Held.f t263 t264 t265).bind fun t293 => (if t293 = true then (none) else ((linguistlaw1_UtfRuns.f kj2).bind fun t294 => (some t294)))) else (none))) else (none))) else (none)) else (none)))) else (none)))) else (none))) else (none)) else (none)) = some r := H
      have A16 := Aside0.mk A160
      clear A160
      obtain ⟨ji17, hji17⟩ : ∃ j_ : Int, (mn (l1.length : Int) 12) = j_ := ⟨_, rfl⟩
      replace H : (if 0 ≤ (ji17) then (if (ji17) ≤ (l1.length : Int) then ((some (([] : List Int) : List Int)).bind fun y268 => (if y268.length + (l1.take ((ji17) : Int).toNat).length < 140737488355328 then ((some (y268 ++ (l1.take ((ji17) : Int).toNat) : List Int)).bind fun y271 => ((utf_Encode.f kj2 x5_2).bind fun t274 => (if y271.length + t274.length < 140737488355328 then ((utf_Decode.f kj2 (y271 ++ t274)).bind fun bt280 => (if (bt280.1.length : Int) < (t260.length : Int) then (none) else (if 0 ≤ (wrap64 ((bt280.1.length : Int) - (t260.length : Int))) then (if (wrap64 ((bt280.1.length : Int) - (t260.length : Int))) ≤ (bt280.1.length : Int) then ((linguistbook_Same_rune.f kj2 (bt280.1.drop ((wrap64 ((bt280.1.length : Int) - (t260.length : Int))) : Int).toNat) t260).bind fun t291 => (if t291 = true then ((linguistbook_Same_rune.f kj2 t260 x5_2).bind fun t292 => (if t292 = true then ((utf_Decoder_Held.f t263 t264 t265).bind fun t293 => (if t293 = true then (none) else ((linguistlaw1_UtfRuns.f kj2).bind fun t294 => (some t294)))) else (none))) else (none))) else (none)) else (none)))) else (none)))) else (none))) else (none)) else (none)) = some r := by first | (rw [hji17] at H; exact H) | (simp only [hji17] at H ⊢; exact H)
      (try rw [hji17] at A15)
      (try rw [hji17] at A16)
      have hji17_ : (if 12 < (l1.length : Int) then 12 else (l1.length : Int)) = ji17 := hji17
      (try (have hji17n : ji17.toNat ≤ l1.length := by (have f_ := hji17_; split at f_ <;> omega)))
      by_cases c18 : 0 ≤ (ji17)
      · rw [if_pos c18] at H
        have c18b0 := eq_true c18
        have c18b1 : decide (0 ≤ (ji17)) = true := decide_eq_true c18
        clear c18
        by_cases c19 : (ji17) ≤ (l1.length : Int)
        · rw [if_pos c19] at H
          have c19b0 := eq_true c19
          have c19b1 : decide ((ji17) ≤ (l1.length : Int)) = true := decide_eq_true c19
          clear c19
          obtain ⟨y268, hy268⟩ : ∃ y_ : List Int, y_ = (([] : List Int)) := ⟨_, rfl⟩
          replace H : (if y268.length + (l1.take ((ji17) : Int).toNat).length < 140737488355328 then ((some (y268 ++ (l1.take ((ji17) : Int).toNat) : List Int)).bind fun y271 => ((utf_Encode.f kj2 x5_2).bind fun t274 => (if y271.length + t274.length < 140737488355328 then ((utf_Decode.f kj2 (y271 ++ t274)).bind fun bt280 => (if (bt280.1.length : Int) < (t260.length : Int) then (none) else (if 0 ≤ (wrap64 ((bt280.1.length : Int) - (t260.length : Int))) then (if (wrap64 ((bt280.1.length : Int) - (t260.length : Int))) ≤ (bt280.1.length : Int) then ((linguistbook_Same_rune.f kj2 (bt280.1.drop ((wrap64 ((bt280.1.length : Int) - (t260.length : Int))) : Int).toNat) t260).bind fun t291 => (if t291 = true then ((linguistbook_Same_rune.f kj2 t260 x5_2).bind fun t292 => (if t292 = true then ((utf_Decoder_Held.f t263 t264 t265).bind fun t293 => (if t293 = true then (none) else ((linguistlaw1_UtfRuns.f kj2).bind fun t294 => (some t294)))) else (none))) else (none))) else (none)) else (none)))) else (none)))) else (none)) = some r := by first | (rw [hy268]; with_reducible exact H) | (have H2_ := (Option.bind_some _ _).symm.trans H; rw [hy268]; with_reducible exact H2_) | (have H2_ := (Option.bind_some _ _).symm.trans H; with_reducible exact H2_) | with_reducible exact H | (rw [hy268]; exact H) | exact H
          have Ny268 := Aside0.mk hy268
          clear hy268
          by_cases c20 : y268.length + (l1.take ((ji17) : Int).toNat).length < 140737488355328
          · rw [if_pos c20] at H
            have LMc20 := Aside0.mk c20
            clear c20
            obtain ⟨y271, hy271⟩ : ∃ y_ : List Int, y_ = (y268 ++ (l1.take ((ji17) : Int).toNat)) := ⟨_, rfl⟩
            replace H : ((utf_Encode.f kj2 x5_2).bind fun t274 => (if y271.length + t274.length < 140737488355328 then ((utf_Decode.f kj2 (y271 ++ t274)).bind fun bt280 => (if (bt280.1.length : Int) < (t260.length : Int) then (none) else (if 0 ≤ (wrap64 ((bt280.1.length : Int) - (t260.length : Int))) then (if (wrap64 ((bt280.1.length : Int) - (t260.length : Int))) ≤ (bt280.1.length : Int) then ((linguistbook_Same_rune.f kj2 (bt280.1.drop ((wrap64 ((bt280.1.length : Int) - (t260.length : Int))) : Int).toNat) t260).bind fun t291 => (if t291 = true then ((linguistbook_Same_rune.f kj2 t260 x5_2).bind fun t292 => (if t292 = true then ((utf_Decoder_Held.f t263 t264 t265).bind fun t293 => (if t293 = true then (none) else ((linguistlaw1_UtfRuns.f kj2).bind fun t294 => (some t294)))) else (none))) else (none))) else (none)) else (none)))) else (none))) = some r := by first | (rw [hy271]; with_reducible exact H) | (have H2_ := (Option.bind_some _ _).symm.trans H; rw [hy271]; with_reducible exact H2_) | (have H2_ := (Option.bind_some _ _).symm.trans H; with_reducible exact H2_) | with_reducible exact H | (rw [hy271]; exact H) | exact H
            have Ny271 := Aside0.mk hy271
            clear hy271
            replace H := Option.bind_eq_some_iff.mp H
            obtain ⟨t274, A210, H⟩ := H
            replace H : (if y271.length + t274.length < 140737488355328 then ((utf_Decode.f kj2 (y271 ++ t274)).bind fun bt280 => (if (bt280.1.length : Int) < (t260.length : Int) then (none) else (if 0 ≤ (wrap64 ((bt280.1.length : Int) - (t260.length : Int))) then (if (wrap64 ((bt280.1.length : Int) - (t260.length : Int))) ≤ (bt280.1.length : Int) then ((linguistbook_Same_rune.f kj2 (bt280.1.drop ((wrap64 ((bt280.1.length : Int) - (t260.length : Int))) : Int).toNat) t260).bind fun t291 => (if t291 = true then ((linguistbook_Same_rune.f kj2 t260 x5_2).bind fun t292 => (if t292 = true then ((utf_Decoder_Held.f t263 t264 t265).bind fun t293 => (if t293 = true then (none) else ((linguistlaw1_UtfRuns.f kj2).bind fun t294 => (some t294)))) else (none))) else (none))) else (none)) else (none)))) else (none)) = some r := H
            have A21 := Aside0.mk A210
            clear A210
            by_cases c22 : y271.length + t274.length < 140737488355328
            · rw [if_pos c22] at H
              have LMc22 := Aside0.mk c22
              clear c22
              obtain ⟨y277, hy277⟩ : ∃ y_ : List Int, y_ = (y271 ++ t274) := ⟨_, rfl⟩
              replace H : ((utf_Decode.f kj2 y277).bind fun bt280 => (if (bt280.1.length : Int) < (t260.length : Int) then (none) else (if 0 ≤ (wrap64 ((bt280.1.length : Int) - (t260.length : Int))) then (if (wrap64 ((bt280.1.length : Int) - (t260.length : Int))) ≤ (bt280.1.length : Int) then ((linguistbook_Same_rune.f kj2 (bt280.1.drop ((wrap64 ((bt280.1.length : Int) - (t260.length : Int))) : Int).toNat) t260).bind fun t291 => (if t291 = true then ((linguistbook_Same_rune.f kj2 t260 x5_2).bind fun t292 => (if t292 = true then ((utf_Decoder_Held.f t263 t264 t265).bind fun t293 => (if t293 = true then (none) else ((linguistlaw1_UtfRuns.f kj2).bind fun t294 => (some t294)))) else (none))) else (none))) else (none)) else (none)))) = some r := by first | (rw [hy277]; with_reducible exact H) | (have H2_ := (Option.bind_some _ _).symm.trans H; rw [hy277]; with_reducible exact H2_) | (have H2_ := (Option.bind_some _ _).symm.trans H; with_reducible exact H2_) | with_reducible exact H | (rw [hy277]; exact H) | exact H
              have Ny277 := Aside0.mk hy277
              clear hy277
              replace H := Option.bind_eq_some_iff.mp H
              obtain ⟨⟨t280, t283, t284, t285⟩, A230, H⟩ := H
              replace H : (if (t280.length : Int) < (t260.length : Int) then (none) else (if 0 ≤ (wrap64 ((t280.length : Int) - (t260.length : Int))) then (if (wrap64 ((t280.length : Int) - (t260.length : Int))) ≤ (t280.length : Int) then ((linguistbook_Same_rune.f kj2 (t280.drop ((wrap64 ((t280.length : Int) - (t260.length : Int))) : Int).toNat) t260).bind fun t291 => (if t291 = true then ((linguistbook_Same_rune.f kj2 t260 x5_2).bind fun t292 => (if t292 = true then ((utf_Decoder_Held.f t263 t264 t265).bind fun t293 => (if t293 = true then (none) else ((linguistlaw1_UtfRuns.f kj2).bind fun t294 => (some t294)))) else (none))) else (none))) else (none)) else (none))) = some r := H
              have A23 := Aside0.mk A230
              clear A230
              by_cases c24 : (t280.length : Int) < (t260.length : Int)
              · rw [if_pos c24] at H
                exact absurd H (by simp)
              · rw [if_neg c24] at H
                have c24b0 : decide ((t280.length : Int) < (t260.length : Int)) = false := decide_eq_false c24
                have c24b1 : decide (t280.length < t260.length) = false := decide_eq_false (fun h => c24 (Int.ofNat_lt.mpr h))
                clear c24
                obtain ⟨ji25, hji25⟩ : ∃ j_ : Int, (wrap64 ((t280.length : Int) - (t260.length : Int))) = j_ := ⟨_, rfl⟩
                replace H : (if 0 ≤ (ji25) then (if (ji25) ≤ (t280.length : Int) then ((linguistbook_Same_rune.f kj2 (t280.drop ((ji25) : Int).toNat) t260).bind fun t291 => (if t291 = true then ((linguistbook_Same_rune.f kj2 t260 x5_2).bind fun t292 => (if t292 = true then ((utf_Decoder_Held.f t263 t264 t265).bind fun t293 => (if t293 = true then (none) else ((linguistlaw1_UtfRuns.f kj2).bind fun t294 => (some t294)))) else (none))) else (none))) else (none)) else (none)) = some r := by first | (rw [hji25] at H; exact H) | (simp only [hji25] at H ⊢; exact H)
                (try rw [hji25] at A15)
                (try rw [hji25] at A16)
                (try rw [hji25] at A21)
                (try rw [hji25] at A23)
                have hji25w : (IntKind.i64.wrap ((t280.length : Int) - (t260.length : Int))) = ji25 := (i64_w _).trans hji25
                by_cases c26 : 0 ≤ (ji25)
                · rw [if_pos c26] at H
                  have c26b0 := eq_true c26
                  have c26b1 : decide (0 ≤ (ji25)) = true := decide_eq_true c26
                  clear c26
                  by_cases c27 : (ji25) ≤ (t280.length : Int)
                  · rw [if_pos c27] at H
                    have c27b0 := eq_true c27
                    have c27b1 : decide ((ji25) ≤ (t280.length : Int)) = true := decide_eq_true c27
                    clear c27
                    obtain ⟨y287, hy287⟩ : ∃ y_ : List Int, y_ = (t280.drop ((ji25) : Int).toNat) := ⟨_, rfl⟩
                    replace H : ((linguistbook_Same_rune.f kj2 y287 t260).bind fun t291 => (if t291 = true then ((linguistbook_Same_rune.f kj2 t260 x5_2).bind fun t292 => (if t292 = true then ((utf_Decoder_Held.f t263 t264 t265).bind fun t293 => (if t293 = true then (none) else ((linguistlaw1_UtfRuns.f kj2).bind fun t294 => (some t294)))) else (none))) else (none))) = some r := by first | (rw [hy287]; with_reducible exact H) | (have H2_ := (Option.bind_some _ _).symm.trans H; rw [hy287]; with_reducible exact H2_) | (have H2_ := (Option.bind_some _ _).symm.trans H; with_reducible exact H2_) | with_reducible exact H | (rw [hy287]; exact H) | exact H
                    have Ny287 := Aside0.mk hy287
                    clear hy287
                    replace H := Option.bind_eq_some_iff.mp H
                    obtain ⟨t291, A280, H⟩ := H
                    replace H : (if t291 = true then ((linguistbook_Same_rune.f kj2 t260 x5_2).bind fun t292 => (if t292 = true then ((utf_Decoder_Held.f t263 t264 t265).bind fun t293 => (if t293 = true then (none) else ((linguistlaw1_UtfRuns.f kj2).bind fun t294 => (some t294)))) else (none))) else (none)) = some r := H
                    have A28 := Aside0.mk A280
                    clear A280
                    by_cases c29 : t291 = true
                    · subst c29
                      have H1 : ((linguistbook_Same_rune.f kj2 t260 x5_2).bind fun t292 => (if t292 = true then ((utf_Decoder_Held.f t263 t264 t265).bind fun t293 => (if t293 = true then (none) else ((linguistlaw1_UtfRuns.f kj2).bind fun t294 => (some t294)))) else (none))) = some r := by rw [if_pos rfl] at H; exact H
                      clear H
                      have H := H1
                      clear H1
                      replace H := Option.bind_eq_some_iff.mp H
                      obtain ⟨t292, A300, H⟩ := H
                      replace H : (if t292 = true then ((utf_Decoder_Held.f t263 t264 t265).bind fun t293 => (if t293 = true then (none) else ((linguistlaw1_UtfRuns.f kj2).bind fun t294 => (some t294)))) else (none)) = some r := H
                      have A30 := Aside0.mk A300
                      clear A300
                      by_cases c31 : t292 = true
                      · subst c31
                        have H1 : ((utf_Decoder_Held.f t263 t264 t265).bind fun t293 => (if t293 = true then (none) else ((linguistlaw1_UtfRuns.f kj2).bind fun t294 => (some t294)))) = some r := by rw [if_pos rfl] at H; exact H
                        clear H
                        have H := H1
                        clear H1
                        replace H := Option.bind_eq_some_iff.mp H
                        obtain ⟨t293, A320, H⟩ := H
                        replace H : (if t293 = true then (none) else ((linguistlaw1_UtfRuns.f kj2).bind fun t294 => (some t294))) = some r := H
                        have A32 := Aside0.mk A320
                        clear A320
                        by_cases c33 : t293 = true
                        · subst c33
                          have H1 : (none) = some r := by rw [if_pos rfl] at H; exact H
                          clear H
                          have H := H1
                          clear H1
                          exact absurd H (by simp)
                        · replace c33 := Bool.eq_false_iff.mpr c33
                          subst c33
                          have H1 : ((linguistlaw1_UtfRuns.f kj2).bind fun t294 => (some t294)) = some r := by rw [if_neg (show ¬ (false = true) by decide)] at H; exact H
                          clear H
                          have H := H1
                          clear H1
                          replace H := Option.bind_eq_some_iff.mp H
                          obtain ⟨t294, A340, H⟩ := H
                          replace H : (some t294) = some r := H
                          have A34 := Aside0.mk A340
                          clear A340
                          obtain rfl := Option.some.inj H
                          obtain ⟨Ao35, co35, eo35⟩ := Kd.R_slice HO_5.out
                          subst eo35
                          go_wp2_with (first | ((with_reducible refine gate_callee (f := 13) rfl ?_); refine goesL_ (some 40) rfl rfl Try.func13 (by kernel_rfl) rfl #[.slice Ao35 x5_2.length co35] rfl (by (try simp only [List.map_toArray, List.map_cons, List.map_nil]); first | done | rfl | (simp only [List.length_drop, List.length_take]; rfl) | (simp only [List.length_drop, List.length_take]; rw [Nat.min_eq_left (by first | assumption | omega)]; rfl)) ?_; (with_reducible refine (utf_Encode.calls kj2 _ _ x5_2 t257 _ ?side1 ?side2 A15.out).mono ?_); (case side1 => repeat (first | exact (Kd.R_reads' HO_5.out).2.2 | (with_reducible refine Kd.C_alloc ?_ _) | (with_reducible refine Kd.C_drewN ?_ _) | (with_reducible refine Kd.C_drew ?_))); (case side2 => exact (Kd.R_reads' HO_5.out).2.1); rintro e w36 ⟨v258, rfl, ho0, hb⟩; refine ⟨_, rfl, ?_⟩; have n0_ := Aside0.mk (Kd.R_below (by (with_reducible repeat (first | apply Kd.R_alloc | apply Kd.R_drewN | apply Kd.R_drew)); exact HO_5.out) hb); have n1_ := Aside0.mk (Kd.R_lower ho0 (below_size (by repeat (first | (with_reducible first | exact HB.out | apply below_alloc | apply pw_below_drewN | apply below_drew1) | exact HB.out)))); have n2_ := Aside0.mk (below_step (by repeat (first | (with_reducible first | exact HB.out | apply below_alloc | apply pw_below_drewN | apply below_drew1) | exact HB.out)) hb); clear HO_5; clear HB; have HO_5 := n0_; have HO259 := n1_; have HB := n2_; clear n0_ n1_ n2_; (try clear hb); (try clear hb2); (try clear hk); (try clear hi); (try clear ho0); obtain ⟨Ao37, co37, eo37⟩ := Kd.R_slice HO259.out; subst eo37) | ((with_reducible refine gate_callee (f := 9) rfl ?_); refine goesL_ (some 41) rfl rfl Try.func9 (by kernel_rfl) rfl #[.slice Ao37 t257.length co37] rfl (by (try simp only [List.map_toArray, List.map_cons, List.map_nil]); first | done | rfl | (simp only [List.length_drop, List.length_take]; rfl) | (simp only [List.length_drop, List.length_take]; rw [Nat.min_eq_left (by first | assumption | omega)]; rfl)) ?_; (with_reducible refine (utf_Decode.calls kj2 _ _ t257 t260 t263 t264 t265 _ ?side1 ?side2 A16.out).mono ?_); (case side1 => repeat (first | exact (Kd.R_reads' HO259.out).2.2 | (with_reducible refine Kd.C_alloc ?_ _) | (with_reducible refine Kd.C_drewN ?_ _) | (with_reducible refine Kd.C_drew ?_))); (case side2 => exact (Kd.R_reads' HO259.out).2.1); rintro e w38 ⟨v261, rfl, ho0, hb⟩; refine ⟨_, rfl, ?_⟩; have n0_ := Aside0.mk (Kd.R_elder' (by (with_reducible repeat (first | apply Kd.R_alloc | apply Kd.R_drewN | apply Kd.R_drew)); exact HO_5.out) (Kd.R_base ho0) hb); have n1_ := Aside0.mk (Kd.R_below (by (with_reducible repeat (first | apply Kd.R_alloc | apply Kd.R_drewN | apply Kd.R_drew)); exact HO259.out) hb); have n2_ := Aside0.mk (Kd.R_lower (Kd.R_new' ho0 (Kd.R_lt (by (with_reducible repeat (first | apply Kd.R_alloc | apply Kd.R_drewN | apply Kd.R_drew)); exact HO_5.out))) (below_size (by repeat (first | (with_reducible first | exact HB.out | apply below_alloc | apply pw_below_drewN | apply below_drew1) | exact HB.out)))); have n3_ := Aside0.mk (below_step (by repeat (first | (with_reducible first | exact HB.out | apply below_alloc | apply pw_below_drewN | apply below_drew1) | exact HB.out)) hb); clear HO_5; clear HO259; clear HB; have HO_5 := n0_; have HO259 := n1_; have HO262 := n2_; have HB := n3_; clear n0_ n1_ n2_ n3_; (try clear hb); (try clear hb2); (try clear hk); (try clear hi); (try clear ho0)) | ((with_reducible refine gate_dst (N := 9) rfl ?_); (try (refine gate_guard (by rfl) ?_; dsimp only)); refine box_event ?hg (N := 9) ?hd (cs := #[.int .i64 0, .int .i64 0, .int .i64 0]) (t := 24) ?hr ?_; (case hd => rfl); (case hg => rfl); (case hr => first | (go_simp; done) | (go_simp; rfl)); intro gb266 hg w39 hbox hb; have n0_ := Aside0.mk (Kd.R_below (by (with_reducible repeat (first | apply Kd.R_alloc | apply Kd.R_drewN | apply Kd.R_drew)); exact HO_5.out) hb); have n1_ := Aside0.mk (Kd.R_below (by (with_reducible repeat (first | apply Kd.R_alloc | apply Kd.R_drewN | apply Kd.R_drew)); exact HO259.out) hb); have n2_ := Aside0.mk (Kd.R_below (by (with_reducible repeat (first | apply Kd.R_alloc | apply Kd.R_drewN | apply Kd.R_drew)); exact HO262.out) hb); have n3_ := Aside0.mk (below_step (by repeat (first | (with_reducible first | exact HB.out | apply below_alloc | apply pw_below_drewN | apply below_drew1) | exact HB.out)) hb); have n4_ := Aside0.mk (hbox); have n5_ := Aside0.mk ((by rw [hg]; exact (below_size (by repeat (first | (with_reducible first | exact HB.out | apply below_alloc | apply pw_below_drewN | apply below_drew1) | exact HB.out))) : w.heap.size ≤ gb266)); have n6_ := Aside0.mk ((by rw [hg]; exact (below_size (by repeat (first | (with_reducible first | exact HB.out | apply below_alloc | apply pw_below_drewN | apply below_drew1) | exact HB.out))) : w.heap.size ≤ gb266)); clear HO_5; clear HO259; clear HO262; clear HB; have HO_5 := n0_; have HO259 := n1_; have HO262 := n2_; have HB := n3_; have BK266 := n4_; have GW266 := n5_; have GE266 := n6_; clear n0_ n1_ n2_ n3_ n4_ n5_ n6_; clear hb hbox hg; have hcz40_0 : w39.cell? ⟨gb266, 0, none⟩ = some (.int .i64 0) := (blk_cell BK266.out 0).trans rfl; have hcz40_1 : w39.cell? ⟨gb266, 1, none⟩ = some (.int .i64 0) := (blk_cell BK266.out 1).trans rfl; have hcz40_2 : w39.cell? ⟨gb266, 2, none⟩ = some (.int .i64 0) := (blk_cell BK266.out 2).trans rfl; have hfz40_0 := blk_frozen BK266.out 0; have hfz40_1 := blk_frozen BK266.out 1; have hfz40_2 := blk_frozen BK266.out 2; obtain ⟨i041, hi041, _, hsz41, _⟩ := info_parts info5; obtain ⟨hcut41, hA41, hC41⟩ := print_take_of (P := Try.prog) (Value.int .u8) 0 27 5 .i64 Try.underlying27 hi041 hsz41 A1 c1 l1 (ji17) (of_decide_eq_true (by first | (with_reducible assumption) | assumption)) (of_decide_eq_true (by first | (with_reducible assumption) | assumption)) HC1.out; have HR267 := Aside0.mk (Kd.C_of_reads (h1 := fun _ => rfl) (hA41 _ (Kd.reads_of_C HR1.out))); have HC267 := Aside0.mk hC41; clear hA41 hC41 hi041 hsz41) | ((with_reducible refine gate_dst (N := 50) rfl ?_); (try (refine gate_guard (by rfl) ?_; dsimp only)); refine Kd.R_lit (Kd.int .u8) _ 5 ?hg (N := 50) ?hd (xs := ([] : List Int)) (inner := []) (ok := fun _ => True) (okp := fun _ => True) ?hr ?hp (fun _ hk => hk) trivial (Below.refl _ _) (Nat.le_refl _) (by simp) ?_; (case hd => rfl); (case hg => rfl); (case hr => first | (go_simp; done) | (go_simp; rfl)); (case hp => exact (Reps.none _ _)); intro v269 w42 ho43 hb hg_ hnew_; clear hg_ hnew_; (first | rw [← Ny268.out] at ho43 | (simp only [Int.reduceToNat] at ho43; rw [← Ny268.out] at ho43)); have n0_ := Aside0.mk (Kd.R_below (by (with_reducible repeat (first | apply Kd.R_alloc | apply Kd.R_drewN | apply Kd.R_drew)); exact (Kd.R_mono (Kd.R_far (p := ⟨gb266, 2, none⟩) (Kd.R_far (p := ⟨gb266, 1, none⟩) (Kd.R_far (p := ⟨gb266, 0, none⟩) (Kd.R_types HO_5.out BK266.out (by decide)) (fun _ hk => hk.2) (.int .i64 t263)) (fun _ hk => hk.2) (.int .i64 t264)) (fun _ hk => hk.2) (.int .i64 t265)) (fun _ h_ => h_.1))) hb); have n1_ := Aside0.mk (Kd.R_elder' (by (with_reducible repeat (first | apply Kd.R_alloc | apply Kd.R_drewN | apply Kd.R_drew)); exact (Kd.R_mono (Kd.R_far (p := ⟨gb266, 2, none⟩) (Kd.R_far (p := ⟨gb266, 1, none⟩) (Kd.R_far (p := ⟨gb266, 0, none⟩) (Kd.R_types HO259.out BK266.out (by decide)) (fun _ hk => hk.2) (.int .i64 t263)) (fun _ hk => hk.2) (.int .i64 t264)) (fun _ hk => hk.2) (.int .i64 t265)) (fun _ h_ => h_.1))) (Kd.R_base ho43) hb); have n2_ := Aside0.mk (Kd.R_below (by (with_reducible repeat (first | apply Kd.R_alloc | apply Kd.R_drewN | apply Kd.R_drew)); exact (Kd.R_mono (Kd.R_far (p := ⟨gb266, 2, none⟩) (Kd.R_far (p := ⟨gb266, 1, none⟩) (Kd.R_far (p := ⟨gb266, 0, none⟩) (Kd.R_types HO262.out BK266.out (by decide)) (fun _ hk => hk.2) (.int .i64 t263)) (fun _ hk => hk.2) (.int .i64 t264)) (fun _ hk => hk.2) (.int .i64 t265)) (fun _ h_ => h_.1))) hb); have n3_ := Aside0.mk (Kd.R_lower (Kd.R_new' ho43 (Kd.R_lt (by (with_reducible repeat (first | apply Kd.R_alloc | apply Kd.R_drewN | apply Kd.R_drew)); exact (Kd.R_mono (Kd.R_far (p := ⟨gb266, 2, none⟩) (Kd.R_far (p := ⟨gb266, 1, none⟩) (Kd.R_far (p := ⟨gb266, 0, none⟩) (Kd.R_types HO259.out BK266.out (by decide)) (fun _ hk => hk.2) (.int .i64 t263)) (fun _ hk => hk.2) (.int .i64 t264)) (fun _ hk => hk.2) (.int .i64 t265)) (fun _ h_ => h_.1))))) (below_size (by repeat (first | (with_reducible first | exact HB.out | apply below_alloc | apply pw_below_drewN | apply below_drew1 | refine below_set ?_ GE266.out) | exact HB.out)))); have n4_ := Aside0.mk (blk_below (g := gb266) (o := .cells #[.int .i64 t263, .int .i64 t264, .int .i64 t265] 24 (0, 0)) (by (with_reducible repeat (first | refine blk_drewN ?_ _ | refine blk_drew ?_ | refine blk_alloc ?_ _)); refine blk_put (cs := #[.int .i64 t263, .int .i64 t264, .int .i64 0]) ?_ 2 _ rfl; (with_reducible repeat (first | refine blk_drewN ?_ _ | refine blk_drew ?_ | refine blk_alloc ?_ _)); refine blk_put (cs := #[.int .i64 t263, .int .i64 0, .int .i64 0]) ?_ 1 _ rfl; (with_reducible repeat (first | refine blk_drewN ?_ _ | refine blk_drew ?_ | refine blk_alloc ?_ _)); refine blk_put (cs := #[.int .i64 0, .int .i64 0, .int .i64 0]) ?_ 0 _ rfl; (with_reducible repeat (first | refine blk_drewN ?_ _ | refine blk_drew ?_ | refine blk_alloc ?_ _)); exact BK266.out) hb); have n5_ := Aside0.mk (below_step (by repeat (first | (with_reducible first | exact HB.out | apply below_alloc | apply pw_below_drewN | apply below_drew1 | refine below_set ?_ GE266.out) | exact HB.out)) hb); clear HO_5; clear HO259; clear HO262; clear BK266; clear HB; have HO_5 := n0_; have HO259 := n1_; have HO262 := n2_; have HO270 := n3_; have BK266 := n4_; have HB := n5_; clear n0_ n1_ n2_ n3_ n4_ n5_; clear hb ho43) | ((with_reducible refine gate_builtin (b := .append) (xs := #[.tmp 50, .tmp 51]) rfl ?_); (try (refine gate_guard (by rfl) ?_; dsimp only)); at_builtin; refine Kd.R_append_rows (Kd.int .u8) (w0 := w) w.heap.size rfl (.tmp 50) (.tmp 51) 27 5 (.int .u8 0) 1 rfl Try.underlying27 info5 rfl (by decide) (by omega) v269 y268 (l1.take ((ji17) : Int).toNat) _ _ _ (fun k_ => some k_ ≠ (.slice Ao37 t257.length co37 : Value).ownBlock) (fun _ => False) rfl rfl ?aO ?aR (fun _ _ h => h) (fun _ h => h.elim) ?aF ?aB ?aS ?aL ?_; (case aR => first | (refine row_len_ (show (l1.take ((ji17) : Int).toNat).length = (ji17).toNat from (by rw [List.length_take]; have h_ : ((ji17) : Int) ≤ (l1.length : Int) := of_decide_eq_true (by first | (with_reducible assumption) | assumption); omega)) ?_; repeat (first | exact (Kd.C_below HR267.out HB.out) | (with_reducible refine Kd.C_alloc ?_ _) | (with_reducible refine Kd.C_drewN ?_ _) | (with_reducible refine Kd.C_drew ?_))) | (repeat (first | exact (Kd.C_below HR267.out HB.out) | (with_reducible refine Kd.C_alloc ?_ _) | (with_reducible refine Kd.C_drewN ?_ _) | (with_reducible refine Kd.C_drew ?_)))); (case aB => exact (by repeat (first | (with_reducible first | exact HB.out | apply below_alloc | apply pw_below_drewN | apply below_drew1 | refine below_set ?_ GE266.out) | exact HB.out))); (case aF => exact (fun k_ hk => Kd.fresh' (Kd.R_lt (by (with_reducible repeat (first | apply Kd.R_alloc | apply Kd.R_drewN | apply Kd.R_drew)); exact HO259.out)) k_ hk)); (case aO => exact (by (with_reducible repeat (first | apply Kd.R_alloc | apply Kd.R_drewN | apply Kd.R_drew)); exact Kd.R_mono HO270.out (fun _ hk => hk.2))); (case aS => exact (below_size (by repeat (first | (with_reducible first | exact HB.out | apply below_alloc | apply pw_below_drewN | apply below_drew1 | refine below_set ?_ GE266.out) | exact HB.out)))); (case aL => have := LMc20.out; have hlx_ := (show (l1.take ((ji17) : Int).toNat).length = (ji17).toNat from (by rw [List.length_take]; have h_ : ((ji17) : Int) ≤ (l1.length : Int) := of_decide_eq_true (by first | (with_reducible assumption) | assumption); omega)); omega); intro v272 w44 ho hb hg hat; rw [← Ny271.out] at ho; have n0_ := Aside0.mk (Kd.R_over' (by (with_reducible repeat (first | apply Kd.R_alloc | apply Kd.R_drewN | apply Kd.R_drew)); exact HO_5.out) (Kd.R_typed (by (with_reducible repeat (first | apply Kd.R_alloc | apply Kd.R_drewN | apply Kd.R_drew)); exact HO270.out)) (by decide) hg); have n1_ := Aside0.mk (Kd.R_after (ok := (fun _ => True)) (by (with_reducible repeat (first | apply Kd.R_alloc | apply Kd.R_drewN | apply Kd.R_drew)); exact HO259.out) hg hat); have n2_ := Aside0.mk (Kd.R_over' (by (with_reducible repeat (first | apply Kd.R_alloc | apply Kd.R_drewN | apply Kd.R_drew)); exact HO262.out) (Kd.R_typed (by (with_reducible repeat (first | apply Kd.R_alloc | apply Kd.R_drewN | apply Kd.R_drew)); exact HO270.out)) (by decide) hg); have n3_ := Aside0.mk (blk_grown (g := gb266) (o := .cells #[.int .i64 t263, .int .i64 t264, .int .i64 t265] 24 (0, 0)) (by (with_reducible repeat (first | refine blk_drewN ?_ _ | refine blk_drew ?_ | refine blk_alloc ?_ _)); exact BK266.out) hg (Kd.R_ne HO270.out BK266.out (by decide))); have n4_ := Aside0.mk (hb); have n5_ := Aside0.mk (ho); clear HO_5; clear HO259; clear HO262; clear BK266; clear HB; clear HO270; have HO_5 := n0_; have HO259 := n1_; have HO262 := n2_; have BK266 := n3_; have HB := n4_; have HO273 := n5_; clear n0_ n1_ n2_ n3_ n4_ n5_; clear ho hb hg hat) | ((with_reducible refine gate_callee (f := 13) rfl ?_); refine goesL_ (some 54) rfl rfl Try.func13 (by kernel_rfl) rfl #[.slice Ao35 x5_2.length co35] rfl (by (try simp only [List.map_toArray, List.map_cons, List.map_nil]); first | done | rfl | (simp only [List.length_drop, List.length_take]; rfl) | (simp only [List.length_drop, List.length_take]; rw [Nat.min_eq_left (by first | assumption | omega)]; rfl)) ?_; (with_reducible refine (utf_Encode.calls kj2 _ _ x5_2 t274 _ ?side1 ?side2 A21.out).mono ?_); (case side1 => repeat (first | exact (Kd.R_reads' HO_5.out).2.2 | (with_reducible refine Kd.C_alloc ?_ _) | (with_reducible refine Kd.C_drewN ?_ _) | (with_reducible refine Kd.C_drew ?_))); (case side2 => exact (Kd.R_reads' HO_5.out).2.1); rintro e w45 ⟨v275, rfl, ho0, hb⟩; refine ⟨_, rfl, ?_⟩; have n0_ := Aside0.mk (Kd.R_below (by (with_reducible repeat (first | apply Kd.R_alloc | apply Kd.R_drewN | apply Kd.R_drew)); exact HO_5.out) hb); have n1_ := Aside0.mk (Kd.R_elder' (by (with_reducible repeat (first | apply Kd.R_alloc | apply Kd.R_drewN | apply Kd.R_drew)); exact HO259.out) (Kd.R_base ho0) hb); have n2_ := Aside0.mk (Kd.R_below (by (with_reducible repeat (first | apply Kd.R_alloc | apply Kd.R_drewN | apply Kd.R_drew)); exact HO262.out) hb); have n3_ := Aside0.mk (Kd.R_elder' (by (with_reducible repeat (first | apply Kd.R_alloc | apply Kd.R_drewN | apply Kd.R_drew)); exact HO273.out) (Kd.R_base ho0) hb); have n4_ := Aside0.mk (Kd.R_lower (Kd.R_new' (Kd.R_new' ho0 (Kd.R_lt (by (with_reducible repeat (first | apply Kd.R_alloc | apply Kd.R_drewN | apply Kd.R_drew)); exact HO259.out))) (Kd.R_lt (by (with_reducible repeat (first | apply Kd.R_alloc | apply Kd.R_drewN | apply Kd.R_drew)); exact HO273.out))) (below_size (by repeat (first | (with_reducible first | exact HB.out | apply below_alloc | apply pw_below_drewN | apply below_drew1 | refine below_set ?_ GE266.out) | exact HB.out)))); have n5_ := Aside0.mk (blk_below (g := gb266) (o := .cells #[.int .i64 t263, .int .i64 t264, .int .i64 t265] 24 (0, 0)) (by (with_reducible repeat (first | refine blk_drewN ?_ _ | refine blk_drew ?_ | refine blk_alloc ?_ _)); exact BK266.out) hb); have n6_ := Aside0.mk (below_step (by repeat (first | (with_reducible first | exact HB.out | apply below_alloc | apply pw_below_drewN | apply below_drew1 | refine below_set ?_ GE266.out) | exact HB.out)) hb); clear HO_5; clear HO259; clear HO262; clear HO273; clear BK266; clear HB; have HO_5 := n0_; have HO259 := n1_; have HO262 := n2_; have HO273 := n3_; have HO276 := n4_; have BK266 := n5_; have HB := n6_; clear n0_ n1_ n2_ n3_ n4_ n5_ n6_; (try clear hb); (try clear hb2); (try clear hk); (try clear hi); (try clear ho0); obtain ⟨Ao47, co47, eo47⟩ := Kd.R_slice HO276.out; subst eo47) | ((with_reducible refine gate_builtin (b := .append) (xs := #[.tmp 52, .tmp 54]) rfl ?_); (try (refine gate_guard (by rfl) ?_; dsimp only)); at_builtin; refine Kd.R_append_rows (Kd.int .u8) (w0 := w) w.heap.size rfl (.tmp 52) (.tmp 54) 27 5 (.int .u8 0) 1 rfl Try.underlying27 info5 rfl (by decide) (by omega) v272 y271 t274 _ _ _ (fun k_ => some k_ ≠ (.slice Ao37 t257.length co37 : Value).ownBlock ∧ some k_ ≠ (.slice Ao47 t274.length co47 : Value).ownBlock) (fun _ => False) rfl rfl ?aO ?aR (fun _ _ h => h) (fun _ h => h.elim) ?aF ?aB ?aS ?aL ?_; (case aR => repeat (first | exact (Kd.R_reads' HO276.out).2.2 | (with_reducible refine Kd.C_alloc ?_ _) | (with_reducible refine Kd.C_drewN ?_ _) | (with_reducible refine Kd.C_drew ?_))); (case aB => exact (by repeat (first | (with_reducible first | exact HB.out | apply below_alloc | apply pw_below_drewN | apply below_drew1 | refine below_set ?_ GE266.out) | exact HB.out))); (case aF => exact (fun k_ hk => ⟨Kd.fresh' (Kd.R_lt (by (with_reducible repeat (first | apply Kd.R_alloc | apply Kd.R_drewN | apply Kd.R_drew)); exact HO259.out)) k_ hk, Kd.fresh' (Kd.R_lt (by (with_reducible repeat (first | apply Kd.R_alloc | apply Kd.R_drewN | apply Kd.R_drew)); exact HO276.out)) k_ hk⟩)); (case aO => exact (by (with_reducible repeat (first | apply Kd.R_alloc | apply Kd.R_drewN | apply Kd.R_drew)); exact HO273.out)); (case aS => exact (below_size (by repeat (first | (with_reducible first | exact HB.out | apply below_alloc | apply pw_below_drewN | apply below_drew1 | refine below_set ?_ GE266.out) | exact HB.out)))); (case aL => have := LMc22.out; omega); intro v278 w46 ho hb hg hat; rw [← Ny277.out] at ho; have n0_ := Aside0.mk (Kd.R_over' (by (with_reducible repeat (first | apply Kd.R_alloc | apply Kd.R_drewN | apply Kd.R_drew)); exact HO_5.out) (Kd.R_typed (by (with_reducible repeat (first | apply Kd.R_alloc | apply Kd.R_drewN | apply Kd.R_drew)); exact HO273.out)) (by decide) hg); have n1_ := Aside0.mk (Kd.R_after (ok := (fun k_ => some k_ ≠ (.slice Ao47 t274.length co47 : Value).ownBlock)) (by (with_reducible repeat (first | apply Kd.R_alloc | apply Kd.R_drewN | apply Kd.R_drew)); exact Kd.R_mono HO259.out (fun _ hk => ⟨hk.2, hk.1.2⟩)) hg hat); have n2_ := Aside0.mk (Kd.R_over' (by (with_reducible repeat (first | apply Kd.R_alloc | apply Kd.R_drewN | apply Kd.R_drew)); exact HO262.out) (Kd.R_typed (by (with_reducible repeat (first | apply Kd.R_alloc | apply Kd.R_drewN | apply Kd.R_drew)); exact HO273.out)) (by decide) hg); have n3_ := Aside0.mk (blk_grown (g := gb266) (o := .cells #[.int .i64 t263, .int .i64 t264, .int .i64 t265] 24 (0, 0)) (by (with_reducible repeat (first | refine blk_drewN ?_ _ | refine blk_drew ?_ | refine blk_alloc ?_ _)); exact BK266.out) hg (Kd.R_ne HO273.out BK266.out (by decide))); have n4_ := Aside0.mk (Kd.R_after (ok := (fun k_ => some k_ ≠ (.slice Ao37 t257.length co37 : Value).ownBlock)) (by (with_reducible repeat (first | apply Kd.R_alloc | apply Kd.R_drewN | apply Kd.R_drew)); exact Kd.R_mono HO276.out (fun _ hk => ⟨hk.1.2, hk.2⟩)) hg hat); have n5_ := Aside0.mk (hb); have n6_ := Aside0.mk (ho); clear HO_5; clear HO259; clear HO262; clear BK266; clear HO276; clear HB; clear HO273; have HO_5 := n0_; have HO259 := n1_; have HO262 := n2_; have BK266 := n3_; have HO276 := n4_; have HB := n5_; have HO279 := n6_; clear n0_ n1_ n2_ n3_ n4_ n5_ n6_; clear ho hb hg hat; obtain ⟨Ao48, co48, eo48⟩ := Kd.R_slice HO279.out; subst eo48) | ((with_reducible refine gate_callee (f := 9) rfl ?_); refine goesL_ (some 56) rfl rfl Try.func9 (by kernel_rfl) rfl #[.slice Ao48 y277.length co48] rfl (by (try simp only [List.map_toArray, List.map_cons, List.map_nil]); first | done | rfl | (simp only [List.length_drop, List.length_take]; rfl) | (simp only [List.length_drop, List.length_take]; rw [Nat.min_eq_left (by first | assumption | omega)]; rfl)) ?_; (with_reducible refine (utf_Decode.calls kj2 _ _ y277 t280 t283 t284 t285 _ ?side1 ?side2 A23.out).mono ?_); (case side1 => repeat (first | exact (Kd.R_reads' HO279.out).2.2 | (with_reducible refine Kd.C_alloc ?_ _) | (with_reducible refine Kd.C_drewN ?_ _) | (with_reducible refine Kd.C_drew ?_))); (case side2 => exact (Kd.R_reads' HO279.out).2.1); rintro e w49 ⟨v281, rfl, ho0, hb⟩; refine ⟨_, rfl, ?_⟩; have n0_ := Aside0.mk (Kd.R_elder' (by (with_reducible repeat (first | apply Kd.R_alloc | apply Kd.R_drewN | apply Kd.R_drew)); exact HO_5.out) (Kd.R_base ho0) hb); have n1_ := Aside0.mk (Kd.R_below (by (with_reducible repeat (first | apply Kd.R_alloc | apply Kd.R_drewN | apply Kd.R_drew)); exact HO259.out) hb); have n2_ := Aside0.mk (Kd.R_elder' (by (with_reducible repeat (first | apply Kd.R_alloc | apply Kd.R_drewN | apply Kd.R_drew)); exact HO262.out) (Kd.R_base ho0) hb); have n3_ := Aside0.mk (Kd.R_below (by (with_reducible repeat (first | apply Kd.R_alloc | apply Kd.R_drewN | apply Kd.R_drew)); exact HO276.out) hb); have n4_ := Aside0.mk (Kd.R_below (by (with_reducible repeat (first | apply Kd.R_alloc | apply Kd.R_drewN | apply Kd.R_drew)); exact HO279.out) hb); have n5_ := Aside0.mk (Kd.R_lower (Kd.R_new' (Kd.R_new' ho0 (Kd.R_lt (by (with_reducible repeat (first | apply Kd.R_alloc | apply Kd.R_drewN | apply Kd.R_drew)); exact HO_5.out))) (Kd.R_lt (by (with_reducible repeat (first | apply Kd.R_alloc | apply Kd.R_drewN | apply Kd.R_drew)); exact HO262.out))) (below_size (by repeat (first | (with_reducible first | exact HB.out | apply below_alloc | apply pw_below_drewN | apply below_drew1 | refine below_set ?_ GE266.out) | exact HB.out)))); have n6_ := Aside0.mk (blk_below (g := gb266) (o := .cells #[.int .i64 t263, .int .i64 t264, .int .i64 t265] 24 (0, 0)) (by (with_reducible repeat (first | refine blk_drewN ?_ _ | refine blk_drew ?_ | refine blk_alloc ?_ _)); exact BK266.out) hb); have n7_ := Aside0.mk (below_step (by repeat (first | (with_reducible first | exact HB.out | apply below_alloc | apply pw_below_drewN | apply below_drew1 | refine below_set ?_ GE266.out) | exact HB.out)) hb); clear HO_5; clear HO259; clear HO262; clear HO276; clear HO279; clear BK266; clear HB; have HO_5 := n0_; have HO259 := n1_; have HO262 := n2_; have HO276 := n3_; have HO279 := n4_; have HO282 := n5_; have BK266 := n6_; have HB := n7_; clear n0_ n1_ n2_ n3_ n4_ n5_ n6_ n7_; (try clear hb); (try clear hb2); (try clear hk); (try clear hi); (try clear ho0)) | ((with_reducible refine gate_dst (N := 12) rfl ?_); (try (refine gate_guard (by rfl) ?_; dsimp only)); refine box_event ?hg (N := 12) ?hd (cs := #[.int .i64 0, .int .i64 0, .int .i64 0]) (t := 24) ?hr ?_; (case hd => rfl); (case hg => rfl); (case hr => first | (go_simp; done) | (go_simp; rfl)); intro gb286 hg w50 hbox hb; have n0_ := Aside0.mk (Kd.R_below (by (with_reducible repeat (first | apply Kd.R_alloc | apply Kd.R_drewN | apply Kd.R_drew)); exact HO_5.out) hb); have n1_ := Aside0.mk (Kd.R_below (by (with_reducible repeat (first | apply Kd.R_alloc | apply Kd.R_drewN | apply Kd.R_drew)); exact HO259.out) hb); have n2_ := Aside0.mk (Kd.R_below (by (with_reducible repeat (first | apply Kd.R_alloc | apply Kd.R_drewN | apply Kd.R_drew)); exact HO262.out) hb); have n3_ := Aside0.mk (Kd.R_below (by (with_reducible repeat (first | apply Kd.R_alloc | apply Kd.R_drewN | apply Kd.R_drew)); exact HO276.out) hb); have n4_ := Aside0.mk (Kd.R_below (by (with_reducible repeat (first | apply Kd.R_alloc | apply Kd.R_drewN | apply Kd.R_drew)); exact HO279.out) hb); have n5_ := Aside0.mk (Kd.R_below (by (with_reducible repeat (first | apply Kd.R_alloc | apply Kd.R_drewN | apply Kd.R_drew)); exact HO282.out) hb); have n6_ := Aside0.mk (blk_below (g := gb266) (o := .cells #[.int .i64 t263, .int .i64 t264, .int .i64 t265] 24 (0, 0)) (by (with_reducible repeat (first | refine blk_drewN ?_ _ | refine blk_drew ?_ | refine blk_alloc ?_ _)); exact BK266.out) hb); have n7_ := Aside0.mk (below_step (by repeat (first | (with_reducible first | exact HB.out | apply below_alloc | apply pw_below_drewN | apply below_drew1 | refine below_set ?_ GE266.out) | exact HB.out)) hb); have n8_ := Aside0.mk (hbox); have n9_ := Aside0.mk ((by rw [hg]; exact (below_size (by repeat (first | (with_reducible first | exact HB.out | apply below_alloc | apply pw_below_drewN | apply below_drew1 | refine below_set ?_ GE266.out) | exact HB.out))) : w.heap.size ≤ gb286)); have n10_ := Aside0.mk ((by rw [hg]; exact (below_size (by repeat (first | (with_reducible first | exact HB.out | apply below_alloc | apply pw_below_drewN | apply below_drew1 | refine below_set ?_ GE266.out) | exact HB.out))) : w.heap.size ≤ gb286)); have n11_ := Aside0.mk ((by rw [hg]; exact Nat.ne_of_lt (blk_lt (g := gb266) (o := .cells #[.int .i64 t263, .int .i64 t264, .int .i64 t265] 24 (0, 0)) (by (with_reducible repeat (first | refine blk_drewN ?_ _ | refine blk_drew ?_ | refine blk_alloc ?_ _)); exact BK266.out)) : gb266 ≠ gb286)); have n12_ := Aside0.mk ((by rw [hg]; exact Nat.ne_of_gt (blk_lt (g := gb266) (o := .cells #[.int .i64 t263, .int .i64 t264, .int .i64 t265] 24 (0, 0)) (by (with_reducible repeat (first | refine blk_drewN ?_ _ | refine blk_drew ?_ | refine blk_alloc ?_ _)); exact BK266.out)) : gb286 ≠ gb266)); clear HO_5; clear HO259; clear HO262; clear HO276; clear HO279; clear HO282; clear BK266; clear HB; have HO_5 := n0_; have HO259 := n1_; have HO262 := n2_; have HO276 := n3_; have HO279 := n4_; have HO282 := n5_; have BK266 := n6_; have HB := n7_; have BK286 := n8_; have GW286 := n9_; have GE286 := n10_; have NB266_286 := n11_; have NB286_266 := n12_; clear n0_ n1_ n2_ n3_ n4_ n5_ n6_ n7_ n8_ n9_ n10_ n11_ n12_; clear hb hbox hg; have hnb51 := NB286_266.out; have hnc51 := NB266_286.out; have hcz52_0 : w50.cell? ⟨gb286, 0, none⟩ = some (.int .i64 0) := (blk_cell BK286.out 0).trans rfl; have hcz52_1 : w50.cell? ⟨gb286, 1, none⟩ = some (.int .i64 0) := (blk_cell BK286.out 1).trans rfl; have hcz52_2 : w50.cell? ⟨gb286, 2, none⟩ = some (.int .i64 0) := (blk_cell BK286.out 2).trans rfl; have hfz52_0 := blk_frozen BK286.out 0; have hfz52_1 := blk_frozen BK286.out 1; have hfz52_2 := blk_frozen BK286.out 2) | ((with_reducible refine gate_store (t := 24) (p := 12) rfl ?_); refine store_event (t := 24) (p := 12) (v := ?vo_w53) (w1 := (((w50.setCell ⟨gb286, 0, none⟩ (.int .i64 t283)).setCell ⟨gb286, 1, none⟩ (.int .i64 t284)).setCell ⟨gb286, 2, none⟩ (.int .i64 t285))) ?hg ?ho ?hn ?hr ?_; (case ho => rfl); (case hg => rfl); (case hn => rfl); (case hr => first | (go_simp; done) | (go_simp; rfl)); intro w53 hw; have n0_ : Aside0 (Kd.R (Kd.int .i32) 21 w53 w.heap.size (fun k_ => some k_ ≠ (v261 : Value).ownBlock ∧ some k_ ≠ (v281 : Value).ownBlock) (.slice Ao35 x5_2.length co35) x5_2) := ⟨(by rw [hw]; exact (by (with_reducible repeat (first | apply Kd.R_alloc | apply Kd.R_drewN | apply Kd.R_drew)); exact Kd.R_mono (Kd.R_far (p := ⟨gb286, 2, none⟩) (Kd.R_far (p := ⟨gb286, 1, none⟩) (Kd.R_far (p := ⟨gb286, 0, none⟩) (Kd.R_types HO_5.out BK286.out (by decide)) (fun _ hk => hk.2) (.int .i64 t283)) (fun _ hk => hk.2) (.int .i64 t284)) (fun _ hk => hk.2) (.int .i64 t285)) (fun _ hk => ⟨hk.1.1.2, hk.1.2⟩)))⟩; have n1_ : Aside0 (Kd.R (Kd.int .u8) 5 w53 w.heap.size (fun k_ => some k_ ≠ (.slice Ao47 t274.length co47 : Value).ownBlock ∧ some k_ ≠ (.slice Ao48 y277.length co48 : Value).ownBlock) (.slice Ao37 t257.length co37) t257) := ⟨(by rw [hw]; exact (by (with_reducible repeat (first | apply Kd.R_alloc | apply Kd.R_drewN | apply Kd.R_drew)); exact Kd.R_mono (Kd.R_far (p := ⟨gb286, 2, none⟩) (Kd.R_far (p := ⟨gb286, 1, none⟩) (Kd.R_far (p := ⟨gb286, 0, none⟩) (Kd.R_types HO259.out BK286.out (by decide)) (fun _ hk => hk.2) (.int .i64 t283)) (fun _ hk => hk.2) (.int .i64 t284)) (fun _ hk => hk.2) (.int .i64 t285)) (fun _ hk => ⟨hk.1.1, hk.1.2⟩)))⟩; have n2_ : Aside0 (Kd.R (Kd.int .i32) 21 w53 w.heap.size (fun k_ => some k_ ≠ (.slice Ao35 x5_2.length co35 : Value).ownBlock ∧ some k_ ≠ (v281 : Value).ownBlock) v261 t260) := ⟨(by rw [hw]; exact (by (with_reducible repeat (first | apply Kd.R_alloc | apply Kd.R_drewN | apply Kd.R_drew)); exact Kd.R_mono (Kd.R_far (p := ⟨gb286, 2, none⟩) (Kd.R_far (p := ⟨gb286, 1, none⟩) (Kd.R_far (p := ⟨gb286, 0, none⟩) (Kd.R_types HO262.out BK286.out (by decide)) (fun _ hk => hk.2) (.int .i64 t283)) (fun _ hk => hk.2) (.int .i64 t284)) (fun _ hk => hk.2) (.int .i64 t285)) (fun _ hk => ⟨hk.1.1.2, hk.1.2⟩)))⟩; have n3_ : Aside0 (Kd.R (Kd.int .u8) 5 w53 w.heap.size (fun k_ => some k_ ≠ (.slice Ao37 t257.length co37 : Value).ownBlock ∧ some k_ ≠ (.slice Ao48 y277.length co48 : Value).ownBlock) (.slice Ao47 t274.length co47) t274) := ⟨(by rw [hw]; exact (by (with_reducible repeat (first | apply Kd.R_alloc | apply Kd.R_drewN | apply Kd.R_drew)); exact Kd.R_mono (Kd.R_far (p := ⟨gb286, 2, none⟩) (Kd.R_far (p := ⟨gb286, 1, none⟩) (Kd.R_far (p := ⟨gb286, 0, none⟩) (Kd.R_types HO276.out BK286.out (by decide)) (fun _ hk => hk.2) (.int .i64 t283)) (fun _ hk => hk.2) (.int .i64 t284)) (fun _ hk => hk.2) (.int .i64 t285)) (fun _ hk => ⟨hk.1.1, hk.1.2⟩)))⟩; have n4_ : Aside0 (Kd.R (Kd.int .u8) 5 w53 w.heap.size (fun k_ => some k_ ≠ (.slice Ao37 t257.length co37 : Value).ownBlock ∧ some k_ ≠ (.slice Ao47 t274.length co47 : Value).ownBlock) (.slice Ao48 y277.length co48) y277) := ⟨(by rw [hw]; exact (by (with_reducible repeat (first | apply Kd.R_alloc | apply Kd.R_drewN | apply Kd.R_drew)); exact Kd.R_mono (Kd.R_far (p := ⟨gb286, 2, none⟩) (Kd.R_far (p := ⟨gb286, 1, none⟩) (Kd.R_far (p := ⟨gb286, 0, none⟩) (Kd.R_types HO279.out BK286.out (by decide)) (fun _ hk => hk.2) (.int .i64 t283)) (fun _ hk => hk.2) (.int .i64 t284)) (fun _ hk => hk.2) (.int .i64 t285)) (fun _ hk => ⟨hk.1.1, hk.1.2⟩)))⟩; have n5_ : Aside0 (Kd.R (Kd.int .i32) 21 w53 w.heap.size (fun k_ => some k_ ≠ (.slice Ao35 x5_2.length co35 : Value).ownBlock ∧ some k_ ≠ (v261 : Value).ownBlock) v281 t280) := ⟨(by rw [hw]; exact (by (with_reducible repeat (first | apply Kd.R_alloc | apply Kd.R_drewN | apply Kd.R_drew)); exact Kd.R_mono (Kd.R_far (p := ⟨gb286, 2, none⟩) (Kd.R_far (p := ⟨gb286, 1, none⟩) (Kd.R_far (p := ⟨gb286, 0, none⟩) (Kd.R_types HO282.out BK286.out (by decide)) (fun _ hk => hk.2) (.int .i64 t283)) (fun _ hk => hk.2) (.int .i64 t284)) (fun _ hk => hk.2) (.int .i64 t285)) (fun _ hk => ⟨hk.1.1.2, hk.1.2⟩)))⟩; have n6_ : Aside0 (w53.heap[gb266]? = some (.cells #[.int .i64 t263, .int .i64 t264, .int .i64 t265] 24 (0, 0))) := ⟨(by rw [hw]; exact (by (with_reducible repeat (first | refine blk_drewN ?_ _ | refine blk_drew ?_ | refine blk_alloc ?_ _)); refine blk_far ?_ NB266_286.out _; (with_reducible repeat (first | refine blk_drewN ?_ _ | refine blk_drew ?_ | refine blk_alloc ?_ _)); refine blk_far ?_ NB266_286.out _; (with_reducible repeat (first | refine blk_drewN ?_ _ | refine blk_drew ?_ | refine blk_alloc ?_ _)); refine blk_far ?_ NB266_286.out _; (with_reducible repeat (first | refine blk_drewN ?_ _ | refine blk_drew ?_ | refine blk_alloc ?_ _)); exact BK266.out))⟩; have n7_ : Aside0 (w53.heap[gb286]? = some (.cells #[.int .i64 t283, .int .i64 t284, .int .i64 t285] 24 (0, 0))) := ⟨(by rw [hw]; exact (by (with_reducible repeat (first | refine blk_drewN ?_ _ | refine blk_drew ?_ | refine blk_alloc ?_ _)); refine blk_put (cs := #[.int .i64 t283, .int .i64 t284, .int .i64 0]) ?_ 2 _ rfl; (with_reducible repeat (first | refine blk_drewN ?_ _ | refine blk_drew ?_ | refine blk_alloc ?_ _)); refine blk_put (cs := #[.int .i64 t283, .int .i64 0, .int .i64 0]) ?_ 1 _ rfl; (with_reducible repeat (first | refine blk_drewN ?_ _ | refine blk_drew ?_ | refine blk_alloc ?_ _)); refine blk_put (cs := #[.int .i64 0, .int .i64 0, .int .i64 0]) ?_ 0 _ rfl; (with_reducible repeat (first | refine blk_drewN ?_ _ | refine blk_drew ?_ | refine blk_alloc ?_ _)); exact BK286.out))⟩; have n8_ : Aside0 (Below w.heap.size w w53) := ⟨(by rw [hw]; exact (by repeat (first | (with_reducible first | exact HB.out | apply below_alloc | apply pw_below_drewN | apply below_drew1 | refine below_set ?_ GE266.out | refine below_set ?_ GE286.out) | exact HB.out)))⟩; clear hw; clear HO_5; clear HO259; clear HO262; clear HO276; clear HO279; clear HO282; clear BK266; clear BK286; clear HB; have HO_5 := n0_; have HO259 := n1_; have HO262 := n2_; have HO276 := n3_; have HO279 := n4_; have HO282 := n5_; have BK266 := n6_; have BK286 := n7_; have HB := n8_; clear n0_ n1_ n2_ n3_ n4_ n5_ n6_ n7_ n8_; obtain ⟨Ao54, co54, eo54⟩ := Kd.R_slice HO282.out; subst eo54; obtain ⟨Ao55, co55, eo55⟩ := Kd.R_slice HO262.out; subst eo55; have q56 : ((ji25) : Int) ≤ ((t280.length : Int) : Int) := of_decide_eq_true (by first | (with_reducible assumption) | assumption); obtain ⟨i056, hi056, _, hsz56, _⟩ := info_parts info21; have hroom56 : t280.length ≤ co54 := (Kd.R_reads' HO282.out).2.1; have hC56 : Kd.C (Kd.int .i32) _ Ao54 t280.length t280 := (Kd.R_reads' HO282.out).2.2; have q056 : (0 : Int) ≤ ((ji25) : Int) := of_decide_eq_true (by first | (with_reducible assumption) | assumption); have hcut56 := cut_from (P := Try.prog) 22 21 .i64 Try.underlying22 hi056 1 hsz56 Ao54 t280.length co54 (ji25) q056 q56; have hr56 := Kd.C_drop (m := ((ji25) : Int).toNat) (c := co54) hC56 (by omega) hroom56; obtain ⟨A56, hA56⟩ : ∃ A1, A1 = (if co54 = ((ji25) : Int).toNat then Ao54 else (Ao54 : Option Addr).map (·.add (((ji25) : Int).toNat * 1))) := ⟨_, rfl⟩; obtain ⟨c56, hc56⟩ : ∃ c1, c1 = co54 - ((ji25) : Int).toNat := ⟨_, rfl⟩; have hy56 : y287.length = t280.length - ((ji25) : Int).toNat := (by rw [Ny287.out, List.length_drop] <;> omega); rw [show (t280).drop ((ji25) : Int).toNat = y287 from Ny287.out.symm] at hr56; replace hr56 : Kd.C (Kd.int .i32) _ A56 y287.length y287 := (by rw [hA56]; exact hr56); rw [← hy56, ← hA56, ← hc56] at hcut56; have HR290 := Aside0.mk hr56; have HC290 := Aside0.mk (show y287.length ≤ c56 from by rw [hy56, hc56]; exact Nat.sub_le_sub_right hroom56 _); clear hr56 hC56 hroom56 hi056 hsz56 hc56; have KY56 := Aside0.mk hy56; have KA56 := Aside0.mk hA56; clear hy56 hA56; have KL56 := Aside0.mk (show ((ji25) : Int).toNat ≤ t280.length from by omega); replace q56 := eq_true q56) | (go_at_call 10; (with_reducible refine (linguistbook_Same_rune.calls kj2 _ _ y287 _ _ t260 true _ ?side1 ?side2 ?side3 ?side4 A28.out).mono ?_); (case side1 => repeat (first | exact (by repeat (first | (with_reducible exact HR290.out) | (with_reducible refine Kd.C_alloc ?_ _) | (with_reducible refine Kd.C_drewN ?_ _) | (with_reducible refine Kd.C_drew ?_) | exact HR290.out)) | (with_reducible refine Kd.C_alloc ?_ _) | (with_reducible refine Kd.C_drewN ?_ _) | (with_reducible refine Kd.C_drew ?_))); (case side2 => exact HC290.out); (case side3 => repeat (first | exact (Kd.R_reads' HO262.out).2.2 | (with_reducible refine Kd.C_alloc ?_ _) | (with_reducible refine Kd.C_drewN ?_ _) | (with_reducible refine Kd.C_drew ?_))); (case side4 => exact (Kd.R_reads' HO262.out).2.1); rintro e w' ⟨rfl, ⟨nd, rfl⟩⟩) | ((with_reducible refine gate_callee (f := 10) rfl ?_); refine goesL_ (some 78) rfl rfl Try.func10 (by kernel_rfl) rfl #[.slice Ao55 t260.length co55, .slice Ao35 x5_2.length co35] rfl (by (try simp only [List.map_toArray, List.map_cons, List.map_nil]); first | done | rfl | (simp only [List.length_drop, List.length_take]; rfl) | (simp only [List.length_drop, List.length_take]; rw [Nat.min_eq_left (by first | assumption | omega)]; rfl)) ?_; (with_reducible refine (linguistbook_Same_rune.calls kj2 _ _ t260 _ _ x5_2 true _ ?side1 ?side2 ?side3 ?side4 A30.out).mono ?_); (case side1 => repeat (first | exact (Kd.R_reads' HO262.out).2.2 | (with_reducible refine Kd.C_alloc ?_ _) | (with_reducible refine Kd.C_drewN ?_ _) | (with_reducible refine Kd.C_drew ?_))); (case side2 => exact (Kd.R_reads' HO262.out).2.1); (case side3 => repeat (first | exact (Kd.R_reads' HO_5.out).2.2 | (with_reducible refine Kd.C_alloc ?_ _) | (with_reducible refine Kd.C_drewN ?_ _) | (with_reducible refine Kd.C_drew ?_))); (case side4 => exact (Kd.R_reads' HO_5.out).2.1); rintro e w' ⟨rfl, ⟨nd, rfl⟩⟩; refine ⟨_, rfl, ?_⟩; have hcz57_0 : w53.cell? ⟨gb266, 0, none⟩ = some (.int .i64 t263) := (blk_cell BK266.out 0).trans rfl; have hcz57_1 : w53.cell? ⟨gb266, 1, none⟩ = some (.int .i64 t264) := (blk_cell BK266.out 1).trans rfl; have hcz57_2 : w53.cell? ⟨gb266, 2, none⟩ = some (.int .i64 t265) := (blk_cell BK266.out 2).trans rfl; have hfz57_0 := blk_frozen BK266.out 0; have hfz57_1 := blk_frozen BK266.out 1; have hfz57_2 := blk_frozen BK266.out 2) | (go_at_call 11; (with_reducible refine (utf_Decoder_Held.calls t263 t264 t265 false _ A32.out).mono ?_); rintro e w58 ⟨rfl, hb⟩; have n0_ := Aside0.mk (Kd.R_below (by (with_reducible repeat (first | apply Kd.R_alloc | apply Kd.R_drewN | apply Kd.R_drew)); exact HO_5.out) hb); have n1_ := Aside0.mk (Kd.R_below (by (with_reducible repeat (first | apply Kd.R_alloc | apply Kd.R_drewN | apply Kd.R_drew)); exact HO259.out) hb); have n2_ := Aside0.mk (Kd.R_below (by (with_reducible repeat (first | apply Kd.R_alloc | apply Kd.R_drewN | apply Kd.R_drew)); exact HO262.out) hb); have n3_ := Aside0.mk (Kd.R_below (by (with_reducible repeat (first | apply Kd.R_alloc | apply Kd.R_drewN | apply Kd.R_drew)); exact HO276.out) hb); have n4_ := Aside0.mk (Kd.R_below (by (with_reducible repeat (first | apply Kd.R_alloc | apply Kd.R_drewN | apply Kd.R_drew)); exact HO279.out) hb); have n5_ := Aside0.mk (Kd.R_below (by (with_reducible repeat (first | apply Kd.R_alloc | apply Kd.R_drewN | apply Kd.R_drew)); exact HO282.out) hb); have n6_ := Aside0.mk (blk_below (g := gb266) (o := .cells #[.int .i64 t263, .int .i64 t264, .int .i64 t265] 24 (0, 0)) (by (with_reducible repeat (first | refine blk_drewN ?_ _ | refine blk_drew ?_ | refine blk_alloc ?_ _)); exact BK266.out) hb); have n7_ := Aside0.mk (blk_below (g := gb286) (o := .cells #[.int .i64 t283, .int .i64 t284, .int .i64 t285] 24 (0, 0)) (by (with_reducible repeat (first | refine blk_drewN ?_ _ | refine blk_drew ?_ | refine blk_alloc ?_ _)); exact BK286.out) hb); have n8_ := Aside0.mk (Kd.C_below (by repeat (first | (with_reducible exact HR290.out) | (with_reducible refine Kd.C_alloc ?_ _) | (with_reducible refine Kd.C_drewN ?_ _) | (with_reducible refine Kd.C_drew ?_) | exact HR290.out)) hb); have n9_ := Aside0.mk (below_step (by repeat (first | (with_reducible first | exact HB.out | apply below_alloc | apply pw_below_drewN | apply below_drew1 | refine below_set ?_ GE266.out | refine below_set ?_ GE286.out) | exact HB.out)) hb); clear HO_5; clear HO259; clear HO262; clear HO276; clear HO279; clear HO282; clear BK266; clear BK286; clear HR290; clear HB; have HO_5 := n0_; have HO259 := n1_; have HO262 := n2_; have HO276 := n3_; have HO279 := n4_; have HO282 := n5_; have BK266 := n6_; have BK286 := n7_; have HR290 := n8_; have HB := n9_; clear n0_ n1_ n2_ n3_ n4_ n5_ n6_ n7_ n8_ n9_; (try clear hb); (try clear hb2); (try clear hk); (try clear hi)) | (go_at_call 3; (with_reducible refine (linguistlaw1_UtfRuns.calls kj2  t294 _ A34.out).mono ?_); rintro e w59 ⟨rfl, hb⟩; have n0_ := Aside0.mk (Kd.R_below (by (with_reducible repeat (first | apply Kd.R_alloc | apply Kd.R_drewN | apply Kd.R_drew)); exact HO_5.out) hb); have n1_ := Aside0.mk (Kd.R_below (by (with_reducible repeat (first | apply Kd.R_alloc | apply Kd.R_drewN | apply Kd.R_drew)); exact HO259.out) hb); have n2_ := Aside0.mk (Kd.R_below (by (with_reducible repeat (first | apply Kd.R_alloc | apply Kd.R_drewN | apply Kd.R_drew)); exact HO262.out) hb); have n3_ := Aside0.mk (Kd.R_below (by (with_reducible repeat (first | apply Kd.R_alloc | apply Kd.R_drewN | apply Kd.R_drew)); exact HO276.out) hb); have n4_ := Aside0.mk (Kd.R_below (by (with_reducible repeat (first | apply Kd.R_alloc | apply Kd.R_drewN | apply Kd.R_drew)); exact HO279.out) hb); have n5_ := Aside0.mk (Kd.R_below (by (with_reducible repeat (first | apply Kd.R_alloc | apply Kd.R_drewN | apply Kd.R_drew)); exact HO282.out) hb); have n6_ := Aside0.mk (blk_below (g := gb266) (o := .cells #[.int .i64 t263, .int .i64 t264, .int .i64 t265] 24 (0, 0)) (by (with_reducible repeat (first | refine blk_drewN ?_ _ | refine blk_drew ?_ | refine blk_alloc ?_ _)); exact BK266.out) hb); have n7_ := Aside0.mk (blk_below (g := gb286) (o := .cells #[.int .i64 t283, .int .i64 t284, .int .i64 t285] 24 (0, 0)) (by (with_reducible repeat (first | refine blk_drewN ?_ _ | refine blk_drew ?_ | refine blk_alloc ?_ _)); exact BK286.out) hb); have n8_ := Aside0.mk (Kd.C_below (by repeat (first | (with_reducible exact HR290.out) | (with_reducible refine Kd.C_alloc ?_ _) | (with_reducible refine Kd.C_drewN ?_ _) | (with_reducible refine Kd.C_drew ?_) | exact HR290.out)) hb); have n9_ := Aside0.mk (below_step (by repeat (first | (with_reducible first | exact HB.out | apply below_alloc | apply pw_below_drewN | apply below_drew1 | refine below_set ?_ GE266.out | refine below_set ?_ GE286.out) | exact HB.out)) hb); clear HO_5; clear HO259; clear HO262; clear HO276; clear HO279; clear HO282; clear BK266; clear BK286; clear HR290; clear HB; have HO_5 := n0_; have HO259 := n1_; have HO262 := n2_; have HO276 := n3_; have HO279 := n4_; have HO282 := n5_; have BK266 := n6_; have BK286 := n7_; have HR290 := n8_; have HB := n9_; clear n0_ n1_ n2_ n3_ n4_ n5_ n6_ n7_ n8_ n9_; (try clear hb); (try clear hb2); (try clear hk); (try clear hi)))
                          go_ret
                          exact ⟨by first | rfl | (simp [errW_none, errW_some] <;> rfl) | (simp only [← hji17, ← hji25]; first | rfl | (simp [errW_none, errW_some] <;> rfl)) | (simp [*, errW_none, errW_some] <;> rfl), by repeat (first | (with_reducible first | exact HB.out | apply below_alloc | apply pw_below_drewN | apply below_drew1 | refine below_set ?_ GE266.out | refine below_set ?_ GE286.out) | exact HB.out)⟩
                      · replace c31 := Bool.eq_false_iff.mpr c31
                        subst c31
                        have H1 : (none) = some r := by rw [if_neg (show ¬ (false = true) by decide)] at H; exact H
                        clear H
                        have H := H1
                        clear H1
                        exact absurd H (by simp)
                    · replace c29 := Bool.eq_false_iff.mpr c29
                      subst c29
                      have H1 : (none) = some r := by rw [if_neg (show ¬ (false = true) by decide)] at H; exact H
                      clear H
                      have H := H1
                      clear H1
                      exact absurd H (by simp)
                  · rw [if_neg c27] at H
                    exact absurd H (by simp)
                · rw [if_neg c26] at H
                  exact absurd H (by simp)
            · rw [if_neg c22] at H
              exact absurd H (by simp)
          · rw [if_neg c20] at H
            exact absurd H (by simp)
        · rw [if_neg c19] at H
          exact absurd H (by simp)
      · rw [if_neg c18] at H
        exact absurd H (by simp)

/-- THE ONE PURE STATEMENT of linguistlaw1_UtfBack. -/
def linguistlaw1_UtfBack.Pure : Prop := ∀ (l0 : List Int) (l1 : List Int), l0.length ≤ 9223372036854775807 → l0.length * 4 ≤ 140737488351232 → (∀ x ∈ l0, (Lit.int .i32 x).wf = true) → l1.length ≤ 9223372036854775807 → l1.length * 1 ≤ 140737488351232 → (∀ x ∈ l1, (Lit.int .u8 x).wf = true) → ∃ k, linguistlaw1_UtfBack.f k l0 l1 = some true
theorem linguistlaw1_UtfBack.walk (P : linguistlaw1_UtfBack.Pure) (A0 : Option Addr) (c0 : Nat) (l0 : List Int) (A1 : Option Addr) (c1 : Nat) (l1 : List Int) (w : World) (v0_0 : l0.length ≤ 9223372036854775807) (v0_1 : l0.length * 4 ≤ 140737488351232) (v0_2 : (∀ x ∈ l0, (Lit.int .i32 x).wf = true)) (v1_0 : l1.length ≤ 9223372036854775807) (v1_1 : l1.length * 1 ≤ 140737488351232) (v1_2 : (∀ x ∈ l1, (Lit.int .u8 x).wf = true)) (hr0 : Kd.C (Kd.int .i32) w A0 l0.length l0) (hc0 : l0.length ≤ c0) (hr1 : Kd.C (Kd.int .u8) w A1 l1.length l1) (hc1 : l1.length ≤ c1) :
    Calls Try.prog 5 #[.slice A0 l0.length c0, .slice A1 l1.length c1] w fun e w' => e = .returned (.bool true) ∧ Below w.heap.size w w' := by
  obtain ⟨k, h⟩ := P l0 l1 v0_0 v0_1 v0_2 v1_0 v1_1 v1_2
  refine (linguistlaw1_UtfBack.calls k A0 c0 l0 A1 c1 l1 true w hr0 hc0 hr1 hc1 h).mono ?_
  rintro e w' ⟨rfl, hd⟩
  exact ⟨rfl, hd⟩

end Go.Proofs.Ytnammlamdhpnpaa.GUtfBack
