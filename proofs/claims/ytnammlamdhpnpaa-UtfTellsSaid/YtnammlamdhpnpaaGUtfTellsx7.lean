-- Written by a program of this session (out of the kit's printer); Lean checks it.
import Derived.Test.YtnammlamdhpnpaaGUtfTellsx0
import Derived.Test.YtnammlamdhpnpaaGUtfTellsx1
import Derived.Test.YtnammlamdhpnpaaGUtfTellsx3
import Derived.Test.YtnammlamdhpnpaaGUtfTellsx4
import Derived.Test.YtnammlamdhpnpaaGUtfTellsx5
import Derived.Test.YtnammlamdhpnpaaGUtfTellsx6
namespace Go.Proofs.Ytnammlamdhpnpaa.GUtfTells
open Go.RowKit Go.Proofs.YtnammlamdhpnpaaW.PrintWords Go.Proofs.YtnammlamdhpnpaaW.PrintLast Go.Proofs.YtnammlamdhpnpaaW.PrintMore
attribute [local go_sem] max2_int min2_int max_two min_two max_three min_three max_four min_four   -- for this text's walks alone
set_option linter.unusedVariables false
set_option linter.unusedSimpArgs false

/-! ### linguistlaw1_UtfTells: function 4 -/
def linguistlaw1_UtfTells.l0 : Nat → List Int → List Int → Int → List Int → List Int → List Int → Int → Int → Int → Int → Int → Option (Bool)
  | 0, _, _, _, _, _, _, _, _, _, _, _ => none
  | k + 1, x6, x8, x9, x10, x11, x39, x40, x41, x320000, x320001, x320002 => if x41 < x40 then (if 0 ≤ x41 then (if x41 < (x39.length : Int) then ((linguistref1_Encode.f k (rd x39 x41)).bind fun t332 => (if x11.length + t332.length < 140737488355328 then (linguistlaw1_UtfTells.l0 k x6 x8 x9 x10 (x11 ++ t332) x39 x40 (wrap64 (x41 + 1)) x320000 x320001 x320002) else (none))) else (none)) else (none)) else ((linguistbook_Roomy_rune.f k x10 7).bind fun t338 => ((linguistbook_Same_rune.f k x6 x8).bind fun t341 => (if t341 = true then ((utf_Decoder_Held.f x320000 x320001 x320002).bind fun t342 => (if (t342 == (decide (x9 > 0))) = true then (if 0 ≤ (x10.length : Int) then (if (x10.length : Int) ≤ (t338.length : Int) then ((utf_Encode.f k (t338.take ((x10.length : Int) : Int).toNat)).bind fun t347 => ((linguistbook_Same_byte.f k t347 x11).bind fun t350 => (if t350 = true then ((linguistbook_Intact_rune.f k t338 x10 7).bind fun t351 => (if t351 = true then ((linguistlaw1_UtfRuns.f k).bind fun t352 => (some t352)) else (none))) else (none)))) else (none)) else (none)) else (none))) else (none))))
def linguistlaw1_UtfTells.f (k : Nat) (l0 : List Int) (l1 : List Int) : Option (Bool) := (some (([] : List Int) : List Int)).bind fun y306 => (if 0 ≤ (mn (l0.length : Int) 40) then (if (mn (l0.length : Int) 40) ≤ (l0.length : Int) then (if y306.length + (l0.take ((mn (l0.length : Int) 40) : Int).toNat).length < 140737488355328 then ((some (y306 ++ (l0.take ((mn (l0.length : Int) 40) : Int).toNat) : List Int)).bind fun y310 => ((utf_Decode.f k y310).bind fun bt313 => ((linguistref1_Decode.f k y310).bind fun bt320 => ((some (([] : List Int) : List Int)).bind fun y324 => (if 0 ≤ (mn (l1.length : Int) 10) then (if (mn (l1.length : Int) 10) ≤ (l1.length : Int) then (if y324.length + (l1.take ((mn (l1.length : Int) 10) : Int).toNat).length < 35184372088832 then ((some (y324 ++ (l1.take ((mn (l1.length : Int) 10) : Int).toNat) : List Int)).bind fun y328 => (linguistlaw1_UtfTells.l0 k bt313.1 bt320.1 bt320.2 y328 ([] : List Int) y328 (y328.length : Int) 0 bt313.2.1 bt313.2.2.1 bt313.2.2.2)) else (none)) else (none)) else (none)))))) else (none)) else (none)) else (none))
theorem linguistlaw1_UtfTells.mono_l : ∀ k, (∀ y0 y1 y2 y3 y4 y5 y6 y7 y8 y9 y10, LeO (linguistlaw1_UtfTells.l0 k y0 y1 y2 y3 y4 y5 y6 y7 y8 y9 y10) (linguistlaw1_UtfTells.l0 (k + 1) y0 y1 y2 y3 y4 y5 y6 y7 y8 y9 y10))
  | 0 => fun _ _ _ _ _ _ _ _ _ _ _ r h => by simp [linguistlaw1_UtfTells.l0] at h
  | k + 1 => by
    have ih0 := linguistlaw1_UtfTells.mono_l k
    · intro y0 y1 y2 y3 y4 y5 y6 y7 y8 y9 y10
      unfold linguistlaw1_UtfTells.l0
      repeat' first
      | (with_reducible exact ih0 _ _ _ _ _ _ _ _ _ _ _)
      | (with_reducible exact linguistbook_Intact_rune.mono _ _ _ _)
      | (with_reducible exact linguistbook_Roomy_rune.mono _ _ _)
      | (with_reducible exact linguistbook_Same_byte.mono _ _ _)
      | (with_reducible exact linguistbook_Same_rune.mono _ _ _)
      | (with_reducible exact linguistlaw1_UtfRuns.mono _)
      | (with_reducible exact linguistref1_Decode.mono _ _)
      | (with_reducible exact linguistref1_Encode.mono _ _)
      | (with_reducible exact utf_Decode.mono _ _)
      | (with_reducible exact utf_Encode.mono _ _)
      | (with_reducible exact LeO.refl _)
      | (with_reducible exact LeO.none _)
      | (with_reducible refine LeO.ite ?_ ?_)
      | (with_reducible refine LeO.bind ?_ (fun _ => ?_))
      | exact ih0 _ _ _ _ _ _ _ _ _ _ _
      | exact linguistbook_Intact_rune.mono _ _ _ _
      | exact linguistbook_Roomy_rune.mono _ _ _
      | exact linguistbook_Same_byte.mono _ _ _
      | exact linguistbook_Same_rune.mono _ _ _
      | exact linguistlaw1_UtfRuns.mono _
      | exact linguistref1_Decode.mono _ _
      | exact linguistref1_Encode.mono _ _
      | exact utf_Decode.mono _ _
      | exact utf_Encode.mono _ _
      | exact LeO.none _
      | refine LeO.ite ?_ ?_
      | refine LeO.bind ?_ (fun _ => ?_)
theorem linguistlaw1_UtfTells.mono : ∀ a0 a1 k, LeO (linguistlaw1_UtfTells.f k a0 a1) (linguistlaw1_UtfTells.f (k + 1) a0 a1) := by
  intro a0 a1 k
  have ih0 := linguistlaw1_UtfTells.mono_l k
  unfold linguistlaw1_UtfTells.f
  repeat' first
      | (with_reducible exact ih0 _ _ _ _ _ _ _ _ _ _ _)
      | (with_reducible exact linguistbook_Intact_rune.mono _ _ _ _)
      | (with_reducible exact linguistbook_Roomy_rune.mono _ _ _)
      | (with_reducible exact linguistbook_Same_byte.mono _ _ _)
      | (with_reducible exact linguistbook_Same_rune.mono _ _ _)
      | (with_reducible exact linguistlaw1_UtfRuns.mono _)
      | (with_reducible exact linguistref1_Decode.mono _ _)
      | (with_reducible exact linguistref1_Encode.mono _ _)
      | (with_reducible exact utf_Decode.mono _ _)
      | (with_reducible exact utf_Encode.mono _ _)
      | (with_reducible exact LeO.refl _)
      | (with_reducible exact LeO.none _)
      | (with_reducible refine LeO.ite ?_ ?_)
      | (with_reducible refine LeO.bind ?_ (fun _ => ?_))
      | exact ih0 _ _ _ _ _ _ _ _ _ _ _
      | exact linguistbook_Intact_rune.mono _ _ _ _
      | exact linguistbook_Roomy_rune.mono _ _ _
      | exact linguistbook_Same_byte.mono _ _ _
      | exact linguistbook_Same_rune.mono _ _ _
      | exact linguistlaw1_UtfRuns.mono _
      | exact linguistref1_Decode.mono _ _
      | exact linguistref1_Encode.mono _ _
      | exact utf_Decode.mono _ _
      | exact utf_Encode.mono _ _
      | exact LeO.none _
      | refine LeO.ite ?_ ?_
      | refine LeO.bind ?_ (fun _ => ?_)
set_option maxHeartbeats 8000000 in
set_option maxRecDepth 100000 in
theorem linguistlaw1_UtfTells.calls (k : Nat) (A0 : Option Addr) (c0 : Nat) (l0 : List Int) (A1 : Option Addr) (c1 : Nat) (l1 : List Int) (r : Bool) (w : World) (hr0 : Kd.C (Kd.int .u8) w A0 l0.length l0) (hc0 : l0.length ≤ c0) (hr1 : Kd.C (Kd.int .i32) w A1 l1.length l1) (hc1 : l1.length ≤ c1) (h : linguistlaw1_UtfTells.f k l0 l1 = some r) :
    Calls Try.prog 4 #[.slice A0 l0.length c0, .slice A1 l1.length c1] w fun e w' => e = .returned (.bool r) ∧ Below w.heap.size w w' := by
  have hu24 := Try.underlying24
  have HR0 := Aside0.mk hr0
  have HC0 := Aside0.mk hc0
  clear hr0 hc0
  have HR1 := Aside0.mk hr1
  have HC1 := Aside0.mk hc1
  clear hr1 hc1
  have HB := Aside0.mk (Below.refl w.heap.size w)
  have H : ((some (([] : List Int) : List Int)).bind fun y306 => (if 0 ≤ (mn (l0.length : Int) 40) then (if (mn (l0.length : Int) 40) ≤ (l0.length : Int) then (if y306.length + (l0.take ((mn (l0.length : Int) 40) : Int).toNat).length < 140737488355328 then ((some (y306 ++ (l0.take ((mn (l0.length : Int) 40) : Int).toNat) : List Int)).bind fun y310 => ((utf_Decode.f k y310).bind fun bt313 => ((linguistref1_Decode.f k y310).bind fun bt320 => ((some (([] : List Int) : List Int)).bind fun y324 => (if 0 ≤ (mn (l1.length : Int) 10) then (if (mn (l1.length : Int) 10) ≤ (l1.length : Int) then (if y324.length + (l1.take ((mn (l1.length : Int) 10) : Int).toNat).length < 35184372088832 then ((some (y324 ++ (l1.take ((mn (l1.length : Int) 10) : Int).toNat) : List Int)).bind fun y328 => (linguistlaw1_UtfTells.l0 k bt313.1 bt320.1 bt320.2 y328 ([] : List Int) y328 (y328.length : Int) 0 bt313.2.1 bt313.2.2.1 bt313.2.2.2)) else (none)) else (none)) else (none)))))) else (none)) else (none)) else (none))) = some r := h
  clear h
  obtain ⟨y306, hy306⟩ : ∃ y_ : List Int, y_ = (([] : List Int)) := ⟨_, rfl⟩
  replace H : (if 0 ≤ (mn (l0.length : Int) 40) then (if (mn (l0.length : Int) 40) ≤ (l0.length : Int) then (if y306.length + (l0.take ((mn (l0.length : Int) 40) : Int).toNat).length < 140737488355328 then ((some (y306 ++ (l0.take ((mn (l0.length : Int) 40) : Int).toNat) : List Int)).bind fun y310 => ((utf_Decode.f k y310).bind fun bt313 => ((linguistref1_Decode.f k y310).bind fun bt320 => ((some (([] : List Int) : List Int)).bind fun y324 => (if 0 ≤ (mn (l1.length : Int) 10) then (if (mn (l1.length : Int) 10) ≤ (l1.length : Int) then (if y324.length + (l1.take ((mn (l1.length : Int) 10) : Int).toNat).length < 35184372088832 then ((some (y324 ++ (l1.take ((mn (l1.length : Int) 10) : Int).toNat) : List Int)).bind fun y328 => (linguistlaw1_UtfTells.l0 k bt313.1 bt320.1 bt320.2 y328 ([] : List Int) y328 (y328.length : Int) 0 bt313.2.1 bt313.2.2.1 bt313.2.2.2)) else (none)) else (none)) else (none)))))) else (none)) else (none)) else (none)) = some r := by first | (rw [hy306]; with_reducible exact H) | (have H2_ := (Option.bind_some _ _).symm.trans H; rw [hy306]; with_reducible exact H2_) | (have H2_ := (Option.bind_some _ _).symm.trans H; with_reducible exact H2_) | with_reducible exact H | (rw [hy306]; exact H) | exact H
  have Ny306 := Aside0.mk hy306
  clear hy306
  obtain ⟨ji3, hji3⟩ : ∃ j_ : Int, (mn (l0.length : Int) 40) = j_ := ⟨_, rfl⟩
  replace H : (if 0 ≤ (ji3) then (if (ji3) ≤ (l0.length : Int) then (if y306.length + (l0.take ((ji3) : Int).toNat).length < 140737488355328 then ((some (y306 ++ (l0.take ((ji3) : Int).toNat) : List Int)).bind fun y310 => ((utf_Decode.f k y310).bind fun bt313 => ((linguistref1_Decode.f k y310).bind fun bt320 => ((some (([] : List Int) : List Int)).bind fun y324 => (if 0 ≤ (mn (l1.length : Int) 10) then (if (mn (l1.length : Int) 10) ≤ (l1.length : Int) then (if y324.length + (l1.take ((mn (l1.length : Int) 10) : Int).toNat).length < 35184372088832 then ((some (y324 ++ (l1.take ((mn (l1.length : Int) 10) : Int).toNat) : List Int)).bind fun y328 => (linguistlaw1_UtfTells.l0 k bt313.1 bt320.1 bt320.2 y328 ([] : List Int) y328 (y328.length : Int) 0 bt313.2.1 bt313.2.2.1 bt313.2.2.2)) else (none)) else (none)) else (none)))))) else (none)) else (none)) else (none)) = some r := by first | (rw [hji3] at H; exact H) | (simp only [hji3] at H ⊢; exact H)
  (try (have hji3h : ji3 ≤ 40 := by (rw [← hji3]; unfold mn; (repeat' split) <;> omega)))
  (try (have hji3g : ji3 ≤ 64 := by omega))
  (try (have hji3l : 0 ≤ ji3 := by (rw [← hji3]; unfold mn; (repeat' split) <;> omega)))
  (try (have hji3m : 0 ≤ ji3 := by omega))
  have hji3_ : (if 40 < (l0.length : Int) then 40 else (l0.length : Int)) = ji3 := hji3
  (try (have hji3n : ji3.toNat ≤ l0.length := by (have f_ := hji3_; split at f_ <;> omega)))
  by_cases c4 : 0 ≤ (ji3)
  · rw [if_pos c4] at H
    have c4b0 := eq_true c4
    have c4b1 : decide (0 ≤ (ji3)) = true := decide_eq_true c4
    clear c4
    by_cases c5 : (ji3) ≤ (l0.length : Int)
    · rw [if_pos c5] at H
      have c5b0 := eq_true c5
      have c5b1 : decide ((ji3) ≤ (l0.length : Int)) = true := decide_eq_true c5
      clear c5
      by_cases c6 : y306.length + (l0.take ((ji3) : Int).toNat).length < 140737488355328
      · rw [if_pos c6] at H
        have LMc6 := Aside0.mk c6
        clear c6
        obtain ⟨y310, hy310⟩ : ∃ y_ : List Int, y_ = (y306 ++ (l0.take ((ji3) : Int).toNat)) := ⟨_, rfl⟩
        replace H : ((utf_Decode.f k y310).bind fun bt313 => ((linguistref1_Decode.f k y310).bind fun bt320 => ((some (([] : List Int) : List Int)).bind fun y324 => (if 0 ≤ (mn (l1.length : Int) 10) then (if (mn (l1.length : Int) 10) ≤ (l1.length : Int) then (if y324.length + (l1.take ((mn (l1.length : Int) 10) : Int).toNat).length < 35184372088832 then ((some (y324 ++ (l1.take ((mn (l1.length : Int) 10) : Int).toNat) : List Int)).bind fun y328 => (linguistlaw1_UtfTells.l0 k bt313.1 bt320.1 bt320.2 y328 ([] : List Int) y328 (y328.length : Int) 0 bt313.2.1 bt313.2.2.1 bt313.2.2.2)) else (none)) else (none)) else (none))))) = some r := by first | (rw [hy310]; with_reducible exact H) | (have H2_ := (Option.bind_some _ _).symm.trans H; rw [hy310]; with_reducible exact H2_) | (have H2_ := (Option.bind_some _ _).symm.trans H; with_reducible exact H2_) | with_reducible exact H | (rw [hy310]; exact H) | exact H
        have Ny310 := Aside0.mk hy310
        clear hy310
        replace H := Option.bind_eq_some_iff.mp H
        obtain ⟨⟨t313, t316, t317, t318⟩, A70, H⟩ := H
        replace H : ((linguistref1_Decode.f k y310).bind fun bt320 => ((some (([] : List Int) : List Int)).bind fun y324 => (if 0 ≤ (mn (l1.length : Int) 10) then (if (mn (l1.length : Int) 10) ≤ (l1.length : Int) then (if y324.length + (l1.take ((mn (l1.length : Int) 10) : Int).toNat).length < 35184372088832 then ((some (y324 ++ (l1.take ((mn (l1.length : Int) 10) : Int).toNat) : List Int)).bind fun y328 => (linguistlaw1_UtfTells.l0 k t313 bt320.1 bt320.2 y328 ([] : List Int) y328 (y328.length : Int) 0 t316 t317 t318)) else (none)) else (none)) else (none)))) = some r := H
        have A7 := Aside0.mk A70
        clear A70
        replace H := Option.bind_eq_some_iff.mp H
        obtain ⟨⟨t320, t321⟩, A80, H⟩ := H
        replace H : ((some (([] : List Int) : List Int)).bind fun y324 => (if 0 ≤ (mn (l1.length : Int) 10) then (if (mn (l1.length : Int) 10) ≤ (l1.length : Int) then (if y324.length + (l1.take ((mn (l1.length : Int) 10) : Int).toNat).length < 35184372088832 then ((some (y324 ++ (l1.take ((mn (l1.length : Int) 10) : Int).toNat) : List Int)).bind fun y328 => (linguistlaw1_UtfTells.l0 k t313 t320 t321 y328 ([] : List Int) y328 (y328.length : Int) 0 t316 t317 t318)) else (none)) else (none)) else (none))) = some r := H
        have A8 := Aside0.mk A80
        clear A80
        obtain ⟨y324, hy324⟩ : ∃ y_ : List Int, y_ = (([] : List Int)) := ⟨_, rfl⟩
        replace H : (if 0 ≤ (mn (l1.length : Int) 10) then (if (mn (l1.length : Int) 10) ≤ (l1.length : Int) then (if y324.length + (l1.take ((mn (l1.length : Int) 10) : Int).toNat).length < 35184372088832 then ((some (y324 ++ (l1.take ((mn (l1.length : Int) 10) : Int).toNat) : List Int)).bind fun y328 => (linguistlaw1_UtfTells.l0 k t313 t320 t321 y328 ([] : List Int) y328 (y328.length : Int) 0 t316 t317 t318)) else (none)) else (none)) else (none)) = some r := by first | (rw [hy324]; with_reducible exact H) | (have H2_ := (Option.bind_some _ _).symm.trans H; rw [hy324]; with_reducible exact H2_) | (have H2_ := (Option.bind_some _ _).symm.trans H; with_reducible exact H2_) | with_reducible exact H | (rw [hy324]; exact H) | exact H
        have Ny324 := Aside0.mk hy324
        clear hy324
        obtain ⟨ji9, hji9⟩ : ∃ j_ : Int, (mn (l1.length : Int) 10) = j_ := ⟨_, rfl⟩
        replace H : (if 0 ≤ (ji9) then (if (ji9) ≤ (l1.length : Int) then (if y324.length + (l1.take ((ji9) : Int).toNat).length < 35184372088832 then ((some (y324 ++ (l1.take ((ji9) : Int).toNat) : List Int)).bind fun y328 => (linguistlaw1_UtfTells.l0 k t313 t320 t321 y328 ([] : List Int) y328 (y328.length : Int) 0 t316 t317 t318)) else (none)) else (none)) else (none)) = some r := by first | (rw [hji9] at H; exact H) | (simp only [hji9] at H ⊢; exact H)
        (try rw [hji9] at A7)
        (try rw [hji9] at A8)
        (try (have hji9h : ji9 ≤ 10 := by (rw [← hji9]; unfold mn; (repeat' split) <;> omega)))
        (try (have hji9g : ji9 ≤ 64 := by omega))
        (try (have hji9l : 0 ≤ ji9 := by (rw [← hji9]; unfold mn; (repeat' split) <;> omega)))
        (try (have hji9m : 0 ≤ ji9 := by omega))
        have hji9_ : (if 10 < (l1.length : Int) then 10 else (l1.length : Int)) = ji9 := hji9
        (try (have hji9n : ji9.toNat ≤ l1.length := by (have f_ := hji9_; split at f_ <;> omega)))
        by_cases c10 : 0 ≤ (ji9)
        · rw [if_pos c10] at H
          have c10b0 := eq_true c10
          have c10b1 : decide (0 ≤ (ji9)) = true := decide_eq_true c10
          clear c10
          by_cases c11 : (ji9) ≤ (l1.length : Int)
          · rw [if_pos c11] at H
            have c11b0 := eq_true c11
            have c11b1 : decide ((ji9) ≤ (l1.length : Int)) = true := decide_eq_true c11
            clear c11
            by_cases c12 : y324.length + (l1.take ((ji9) : Int).toNat).length < 35184372088832
            · rw [if_pos c12] at H
              have LMc12 := Aside0.mk c12
              clear c12
              obtain ⟨y328, hy328⟩ : ∃ y_ : List Int, y_ = (y324 ++ (l1.take ((ji9) : Int).toNat)) := ⟨_, rfl⟩
              replace H : (linguistlaw1_UtfTells.l0 k t313 t320 t321 y328 ([] : List Int) y328 (y328.length : Int) 0 t316 t317 t318) = some r := by first | (rw [hy328]; with_reducible exact H) | (have H2_ := (Option.bind_some _ _).symm.trans H; rw [hy328]; with_reducible exact H2_) | (have H2_ := (Option.bind_some _ _).symm.trans H; with_reducible exact H2_) | with_reducible exact H | (rw [hy328]; exact H) | exact H
              have Ny328 := Aside0.mk hy328
              clear hy328
              have H' := Aside0.mk H
              clear H
              go_enter Try.func4, Try.ntmps4
              go_wp2_with (first | ((with_reducible refine gate_dst (N := 15) rfl ?_); (try (refine gate_guard (by rfl) ?_; dsimp only)); refine Kd.R_lit (Kd.int .u8) _ 5 ?hg (N := 15) ?hd (xs := ([] : List Int)) (inner := []) (ok := fun _ => True) (okp := fun _ => True) ?hr ?hp (fun _ hk => hk) trivial (Below.refl _ _) (Nat.le_refl _) (by simp) ?_; (case hd => rfl); (case hg => rfl); (case hr => first | (go_simp; done) | (go_simp; rfl)); (case hp => exact (Reps.none _ _)); intro v307 w13 ho14 hb hg_ hnew_; clear hg_ hnew_; (first | rw [← Ny306.out] at ho14 | (simp only [Int.reduceToNat] at ho14; rw [← Ny306.out] at ho14)); have n0_ := Aside0.mk (Kd.R_lower ho14 (below_size (by repeat (first | (with_reducible first | exact HB.out | apply below_alloc | apply pw_below_drewN | apply below_drew1) | exact HB.out)))); have n1_ := Aside0.mk (below_step (by repeat (first | (with_reducible first | exact HB.out | apply below_alloc | apply pw_below_drewN | apply below_drew1) | exact HB.out)) hb); clear HB; have HO308 := n0_; have HB := n1_; clear n0_ n1_; clear hb ho14; obtain ⟨i015, hi015, _, hsz15, _⟩ := info_parts info5; obtain ⟨hcut15, hA15, hC15⟩ := print_take_of (P := Try.prog) (Value.int .u8) 0 27 5 .i64 Try.underlying27 hi015 hsz15 A0 c0 l0 (ji3) (of_decide_eq_true (by first | (with_reducible assumption) | assumption)) (of_decide_eq_true (by first | (with_reducible assumption) | assumption)) HC0.out; have HR309 := Aside0.mk (Kd.C_of_reads (h1 := fun _ => rfl) (hA15 _ (Kd.reads_of_C HR0.out))); have HC309 := Aside0.mk hC15; clear hA15 hC15 hi015 hsz15) | ((with_reducible refine gate_builtin (b := .append) (xs := #[.tmp 15, .tmp 20]) rfl ?_); (try (refine gate_guard (by rfl) ?_; dsimp only)); at_builtin; refine Kd.R_append_rows (Kd.int .u8) (w0 := w) w.heap.size rfl (.tmp 15) (.tmp 20) 27 5 (.int .u8 0) 1 rfl Try.underlying27 info5 rfl (by decide) (by omega) v307 y306 (l0.take ((ji3) : Int).toNat) _ _ _ (fun _ => True) (fun _ => False) rfl rfl ?aO ?aR (fun _ _ h => h) (fun _ h => h.elim) ?aF ?aB ?aS ?aL ?_; (case aR => first | (refine row_len_ (show (l0.take ((ji3) : Int).toNat).length = (ji3).toNat from (by rw [List.length_take]; have h_ : ((ji3) : Int) ≤ (l0.length : Int) := of_decide_eq_true (by first | (with_reducible assumption) | assumption); omega)) ?_; repeat (first | exact (Kd.C_below HR309.out HB.out) | (with_reducible refine Kd.C_alloc ?_ _) | (with_reducible refine Kd.C_drewN ?_ _) | (with_reducible refine Kd.C_drew ?_))) | (repeat (first | exact (Kd.C_below HR309.out HB.out) | (with_reducible refine Kd.C_alloc ?_ _) | (with_reducible refine Kd.C_drewN ?_ _) | (with_reducible refine Kd.C_drew ?_)))); (case aB => exact (by repeat (first | (with_reducible first | exact HB.out | apply below_alloc | apply pw_below_drewN | apply below_drew1) | exact HB.out))); (case aF => exact (fun _ _ => trivial)); (case aO => exact (by (with_reducible repeat (first | apply Kd.R_alloc | apply Kd.R_drewN | apply Kd.R_drew)); exact HO308.out)); (case aS => exact (below_size (by repeat (first | (with_reducible first | exact HB.out | apply below_alloc | apply pw_below_drewN | apply below_drew1) | exact HB.out)))); (case aL => have := LMc6.out; have hlx_ := (show (l0.take ((ji3) : Int).toNat).length = (ji3).toNat from (by rw [List.length_take]; have h_ : ((ji3) : Int) ≤ (l0.length : Int) := of_decide_eq_true (by first | (with_reducible assumption) | assumption); omega)); omega); intro v311 w16 ho hb hg hat; rw [← Ny310.out] at ho; have n0_ := Aside0.mk (hb); have n1_ := Aside0.mk (ho); clear HB; clear HO308; have HB := n0_; have HO312 := n1_; clear n0_ n1_; clear ho hb hg hat; obtain ⟨Ao17, co17, eo17⟩ := Kd.R_slice HO312.out; subst eo17) | ((with_reducible refine gate_callee (f := 9) rfl ?_); refine goesL_ (some 24) rfl rfl Try.func9 (by kernel_rfl) rfl #[.slice Ao17 y310.length co17] rfl (by (try simp only [List.map_toArray, List.map_cons, List.map_nil]); first | done | rfl | (simp only [List.length_drop, List.length_take]; rfl) | (simp only [List.length_drop, List.length_take]; rw [Nat.min_eq_left (by first | assumption | omega)]; rfl)) ?_; (with_reducible refine (utf_Decode.calls k _ _ y310 t313 t316 t317 t318 _ ?side1 ?side2 A7.out).mono ?_); (case side1 => repeat (first | exact (Kd.R_reads' HO312.out).2.2 | (with_reducible refine Kd.C_alloc ?_ _) | (with_reducible refine Kd.C_drewN ?_ _) | (with_reducible refine Kd.C_drew ?_))); (case side2 => exact (Kd.R_reads' HO312.out).2.1); rintro e w18 ⟨v314, rfl, ho0, hb⟩; refine ⟨_, rfl, ?_⟩; have n0_ := Aside0.mk (Kd.R_below (by (with_reducible repeat (first | apply Kd.R_alloc | apply Kd.R_drewN | apply Kd.R_drew)); exact HO312.out) hb); have n1_ := Aside0.mk (Kd.R_lower ho0 (below_size (by repeat (first | (with_reducible first | exact HB.out | apply below_alloc | apply pw_below_drewN | apply below_drew1) | exact HB.out)))); have n2_ := Aside0.mk (below_step (by repeat (first | (with_reducible first | exact HB.out | apply below_alloc | apply pw_below_drewN | apply below_drew1) | exact HB.out)) hb); clear HO312; clear HB; have HO312 := n0_; have HO315 := n1_; have HB := n2_; clear n0_ n1_ n2_; (try clear hb); (try clear hb2); (try clear hk); (try clear hi); (try clear ho0)) | ((with_reducible refine gate_dst (N := 7) rfl ?_); (try (refine gate_guard (by rfl) ?_; dsimp only)); refine box_event ?hg (N := 7) ?hd (cs := #[.int .i64 0, .int .i64 0, .int .i64 0]) (t := 24) ?hr ?_; (case hd => rfl); (case hg => rfl); (case hr => first | (go_simp; done) | (go_simp; rfl)); intro gb319 hg w19 hbox hb; have n0_ := Aside0.mk (Kd.R_below (by (with_reducible repeat (first | apply Kd.R_alloc | apply Kd.R_drewN | apply Kd.R_drew)); exact HO312.out) hb); have n1_ := Aside0.mk (Kd.R_below (by (with_reducible repeat (first | apply Kd.R_alloc | apply Kd.R_drewN | apply Kd.R_drew)); exact HO315.out) hb); have n2_ := Aside0.mk (below_step (by repeat (first | (with_reducible first | exact HB.out | apply below_alloc | apply pw_below_drewN | apply below_drew1) | exact HB.out)) hb); have n3_ := Aside0.mk (hbox); have n4_ := Aside0.mk ((by rw [hg]; exact (below_size (by repeat (first | (with_reducible first | exact HB.out | apply below_alloc | apply pw_below_drewN | apply below_drew1) | exact HB.out))) : w.heap.size ≤ gb319)); have n5_ := Aside0.mk ((by rw [hg]; exact (below_size (by repeat (first | (with_reducible first | exact HB.out | apply below_alloc | apply pw_below_drewN | apply below_drew1) | exact HB.out))) : w.heap.size ≤ gb319)); clear HO312; clear HO315; clear HB; have HO312 := n0_; have HO315 := n1_; have HB := n2_; have BK319 := n3_; have GW319 := n4_; have GE319 := n5_; clear n0_ n1_ n2_ n3_ n4_ n5_; clear hb hbox hg; have hcz20_0 : w19.cell? ⟨gb319, 0, none⟩ = some (.int .i64 0) := (blk_cell BK319.out 0).trans rfl; have hcz20_1 : w19.cell? ⟨gb319, 1, none⟩ = some (.int .i64 0) := (blk_cell BK319.out 1).trans rfl; have hcz20_2 : w19.cell? ⟨gb319, 2, none⟩ = some (.int .i64 0) := (blk_cell BK319.out 2).trans rfl; have hfz20_0 := blk_frozen BK319.out 0; have hfz20_1 := blk_frozen BK319.out 1; have hfz20_2 := blk_frozen BK319.out 2) | ((with_reducible refine gate_callee (f := 14) rfl ?_); refine goesL_ (some 29) rfl rfl Try.func14 (by kernel_rfl) rfl #[.slice Ao17 y310.length co17] rfl (by (try simp only [List.map_toArray, List.map_cons, List.map_nil]); first | done | rfl | (simp only [List.length_drop, List.length_take]; rfl) | (simp only [List.length_drop, List.length_take]; rw [Nat.min_eq_left (by first | assumption | omega)]; rfl)) ?_; (with_reducible refine (linguistref1_Decode.calls k _ _ y310 t320 t321 _ ?side1 ?side2 A8.out).mono ?_); (case side1 => refine (Kd.R_reads' (e := 5) (base := w.heap.size) (ok := fun k_ => True) (n := y310.length) (c := co17) ?_).2.2; exact (by (with_reducible repeat (first | apply Kd.R_alloc | apply Kd.R_drewN | apply Kd.R_drew)); exact (Kd.R_mono (Kd.R_far (p := ⟨gb319, 2, none⟩) (Kd.R_far (p := ⟨gb319, 1, none⟩) (Kd.R_far (p := ⟨gb319, 0, none⟩) (Kd.R_types HO312.out BK319.out (by decide)) (fun _ hk => hk.2) (.int .i64 t316)) (fun _ hk => hk.2) (.int .i64 t317)) (fun _ hk => hk.2) (.int .i64 t318)) (fun _ h_ => h_.1)))); (case side2 => exact (Kd.R_reads' HO312.out).2.1); rintro e w21 ⟨v322, rfl, ho0, hb⟩; refine ⟨_, rfl, ?_⟩; have n0_ := Aside0.mk (Kd.R_below (by (with_reducible repeat (first | apply Kd.R_alloc | apply Kd.R_drewN | apply Kd.R_drew)); exact (Kd.R_mono (Kd.R_far (p := ⟨gb319, 2, none⟩) (Kd.R_far (p := ⟨gb319, 1, none⟩) (Kd.R_far (p := ⟨gb319, 0, none⟩) (Kd.R_types HO312.out BK319.out (by decide)) (fun _ hk => hk.2) (.int .i64 t316)) (fun _ hk => hk.2) (.int .i64 t317)) (fun _ hk => hk.2) (.int .i64 t318)) (fun _ h_ => h_.1))) hb); have n1_ := Aside0.mk (Kd.R_elder' (by (with_reducible repeat (first | apply Kd.R_alloc | apply Kd.R_drewN | apply Kd.R_drew)); exact (Kd.R_mono (Kd.R_far (p := ⟨gb319, 2, none⟩) (Kd.R_far (p := ⟨gb319, 1, none⟩) (Kd.R_far (p := ⟨gb319, 0, none⟩) (Kd.R_types HO315.out BK319.out (by decide)) (fun _ hk => hk.2) (.int .i64 t316)) (fun _ hk => hk.2) (.int .i64 t317)) (fun _ hk => hk.2) (.int .i64 t318)) (fun _ h_ => h_.1))) (Kd.R_base ho0) hb); have n2_ := Aside0.mk (Kd.R_lower (Kd.R_new' ho0 (Kd.R_lt (by (with_reducible repeat (first | apply Kd.R_alloc | apply Kd.R_drewN | apply Kd.R_drew)); exact (Kd.R_mono (Kd.R_far (p := ⟨gb319, 2, none⟩) (Kd.R_far (p := ⟨gb319, 1, none⟩) (Kd.R_far (p := ⟨gb319, 0, none⟩) (Kd.R_types HO315.out BK319.out (by decide)) (fun _ hk => hk.2) (.int .i64 t316)) (fun _ hk => hk.2) (.int .i64 t317)) (fun _ hk => hk.2) (.int .i64 t318)) (fun _ h_ => h_.1))))) (below_size (by repeat (first | (with_reducible first | exact HB.out | apply below_alloc | apply pw_below_drewN | apply below_drew1 | refine below_set ?_ GE319.out) | exact HB.out)))); have n3_ := Aside0.mk (blk_below (g := gb319) (o := .cells #[.int .i64 t316, .int .i64 t317, .int .i64 t318] 24 (0, 0)) (by (with_reducible repeat (first | refine blk_drewN ?_ _ | refine blk_drew ?_ | refine blk_alloc ?_ _)); refine blk_put (cs := #[.int .i64 t316, .int .i64 t317, .int .i64 0]) ?_ 2 _ rfl; (with_reducible repeat (first | refine blk_drewN ?_ _ | refine blk_drew ?_ | refine blk_alloc ?_ _)); refine blk_put (cs := #[.int .i64 t316, .int .i64 0, .int .i64 0]) ?_ 1 _ rfl; (with_reducible repeat (first | refine blk_drewN ?_ _ | refine blk_drew ?_ | refine blk_alloc ?_ _)); refine blk_put (cs := #[.int .i64 0, .int .i64 0, .int .i64 0]) ?_ 0 _ rfl; (with_reducible repeat (first | refine blk_drewN ?_ _ | refine blk_drew ?_ | refine blk_alloc ?_ _)); exact BK319.out) hb); have n4_ := Aside0.mk (below_step (by repeat (first | (with_reducible first | exact HB.out | apply below_alloc | apply pw_below_drewN | apply below_drew1 | refine below_set ?_ GE319.out) | exact HB.out)) hb); clear HO312; clear HO315; clear BK319; clear HB; have HO312 := n0_; have HO315 := n1_; have HO323 := n2_; have BK319 := n3_; have HB := n4_; clear n0_ n1_ n2_ n3_ n4_; (try clear hb); (try clear hb2); (try clear hk); (try clear hi); (try clear ho0)) | ((with_reducible refine gate_dst (N := 32) rfl ?_); (try (refine gate_guard (by rfl) ?_; dsimp only)); refine Kd.R_lit (Kd.int .i32) _ 21 ?hg (N := 32) ?hd (xs := ([] : List Int)) (inner := []) (ok := fun _ => True) (okp := fun _ => True) ?hr ?hp (fun _ hk => hk) trivial (Below.refl _ _) (Nat.le_refl _) (by simp) ?_; (case hd => rfl); (case hg => rfl); (case hr => first | (go_simp; done) | (go_simp; rfl)); (case hp => exact (Reps.none _ _)); intro v325 w22 ho23 hb hg_ hnew_; clear hg_ hnew_; (first | rw [← Ny324.out] at ho23 | (simp only [Int.reduceToNat] at ho23; rw [← Ny324.out] at ho23)); have n0_ := Aside0.mk (Kd.R_below (by (with_reducible repeat (first | apply Kd.R_alloc | apply Kd.R_drewN | apply Kd.R_drew)); exact HO312.out) hb); have n1_ := Aside0.mk (Kd.R_elder' (by (with_reducible repeat (first | apply Kd.R_alloc | apply Kd.R_drewN | apply Kd.R_drew)); exact HO315.out) (Kd.R_base ho23) hb); have n2_ := Aside0.mk (Kd.R_elder' (by (with_reducible repeat (first | apply Kd.R_alloc | apply Kd.R_drewN | apply Kd.R_drew)); exact HO323.out) (Kd.R_base ho23) hb); have n3_ := Aside0.mk (Kd.R_lower (Kd.R_new' (Kd.R_new' ho23 (Kd.R_lt (by (with_reducible repeat (first | apply Kd.R_alloc | apply Kd.R_drewN | apply Kd.R_drew)); exact HO315.out))) (Kd.R_lt (by (with_reducible repeat (first | apply Kd.R_alloc | apply Kd.R_drewN | apply Kd.R_drew)); exact HO323.out))) (below_size (by repeat (first | (with_reducible first | exact HB.out | apply below_alloc | apply pw_below_drewN | apply below_drew1 | refine below_set ?_ GE319.out) | exact HB.out)))); have n4_ := Aside0.mk (blk_below (g := gb319) (o := .cells #[.int .i64 t316, .int .i64 t317, .int .i64 t318] 24 (0, 0)) (by (with_reducible repeat (first | refine blk_drewN ?_ _ | refine blk_drew ?_ | refine blk_alloc ?_ _)); exact BK319.out) hb); have n5_ := Aside0.mk (below_step (by repeat (first | (with_reducible first | exact HB.out | apply below_alloc | apply pw_below_drewN | apply below_drew1 | refine below_set ?_ GE319.out) | exact HB.out)) hb); clear HO312; clear HO315; clear HO323; clear BK319; clear HB; have HO312 := n0_; have HO315 := n1_; have HO323 := n2_; have HO326 := n3_; have BK319 := n4_; have HB := n5_; clear n0_ n1_ n2_ n3_ n4_ n5_; clear hb ho23; obtain ⟨i024, hi024, _, hsz24, _⟩ := info_parts info21; obtain ⟨hcut24, hA24, hC24⟩ := print_take_of (P := Try.prog) (Value.int .i32) 0 22 21 .i64 Try.underlying22 hi024 hsz24 A1 c1 l1 (ji9) (of_decide_eq_true (by first | (with_reducible assumption) | assumption)) (of_decide_eq_true (by first | (with_reducible assumption) | assumption)) HC1.out; have HR327 := Aside0.mk (Kd.C_of_reads (h1 := fun _ => rfl) (hA24 _ (Kd.reads_of_C HR1.out))); have HC327 := Aside0.mk hC24; clear hA24 hC24 hi024 hsz24) | ((with_reducible refine gate_builtin (b := .append) (xs := #[.tmp 32, .tmp 37]) rfl ?_); (try (refine gate_guard (by rfl) ?_; dsimp only)); at_builtin; refine Kd.R_append_rows (Kd.int .i32) (w0 := w) w.heap.size rfl (.tmp 32) (.tmp 37) 22 21 (.int .i32 0) 4 rfl Try.underlying22 info21 rfl (by decide) (by omega) v325 y324 (l1.take ((ji9) : Int).toNat) _ _ _ (fun k_ => some k_ ≠ (v314 : Value).ownBlock ∧ some k_ ≠ (v322 : Value).ownBlock) (fun _ => False) rfl rfl ?aO ?aR (fun _ _ h => h) (fun _ h => h.elim) ?aF ?aB ?aS ?aL ?_; (case aR => first | (refine row_len_ (show (l1.take ((ji9) : Int).toNat).length = (ji9).toNat from (by rw [List.length_take]; have h_ : ((ji9) : Int) ≤ (l1.length : Int) := of_decide_eq_true (by first | (with_reducible assumption) | assumption); omega)) ?_; repeat (first | exact (Kd.C_below HR327.out HB.out) | (with_reducible refine Kd.C_alloc ?_ _) | (with_reducible refine Kd.C_drewN ?_ _) | (with_reducible refine Kd.C_drew ?_))) | (repeat (first | exact (Kd.C_below HR327.out HB.out) | (with_reducible refine Kd.C_alloc ?_ _) | (with_reducible refine Kd.C_drewN ?_ _) | (with_reducible refine Kd.C_drew ?_)))); (case aB => exact (by repeat (first | (with_reducible first | exact HB.out | apply below_alloc | apply pw_below_drewN | apply below_drew1 | refine below_set ?_ GE319.out) | exact HB.out))); (case aF => exact (fun k_ hk => ⟨Kd.fresh' (Kd.R_lt (by (with_reducible repeat (first | apply Kd.R_alloc | apply Kd.R_drewN | apply Kd.R_drew)); exact HO315.out)) k_ hk, Kd.fresh' (Kd.R_lt (by (with_reducible repeat (first | apply Kd.R_alloc | apply Kd.R_drewN | apply Kd.R_drew)); exact HO323.out)) k_ hk⟩)); (case aO => exact (by (with_reducible repeat (first | apply Kd.R_alloc | apply Kd.R_drewN | apply Kd.R_drew)); exact Kd.R_mono HO326.out (fun _ hk => ⟨hk.1.2, hk.2⟩))); (case aS => exact (below_size (by repeat (first | (with_reducible first | exact HB.out | apply below_alloc | apply pw_below_drewN | apply below_drew1 | refine below_set ?_ GE319.out) | exact HB.out)))); (case aL => have := LMc12.out; have hlx_ := (show (l1.take ((ji9) : Int).toNat).length = (ji9).toNat from (by rw [List.length_take]; have h_ : ((ji9) : Int) ≤ (l1.length : Int) := of_decide_eq_true (by first | (with_reducible assumption) | assumption); omega)); omega); intro v329 w25 ho hb hg hat; rw [← Ny328.out] at ho; have n0_ := Aside0.mk (Kd.R_over' (by (with_reducible repeat (first | apply Kd.R_alloc | apply Kd.R_drewN | apply Kd.R_drew)); exact HO312.out) (Kd.R_typed (by (with_reducible repeat (first | apply Kd.R_alloc | apply Kd.R_drewN | apply Kd.R_drew)); exact HO326.out)) (by decide) hg); have n1_ := Aside0.mk (Kd.R_after (ok := (fun k_ => some k_ ≠ (v322 : Value).ownBlock)) (by (with_reducible repeat (first | apply Kd.R_alloc | apply Kd.R_drewN | apply Kd.R_drew)); exact Kd.R_mono HO315.out (fun _ hk => ⟨hk.1.2, hk.2⟩)) hg hat); have n2_ := Aside0.mk (blk_grown (g := gb319) (o := .cells #[.int .i64 t316, .int .i64 t317, .int .i64 t318] 24 (0, 0)) (by (with_reducible repeat (first | refine blk_drewN ?_ _ | refine blk_drew ?_ | refine blk_alloc ?_ _)); exact BK319.out) hg (Kd.R_ne HO326.out BK319.out (by decide))); have n3_ := Aside0.mk (Kd.R_after (ok := (fun k_ => some k_ ≠ (v314 : Value).ownBlock)) (by (with_reducible repeat (first | apply Kd.R_alloc | apply Kd.R_drewN | apply Kd.R_drew)); exact Kd.R_mono HO323.out (fun _ hk => ⟨hk.1.2, hk.2⟩)) hg hat); have n4_ := Aside0.mk (hb); have n5_ := Aside0.mk (ho); clear HO312; clear HO315; clear BK319; clear HO323; clear HB; clear HO326; have HO312 := n0_; have HO315 := n1_; have BK319 := n2_; have HO323 := n3_; have HB := n4_; have HO330 := n5_; clear n0_ n1_ n2_ n3_ n4_ n5_; clear ho hb hg hat; obtain ⟨Ao26, co26, eo26⟩ := Kd.R_slice HO330.out; subst eo26))
              go_loopg [11, 41] k (fun kq v11 v41 w' => ∃ (x11_1 : List Int) (x41_1 : Int), v41 = .int .i64 x41_1 ∧ Aside0 (linguistlaw1_UtfTells.l0 kq t313 t320 t321 y328 x11_1 y328 (y328.length : Int) x41_1 t316 t317 t318 = some r) ∧ Aside0 (kq ≤ k) ∧ Aside0 (Kd.R (Kd.int .i32) 21 w' w.heap.size (fun k_ => some k_ ≠ (v322 : Value).ownBlock ∧ some k_ ≠ ((.slice Ao26 y328.length co26) : Value).ownBlock ∧ some k_ ≠ ((.slice Ao26 y328.length co26) : Value).ownBlock) v314 t313) ∧ Aside0 (Kd.R (Kd.int .i32) 21 w' w.heap.size (fun k_ => some k_ ≠ (v314 : Value).ownBlock ∧ some k_ ≠ ((.slice Ao26 y328.length co26) : Value).ownBlock ∧ some k_ ≠ ((.slice Ao26 y328.length co26) : Value).ownBlock) v322 t320) ∧ Aside0 (Kd.R (Kd.int .i32) 21 w' w.heap.size (fun k_ => some k_ ≠ (v314 : Value).ownBlock ∧ some k_ ≠ (v322 : Value).ownBlock) (.slice Ao26 y328.length co26) y328) ∧ Aside0 (Kd.R (Kd.int .u8) 5 w' w.heap.size (fun _ => True) v11 x11_1) ∧ Aside0 (Kd.R (Kd.int .i32) 21 w' w.heap.size (fun k_ => some k_ ≠ (v314 : Value).ownBlock ∧ some k_ ≠ (v322 : Value).ownBlock) (.slice Ao26 y328.length co26) y328) ∧ Aside0 (w'.heap[gb319]? = some (.cells #[.int .i64 t316, .int .i64 t317, .int .i64 t318] 24 (0, 0))) ∧ Aside0 (Below w.heap.size w w'))
              case atStart => exact ⟨(([] : List Int)), (0), (by first | rfl | (simp; done) | (simp [*]; done)), H', ⟨Nat.le_refl _⟩, ⟨by (with_reducible repeat (first | apply Kd.R_alloc | apply Kd.R_drewN | apply Kd.R_drew)); exact Kd.R_mono HO315.out (fun _ hk => ⟨hk.1, ⟨hk.2, hk.2⟩⟩)⟩, ⟨by (with_reducible repeat (first | apply Kd.R_alloc | apply Kd.R_drewN | apply Kd.R_drew)); exact Kd.R_mono HO323.out (fun _ hk => ⟨hk.1, ⟨hk.2, hk.2⟩⟩)⟩, ⟨by (with_reducible repeat (first | apply Kd.R_alloc | apply Kd.R_drewN | apply Kd.R_drew)); exact HO330.out⟩, ⟨by first | exact Kd.R_nil _ _ _ _ _ | exact Kd.N_nil _ _ _ _ _ | exact Kd.V_nil _ _ _ _ _ | exact Kd.Q_nil _ _ _ _ _ | exact Kd.S_nil _ _ _ _ _⟩, ⟨by (with_reducible repeat (first | apply Kd.R_alloc | apply Kd.R_drewN | apply Kd.R_drew)); exact HO330.out⟩, ⟨by (with_reducible repeat (first | refine blk_drewN ?_ _ | refine blk_drew ?_ | refine blk_alloc ?_ _)); exact BK319.out⟩, ⟨by repeat (first | (with_reducible first | exact HB.out | apply below_alloc | apply pw_below_drewN | apply below_drew1 | refine below_set ?_ GE319.out) | exact HB.out)⟩⟩
              case round =>
                clear H'
                try clear c1
                try clear p2
                try clear c4
                try clear c4b0
                try clear c4b1
                try clear c5
                try clear c5b0
                try clear c5b1
                try clear c6
                try clear c9
                try clear c10
                try clear c10b0
                try clear c10b1
                try clear c11
                try clear c11b0
                try clear c11b1
                try clear c12
                try clear c14
                try clear hcz20_0
                try clear hcz20_1
                try clear hcz20_2
                try clear hfz20_0
                try clear hfz20_1
                try clear hfz20_2
                obtain ⟨x11_1, x41_1, rfl, HA, HK1, HO_6, HO_8, HO_10, HO_11, HO_39, BK319, HB⟩ := hrel
                cases gk with
                | zero => exact absurd HA.out (by simp [linguistlaw1_UtfTells.l0])
                | succ k1 =>
                  have H := HA.out
                  clear HA
                  simp only [linguistlaw1_UtfTells.l0] at H
                  by_cases c27 : x41_1 < (y328.length : Int)
                  · rw [if_pos c27] at H
                    have c27b0 : decide (x41_1 < (y328.length : Int)) = true := decide_eq_true c27
                    clear c27
                    by_cases c28 : 0 ≤ x41_1
                    · rw [if_pos c28] at H
                      have c28b0 : decide (0 ≤ x41_1) = true := decide_eq_true c28
                      clear c28
                      by_cases c29 : x41_1 < (y328.length : Int)
                      · rw [if_pos c29] at H
                        have c29b0 : decide (x41_1 < (y328.length : Int)) = true := decide_eq_true c29
                        clear c29
                        replace H := Option.bind_eq_some_iff.mp H
                        obtain ⟨t332, A300, H⟩ := H
                        replace H : (if x11_1.length + t332.length < 140737488355328 then (linguistlaw1_UtfTells.l0 k1 t313 t320 t321 y328 (x11_1 ++ t332) y328 (y328.length : Int) (wrap64 (x41_1 + 1)) t316 t317 t318) else (none)) = some r := H
                        have A30 := Aside0.mk A300
                        clear A300
                        by_cases c31 : x11_1.length + t332.length < 140737488355328
                        · rw [if_pos c31] at H
                          have LMc31 := Aside0.mk c31
                          clear c31
                          obtain ⟨y335, hy335⟩ : ∃ y_ : List Int, y_ = (x11_1 ++ t332) := ⟨_, rfl⟩
                          replace H : (linguistlaw1_UtfTells.l0 k1 t313 t320 t321 y328 y335 y328 (y328.length : Int) (wrap64 (x41_1 + 1)) t316 t317 t318) = some r := by first | (rw [hy335]; with_reducible exact H) | (have H2_ := (Option.bind_some _ _).symm.trans H; rw [hy335]; with_reducible exact H2_) | (have H2_ := (Option.bind_some _ _).symm.trans H; with_reducible exact H2_) | with_reducible exact H | (rw [hy335]; exact H) | exact H
                          have Ny335 := Aside0.mk hy335
                          clear hy335
                          have H' := Aside0.mk H
                          clear H
                          have p331 : 0 ≤ (x41_1 : Int) := of_decide_eq_true (by first | (with_reducible assumption) | assumption)
                          have q331 : x41_1 < (y328.length : Int) := of_decide_eq_true (by first | (with_reducible assumption) | assumption)
                          obtain ⟨ad331, e331, hx331_0⟩ := Kd.at_int (Kd.R_reads' HO_39.out).2.2 x41_1 p331 q331
                          cases e331
                          replace p331 := eq_true p331
                          replace q331 := eq_true q331
                          go_wp2_with (first | ((with_reducible refine gate_callee (f := 15) rfl ?_); refine goesL_ (some 47) rfl rfl Try.func15 (by kernel_rfl) rfl #[.int .i32 (rd y328 x41_1)] rfl (by (try simp only [List.map_toArray, List.map_cons, List.map_nil]); first | done | rfl | (simp only [List.length_drop, List.length_take]; rfl) | (simp only [List.length_drop, List.length_take]; rw [Nat.min_eq_left (by first | assumption | omega)]; rfl)) ?_; (with_reducible refine (linguistref1_Encode.calls k1 (rd y328 x41_1) t332 _ A30.out).mono ?_); rintro e w32 ⟨v333, rfl, ho0, hb⟩; refine ⟨_, rfl, ?_⟩; have n0_ := Aside0.mk (Kd.R_below (by (with_reducible repeat (first | apply Kd.R_alloc | apply Kd.R_drewN | apply Kd.R_drew)); exact HO_6.out) hb); have n1_ := Aside0.mk (Kd.R_below (by (with_reducible repeat (first | apply Kd.R_alloc | apply Kd.R_drewN | apply Kd.R_drew)); exact HO_8.out) hb); have n2_ := Aside0.mk (Kd.R_below (by (with_reducible repeat (first | apply Kd.R_alloc | apply Kd.R_drewN | apply Kd.R_drew)); exact HO_10.out) hb); have n3_ := Aside0.mk (Kd.R_elder' (by (with_reducible repeat (first | apply Kd.R_alloc | apply Kd.R_drewN | apply Kd.R_drew)); exact HO_11.out) (Kd.R_base ho0) hb); have n4_ := Aside0.mk (Kd.R_below (by (with_reducible repeat (first | apply Kd.R_alloc | apply Kd.R_drewN | apply Kd.R_drew)); exact HO_39.out) hb); have n5_ := Aside0.mk (Kd.R_lower (Kd.R_new' ho0 (Kd.R_lt (by (with_reducible repeat (first | apply Kd.R_alloc | apply Kd.R_drewN | apply Kd.R_drew)); exact HO_11.out))) (below_size (by repeat (first | (with_reducible first | exact HB.out | apply below_alloc | apply pw_below_drewN | apply below_drew1 | refine below_set ?_ GE319.out) | exact HB.out)))); have n6_ := Aside0.mk (blk_below (g := gb319) (o := .cells #[.int .i64 t316, .int .i64 t317, .int .i64 t318] 24 (0, 0)) (by (with_reducible repeat (first | refine blk_drewN ?_ _ | refine blk_drew ?_ | refine blk_alloc ?_ _)); exact BK319.out) hb); have n7_ := Aside0.mk (below_step (by repeat (first | (with_reducible first | exact HB.out | apply below_alloc | apply pw_below_drewN | apply below_drew1 | refine below_set ?_ GE319.out) | exact HB.out)) hb); clear HO_6; clear HO_8; clear HO_10; clear HO_11; clear HO_39; clear BK319; clear HB; have HO_6 := n0_; have HO_8 := n1_; have HO_10 := n2_; have HO_11 := n3_; have HO_39 := n4_; have HO334 := n5_; have BK319 := n6_; have HB := n7_; clear n0_ n1_ n2_ n3_ n4_ n5_ n6_ n7_; (try clear hb); (try clear hb2); (try clear hk); (try clear hi); (try clear ho0); obtain ⟨Ao34, co34, eo34⟩ := Kd.R_slice HO334.out; subst eo34) | ((with_reducible refine gate_builtin (b := .append) (xs := #[.tmp 45, .tmp 47]) rfl ?_); (try (refine gate_guard (by rfl) ?_; dsimp only)); at_builtin; refine Kd.R_append_rows (Kd.int .u8) (w0 := w) w.heap.size rfl (.tmp 45) (.tmp 47) 27 5 (.int .u8 0) 1 rfl Try.underlying27 info5 rfl (by decide) (by omega) u11 x11_1 t332 _ _ _ (fun k_ => some k_ ≠ (.slice Ao34 t332.length co34 : Value).ownBlock) (fun _ => False) rfl rfl ?aO ?aR (fun _ _ h => h) (fun _ h => h.elim) ?aF ?aB ?aS ?aL ?_; (case aR => repeat (first | exact (Kd.R_reads' HO334.out).2.2 | (with_reducible refine Kd.C_alloc ?_ _) | (with_reducible refine Kd.C_drewN ?_ _) | (with_reducible refine Kd.C_drew ?_))); (case aB => exact (by repeat (first | (with_reducible first | exact HB.out | apply below_alloc | apply pw_below_drewN | apply below_drew1 | refine below_set ?_ GE319.out) | exact HB.out))); (case aF => exact (fun k_ hk => Kd.fresh' (Kd.R_lt (by (with_reducible repeat (first | apply Kd.R_alloc | apply Kd.R_drewN | apply Kd.R_drew)); exact HO334.out)) k_ hk)); (case aO => exact (by (with_reducible repeat (first | apply Kd.R_alloc | apply Kd.R_drewN | apply Kd.R_drew)); exact Kd.R_mono HO_11.out (fun _ hk => hk.2))); (case aS => exact (below_size (by repeat (first | (with_reducible first | exact HB.out | apply below_alloc | apply pw_below_drewN | apply below_drew1 | refine below_set ?_ GE319.out) | exact HB.out)))); (case aL => have := LMc31.out; omega); intro v336 w33 ho hb hg hat; rw [← Ny335.out] at ho; have n0_ := Aside0.mk (Kd.R_over' (by (with_reducible repeat (first | apply Kd.R_alloc | apply Kd.R_drewN | apply Kd.R_drew)); exact HO_6.out) (Kd.R_typed (by (with_reducible repeat (first | apply Kd.R_alloc | apply Kd.R_drewN | apply Kd.R_drew)); exact HO_11.out)) (by decide) hg); have n1_ := Aside0.mk (Kd.R_over' (by (with_reducible repeat (first | apply Kd.R_alloc | apply Kd.R_drewN | apply Kd.R_drew)); exact HO_8.out) (Kd.R_typed (by (with_reducible repeat (first | apply Kd.R_alloc | apply Kd.R_drewN | apply Kd.R_drew)); exact HO_11.out)) (by decide) hg); have n2_ := Aside0.mk (Kd.R_over' (by (with_reducible repeat (first | apply Kd.R_alloc | apply Kd.R_drewN | apply Kd.R_drew)); exact HO_10.out) (Kd.R_typed (by (with_reducible repeat (first | apply Kd.R_alloc | apply Kd.R_drewN | apply Kd.R_drew)); exact HO_11.out)) (by decide) hg); have n3_ := Aside0.mk (Kd.R_over' (by (with_reducible repeat (first | apply Kd.R_alloc | apply Kd.R_drewN | apply Kd.R_drew)); exact HO_39.out) (Kd.R_typed (by (with_reducible repeat (first | apply Kd.R_alloc | apply Kd.R_drewN | apply Kd.R_drew)); exact HO_11.out)) (by decide) hg); have n4_ := Aside0.mk (blk_grown (g := gb319) (o := .cells #[.int .i64 t316, .int .i64 t317, .int .i64 t318] 24 (0, 0)) (by (with_reducible repeat (first | refine blk_drewN ?_ _ | refine blk_drew ?_ | refine blk_alloc ?_ _)); exact BK319.out) hg (Kd.R_ne HO_11.out BK319.out (by decide))); have n5_ := Aside0.mk (Kd.R_after (ok := (fun _ => True)) (by (with_reducible repeat (first | apply Kd.R_alloc | apply Kd.R_drewN | apply Kd.R_drew)); exact HO334.out) hg hat); have n6_ := Aside0.mk (hb); have n7_ := Aside0.mk (ho); clear HO_6; clear HO_8; clear HO_10; clear HO_39; clear BK319; clear HO334; clear HB; clear HO_11; have HO_6 := n0_; have HO_8 := n1_; have HO_10 := n2_; have HO_39 := n3_; have BK319 := n4_; have HO334 := n5_; have HB := n6_; have HO337 := n7_; clear n0_ n1_ n2_ n3_ n4_ n5_ n6_ n7_; clear ho hb hg hat))
                          go_roundg k1
                          case measure => have := HK1.out; omega
                          case rel => exact ⟨(y335), (wrap64 (x41_1 + 1)), (by first | rfl | (simp; done) | (simp [*]; done)), H', ⟨by have := HK1.out; omega⟩, ⟨by (with_reducible repeat (first | apply Kd.R_alloc | apply Kd.R_drewN | apply Kd.R_drew)); exact HO_6.out⟩, ⟨by (with_reducible repeat (first | apply Kd.R_alloc | apply Kd.R_drewN | apply Kd.R_drew)); exact HO_8.out⟩, ⟨by (with_reducible repeat (first | apply Kd.R_alloc | apply Kd.R_drewN | apply Kd.R_drew)); exact HO_10.out⟩, ⟨by (with_reducible repeat (first | apply Kd.R_alloc | apply Kd.R_drewN | apply Kd.R_drew)); exact Kd.R_mono HO337.out (fun _ hk => trivial)⟩, ⟨by (with_reducible repeat (first | apply Kd.R_alloc | apply Kd.R_drewN | apply Kd.R_drew)); exact HO_39.out⟩, ⟨by (with_reducible repeat (first | refine blk_drewN ?_ _ | refine blk_drew ?_ | refine blk_alloc ?_ _)); exact BK319.out⟩, ⟨by repeat (first | (with_reducible first | exact HB.out | apply below_alloc | apply pw_below_drewN | apply below_drew1 | refine below_set ?_ GE319.out) | exact HB.out)⟩⟩
                        · rw [if_neg c31] at H
                          exact absurd H (by simp)
                      · rw [if_neg c29] at H
                        exact absurd H (by simp)
                    · rw [if_neg c28] at H
                      exact absurd H (by simp)
                  · rw [if_neg c27] at H
                    have c27b0 : decide (x41_1 < (y328.length : Int)) = false := decide_eq_false c27
                    clear c27
                    replace H := Option.bind_eq_some_iff.mp H
                    obtain ⟨t338, A350, H⟩ := H
                    replace H : ((linguistbook_Same_rune.f k1 t313 t320).bind fun t341 => (if t341 = true then ((utf_Decoder_Held.f t316 t317 t318).bind fun t342 => (if (t342 == (decide (t321 > 0))) = true then (if 0 ≤ (y328.length : Int) then (if (y328.length : Int) ≤ (t338.length : Int) then ((utf_Encode.f k1 (t338.take ((y328.length : Int) : Int).toNat)).bind fun t347 => ((linguistbook_Same_byte.f k1 t347 x11_1).bind fun t350 => (if t350 = true then ((linguistbook_Intact_rune.f k1 t338 y328 7).bind fun t351 => (if t351 = true then ((linguistlaw1_UtfRuns.f k1).bind fun t352 => (some t352)) else (none))) else (none)))) else (none)) else (none)) else (none))) else (none))) = some r := H
                    have A35 := Aside0.mk A350
                    clear A350
                    replace H := Option.bind_eq_some_iff.mp H
                    obtain ⟨t341, A360, H⟩ := H
                    replace H : (if t341 = true then ((utf_Decoder_Held.f t316 t317 t318).bind fun t342 => (if (t342 == (decide (t321 > 0))) = true then (if 0 ≤ (y328.length : Int) then (if (y328.length : Int) ≤ (t338.length : Int) then ((utf_Encode.f k1 (t338.take ((y328.length : Int) : Int).toNat)).bind fun t347 => ((linguistbook_Same_byte.f k1 t347 x11_1).bind fun t350 => (if t350 = true then ((linguistbook_Intact_rune.f k1 t338 y328 7).bind fun t351 => (if t351 = true then ((linguistlaw1_UtfRuns.f k1).bind fun t352 => (some t352)) else (none))) else (none)))) else (none)) else (none)) else (none))) else (none)) = some r := H
                    have A36 := Aside0.mk A360
                    clear A360
                    by_cases c37 : t341 = true
                    · subst c37
                      have H1 : ((utf_Decoder_Held.f t316 t317 t318).bind fun t342 => (if (t342 == (decide (t321 > 0))) = true then (if 0 ≤ (y328.length : Int) then (if (y328.length : Int) ≤ (t338.length : Int) then ((utf_Encode.f k1 (t338.take ((y328.length : Int) : Int).toNat)).bind fun t347 => ((linguistbook_Same_byte.f k1 t347 x11_1).bind fun t350 => (if t350 = true then ((linguistbook_Intact_rune.f k1 t338 y328 7).bind fun t351 => (if t351 = true then ((linguistlaw1_UtfRuns.f k1).bind fun t352 => (some t352)) else (none))) else (none)))) else (none)) else (none)) else (none))) = some r := by rw [if_pos rfl] at H; exact H
                      clear H
                      have H := H1
                      clear H1
                      replace H := Option.bind_eq_some_iff.mp H
                      obtain ⟨t342, A380, H⟩ := H
                      replace H : (if (t342 == (decide (t321 > 0))) = true then (if 0 ≤ (y328.length : Int) then (if (y328.length : Int) ≤ (t338.length : Int) then ((utf_Encode.f k1 (t338.take ((y328.length : Int) : Int).toNat)).bind fun t347 => ((linguistbook_Same_byte.f k1 t347 x11_1).bind fun t350 => (if t350 = true then ((linguistbook_Intact_rune.f k1 t338 y328 7).bind fun t351 => (if t351 = true then ((linguistlaw1_UtfRuns.f k1).bind fun t352 => (some t352)) else (none))) else (none)))) else (none)) else (none)) else (none)) = some r := H
                      have A38 := Aside0.mk A380
                      clear A380
                      by_cases c39 : (t342 == (decide (t321 > 0))) = true
                      · rw [if_pos c39] at H
                        have c39b0 : (t342 == (decide (t321 > 0))) = true := c39
                        (try (have c39b1 : decide (t342 = (decide (t321 > 0))) = true := by simpa using c39))
                        (try (have c39b2 : (t342 == (decide (t321 > 0))) = true := by simpa using c39))
                        clear c39
                        by_cases c40 : 0 ≤ (y328.length : Int)
                        · rw [if_pos c40] at H
                          have c40b0 := eq_true c40
                          have c40b1 : decide (0 ≤ (y328.length : Int)) = true := decide_eq_true c40
                          clear c40
                          by_cases c41 : (y328.length : Int) ≤ (t338.length : Int)
                          · rw [if_pos c41] at H
                            have c41b0 := eq_true c41
                            have c41b1 : decide ((y328.length : Int) ≤ (t338.length : Int)) = true := decide_eq_true c41
                            clear c41
                            obtain ⟨y343, hy343⟩ : ∃ y_ : List Int, y_ = (t338.take ((y328.length : Int) : Int).toNat) := ⟨_, rfl⟩
                            replace H : ((utf_Encode.f k1 y343).bind fun t347 => ((linguistbook_Same_byte.f k1 t347 x11_1).bind fun t350 => (if t350 = true then ((linguistbook_Intact_rune.f k1 t338 y328 7).bind fun t351 => (if t351 = true then ((linguistlaw1_UtfRuns.f k1).bind fun t352 => (some t352)) else (none))) else (none)))) = some r := by first | (rw [hy343]; with_reducible exact H) | (have H2_ := (Option.bind_some _ _).symm.trans H; rw [hy343]; with_reducible exact H2_) | (have H2_ := (Option.bind_some _ _).symm.trans H; with_reducible exact H2_) | with_reducible exact H | (rw [hy343]; exact H) | exact H
                            have Ny343 := Aside0.mk hy343
                            clear hy343
                            replace H := Option.bind_eq_some_iff.mp H
                            obtain ⟨t347, A420, H⟩ := H
                            replace H : ((linguistbook_Same_byte.f k1 t347 x11_1).bind fun t350 => (if t350 = true then ((linguistbook_Intact_rune.f k1 t338 y328 7).bind fun t351 => (if t351 = true then ((linguistlaw1_UtfRuns.f k1).bind fun t352 => (some t352)) else (none))) else (none))) = some r := H
                            have A42 := Aside0.mk A420
                            clear A420
                            replace H := Option.bind_eq_some_iff.mp H
                            obtain ⟨t350, A430, H⟩ := H
                            replace H : (if t350 = true then ((linguistbook_Intact_rune.f k1 t338 y328 7).bind fun t351 => (if t351 = true then ((linguistlaw1_UtfRuns.f k1).bind fun t352 => (some t352)) else (none))) else (none)) = some r := H
                            have A43 := Aside0.mk A430
                            clear A430
                            by_cases c44 : t350 = true
                            · subst c44
                              have H1 : ((linguistbook_Intact_rune.f k1 t338 y328 7).bind fun t351 => (if t351 = true then ((linguistlaw1_UtfRuns.f k1).bind fun t352 => (some t352)) else (none))) = some r := by rw [if_pos rfl] at H; exact H
                              clear H
                              have H := H1
                              clear H1
                              replace H := Option.bind_eq_some_iff.mp H
                              obtain ⟨t351, A450, H⟩ := H
                              replace H : (if t351 = true then ((linguistlaw1_UtfRuns.f k1).bind fun t352 => (some t352)) else (none)) = some r := H
                              have A45 := Aside0.mk A450
                              clear A450
                              by_cases c46 : t351 = true
                              · subst c46
                                have H1 : ((linguistlaw1_UtfRuns.f k1).bind fun t352 => (some t352)) = some r := by rw [if_pos rfl] at H; exact H
                                clear H
                                have H := H1
                                clear H1
                                replace H := Option.bind_eq_some_iff.mp H
                                obtain ⟨t352, A470, H⟩ := H
                                replace H : (some t352) = some r := H
                                have A47 := Aside0.mk A470
                                clear A470
                                obtain rfl := Option.some.inj H
                                go_wp2_with (first | ((with_reducible refine gate_callee (f := 16) rfl ?_); refine goesL_ (some 51) rfl rfl Try.func16 (by kernel_rfl) rfl #[.slice Ao26 y328.length co26, .int .i32 7] rfl (by (try simp only [List.map_toArray, List.map_cons, List.map_nil]); first | done | rfl | (simp only [List.length_drop, List.length_take]; rfl) | (simp only [List.length_drop, List.length_take]; rw [Nat.min_eq_left (by first | assumption | omega)]; rfl)) ?_; (with_reducible refine (linguistbook_Roomy_rune.calls k1 _ _ y328 7 t338 _ ?side1 ?side2 A35.out).mono ?_); (case side1 => repeat (first | exact (Kd.R_reads' HO_10.out).2.2 | (with_reducible refine Kd.C_alloc ?_ _) | (with_reducible refine Kd.C_drewN ?_ _) | (with_reducible refine Kd.C_drew ?_))); (case side2 => exact (Kd.R_reads' HO_10.out).2.1); rintro e w48 ⟨v339, rfl, ho0, hb⟩; refine ⟨_, rfl, ?_⟩; have n0_ := Aside0.mk (Kd.R_elder' (by (with_reducible repeat (first | apply Kd.R_alloc | apply Kd.R_drewN | apply Kd.R_drew)); exact HO_6.out) (Kd.R_base ho0) hb); have n1_ := Aside0.mk (Kd.R_elder' (by (with_reducible repeat (first | apply Kd.R_alloc | apply Kd.R_drewN | apply Kd.R_drew)); exact HO_8.out) (Kd.R_base ho0) hb); have n2_ := Aside0.mk (Kd.R_elder' (by (with_reducible repeat (first | apply Kd.R_alloc | apply Kd.R_drewN | apply Kd.R_drew)); exact HO_10.out) (Kd.R_base ho0) hb); have n3_ := Aside0.mk (Kd.R_below (by (with_reducible repeat (first | apply Kd.R_alloc | apply Kd.R_drewN | apply Kd.R_drew)); exact HO_11.out) hb); have n4_ := Aside0.mk (Kd.R_elder' (by (with_reducible repeat (first | apply Kd.R_alloc | apply Kd.R_drewN | apply Kd.R_drew)); exact HO_39.out) (Kd.R_base ho0) hb); have n5_ := Aside0.mk (Kd.R_lower (Kd.R_new' (Kd.R_new' (Kd.R_new' (Kd.R_new' ho0 (Kd.R_lt (by (with_reducible repeat (first | apply Kd.R_alloc | apply Kd.R_drewN | apply Kd.R_drew)); exact HO_6.out))) (Kd.R_lt (by (with_reducible repeat (first | apply Kd.R_alloc | apply Kd.R_drewN | apply Kd.R_drew)); exact HO_8.out))) (Kd.R_lt (by (with_reducible repeat (first | apply Kd.R_alloc | apply Kd.R_drewN | apply Kd.R_drew)); exact HO_10.out))) (Kd.R_lt (by (with_reducible repeat (first | apply Kd.R_alloc | apply Kd.R_drewN | apply Kd.R_drew)); exact HO_39.out))) (below_size (by repeat (first | (with_reducible first | exact HB.out | apply below_alloc | apply pw_below_drewN | apply below_drew1 | refine below_set ?_ GE319.out) | exact HB.out)))); have n6_ := Aside0.mk (blk_below (g := gb319) (o := .cells #[.int .i64 t316, .int .i64 t317, .int .i64 t318] 24 (0, 0)) (by (with_reducible repeat (first | refine blk_drewN ?_ _ | refine blk_drew ?_ | refine blk_alloc ?_ _)); exact BK319.out) hb); have n7_ := Aside0.mk (below_step (by repeat (first | (with_reducible first | exact HB.out | apply below_alloc | apply pw_below_drewN | apply below_drew1 | refine below_set ?_ GE319.out) | exact HB.out)) hb); clear HO_6; clear HO_8; clear HO_10; clear HO_11; clear HO_39; clear BK319; clear HB; have HO_6 := n0_; have HO_8 := n1_; have HO_10 := n2_; have HO_11 := n3_; have HO_39 := n4_; have HO340 := n5_; have BK319 := n6_; have HB := n7_; clear n0_ n1_ n2_ n3_ n4_ n5_ n6_ n7_; (try clear hb); (try clear hb2); (try clear hk); (try clear hi); (try clear ho0); obtain ⟨Ao49, co49, eo49⟩ := Kd.R_slice HO_6.out; subst eo49; obtain ⟨Ao50, co50, eo50⟩ := Kd.R_slice HO_8.out; subst eo50) | ((with_reducible refine gate_callee (f := 10) rfl ?_); refine goesL_ (some 54) rfl rfl Try.func10 (by kernel_rfl) rfl #[.slice Ao49 t313.length co49, .slice Ao50 t320.length co50] rfl (by (try simp only [List.map_toArray, List.map_cons, List.map_nil]); first | done | rfl | (simp only [List.length_drop, List.length_take]; rfl) | (simp only [List.length_drop, List.length_take]; rw [Nat.min_eq_left (by first | assumption | omega)]; rfl)) ?_; (with_reducible refine (linguistbook_Same_rune.calls k1 _ _ t313 _ _ t320 true _ ?side1 ?side2 ?side3 ?side4 A36.out).mono ?_); (case side1 => repeat (first | exact (Kd.R_reads' HO_6.out).2.2 | (with_reducible refine Kd.C_alloc ?_ _) | (with_reducible refine Kd.C_drewN ?_ _) | (with_reducible refine Kd.C_drew ?_))); (case side2 => exact (Kd.R_reads' HO_6.out).2.1); (case side3 => repeat (first | exact (Kd.R_reads' HO_8.out).2.2 | (with_reducible refine Kd.C_alloc ?_ _) | (with_reducible refine Kd.C_drewN ?_ _) | (with_reducible refine Kd.C_drew ?_))); (case side4 => exact (Kd.R_reads' HO_8.out).2.1); rintro e w' ⟨rfl, ⟨nd, rfl⟩⟩; refine ⟨_, rfl, ?_⟩; have hcz51_0 : w48.cell? ⟨gb319, 0, none⟩ = some (.int .i64 t316) := (blk_cell BK319.out 0).trans rfl; have hcz51_1 : w48.cell? ⟨gb319, 1, none⟩ = some (.int .i64 t317) := (blk_cell BK319.out 1).trans rfl; have hcz51_2 : w48.cell? ⟨gb319, 2, none⟩ = some (.int .i64 t318) := (blk_cell BK319.out 2).trans rfl; have hfz51_0 := blk_frozen BK319.out 0; have hfz51_1 := blk_frozen BK319.out 1; have hfz51_2 := blk_frozen BK319.out 2) | (go_at_call 11; (with_reducible refine (utf_Decoder_Held.calls t316 t317 t318 t342 _ A38.out).mono ?_); rintro e w52 ⟨rfl, hb⟩; have n0_ := Aside0.mk (Kd.R_below (by (with_reducible repeat (first | apply Kd.R_alloc | apply Kd.R_drewN | apply Kd.R_drew)); exact HO_6.out) hb); have n1_ := Aside0.mk (Kd.R_below (by (with_reducible repeat (first | apply Kd.R_alloc | apply Kd.R_drewN | apply Kd.R_drew)); exact HO_8.out) hb); have n2_ := Aside0.mk (Kd.R_below (by (with_reducible repeat (first | apply Kd.R_alloc | apply Kd.R_drewN | apply Kd.R_drew)); exact HO_10.out) hb); have n3_ := Aside0.mk (Kd.R_below (by (with_reducible repeat (first | apply Kd.R_alloc | apply Kd.R_drewN | apply Kd.R_drew)); exact HO_11.out) hb); have n4_ := Aside0.mk (Kd.R_below (by (with_reducible repeat (first | apply Kd.R_alloc | apply Kd.R_drewN | apply Kd.R_drew)); exact HO_39.out) hb); have n5_ := Aside0.mk (Kd.R_below (by (with_reducible repeat (first | apply Kd.R_alloc | apply Kd.R_drewN | apply Kd.R_drew)); exact HO340.out) hb); have n6_ := Aside0.mk (blk_below (g := gb319) (o := .cells #[.int .i64 t316, .int .i64 t317, .int .i64 t318] 24 (0, 0)) (by (with_reducible repeat (first | refine blk_drewN ?_ _ | refine blk_drew ?_ | refine blk_alloc ?_ _)); exact BK319.out) hb); have n7_ := Aside0.mk (below_step (by repeat (first | (with_reducible first | exact HB.out | apply below_alloc | apply pw_below_drewN | apply below_drew1 | refine below_set ?_ GE319.out) | exact HB.out)) hb); clear HO_6; clear HO_8; clear HO_10; clear HO_11; clear HO_39; clear HO340; clear BK319; clear HB; have HO_6 := n0_; have HO_8 := n1_; have HO_10 := n2_; have HO_11 := n3_; have HO_39 := n4_; have HO340 := n5_; have BK319 := n6_; have HB := n7_; clear n0_ n1_ n2_ n3_ n4_ n5_ n6_ n7_; (try clear hb); (try clear hb2); (try clear hk); (try clear hi); obtain ⟨Ao54, co54, eo54⟩ := Kd.R_slice HO340.out; subst eo54; have q53 : ((y328.length : Int) : Int) ≤ ((t338.length : Int) : Int) := of_decide_eq_true (by first | (with_reducible assumption) | assumption); obtain ⟨i053, hi053, _, hsz53, _⟩ := info_parts info21; have hroom53 : t338.length ≤ co54 := (Kd.R_reads' HO340.out).2.1; have hC53 : Kd.C (Kd.int .i32) _ Ao54 t338.length t338 := (Kd.R_reads' HO340.out).2.2; have hcut53 := cut_to (P := Try.prog) 22 21 .i64 Try.underlying22 hi053 Ao54 t338.length co54 (y328.length : Int) (of_decide_eq_true (by first | (with_reducible assumption) | assumption)) q53 hroom53; have hr53 := Kd.C_take (m := ((y328.length : Int) : Int).toNat) hC53 (by omega); have hy53 : y343.length = ((y328.length : Int) : Int).toNat := (by rw [Ny343.out, List.length_take]; omega); rw [← Ny343.out] at hr53; rw [← hy53] at hcut53; have HR346 := Aside0.mk hr53; have HC346 := Aside0.mk (show y343.length ≤ co54 from by omega); clear hr53 hC53 hroom53 hi053 hsz53; have KY53 := Aside0.mk hy53; clear hy53; have KL53 := Aside0.mk (show ((y328.length : Int) : Int).toNat ≤ t338.length from by omega); replace q53 := eq_true q53) | (go_at_call 13; (with_reducible refine (utf_Encode.calls k1 _ _ y343 t347 _ ?side1 ?side2 A42.out).mono ?_); (case side1 => repeat (first | exact (by repeat (first | (with_reducible exact HR346.out) | (with_reducible refine Kd.C_alloc ?_ _) | (with_reducible refine Kd.C_drewN ?_ _) | (with_reducible refine Kd.C_drew ?_) | exact HR346.out)) | (with_reducible refine Kd.C_alloc ?_ _) | (with_reducible refine Kd.C_drewN ?_ _) | (with_reducible refine Kd.C_drew ?_))); (case side2 => exact HC346.out); rintro e w55 ⟨v348, rfl, ho0, hb⟩; have n0_ := Aside0.mk (Kd.R_below (by (with_reducible repeat (first | apply Kd.R_alloc | apply Kd.R_drewN | apply Kd.R_drew)); exact HO_6.out) hb); have n1_ := Aside0.mk (Kd.R_below (by (with_reducible repeat (first | apply Kd.R_alloc | apply Kd.R_drewN | apply Kd.R_drew)); exact HO_8.out) hb); have n2_ := Aside0.mk (Kd.R_below (by (with_reducible repeat (first | apply Kd.R_alloc | apply Kd.R_drewN | apply Kd.R_drew)); exact HO_10.out) hb); have n3_ := Aside0.mk (Kd.R_elder' (by (with_reducible repeat (first | apply Kd.R_alloc | apply Kd.R_drewN | apply Kd.R_drew)); exact HO_11.out) (Kd.R_base ho0) hb); have n4_ := Aside0.mk (Kd.R_below (by (with_reducible repeat (first | apply Kd.R_alloc | apply Kd.R_drewN | apply Kd.R_drew)); exact HO_39.out) hb); have n5_ := Aside0.mk (Kd.R_below (by (with_reducible repeat (first | apply Kd.R_alloc | apply Kd.R_drewN | apply Kd.R_drew)); exact HO340.out) hb); have n6_ := Aside0.mk (Kd.R_lower (Kd.R_new' ho0 (Kd.R_lt (by (with_reducible repeat (first | apply Kd.R_alloc | apply Kd.R_drewN | apply Kd.R_drew)); exact HO_11.out))) (below_size (by repeat (first | (with_reducible first | exact HB.out | apply below_alloc | apply pw_below_drewN | apply below_drew1 | refine below_set ?_ GE319.out) | exact HB.out)))); have n7_ := Aside0.mk (blk_below (g := gb319) (o := .cells #[.int .i64 t316, .int .i64 t317, .int .i64 t318] 24 (0, 0)) (by (with_reducible repeat (first | refine blk_drewN ?_ _ | refine blk_drew ?_ | refine blk_alloc ?_ _)); exact BK319.out) hb); have n8_ := Aside0.mk (Kd.C_below (by repeat (first | (with_reducible exact HR346.out) | (with_reducible refine Kd.C_alloc ?_ _) | (with_reducible refine Kd.C_drewN ?_ _) | (with_reducible refine Kd.C_drew ?_) | exact HR346.out)) hb); have n9_ := Aside0.mk (below_step (by repeat (first | (with_reducible first | exact HB.out | apply below_alloc | apply pw_below_drewN | apply below_drew1 | refine below_set ?_ GE319.out) | exact HB.out)) hb); clear HO_6; clear HO_8; clear HO_10; clear HO_11; clear HO_39; clear HO340; clear BK319; clear HR346; clear HB; have HO_6 := n0_; have HO_8 := n1_; have HO_10 := n2_; have HO_11 := n3_; have HO_39 := n4_; have HO340 := n5_; have HO349 := n6_; have BK319 := n7_; have HR346 := n8_; have HB := n9_; clear n0_ n1_ n2_ n3_ n4_ n5_ n6_ n7_ n8_ n9_; (try clear hb); (try clear hb2); (try clear hk); (try clear hi); (try clear ho0); obtain ⟨Ao56, co56, eo56⟩ := Kd.R_slice HO349.out; subst eo56; obtain ⟨Ao57, co57, eo57⟩ := Kd.R_slice HO_11.out; subst eo57) | (go_at_call 12; (with_reducible refine (linguistbook_Same_byte.calls k1 _ _ t347 _ _ x11_1 true _ ?side1 ?side2 ?side3 ?side4 A43.out).mono ?_); (case side1 => repeat (first | exact (Kd.R_reads' HO349.out).2.2 | (with_reducible refine Kd.C_alloc ?_ _) | (with_reducible refine Kd.C_drewN ?_ _) | (with_reducible refine Kd.C_drew ?_))); (case side2 => exact (Kd.R_reads' HO349.out).2.1); (case side3 => repeat (first | exact (Kd.R_reads' HO_11.out).2.2 | (with_reducible refine Kd.C_alloc ?_ _) | (with_reducible refine Kd.C_drewN ?_ _) | (with_reducible refine Kd.C_drew ?_))); (case side4 => exact (Kd.R_reads' HO_11.out).2.1); rintro e w' ⟨rfl, ⟨nd, rfl⟩⟩) | (go_at_call 17; (with_reducible refine (linguistbook_Intact_rune.calls k1 _ _ t338 _ _ y328 7 true _ ?side1 ?side2 ?side3 ?side4 A45.out).mono ?_); (case side1 => repeat (first | exact (Kd.R_reads' HO340.out).2.2 | (with_reducible refine Kd.C_alloc ?_ _) | (with_reducible refine Kd.C_drewN ?_ _) | (with_reducible refine Kd.C_drew ?_))); (case side2 => exact (Kd.R_reads' HO340.out).2.1); (case side3 => repeat (first | exact (Kd.R_reads' HO_10.out).2.2 | (with_reducible refine Kd.C_alloc ?_ _) | (with_reducible refine Kd.C_drewN ?_ _) | (with_reducible refine Kd.C_drew ?_))); (case side4 => exact (Kd.R_reads' HO_10.out).2.1); rintro e w' ⟨rfl, ⟨nd, rfl⟩⟩) | (go_at_call 3; (with_reducible refine (linguistlaw1_UtfRuns.calls k1  t352 _ A47.out).mono ?_); rintro e w58 ⟨rfl, hb⟩; have n0_ := Aside0.mk (Kd.R_below (by (with_reducible repeat (first | apply Kd.R_alloc | apply Kd.R_drewN | apply Kd.R_drew)); exact HO_6.out) hb); have n1_ := Aside0.mk (Kd.R_below (by (with_reducible repeat (first | apply Kd.R_alloc | apply Kd.R_drewN | apply Kd.R_drew)); exact HO_8.out) hb); have n2_ := Aside0.mk (Kd.R_below (by (with_reducible repeat (first | apply Kd.R_alloc | apply Kd.R_drewN | apply Kd.R_drew)); exact HO_10.out) hb); have n3_ := Aside0.mk (Kd.R_below (by (with_reducible repeat (first | apply Kd.R_alloc | apply Kd.R_drewN | apply Kd.R_drew)); exact HO_11.out) hb); have n4_ := Aside0.mk (Kd.R_below (by (with_reducible repeat (first | apply Kd.R_alloc | apply Kd.R_drewN | apply Kd.R_drew)); exact HO_39.out) hb); have n5_ := Aside0.mk (Kd.R_below (by (with_reducible repeat (first | apply Kd.R_alloc | apply Kd.R_drewN | apply Kd.R_drew)); exact HO340.out) hb); have n6_ := Aside0.mk (Kd.R_below (by (with_reducible repeat (first | apply Kd.R_alloc | apply Kd.R_drewN | apply Kd.R_drew)); exact HO349.out) hb); have n7_ := Aside0.mk (blk_below (g := gb319) (o := .cells #[.int .i64 t316, .int .i64 t317, .int .i64 t318] 24 (0, 0)) (by (with_reducible repeat (first | refine blk_drewN ?_ _ | refine blk_drew ?_ | refine blk_alloc ?_ _)); exact BK319.out) hb); have n8_ := Aside0.mk (Kd.C_below (by repeat (first | (with_reducible exact HR346.out) | (with_reducible refine Kd.C_alloc ?_ _) | (with_reducible refine Kd.C_drewN ?_ _) | (with_reducible refine Kd.C_drew ?_) | exact HR346.out)) hb); have n9_ := Aside0.mk (below_step (by repeat (first | (with_reducible first | exact HB.out | apply below_alloc | apply pw_below_drewN | apply below_drew1 | refine below_set ?_ GE319.out) | exact HB.out)) hb); clear HO_6; clear HO_8; clear HO_10; clear HO_11; clear HO_39; clear HO340; clear HO349; clear BK319; clear HR346; clear HB; have HO_6 := n0_; have HO_8 := n1_; have HO_10 := n2_; have HO_11 := n3_; have HO_39 := n4_; have HO340 := n5_; have HO349 := n6_; have BK319 := n7_; have HR346 := n8_; have HB := n9_; clear n0_ n1_ n2_ n3_ n4_ n5_ n6_ n7_ n8_ n9_; (try clear hb); (try clear hb2); (try clear hk); (try clear hi)))
                                go_ret
                                exact ⟨by first | rfl | (simp [errW_none, errW_some] <;> rfl) | (simp only [← hji3, ← hji9]; first | rfl | (simp [errW_none, errW_some] <;> rfl)) | (simp [*, errW_none, errW_some] <;> rfl), by repeat (first | (with_reducible first | exact HB.out | apply below_alloc | apply pw_below_drewN | apply below_drew1 | refine below_set ?_ GE319.out) | exact HB.out)⟩
                              · replace c46 := Bool.eq_false_iff.mpr c46
                                subst c46
                                have H1 : (none) = some r := by rw [if_neg (show ¬ (false = true) by decide)] at H; exact H
                                clear H
                                have H := H1
                                clear H1
                                exact absurd H (by simp)
                            · replace c44 := Bool.eq_false_iff.mpr c44
                              subst c44
                              have H1 : (none) = some r := by rw [if_neg (show ¬ (false = true) by decide)] at H; exact H
                              clear H
                              have H := H1
                              clear H1
                              exact absurd H (by simp)
                          · rw [if_neg c41] at H
                            exact absurd H (by simp)
                        · rw [if_neg c40] at H
                          exact absurd H (by simp)
                      · rw [if_neg c39] at H
                        exact absurd H (by simp)
                    · replace c37 := Bool.eq_false_iff.mpr c37
                      subst c37
                      have H1 : (none) = some r := by rw [if_neg (show ¬ (false = true) by decide)] at H; exact H
                      clear H
                      have H := H1
                      clear H1
                      exact absurd H (by simp)
            · rw [if_neg c12] at H
              exact absurd H (by simp)
          · rw [if_neg c11] at H
            exact absurd H (by simp)
        · rw [if_neg c10] at H
          exact absurd H (by simp)
      · rw [if_neg c6] at H
        exact absurd H (by simp)
    · rw [if_neg c5] at H
      exact absurd H (by simp)
  · rw [if_neg c4] at H
    exact absurd H (by simp)

/-- THE ONE PURE STATEMENT of linguistlaw1_UtfTells. -/
def linguistlaw1_UtfTells.Pure : Prop := ∀ (l0 : List Int) (l1 : List Int), l0.length ≤ 9223372036854775807 → l0.length * 1 ≤ 140737488351232 → (∀ x ∈ l0, (Lit.int .u8 x).wf = true) → l1.length ≤ 9223372036854775807 → l1.length * 4 ≤ 140737488351232 → (∀ x ∈ l1, (Lit.int .i32 x).wf = true) → ∃ k, linguistlaw1_UtfTells.f k l0 l1 = some true
theorem linguistlaw1_UtfTells.walk (P : linguistlaw1_UtfTells.Pure) (A0 : Option Addr) (c0 : Nat) (l0 : List Int) (A1 : Option Addr) (c1 : Nat) (l1 : List Int) (w : World) (v0_0 : l0.length ≤ 9223372036854775807) (v0_1 : l0.length * 1 ≤ 140737488351232) (v0_2 : (∀ x ∈ l0, (Lit.int .u8 x).wf = true)) (v1_0 : l1.length ≤ 9223372036854775807) (v1_1 : l1.length * 4 ≤ 140737488351232) (v1_2 : (∀ x ∈ l1, (Lit.int .i32 x).wf = true)) (hr0 : Kd.C (Kd.int .u8) w A0 l0.length l0) (hc0 : l0.length ≤ c0) (hr1 : Kd.C (Kd.int .i32) w A1 l1.length l1) (hc1 : l1.length ≤ c1) :
    Calls Try.prog 4 #[.slice A0 l0.length c0, .slice A1 l1.length c1] w fun e w' => e = .returned (.bool true) ∧ Below w.heap.size w w' := by
  obtain ⟨k, h⟩ := P l0 l1 v0_0 v0_1 v0_2 v1_0 v1_1 v1_2
  refine (linguistlaw1_UtfTells.calls k A0 c0 l0 A1 c1 l1 true w hr0 hc0 hr1 hc1 h).mono ?_
  rintro e w' ⟨rfl, hd⟩
  exact ⟨rfl, hd⟩

end Go.Proofs.Ytnammlamdhpnpaa.GUtfTells
