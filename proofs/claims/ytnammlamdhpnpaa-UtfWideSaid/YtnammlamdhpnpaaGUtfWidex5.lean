-- Written by a program of this session (out of the kit's printer); Lean checks it.
import Derived.Test.YtnammlamdhpnpaaGUtfWidex0
import Derived.Test.YtnammlamdhpnpaaGUtfWidex1
import Derived.Test.YtnammlamdhpnpaaGUtfWidex2
import Derived.Test.YtnammlamdhpnpaaGUtfWidex3
import Derived.Test.YtnammlamdhpnpaaGUtfWidex4
namespace Go.Proofs.Ytnammlamdhpnpaa.GUtfWide
open Go.RowKit Go.Proofs.YtnammlamdhpnpaaW.PrintWords Go.Proofs.YtnammlamdhpnpaaW.PrintLast Go.Proofs.YtnammlamdhpnpaaW.PrintMore
attribute [local go_sem] max2_int min2_int max_two min_two max_three min_three max_four min_four   -- for this text's walks alone
set_option linter.unusedVariables false
set_option linter.unusedSimpArgs false

/-! ### linguistlaw1_UtfWide: function 7 -/
mutual
def linguistlaw1_UtfWide.j0 : Nat → Int → Int → Option (Bool)
  | 0, _, _ => none
  | k + 1, x1, x6 => (utf_Encode.f k (([x6] : List Int))).bind fun t254 => (if x6 ≥ 65536 then (linguistlaw1_UtfWide.j1 k x1 x6 t254 4) else (if x6 ≥ 2048 then (linguistlaw1_UtfWide.j1 k x1 x6 t254 3) else (linguistlaw1_UtfWide.j1 k x1 x6 t254 2)))
def linguistlaw1_UtfWide.j1 : Nat → Int → Int → List Int → Int → Option (Bool)
  | 0, _, _, _, _ => none
  | k + 1, x1, x6, x7, x8 => if (x7.length : Int) = x8 then (linguistlaw1_UtfWide.l0 k x1 x6 x7 x7 (x7.length : Int) 0 0 0 0) else (none)
def linguistlaw1_UtfWide.l0 : Nat → Int → Int → List Int → List Int → Int → Int → Int → Int → Int → Option (Bool)
  | 0, _, _, _, _, _, _, _, _, _ => none
  | k + 1, x1, x6, x7, x40, x41, x42, x258000, x258001, x258002 => if x42 < x41 then (if 0 ≤ x42 then (if x42 < (x40.length : Int) then ((utf_Decoder_Push.f k x258000 x258001 x258002 (rd x40 x42)).bind fun bt260 => (if x42 < (wrap64 ((x7.length : Int) - 1)) then ((utf_Decoder_Held.f bt260.1 bt260.2.1 bt260.2.2.1).bind fun t267 => (if t267 = true then (if (bt260.2.2.2.length : Int) = 0 then (if x42 = (wrap64 ((x7.length : Int) - 1)) then (none) else (linguistlaw1_UtfWide.j3 k x1 x6 x7 x42 x40 x41 x42 false bt260.1 bt260.2.1 bt260.2.2.1)) else (none)) else (none))) else (if x42 = (wrap64 ((x7.length : Int) - 1)) then ((utf_Decoder_Held.f bt260.1 bt260.2.1 bt260.2.2.1).bind fun t269 => (if t269 = true then (none) else ((linguistbook_Same_rune.f k bt260.2.2.2 (([x6] : List Int))).bind fun t273 => (linguistlaw1_UtfWide.j3 k x1 x6 x7 x42 x40 x41 x42 (!t273) bt260.1 bt260.2.1 bt260.2.2.1)))) else (linguistlaw1_UtfWide.j3 k x1 x6 x7 x42 x40 x41 x42 false bt260.1 bt260.2.1 bt260.2.2.1)))) else (none)) else (none)) else ((linguistlaw1_UtfRuns.f k).bind fun t258 => (some t258))
def linguistlaw1_UtfWide.j3 : Nat → Int → Int → List Int → Int → List Int → Int → Int → Bool → Int → Int → Int → Option (Bool)
  | 0, _, _, _, _, _, _, _, _, _, _, _ => none
  | k + 1, x1, x6, x7, x10, x40, x41, x42, x85, x267000, x267001, x267002 => if x85 = true then (none) else (if x10 < (wrap64 ((x7.length : Int) - 1)) then ((utf_Decoder_Push.f k x267000 x267001 x267002 (Go.bits .and .u8 x1 127)).bind fun bt274 => ((linguistbook_Same_rune.f k bt274.2.2.2 (([65533, wrap32 (Go.bits .and .u8 x1 127)] : List Int))).bind fun t284 => (if t284 = true then (linguistlaw1_UtfWide.l0 k x1 x6 x7 x40 x41 (wrap64 (x42 + 1)) x267000 x267001 x267002) else (none)))) else (linguistlaw1_UtfWide.l0 k x1 x6 x7 x40 x41 (wrap64 (x42 + 1)) x267000 x267001 x267002))
end
def linguistlaw1_UtfWide.f (k : Nat) (a0 : Int) (a1 : Int) : Option (Bool) := (linguistbook_Within.f a0 128 55295).bind fun t249 => (if (Go.bits .and .i64 a0 1) = 1 then ((linguistbook_Within.f a0 57344 1114111).bind fun t250 => (linguistlaw1_UtfWide.j0 k a1 (wrap32 (t250)))) else (linguistlaw1_UtfWide.j0 k a1 (wrap32 (t249))))
theorem linguistlaw1_UtfWide.mono_l : ∀ k, (∀ y0 y1, LeO (linguistlaw1_UtfWide.j0 k y0 y1) (linguistlaw1_UtfWide.j0 (k + 1) y0 y1)) ∧ (∀ y0 y1 y2 y3, LeO (linguistlaw1_UtfWide.j1 k y0 y1 y2 y3) (linguistlaw1_UtfWide.j1 (k + 1) y0 y1 y2 y3)) ∧ (∀ y0 y1 y2 y3 y4 y5 y6 y7 y8, LeO (linguistlaw1_UtfWide.l0 k y0 y1 y2 y3 y4 y5 y6 y7 y8) (linguistlaw1_UtfWide.l0 (k + 1) y0 y1 y2 y3 y4 y5 y6 y7 y8)) ∧ (∀ y0 y1 y2 y3 y4 y5 y6 y7 y8 y9 y10, LeO (linguistlaw1_UtfWide.j3 k y0 y1 y2 y3 y4 y5 y6 y7 y8 y9 y10) (linguistlaw1_UtfWide.j3 (k + 1) y0 y1 y2 y3 y4 y5 y6 y7 y8 y9 y10))
  | 0 => ⟨fun _ _ r h => by simp [linguistlaw1_UtfWide.j0] at h, fun _ _ _ _ r h => by simp [linguistlaw1_UtfWide.j1] at h, fun _ _ _ _ _ _ _ _ _ r h => by simp [linguistlaw1_UtfWide.l0] at h, fun _ _ _ _ _ _ _ _ _ _ _ r h => by simp [linguistlaw1_UtfWide.j3] at h⟩
  | k + 1 => by
    obtain ⟨ih0, ih1, ih2, ih3⟩ := linguistlaw1_UtfWide.mono_l k
    refine ⟨?_, ?_, ?_, ?_⟩
    · intro y0 y1
      unfold linguistlaw1_UtfWide.j0
      repeat' first
      | (with_reducible exact ih0 _ _)
      | (with_reducible exact ih1 _ _ _ _)
      | (with_reducible exact ih2 _ _ _ _ _ _ _ _ _)
      | (with_reducible exact ih3 _ _ _ _ _ _ _ _ _ _ _)
      | (with_reducible exact linguistbook_Same_rune.mono _ _ _)
      | (with_reducible exact linguistlaw1_UtfRuns.mono _)
      | (with_reducible exact utf_Decoder_Push.mono _ _ _ _ _)
      | (with_reducible exact utf_Encode.mono _ _)
      | (with_reducible exact LeO.refl _)
      | (with_reducible exact LeO.none _)
      | (with_reducible refine LeO.ite ?_ ?_)
      | (with_reducible refine LeO.bind ?_ (fun _ => ?_))
      | exact ih0 _ _
      | exact ih1 _ _ _ _
      | exact ih2 _ _ _ _ _ _ _ _ _
      | exact ih3 _ _ _ _ _ _ _ _ _ _ _
      | exact linguistbook_Same_rune.mono _ _ _
      | exact linguistlaw1_UtfRuns.mono _
      | exact utf_Decoder_Push.mono _ _ _ _ _
      | exact utf_Encode.mono _ _
      | exact LeO.none _
      | refine LeO.ite ?_ ?_
      | refine LeO.bind ?_ (fun _ => ?_)
    · intro y0 y1 y2 y3
      unfold linguistlaw1_UtfWide.j1
      repeat' first
      | (with_reducible exact ih0 _ _)
      | (with_reducible exact ih1 _ _ _ _)
      | (with_reducible exact ih2 _ _ _ _ _ _ _ _ _)
      | (with_reducible exact ih3 _ _ _ _ _ _ _ _ _ _ _)
      | (with_reducible exact linguistbook_Same_rune.mono _ _ _)
      | (with_reducible exact linguistlaw1_UtfRuns.mono _)
      | (with_reducible exact utf_Decoder_Push.mono _ _ _ _ _)
      | (with_reducible exact utf_Encode.mono _ _)
      | (with_reducible exact LeO.refl _)
      | (with_reducible exact LeO.none _)
      | (with_reducible refine LeO.ite ?_ ?_)
      | (with_reducible refine LeO.bind ?_ (fun _ => ?_))
      | exact ih0 _ _
      | exact ih1 _ _ _ _
      | exact ih2 _ _ _ _ _ _ _ _ _
      | exact ih3 _ _ _ _ _ _ _ _ _ _ _
      | exact linguistbook_Same_rune.mono _ _ _
      | exact linguistlaw1_UtfRuns.mono _
      | exact utf_Decoder_Push.mono _ _ _ _ _
      | exact utf_Encode.mono _ _
      | exact LeO.none _
      | refine LeO.ite ?_ ?_
      | refine LeO.bind ?_ (fun _ => ?_)
    · intro y0 y1 y2 y3 y4 y5 y6 y7 y8
      unfold linguistlaw1_UtfWide.l0
      repeat' first
      | (with_reducible exact ih0 _ _)
      | (with_reducible exact ih1 _ _ _ _)
      | (with_reducible exact ih2 _ _ _ _ _ _ _ _ _)
      | (with_reducible exact ih3 _ _ _ _ _ _ _ _ _ _ _)
      | (with_reducible exact linguistbook_Same_rune.mono _ _ _)
      | (with_reducible exact linguistlaw1_UtfRuns.mono _)
      | (with_reducible exact utf_Decoder_Push.mono _ _ _ _ _)
      | (with_reducible exact utf_Encode.mono _ _)
      | (with_reducible exact LeO.refl _)
      | (with_reducible exact LeO.none _)
      | (with_reducible refine LeO.ite ?_ ?_)
      | (with_reducible refine LeO.bind ?_ (fun _ => ?_))
      | exact ih0 _ _
      | exact ih1 _ _ _ _
      | exact ih2 _ _ _ _ _ _ _ _ _
      | exact ih3 _ _ _ _ _ _ _ _ _ _ _
      | exact linguistbook_Same_rune.mono _ _ _
      | exact linguistlaw1_UtfRuns.mono _
      | exact utf_Decoder_Push.mono _ _ _ _ _
      | exact utf_Encode.mono _ _
      | exact LeO.none _
      | refine LeO.ite ?_ ?_
      | refine LeO.bind ?_ (fun _ => ?_)
    · intro y0 y1 y2 y3 y4 y5 y6 y7 y8 y9 y10
      unfold linguistlaw1_UtfWide.j3
      repeat' first
      | (with_reducible exact ih0 _ _)
      | (with_reducible exact ih1 _ _ _ _)
      | (with_reducible exact ih2 _ _ _ _ _ _ _ _ _)
      | (with_reducible exact ih3 _ _ _ _ _ _ _ _ _ _ _)
      | (with_reducible exact linguistbook_Same_rune.mono _ _ _)
      | (with_reducible exact linguistlaw1_UtfRuns.mono _)
      | (with_reducible exact utf_Decoder_Push.mono _ _ _ _ _)
      | (with_reducible exact utf_Encode.mono _ _)
      | (with_reducible exact LeO.refl _)
      | (with_reducible exact LeO.none _)
      | (with_reducible refine LeO.ite ?_ ?_)
      | (with_reducible refine LeO.bind ?_ (fun _ => ?_))
      | exact ih0 _ _
      | exact ih1 _ _ _ _
      | exact ih2 _ _ _ _ _ _ _ _ _
      | exact ih3 _ _ _ _ _ _ _ _ _ _ _
      | exact linguistbook_Same_rune.mono _ _ _
      | exact linguistlaw1_UtfRuns.mono _
      | exact utf_Decoder_Push.mono _ _ _ _ _
      | exact utf_Encode.mono _ _
      | exact LeO.none _
      | refine LeO.ite ?_ ?_
      | refine LeO.bind ?_ (fun _ => ?_)
theorem linguistlaw1_UtfWide.mono : ∀ a0 a1 k, LeO (linguistlaw1_UtfWide.f k a0 a1) (linguistlaw1_UtfWide.f (k + 1) a0 a1) := by
  intro a0 a1 k
  obtain ⟨ih0, ih1, ih2, ih3⟩ := linguistlaw1_UtfWide.mono_l k
  unfold linguistlaw1_UtfWide.f
  repeat' first
      | (with_reducible exact ih0 _ _)
      | (with_reducible exact ih1 _ _ _ _)
      | (with_reducible exact ih2 _ _ _ _ _ _ _ _ _)
      | (with_reducible exact ih3 _ _ _ _ _ _ _ _ _ _ _)
      | (with_reducible exact linguistbook_Same_rune.mono _ _ _)
      | (with_reducible exact linguistlaw1_UtfRuns.mono _)
      | (with_reducible exact utf_Decoder_Push.mono _ _ _ _ _)
      | (with_reducible exact utf_Encode.mono _ _)
      | (with_reducible exact LeO.refl _)
      | (with_reducible exact LeO.none _)
      | (with_reducible refine LeO.ite ?_ ?_)
      | (with_reducible refine LeO.bind ?_ (fun _ => ?_))
      | exact ih0 _ _
      | exact ih1 _ _ _ _
      | exact ih2 _ _ _ _ _ _ _ _ _
      | exact ih3 _ _ _ _ _ _ _ _ _ _ _
      | exact linguistbook_Same_rune.mono _ _ _
      | exact linguistlaw1_UtfRuns.mono _
      | exact utf_Decoder_Push.mono _ _ _ _ _
      | exact utf_Encode.mono _ _
      | exact LeO.none _
      | refine LeO.ite ?_ ?_
      | refine LeO.bind ?_ (fun _ => ?_)
set_option maxHeartbeats 8000000 in
set_option maxRecDepth 100000 in
theorem linguistlaw1_UtfWide.calls (k : Nat) (a0 : Int) (a1 : Int) (r : Bool) (w : World) (h : linguistlaw1_UtfWide.f k a0 a1 = some r) :
    Calls Try.prog 7 #[.int .i64 a0, .int .u8 a1] w fun e w' => e = .returned (.bool r) ∧ Below w.heap.size w w' := by
  have hu24 := Try.underlying24
  have HB := Aside0.mk (Below.refl w.heap.size w)
  have H : ((linguistbook_Within.f a0 128 55295).bind fun t249 => (if (Go.bits .and .i64 a0 1) = 1 then ((linguistbook_Within.f a0 57344 1114111).bind fun t250 => (linguistlaw1_UtfWide.j0 k a1 (wrap32 (t250)))) else (linguistlaw1_UtfWide.j0 k a1 (wrap32 (t249))))) = some r := h
  clear h
  replace H := Option.bind_eq_some_iff.mp H
  obtain ⟨t249, A30, H⟩ := H
  replace H : (if (Go.bits .and .i64 a0 1) = 1 then ((linguistbook_Within.f a0 57344 1114111).bind fun t250 => (linguistlaw1_UtfWide.j0 k a1 (wrap32 (t250)))) else (linguistlaw1_UtfWide.j0 k a1 (wrap32 (t249)))) = some r := H
  have A3 := Aside0.mk A30
  clear A30
  have HC4 := Aside0.mk H
  clear H
  go_enter Try.func7, Try.ntmps7
  go_upto_if 22 with (first | ((with_reducible refine gate_callee (f := 18) rfl ?_); refine goesL_ (some 17) rfl rfl Try.func18 (by kernel_rfl) rfl #[.int .i64 a0, .int .i64 128, .int .i64 55295] rfl (by (try simp only [List.map_toArray, List.map_cons, List.map_nil]); first | done | rfl | (simp only [List.length_drop, List.length_take]; rfl) | (simp only [List.length_drop, List.length_take]; rw [Nat.min_eq_left (by first | assumption | omega)]; rfl)) ?_; (with_reducible refine (linguistbook_Within.calls a0 128 55295 t249 _ A3.out).mono ?_); rintro e w' ⟨rfl, ⟨nd, rfl⟩⟩; refine ⟨_, rfl, ?_⟩))
  (try simp only [Act.put, List.setIfInBounds_toArray, List.set_cons_zero, List.set_cons_succ])
  go_cut [6] (fun v6 wc => ∃ (kq : Nat) (x6_3 : Int), v6 = .int .i32 x6_3 ∧ Aside0 (linguistlaw1_UtfWide.j0 kq a1 x6_3 = some r) ∧ Aside0 (kq ≤ k) ∧ Aside0 (Below w.heap.size w wc))
  case first =>
    have H := HC4.out
    clear HC4
    by_cases c5 : (Go.bits .and .i64 a0 1) = 1
    · rw [if_pos c5] at H
      have c5b0 : ((Go.bits .and .i64 a0 1) == 1) = true := beq_iff_eq.mpr c5
      have c5b1 : ((Go.bits .and .i64 a0 1) != 1) = false := bne_eq_false_iff_eq.mpr c5
      clear c5
      (first | rw [c5b0] | (simp only [i64_w, i32_w]; rw [c5b0]) | skip)
      replace H := Option.bind_eq_some_iff.mp H
      obtain ⟨t250, A60, H⟩ := H
      replace H : (linguistlaw1_UtfWide.j0 k a1 (wrap32 (t250))) = some r := H
      have A6 := Aside0.mk A60
      clear A60
      have H' := Aside0.mk H
      clear H
      go_wp2_with (first | ((with_reducible refine gate_callee (f := 18) rfl ?_); refine goesL_ (some 24) rfl rfl Try.func18 (by kernel_rfl) rfl #[.int .i64 a0, .int .i64 57344, .int .i64 1114111] rfl (by (try simp only [List.map_toArray, List.map_cons, List.map_nil]); first | done | rfl | (simp only [List.length_drop, List.length_take]; rfl) | (simp only [List.length_drop, List.length_take]; rw [Nat.min_eq_left (by first | assumption | omega)]; rfl)) ?_; (with_reducible refine (linguistbook_Within.calls a0 57344 1114111 t250 _ A6.out).mono ?_); rintro e w' ⟨rfl, ⟨nd, rfl⟩⟩; refine ⟨_, rfl, ?_⟩))
      go_meet
      case rel => exact ⟨_, (wrap32 (t250)), (by first | rfl | (simp; done) | (simp [*]; done)), H', ⟨by first | omega | exact Nat.le_refl _⟩, ⟨by repeat (first | (with_reducible first | exact HB.out | apply below_alloc | apply pw_below_drewN | apply below_drew1) | exact HB.out)⟩⟩
    · rw [if_neg c5] at H
      have c5b0 : ((Go.bits .and .i64 a0 1) == 1) = false := beq_eq_false_iff_ne.mpr c5
      have c5b1 : ((Go.bits .and .i64 a0 1) != 1) = true := bne_iff_ne.mpr c5
      (first | rw [c5b0] | (simp only [i64_w, i32_w]; rw [c5b0]) | skip)
      have H' := Aside0.mk H
      clear H
      go_wp2
      go_meet
      case rel => exact ⟨_, (wrap32 (t249)), (by first | rfl | (simp; done) | (simp [*]; done)), H', ⟨by first | omega | exact Nat.le_refl _⟩, ⟨by repeat (first | (with_reducible first | exact HB.out | apply below_alloc | apply pw_below_drewN | apply below_drew1) | exact HB.out)⟩⟩
  case rest =>
    clear HC4
    try clear c1
    try clear p2
    try clear p3
    try clear c5
    try clear c5b0
    try clear c5b1
    obtain ⟨kq, x6_3, rfl, HA, HJ3, HB⟩ := hcut
    cases kq with
    | zero => exact absurd HA.out (by simp [linguistlaw1_UtfWide.j0])
    | succ kj3 =>
      have H := HA.out
      clear HA
      simp only [linguistlaw1_UtfWide.j0] at H
      obtain ⟨y251, hy251⟩ : ∃ y_ : List Int, y_ = (([x6_3] : List Int)) := ⟨_, rfl⟩
      replace H : ((utf_Encode.f kj3 y251).bind fun t254 => (if x6_3 ≥ 65536 then (linguistlaw1_UtfWide.j1 kj3 a1 x6_3 t254 4) else (if x6_3 ≥ 2048 then (linguistlaw1_UtfWide.j1 kj3 a1 x6_3 t254 3) else (linguistlaw1_UtfWide.j1 kj3 a1 x6_3 t254 2)))) = some r := by first | (rw [hy251]; with_reducible exact H) | (have H2_ := (Option.bind_some _ _).symm.trans H; rw [hy251]; with_reducible exact H2_) | (have H2_ := (Option.bind_some _ _).symm.trans H; with_reducible exact H2_) | with_reducible exact H | (rw [hy251]; exact H) | exact H
      have Ny251 := Aside0.mk hy251
      clear hy251
      replace H := Option.bind_eq_some_iff.mp H
      obtain ⟨t254, A70, H⟩ := H
      replace H : (if x6_3 ≥ 65536 then (linguistlaw1_UtfWide.j1 kj3 a1 x6_3 t254 4) else (if x6_3 ≥ 2048 then (linguistlaw1_UtfWide.j1 kj3 a1 x6_3 t254 3) else (linguistlaw1_UtfWide.j1 kj3 a1 x6_3 t254 2))) = some r := H
      have A7 := Aside0.mk A70
      clear A70
      have HC8 := Aside0.mk H
      clear H
      go_upto_block 0 with (first | ((with_reducible refine gate_dst (N := 27) rfl ?_); (try (refine gate_guard (by rfl) ?_; dsimp only)); refine Kd.R_lit (Kd.int .i32) _ 21 ?hg (N := 27) ?hd (xs := ([x6_3] : List Int)) (inner := [.int .i32 x6_3]) (ok := fun _ => True) (okp := fun _ => True) ?hr ?hp (fun _ hk => hk) trivial (Below.refl _ _) (Nat.le_refl _) (by simp) ?_; (case hd => rfl); (case hg => rfl); (case hr => first | (go_simp; done) | (go_simp; rfl)); (case hp => exact (Reps.one (show Kd.M (Kd.int .i32) _ _ _ x6_3 [.int .i32 x6_3] from rfl) (Reps.none _ _))); intro v252 w9 ho10 hb hg_ hnew_; clear hg_ hnew_; (first | rw [← Ny251.out] at ho10 | (simp only [Int.reduceToNat] at ho10; rw [← Ny251.out] at ho10)); have n0_ := Aside0.mk (Kd.R_lower ho10 (below_size (by repeat (first | (with_reducible first | exact HB.out | apply below_alloc | apply pw_below_drewN | apply below_drew1) | exact HB.out)))); have n1_ := Aside0.mk (below_step (by repeat (first | (with_reducible first | exact HB.out | apply below_alloc | apply pw_below_drewN | apply below_drew1) | exact HB.out)) hb); clear HB; have HO253 := n0_; have HB := n1_; clear n0_ n1_; clear hb ho10; obtain ⟨Ao11, co11, eo11⟩ := Kd.R_slice HO253.out; subst eo11) | ((with_reducible refine gate_callee (f := 13) rfl ?_); refine goesL_ (some 28) rfl rfl Try.func13 (by kernel_rfl) rfl #[.slice Ao11 y251.length co11] rfl (by (try simp only [List.map_toArray, List.map_cons, List.map_nil]); first | done | rfl | (simp only [List.length_drop, List.length_take]; rfl) | (simp only [List.length_drop, List.length_take]; rw [Nat.min_eq_left (by first | assumption | omega)]; rfl)) ?_; (with_reducible refine (utf_Encode.calls kj3 _ _ y251 t254 _ ?side1 ?side2 A7.out).mono ?_); (case side1 => repeat (first | exact (Kd.R_reads' HO253.out).2.2 | (with_reducible refine Kd.C_alloc ?_ _) | (with_reducible refine Kd.C_drewN ?_ _) | (with_reducible refine Kd.C_drew ?_))); (case side2 => exact (Kd.R_reads' HO253.out).2.1); rintro e w12 ⟨v255, rfl, ho0, hb⟩; refine ⟨_, rfl, ?_⟩; have n0_ := Aside0.mk (Kd.R_below (by (with_reducible repeat (first | apply Kd.R_alloc | apply Kd.R_drewN | apply Kd.R_drew)); exact HO253.out) hb); have n1_ := Aside0.mk (Kd.R_lower ho0 (below_size (by repeat (first | (with_reducible first | exact HB.out | apply below_alloc | apply pw_below_drewN | apply below_drew1) | exact HB.out)))); have n2_ := Aside0.mk (below_step (by repeat (first | (with_reducible first | exact HB.out | apply below_alloc | apply pw_below_drewN | apply below_drew1) | exact HB.out)) hb); clear HO253; clear HB; have HO253 := n0_; have HO256 := n1_; have HB := n2_; clear n0_ n1_ n2_; (try clear hb); (try clear hb2); (try clear hk); (try clear hi); (try clear ho0)))
      (try simp only [Act.put, List.setIfInBounds_toArray, List.set_cons_zero, List.set_cons_succ])
      go_cut [8] (fun v8 wc => ∃ (kq : Nat) (x8_7 : Int), v8 = .int .i64 x8_7 ∧ Aside0 (linguistlaw1_UtfWide.j1 kq a1 x6_3 t254 x8_7 = some r) ∧ Aside0 (kq ≤ kj3) ∧ Aside0 (Kd.R (Kd.int .u8) 5 wc w.heap.size (fun _ => True) v255 t254) ∧ Aside0 (Below w.heap.size w wc))
      case first =>
        have H := HC8.out
        clear HC8
        by_cases c13 : x6_3 ≥ 65536
        · rw [if_pos c13] at H
          have c13b0 : decide (65536 ≤ x6_3) = true := decide_eq_true c13
          clear c13
          (first | rw [c13b0] | (simp only [i64_w, i32_w]; rw [c13b0]) | skip)
          have H' := Aside0.mk H
          clear H
          go_wp2
          go_meet
          case rel => exact ⟨_, (4), (by first | rfl | (simp; done) | (simp [*]; done)), H', ⟨by have := HJ3.out; first | omega | exact Nat.le_refl _⟩, ⟨by (with_reducible repeat (first | apply Kd.R_alloc | apply Kd.R_drewN | apply Kd.R_drew)); exact HO256.out⟩, ⟨by repeat (first | (with_reducible first | exact HB.out | apply below_alloc | apply pw_below_drewN | apply below_drew1) | exact HB.out)⟩⟩
        · rw [if_neg c13] at H
          have c13b0 : decide (65536 ≤ x6_3) = false := decide_eq_false c13
          clear c13
          (first | rw [c13b0] | (simp only [i64_w, i32_w]; rw [c13b0]) | skip)
          by_cases c14 : x6_3 ≥ 2048
          · rw [if_pos c14] at H
            have c14b0 : decide (2048 ≤ x6_3) = true := decide_eq_true c14
            clear c14
            have H' := Aside0.mk H
            clear H
            go_wp2
            go_meet
            case rel => exact ⟨_, (3), (by first | rfl | (simp; done) | (simp [*]; done)), H', ⟨by have := HJ3.out; first | omega | exact Nat.le_refl _⟩, ⟨by (with_reducible repeat (first | apply Kd.R_alloc | apply Kd.R_drewN | apply Kd.R_drew)); exact HO256.out⟩, ⟨by repeat (first | (with_reducible first | exact HB.out | apply below_alloc | apply pw_below_drewN | apply below_drew1) | exact HB.out)⟩⟩
          · rw [if_neg c14] at H
            have c14b0 : decide (2048 ≤ x6_3) = false := decide_eq_false c14
            clear c14
            have H' := Aside0.mk H
            clear H
            go_wp2
            go_meet
            case rel => exact ⟨_, (2), (by first | rfl | (simp; done) | (simp [*]; done)), H', ⟨by have := HJ3.out; first | omega | exact Nat.le_refl _⟩, ⟨by (with_reducible repeat (first | apply Kd.R_alloc | apply Kd.R_drewN | apply Kd.R_drew)); exact HO256.out⟩, ⟨by repeat (first | (with_reducible first | exact HB.out | apply below_alloc | apply pw_below_drewN | apply below_drew1) | exact HB.out)⟩⟩
      case rest =>
        clear HC8
        try clear c1
        try clear p2
        try clear p3
        try clear c5
        try clear c5b0
        try clear c5b1
        try clear c7
        try clear c13
        try clear c13b0
        try clear c14
        try clear c14b0
        try clear p2
        try clear p3
        obtain ⟨kq, x8_7, rfl, HA, HJ7, HO_7, HB⟩ := hcut
        cases kq with
        | zero => exact absurd HA.out (by simp [linguistlaw1_UtfWide.j1])
        | succ kj7 =>
          have H := HA.out
          clear HA
          simp only [linguistlaw1_UtfWide.j1] at H
          by_cases c15 : (t254.length : Int) = x8_7
          · rw [if_pos c15] at H
            have c15b0 : ((t254.length : Int) == x8_7) = true := beq_iff_eq.mpr c15
            have c15b1 : ((t254.length : Int) != x8_7) = false := bne_eq_false_iff_eq.mpr c15
            clear c15
            have H' := Aside0.mk H
            clear H
            obtain ⟨Ao16, co16, eo16⟩ := Kd.R_slice HO_7.out
            subst eo16
            go_wp2_with (first | ((with_reducible refine gate_dst (N := 9) rfl ?_); (try (refine gate_guard (by rfl) ?_; dsimp only)); refine box_event ?hg (N := 9) ?hd (cs := #[.int .i64 0, .int .i64 0, .int .i64 0]) (t := 24) ?hr ?_; (case hd => rfl); (case hg => rfl); (case hr => first | (go_simp; done) | (go_simp; rfl)); intro gb257 hg w17 hbox hb; have n0_ := Aside0.mk (Kd.R_below (by (with_reducible repeat (first | apply Kd.R_alloc | apply Kd.R_drewN | apply Kd.R_drew)); exact HO_7.out) hb); have n1_ := Aside0.mk (below_step (by repeat (first | (with_reducible first | exact HB.out | apply below_alloc | apply pw_below_drewN | apply below_drew1) | exact HB.out)) hb); have n2_ := Aside0.mk (hbox); have n3_ := Aside0.mk ((by rw [hg]; exact (below_size (by repeat (first | (with_reducible first | exact HB.out | apply below_alloc | apply pw_below_drewN | apply below_drew1) | exact HB.out))) : w.heap.size ≤ gb257)); have n4_ := Aside0.mk ((by rw [hg]; exact (below_size (by repeat (first | (with_reducible first | exact HB.out | apply below_alloc | apply pw_below_drewN | apply below_drew1) | exact HB.out))) : w.heap.size ≤ gb257)); clear HO_7; clear HB; have HO_7 := n0_; have HB := n1_; have BK257 := n2_; have GW257 := n3_; have GE257 := n4_; clear n0_ n1_ n2_ n3_ n4_; clear hb hbox hg; have hcz18_0 : w17.cell? ⟨gb257, 0, none⟩ = some (.int .i64 0) := (blk_cell BK257.out 0).trans rfl; have hcz18_1 : w17.cell? ⟨gb257, 1, none⟩ = some (.int .i64 0) := (blk_cell BK257.out 1).trans rfl; have hcz18_2 : w17.cell? ⟨gb257, 2, none⟩ = some (.int .i64 0) := (blk_cell BK257.out 2).trans rfl; have hfz18_0 := blk_frozen BK257.out 0; have hfz18_1 := blk_frozen BK257.out 1; have hfz18_2 := blk_frozen BK257.out 2))
            go_loopg [42] kj7 (fun kq v42 w' => ∃ (x42_3 : Int) (x258000_3 : Int) (x258001_3 : Int) (x258002_3 : Int), v42 = .int .i64 x42_3 ∧ Aside0 (linguistlaw1_UtfWide.l0 kq a1 x6_3 t254 t254 (t254.length : Int) x42_3 x258000_3 x258001_3 x258002_3 = some r) ∧ Aside0 (kq ≤ kj7) ∧ Aside0 (Kd.R (Kd.int .u8) 5 w' w.heap.size (fun _ => True) (.slice Ao16 t254.length co16) t254) ∧ Aside0 (Kd.R (Kd.int .u8) 5 w' w.heap.size (fun _ => True) (.slice Ao16 t254.length co16) t254) ∧ Aside0 (w'.heap[gb257]? = some (.cells #[.int .i64 x258000_3, .int .i64 x258001_3, .int .i64 x258002_3] 24 (0, 0))) ∧ Aside0 (Below w.heap.size w w'))
            case atStart => exact ⟨(0), (0), (0), (0), (by first | rfl | (simp; done) | (simp [*]; done)), H', ⟨Nat.le_refl _⟩, ⟨by (with_reducible repeat (first | apply Kd.R_alloc | apply Kd.R_drewN | apply Kd.R_drew)); exact Kd.R_mono (Kd.R_far (p := ⟨gb257, 2, none⟩) (Kd.R_far (p := ⟨gb257, 1, none⟩) (Kd.R_far (p := ⟨gb257, 0, none⟩) (Kd.R_types HO_7.out BK257.out (by decide)) (fun _ hk => hk.2) (.int .i64 0)) (fun _ hk => hk.2) (.int .i64 0)) (fun _ hk => hk.2) (.int .i64 0)) (fun _ hk => trivial)⟩, ⟨by (with_reducible repeat (first | apply Kd.R_alloc | apply Kd.R_drewN | apply Kd.R_drew)); exact Kd.R_mono (Kd.R_far (p := ⟨gb257, 2, none⟩) (Kd.R_far (p := ⟨gb257, 1, none⟩) (Kd.R_far (p := ⟨gb257, 0, none⟩) (Kd.R_types HO_7.out BK257.out (by decide)) (fun _ hk => hk.2) (.int .i64 0)) (fun _ hk => hk.2) (.int .i64 0)) (fun _ hk => hk.2) (.int .i64 0)) (fun _ hk => trivial)⟩, ⟨by (with_reducible repeat (first | refine blk_drewN ?_ _ | refine blk_drew ?_ | refine blk_alloc ?_ _)); refine blk_put (cs := #[.int .i64 0, .int .i64 0, .int .i64 0]) ?_ 2 _ rfl; (with_reducible repeat (first | refine blk_drewN ?_ _ | refine blk_drew ?_ | refine blk_alloc ?_ _)); refine blk_put (cs := #[.int .i64 0, .int .i64 0, .int .i64 0]) ?_ 1 _ rfl; (with_reducible repeat (first | refine blk_drewN ?_ _ | refine blk_drew ?_ | refine blk_alloc ?_ _)); refine blk_put (cs := #[.int .i64 0, .int .i64 0, .int .i64 0]) ?_ 0 _ rfl; (with_reducible repeat (first | refine blk_drewN ?_ _ | refine blk_drew ?_ | refine blk_alloc ?_ _)); exact BK257.out⟩, ⟨by repeat (first | (with_reducible first | exact HB.out | apply below_alloc | apply pw_below_drewN | apply below_drew1 | refine below_set ?_ GE257.out) | exact HB.out)⟩⟩
            case round =>
              clear H'
              try clear c1
              try clear p2
              try clear p3
              try clear c5
              try clear c5b0
              try clear c5b1
              try clear c7
              try clear c13
              try clear c13b0
              try clear c14
              try clear c14b0
              try clear c15
              try clear c15b0
              try clear c15b1
              try clear c18
              try clear hcz18_0
              try clear hcz18_1
              try clear hcz18_2
              try clear hfz18_0
              try clear hfz18_1
              try clear hfz18_2
              try clear p2
              try clear p3
              obtain ⟨x42_3, x258000_3, x258001_3, x258002_3, rfl, HA, HK3, HO_7, HO_40, BK257, HB⟩ := hrel
              cases gk with
              | zero => exact absurd HA.out (by simp [linguistlaw1_UtfWide.l0])
              | succ k3 =>
                have H := HA.out
                clear HA
                simp only [linguistlaw1_UtfWide.l0] at H
                by_cases c19 : x42_3 < (t254.length : Int)
                · rw [if_pos c19] at H
                  have c19b0 : decide (x42_3 < (t254.length : Int)) = true := decide_eq_true c19
                  clear c19
                  by_cases c20 : 0 ≤ x42_3
                  · rw [if_pos c20] at H
                    have c20b0 : decide (0 ≤ x42_3) = true := decide_eq_true c20
                    clear c20
                    by_cases c21 : x42_3 < (t254.length : Int)
                    · rw [if_pos c21] at H
                      have c21b0 : decide (x42_3 < (t254.length : Int)) = true := decide_eq_true c21
                      clear c21
                      replace H := Option.bind_eq_some_iff.mp H
                      obtain ⟨⟨t260, t261, t262, t263⟩, A220, H⟩ := H
                      replace H : (if x42_3 < (wrap64 ((t254.length : Int) - 1)) then ((utf_Decoder_Held.f t260 t261 t262).bind fun t267 => (if t267 = true then (if (t263.length : Int) = 0 then (if x42_3 = (wrap64 ((t254.length : Int) - 1)) then (none) else (linguistlaw1_UtfWide.j3 k3 a1 x6_3 t254 x42_3 t254 (t254.length : Int) x42_3 false t260 t261 t262)) else (none)) else (none))) else (if x42_3 = (wrap64 ((t254.length : Int) - 1)) then ((utf_Decoder_Held.f t260 t261 t262).bind fun t269 => (if t269 = true then (none) else ((linguistbook_Same_rune.f k3 t263 (([x6_3] : List Int))).bind fun t273 => (linguistlaw1_UtfWide.j3 k3 a1 x6_3 t254 x42_3 t254 (t254.length : Int) x42_3 (!t273) t260 t261 t262)))) else (linguistlaw1_UtfWide.j3 k3 a1 x6_3 t254 x42_3 t254 (t254.length : Int) x42_3 false t260 t261 t262))) = some r := H
                      have A22 := Aside0.mk A220
                      clear A220
                      have HC23 := Aside0.mk H
                      clear H
                      have p259 : 0 ≤ (x42_3 : Int) := of_decide_eq_true (by first | (with_reducible assumption) | assumption)
                      have q259 : x42_3 < (t254.length : Int) := of_decide_eq_true (by first | (with_reducible assumption) | assumption)
                      obtain ⟨ad259, e259, hx259_0⟩ := Kd.at_int (Kd.R_reads' HO_40.out).2.2 x42_3 p259 q259
                      cases e259
                      replace p259 := eq_true p259
                      replace q259 := eq_true q259
                      have hcz24_0 : wr.cell? ⟨gb257, 0, none⟩ = some (.int .i64 x258000_3) := (blk_cell BK257.out 0).trans rfl
                      have hcz24_1 : wr.cell? ⟨gb257, 1, none⟩ = some (.int .i64 x258001_3) := (blk_cell BK257.out 1).trans rfl
                      have hcz24_2 : wr.cell? ⟨gb257, 2, none⟩ = some (.int .i64 x258002_3) := (blk_cell BK257.out 2).trans rfl
                      have hfz24_0 := blk_frozen BK257.out 0
                      have hfz24_1 := blk_frozen BK257.out 1
                      have hfz24_2 := blk_frozen BK257.out 2
                      go_upto_region 18 with (first | ((with_reducible refine gate_callee (f := 19) rfl ?_); refine goesL_ (some 50) rfl rfl Try.func19 (by kernel_rfl) rfl #[.agg #[.int .i64 x258000_3, .int .i64 x258001_3, .int .i64 x258002_3], .int .u8 (rd t254 x42_3)] rfl (by (try simp only [List.map_toArray, List.map_cons, List.map_nil]); first | done | rfl | (simp only [List.length_drop, List.length_take]; rfl) | (simp only [List.length_drop, List.length_take]; rw [Nat.min_eq_left (by first | assumption | omega)]; rfl)) ?_; (with_reducible refine (utf_Decoder_Push.calls k3 x258000_3 x258001_3 x258002_3 (rd t254 x42_3) t260 t261 t262 t263 _ A22.out).mono ?_); rintro e w25 ⟨v264, rfl, ho0, hb⟩; refine ⟨_, rfl, ?_⟩; have n0_ := Aside0.mk (Kd.R_below (by (with_reducible repeat (first | apply Kd.R_alloc | apply Kd.R_drewN | apply Kd.R_drew)); exact HO_7.out) hb); have n1_ := Aside0.mk (Kd.R_below (by (with_reducible repeat (first | apply Kd.R_alloc | apply Kd.R_drewN | apply Kd.R_drew)); exact HO_40.out) hb); have n2_ := Aside0.mk (Kd.R_lower ho0 (below_size (by repeat (first | (with_reducible first | exact HB.out | apply below_alloc | apply pw_below_drewN | apply below_drew1 | refine below_set ?_ GE257.out) | exact HB.out)))); have n3_ := Aside0.mk (blk_below (g := gb257) (o := .cells #[.int .i64 x258000_3, .int .i64 x258001_3, .int .i64 x258002_3] 24 (0, 0)) (by (with_reducible repeat (first | refine blk_drewN ?_ _ | refine blk_drew ?_ | refine blk_alloc ?_ _)); exact BK257.out) hb); have n4_ := Aside0.mk (below_step (by repeat (first | (with_reducible first | exact HB.out | apply below_alloc | apply pw_below_drewN | apply below_drew1 | refine below_set ?_ GE257.out) | exact HB.out)) hb); clear HO_7; clear HO_40; clear BK257; clear HB; have HO_7 := n0_; have HO_40 := n1_; have HO265 := n2_; have BK257 := n3_; have HB := n4_; clear n0_ n1_ n2_ n3_ n4_; (try clear hb); (try clear hb2); (try clear hk); (try clear hi); (try clear ho0)) | ((with_reducible refine gate_dst (N := 12) rfl ?_); (try (refine gate_guard (by rfl) ?_; dsimp only)); refine box_event ?hg (N := 12) ?hd (cs := #[.int .i64 0, .int .i64 0, .int .i64 0]) (t := 24) ?hr ?_; (case hd => rfl); (case hg => rfl); (case hr => first | (go_simp; done) | (go_simp; rfl)); intro gb266 hg w26 hbox hb; have n0_ := Aside0.mk (Kd.R_below (by (with_reducible repeat (first | apply Kd.R_alloc | apply Kd.R_drewN | apply Kd.R_drew)); exact HO_7.out) hb); have n1_ := Aside0.mk (Kd.R_below (by (with_reducible repeat (first | apply Kd.R_alloc | apply Kd.R_drewN | apply Kd.R_drew)); exact HO_40.out) hb); have n2_ := Aside0.mk (Kd.R_below (by (with_reducible repeat (first | apply Kd.R_alloc | apply Kd.R_drewN | apply Kd.R_drew)); exact HO265.out) hb); have n3_ := Aside0.mk (blk_below (g := gb257) (o := .cells #[.int .i64 x258000_3, .int .i64 x258001_3, .int .i64 x258002_3] 24 (0, 0)) (by (with_reducible repeat (first | refine blk_drewN ?_ _ | refine blk_drew ?_ | refine blk_alloc ?_ _)); exact BK257.out) hb); have n4_ := Aside0.mk (below_step (by repeat (first | (with_reducible first | exact HB.out | apply below_alloc | apply pw_below_drewN | apply below_drew1 | refine below_set ?_ GE257.out) | exact HB.out)) hb); have n5_ := Aside0.mk (hbox); have n6_ := Aside0.mk ((by rw [hg]; exact (below_size (by repeat (first | (with_reducible first | exact HB.out | apply below_alloc | apply pw_below_drewN | apply below_drew1 | refine below_set ?_ GE257.out) | exact HB.out))) : w.heap.size ≤ gb266)); have n7_ := Aside0.mk ((by rw [hg]; exact (below_size (by repeat (first | (with_reducible first | exact HB.out | apply below_alloc | apply pw_below_drewN | apply below_drew1 | refine below_set ?_ GE257.out) | exact HB.out))) : w.heap.size ≤ gb266)); have n8_ := Aside0.mk ((by rw [hg]; exact Nat.ne_of_lt (blk_lt (g := gb257) (o := .cells #[.int .i64 x258000_3, .int .i64 x258001_3, .int .i64 x258002_3] 24 (0, 0)) (by (with_reducible repeat (first | refine blk_drewN ?_ _ | refine blk_drew ?_ | refine blk_alloc ?_ _)); exact BK257.out)) : gb257 ≠ gb266)); have n9_ := Aside0.mk ((by rw [hg]; exact Nat.ne_of_gt (blk_lt (g := gb257) (o := .cells #[.int .i64 x258000_3, .int .i64 x258001_3, .int .i64 x258002_3] 24 (0, 0)) (by (with_reducible repeat (first | refine blk_drewN ?_ _ | refine blk_drew ?_ | refine blk_alloc ?_ _)); exact BK257.out)) : gb266 ≠ gb257)); clear HO_7; clear HO_40; clear HO265; clear BK257; clear HB; have HO_7 := n0_; have HO_40 := n1_; have HO265 := n2_; have BK257 := n3_; have HB := n4_; have BK266 := n5_; have GW266 := n6_; have GE266 := n7_; have NB257_266 := n8_; have NB266_257 := n9_; clear n0_ n1_ n2_ n3_ n4_ n5_ n6_ n7_ n8_ n9_; clear hb hbox hg; have hnb27 := NB266_257.out; have hnc27 := NB257_266.out; have hcz28_0 : w26.cell? ⟨gb266, 0, none⟩ = some (.int .i64 0) := (blk_cell BK266.out 0).trans rfl; have hcz28_1 : w26.cell? ⟨gb266, 1, none⟩ = some (.int .i64 0) := (blk_cell BK266.out 1).trans rfl; have hcz28_2 : w26.cell? ⟨gb266, 2, none⟩ = some (.int .i64 0) := (blk_cell BK266.out 2).trans rfl; have hfz28_0 := blk_frozen BK266.out 0; have hfz28_1 := blk_frozen BK266.out 1; have hfz28_2 := blk_frozen BK266.out 2))
                      (try simp only [Act.put, List.setIfInBounds_toArray, List.set_cons_zero, List.set_cons_succ])
                      go_cut [85] (fun v85 wc => ∃ (kq : Nat) (x85_22 : Bool), v85 = .bool x85_22 ∧ Aside0 (linguistlaw1_UtfWide.j3 kq a1 x6_3 t254 x42_3 t254 (t254.length : Int) x42_3 x85_22 t260 t261 t262 = some r) ∧ Aside0 (kq ≤ k3) ∧ Aside0 (Kd.R (Kd.int .u8) 5 wc w.heap.size (fun _ => True) (.slice (some ad259) t254.length co16) t254) ∧ Aside0 (Kd.R (Kd.int .u8) 5 wc w.heap.size (fun _ => True) (.slice (some ad259) t254.length co16) t254) ∧ Aside0 (wc.heap[gb257]? = some (.cells #[.int .i64 x258000_3, .int .i64 x258001_3, .int .i64 x258002_3] 24 (0, 0))) ∧ Aside0 (wc.heap[gb266]? = some (.cells #[.int .i64 t260, .int .i64 t261, .int .i64 t262] 24 (0, 0))) ∧ Aside0 (Below w.heap.size w wc))
                      case first =>
                        have H := HC23.out
                        clear HC23
                        by_cases c29 : x42_3 < (wrap64 ((t254.length : Int) - 1))
                        · rw [if_pos c29] at H
                          have c29b0 : decide (x42_3 < (wrap64 ((t254.length : Int) - 1))) = true := decide_eq_true c29
                          clear c29
                          (first | rw [c29b0] | (simp only [i64_w, i32_w]; rw [c29b0]) | skip)
                          replace H := Option.bind_eq_some_iff.mp H
                          obtain ⟨t267, A300, H⟩ := H
                          replace H : (if t267 = true then (if (t263.length : Int) = 0 then (if x42_3 = (wrap64 ((t254.length : Int) - 1)) then (none) else (linguistlaw1_UtfWide.j3 k3 a1 x6_3 t254 x42_3 t254 (t254.length : Int) x42_3 false t260 t261 t262)) else (none)) else (none)) = some r := H
                          have A30 := Aside0.mk A300
                          clear A300
                          by_cases c31 : t267 = true
                          · subst c31
                            have H1 : (if (t263.length : Int) = 0 then (if x42_3 = (wrap64 ((t254.length : Int) - 1)) then (none) else (linguistlaw1_UtfWide.j3 k3 a1 x6_3 t254 x42_3 t254 (t254.length : Int) x42_3 false t260 t261 t262)) else (none)) = some r := by rw [if_pos rfl] at H; exact H
                            clear H
                            have H := H1
                            clear H1
                            by_cases c32 : (t263.length : Int) = 0
                            · rw [if_pos c32] at H
                              have c32b0 : ((t263.length : Int) == 0) = true := beq_iff_eq.mpr c32
                              have c32b1 : ((t263.length : Int) != 0) = false := bne_eq_false_iff_eq.mpr c32
                              clear c32
                              by_cases c33 : x42_3 = (wrap64 ((t254.length : Int) - 1))
                              · rw [if_pos c33] at H
                                exact absurd H (by simp)
                              · rw [if_neg c33] at H
                                have c33b0 : (x42_3 == (wrap64 ((t254.length : Int) - 1))) = false := beq_eq_false_iff_ne.mpr c33
                                have c33b1 : (x42_3 != (wrap64 ((t254.length : Int) - 1))) = true := bne_iff_ne.mpr c33
                                have H' := Aside0.mk H
                                clear H
                                have hnb34 := NB266_257.out
                                have hnc34 := NB257_266.out
                                have hcz35_0 : w26.cell? ⟨gb266, 0, none⟩ = some (.int .i64 0) := (blk_cell BK266.out 0).trans rfl
                                have hcz35_1 : w26.cell? ⟨gb266, 1, none⟩ = some (.int .i64 0) := (blk_cell BK266.out 1).trans rfl
                                have hcz35_2 : w26.cell? ⟨gb266, 2, none⟩ = some (.int .i64 0) := (blk_cell BK266.out 2).trans rfl
                                have hfz35_0 := blk_frozen BK266.out 0
                                have hfz35_1 := blk_frozen BK266.out 1
                                have hfz35_2 := blk_frozen BK266.out 2
                                go_wp2_with (first | (go_at_call 11; (with_reducible refine (utf_Decoder_Held.calls t260 t261 t262 true _ A30.out).mono ?_); rintro e w36 ⟨rfl, hb⟩; have n0_ := Aside0.mk (Kd.R_below (by (with_reducible repeat (first | apply Kd.R_alloc | apply Kd.R_drewN | apply Kd.R_drew)); exact (Kd.R_mono (Kd.R_far (p := ⟨gb266, 2, none⟩) (Kd.R_far (p := ⟨gb266, 1, none⟩) (Kd.R_far (p := ⟨gb266, 0, none⟩) (Kd.R_types HO_7.out BK266.out (by decide)) (fun _ hk => hk.2) (.int .i64 t260)) (fun _ hk => hk.2) (.int .i64 t261)) (fun _ hk => hk.2) (.int .i64 t262)) (fun _ h_ => h_.1))) hb); have n1_ := Aside0.mk (Kd.R_below (by (with_reducible repeat (first | apply Kd.R_alloc | apply Kd.R_drewN | apply Kd.R_drew)); exact (Kd.R_mono (Kd.R_far (p := ⟨gb266, 2, none⟩) (Kd.R_far (p := ⟨gb266, 1, none⟩) (Kd.R_far (p := ⟨gb266, 0, none⟩) (Kd.R_types HO_40.out BK266.out (by decide)) (fun _ hk => hk.2) (.int .i64 t260)) (fun _ hk => hk.2) (.int .i64 t261)) (fun _ hk => hk.2) (.int .i64 t262)) (fun _ h_ => h_.1))) hb); have n2_ := Aside0.mk (Kd.R_below (by (with_reducible repeat (first | apply Kd.R_alloc | apply Kd.R_drewN | apply Kd.R_drew)); exact (Kd.R_mono (Kd.R_far (p := ⟨gb266, 2, none⟩) (Kd.R_far (p := ⟨gb266, 1, none⟩) (Kd.R_far (p := ⟨gb266, 0, none⟩) (Kd.R_types HO265.out BK266.out (by decide)) (fun _ hk => hk.2) (.int .i64 t260)) (fun _ hk => hk.2) (.int .i64 t261)) (fun _ hk => hk.2) (.int .i64 t262)) (fun _ h_ => h_.1))) hb); have n3_ := Aside0.mk (blk_below (g := gb257) (o := .cells #[.int .i64 x258000_3, .int .i64 x258001_3, .int .i64 x258002_3] 24 (0, 0)) (by (with_reducible repeat (first | refine blk_drewN ?_ _ | refine blk_drew ?_ | refine blk_alloc ?_ _)); refine blk_far ?_ NB257_266.out _; (with_reducible repeat (first | refine blk_drewN ?_ _ | refine blk_drew ?_ | refine blk_alloc ?_ _)); refine blk_far ?_ NB257_266.out _; (with_reducible repeat (first | refine blk_drewN ?_ _ | refine blk_drew ?_ | refine blk_alloc ?_ _)); refine blk_far ?_ NB257_266.out _; (with_reducible repeat (first | refine blk_drewN ?_ _ | refine blk_drew ?_ | refine blk_alloc ?_ _)); exact BK257.out) hb); have n4_ := Aside0.mk (blk_below (g := gb266) (o := .cells #[.int .i64 t260, .int .i64 t261, .int .i64 t262] 24 (0, 0)) (by (with_reducible repeat (first | refine blk_drewN ?_ _ | refine blk_drew ?_ | refine blk_alloc ?_ _)); refine blk_put (cs := #[.int .i64 t260, .int .i64 t261, .int .i64 0]) ?_ 2 _ rfl; (with_reducible repeat (first | refine blk_drewN ?_ _ | refine blk_drew ?_ | refine blk_alloc ?_ _)); refine blk_put (cs := #[.int .i64 t260, .int .i64 0, .int .i64 0]) ?_ 1 _ rfl; (with_reducible repeat (first | refine blk_drewN ?_ _ | refine blk_drew ?_ | refine blk_alloc ?_ _)); refine blk_put (cs := #[.int .i64 0, .int .i64 0, .int .i64 0]) ?_ 0 _ rfl; (with_reducible repeat (first | refine blk_drewN ?_ _ | refine blk_drew ?_ | refine blk_alloc ?_ _)); exact BK266.out) hb); have n5_ := Aside0.mk (below_step (by repeat (first | (with_reducible first | exact HB.out | apply below_alloc | apply pw_below_drewN | apply below_drew1 | refine below_set ?_ GE257.out | refine below_set ?_ GE266.out) | exact HB.out)) hb); clear HO_7; clear HO_40; clear HO265; clear BK257; clear BK266; clear HB; have HO_7 := n0_; have HO_40 := n1_; have HO265 := n2_; have BK257 := n3_; have BK266 := n4_; have HB := n5_; clear n0_ n1_ n2_ n3_ n4_ n5_; (try clear hb); (try clear hb2); (try clear hk); (try clear hi); obtain ⟨Ao37, co37, eo37⟩ := Kd.R_slice HO265.out; subst eo37))
                                go_meet
                                case rel => exact ⟨_, (false), (by first | rfl | (simp; done) | (simp [*]; done)), H', ⟨by have := HJ3.out; have := HJ7.out; have := HK3.out; first | omega | exact Nat.le_refl _⟩, ⟨by (with_reducible repeat (first | apply Kd.R_alloc | apply Kd.R_drewN | apply Kd.R_drew)); exact HO_7.out⟩, ⟨by (with_reducible repeat (first | apply Kd.R_alloc | apply Kd.R_drewN | apply Kd.R_drew)); exact HO_40.out⟩, ⟨by (with_reducible repeat (first | refine blk_drewN ?_ _ | refine blk_drew ?_ | refine blk_alloc ?_ _)); exact BK257.out⟩, ⟨by (with_reducible repeat (first | refine blk_drewN ?_ _ | refine blk_drew ?_ | refine blk_alloc ?_ _)); exact BK266.out⟩, ⟨by repeat (first | (with_reducible first | exact HB.out | apply below_alloc | apply pw_below_drewN | apply below_drew1 | refine below_set ?_ GE257.out | refine below_set ?_ GE266.out) | exact HB.out)⟩⟩
                            · rw [if_neg c32] at H
                              exact absurd H (by simp)
                          · replace c31 := Bool.eq_false_iff.mpr c31
                            subst c31
                            have H1 : (none) = some r := by rw [if_neg (show ¬ (false = true) by decide)] at H; exact H
                            clear H
                            have H := H1
                            clear H1
                            exact absurd H (by simp)
                        · rw [if_neg c29] at H
                          have c29b0 : decide (x42_3 < (wrap64 ((t254.length : Int) - 1))) = false := decide_eq_false c29
                          clear c29
                          (first | rw [c29b0] | (simp only [i64_w, i32_w]; rw [c29b0]) | skip)
                          by_cases c38 : x42_3 = (wrap64 ((t254.length : Int) - 1))
                          · rw [if_pos c38] at H
                            have c38b0 : (x42_3 == (wrap64 ((t254.length : Int) - 1))) = true := beq_iff_eq.mpr c38
                            have c38b1 : (x42_3 != (wrap64 ((t254.length : Int) - 1))) = false := bne_eq_false_iff_eq.mpr c38
                            clear c38
                            replace H := Option.bind_eq_some_iff.mp H
                            obtain ⟨t269, A390, H⟩ := H
                            replace H : (if t269 = true then (none) else ((linguistbook_Same_rune.f k3 t263 (([x6_3] : List Int))).bind fun t273 => (linguistlaw1_UtfWide.j3 k3 a1 x6_3 t254 x42_3 t254 (t254.length : Int) x42_3 (!t273) t260 t261 t262))) = some r := H
                            have A39 := Aside0.mk A390
                            clear A390
                            by_cases c40 : t269 = true
                            · subst c40
                              have H1 : (none) = some r := by rw [if_pos rfl] at H; exact H
                              clear H
                              have H := H1
                              clear H1
                              exact absurd H (by simp)
                            · replace c40 := Bool.eq_false_iff.mpr c40
                              subst c40
                              have H1 : ((linguistbook_Same_rune.f k3 t263 (([x6_3] : List Int))).bind fun t273 => (linguistlaw1_UtfWide.j3 k3 a1 x6_3 t254 x42_3 t254 (t254.length : Int) x42_3 (!t273) t260 t261 t262)) = some r := by rw [if_neg (show ¬ (false = true) by decide)] at H; exact H
                              clear H
                              have H := H1
                              clear H1
                              obtain ⟨y270, hy270⟩ : ∃ y_ : List Int, y_ = (([x6_3] : List Int)) := ⟨_, rfl⟩
                              replace H : ((linguistbook_Same_rune.f k3 t263 y270).bind fun t273 => (linguistlaw1_UtfWide.j3 k3 a1 x6_3 t254 x42_3 t254 (t254.length : Int) x42_3 (!t273) t260 t261 t262)) = some r := by first | (rw [hy270]; with_reducible exact H) | (have H2_ := (Option.bind_some _ _).symm.trans H; rw [hy270]; with_reducible exact H2_) | (have H2_ := (Option.bind_some _ _).symm.trans H; with_reducible exact H2_) | with_reducible exact H | (rw [hy270]; exact H) | exact H
                              have Ny270 := Aside0.mk hy270
                              clear hy270
                              replace H := Option.bind_eq_some_iff.mp H
                              obtain ⟨t273, A410, H⟩ := H
                              replace H : (linguistlaw1_UtfWide.j3 k3 a1 x6_3 t254 x42_3 t254 (t254.length : Int) x42_3 (!t273) t260 t261 t262) = some r := H
                              have A41 := Aside0.mk A410
                              clear A410
                              have H' := Aside0.mk H
                              clear H
                              have hnb42 := NB266_257.out
                              have hnc42 := NB257_266.out
                              have hcz43_0 : w26.cell? ⟨gb266, 0, none⟩ = some (.int .i64 0) := (blk_cell BK266.out 0).trans rfl
                              have hcz43_1 : w26.cell? ⟨gb266, 1, none⟩ = some (.int .i64 0) := (blk_cell BK266.out 1).trans rfl
                              have hcz43_2 : w26.cell? ⟨gb266, 2, none⟩ = some (.int .i64 0) := (blk_cell BK266.out 2).trans rfl
                              have hfz43_0 := blk_frozen BK266.out 0
                              have hfz43_1 := blk_frozen BK266.out 1
                              have hfz43_2 := blk_frozen BK266.out 2
                              go_wp2_with (first | (go_at_call 11; (with_reducible refine (utf_Decoder_Held.calls t260 t261 t262 false _ A39.out).mono ?_); rintro e w44 ⟨rfl, hb⟩; have n0_ := Aside0.mk (Kd.R_below (by (with_reducible repeat (first | apply Kd.R_alloc | apply Kd.R_drewN | apply Kd.R_drew)); exact (Kd.R_mono (Kd.R_far (p := ⟨gb266, 2, none⟩) (Kd.R_far (p := ⟨gb266, 1, none⟩) (Kd.R_far (p := ⟨gb266, 0, none⟩) (Kd.R_types HO_7.out BK266.out (by decide)) (fun _ hk => hk.2) (.int .i64 t260)) (fun _ hk => hk.2) (.int .i64 t261)) (fun _ hk => hk.2) (.int .i64 t262)) (fun _ h_ => h_.1))) hb); have n1_ := Aside0.mk (Kd.R_below (by (with_reducible repeat (first | apply Kd.R_alloc | apply Kd.R_drewN | apply Kd.R_drew)); exact (Kd.R_mono (Kd.R_far (p := ⟨gb266, 2, none⟩) (Kd.R_far (p := ⟨gb266, 1, none⟩) (Kd.R_far (p := ⟨gb266, 0, none⟩) (Kd.R_types HO_40.out BK266.out (by decide)) (fun _ hk => hk.2) (.int .i64 t260)) (fun _ hk => hk.2) (.int .i64 t261)) (fun _ hk => hk.2) (.int .i64 t262)) (fun _ h_ => h_.1))) hb); have n2_ := Aside0.mk (Kd.R_below (by (with_reducible repeat (first | apply Kd.R_alloc | apply Kd.R_drewN | apply Kd.R_drew)); exact (Kd.R_mono (Kd.R_far (p := ⟨gb266, 2, none⟩) (Kd.R_far (p := ⟨gb266, 1, none⟩) (Kd.R_far (p := ⟨gb266, 0, none⟩) (Kd.R_types HO265.out BK266.out (by decide)) (fun _ hk => hk.2) (.int .i64 t260)) (fun _ hk => hk.2) (.int .i64 t261)) (fun _ hk => hk.2) (.int .i64 t262)) (fun _ h_ => h_.1))) hb); have n3_ := Aside0.mk (blk_below (g := gb257) (o := .cells #[.int .i64 x258000_3, .int .i64 x258001_3, .int .i64 x258002_3] 24 (0, 0)) (by (with_reducible repeat (first | refine blk_drewN ?_ _ | refine blk_drew ?_ | refine blk_alloc ?_ _)); refine blk_far ?_ NB257_266.out _; (with_reducible repeat (first | refine blk_drewN ?_ _ | refine blk_drew ?_ | refine blk_alloc ?_ _)); refine blk_far ?_ NB257_266.out _; (with_reducible repeat (first | refine blk_drewN ?_ _ | refine blk_drew ?_ | refine blk_alloc ?_ _)); refine blk_far ?_ NB257_266.out _; (with_reducible repeat (first | refine blk_drewN ?_ _ | refine blk_drew ?_ | refine blk_alloc ?_ _)); exact BK257.out) hb); have n4_ := Aside0.mk (blk_below (g := gb266) (o := .cells #[.int .i64 t260, .int .i64 t261, .int .i64 t262] 24 (0, 0)) (by (with_reducible repeat (first | refine blk_drewN ?_ _ | refine blk_drew ?_ | refine blk_alloc ?_ _)); refine blk_put (cs := #[.int .i64 t260, .int .i64 t261, .int .i64 0]) ?_ 2 _ rfl; (with_reducible repeat (first | refine blk_drewN ?_ _ | refine blk_drew ?_ | refine blk_alloc ?_ _)); refine blk_put (cs := #[.int .i64 t260, .int .i64 0, .int .i64 0]) ?_ 1 _ rfl; (with_reducible repeat (first | refine blk_drewN ?_ _ | refine blk_drew ?_ | refine blk_alloc ?_ _)); refine blk_put (cs := #[.int .i64 0, .int .i64 0, .int .i64 0]) ?_ 0 _ rfl; (with_reducible repeat (first | refine blk_drewN ?_ _ | refine blk_drew ?_ | refine blk_alloc ?_ _)); exact BK266.out) hb); have n5_ := Aside0.mk (below_step (by repeat (first | (with_reducible first | exact HB.out | apply below_alloc | apply pw_below_drewN | apply below_drew1 | refine below_set ?_ GE257.out | refine below_set ?_ GE266.out) | exact HB.out)) hb); clear HO_7; clear HO_40; clear HO265; clear BK257; clear BK266; clear HB; have HO_7 := n0_; have HO_40 := n1_; have HO265 := n2_; have BK257 := n3_; have BK266 := n4_; have HB := n5_; clear n0_ n1_ n2_ n3_ n4_ n5_; (try clear hb); (try clear hb2); (try clear hk); (try clear hi)) | ((with_reducible refine gate_dst (N := 80) rfl ?_); (try (refine gate_guard (by rfl) ?_; dsimp only)); refine Kd.R_lit (Kd.int .i32) _ 21 ?hg (N := 80) ?hd (xs := ([x6_3] : List Int)) (inner := [.int .i32 x6_3]) (ok := fun _ => True) (okp := fun _ => True) ?hr ?hp (fun _ hk => hk) trivial (Below.refl _ _) (Nat.le_refl _) (by simp) ?_; (case hd => rfl); (case hg => rfl); (case hr => first | (go_simp; done) | (go_simp; rfl)); (case hp => exact (Reps.one (show Kd.M (Kd.int .i32) _ _ _ x6_3 [.int .i32 x6_3] from rfl) (Reps.none _ _))); intro v271 w45 ho46 hb hg_ hnew_; clear hg_ hnew_; (first | rw [← Ny270.out] at ho46 | (simp only [Int.reduceToNat] at ho46; rw [← Ny270.out] at ho46)); have n0_ := Aside0.mk (Kd.R_below (by (with_reducible repeat (first | apply Kd.R_alloc | apply Kd.R_drewN | apply Kd.R_drew)); exact HO_7.out) hb); have n1_ := Aside0.mk (Kd.R_below (by (with_reducible repeat (first | apply Kd.R_alloc | apply Kd.R_drewN | apply Kd.R_drew)); exact HO_40.out) hb); have n2_ := Aside0.mk (Kd.R_elder' (by (with_reducible repeat (first | apply Kd.R_alloc | apply Kd.R_drewN | apply Kd.R_drew)); exact HO265.out) (Kd.R_base ho46) hb); have n3_ := Aside0.mk (Kd.R_lower (Kd.R_new' ho46 (Kd.R_lt (by (with_reducible repeat (first | apply Kd.R_alloc | apply Kd.R_drewN | apply Kd.R_drew)); exact HO265.out))) (below_size (by repeat (first | (with_reducible first | exact HB.out | apply below_alloc | apply pw_below_drewN | apply below_drew1 | refine below_set ?_ GE257.out | refine below_set ?_ GE266.out) | exact HB.out)))); have n4_ := Aside0.mk (blk_below (g := gb257) (o := .cells #[.int .i64 x258000_3, .int .i64 x258001_3, .int .i64 x258002_3] 24 (0, 0)) (by (with_reducible repeat (first | refine blk_drewN ?_ _ | refine blk_drew ?_ | refine blk_alloc ?_ _)); exact BK257.out) hb); have n5_ := Aside0.mk (blk_below (g := gb266) (o := .cells #[.int .i64 t260, .int .i64 t261, .int .i64 t262] 24 (0, 0)) (by (with_reducible repeat (first | refine blk_drewN ?_ _ | refine blk_drew ?_ | refine blk_alloc ?_ _)); exact BK266.out) hb); have n6_ := Aside0.mk (below_step (by repeat (first | (with_reducible first | exact HB.out | apply below_alloc | apply pw_below_drewN | apply below_drew1 | refine below_set ?_ GE257.out | refine below_set ?_ GE266.out) | exact HB.out)) hb); clear HO_7; clear HO_40; clear HO265; clear BK257; clear BK266; clear HB; have HO_7 := n0_; have HO_40 := n1_; have HO265 := n2_; have HO272 := n3_; have BK257 := n4_; have BK266 := n5_; have HB := n6_; clear n0_ n1_ n2_ n3_ n4_ n5_ n6_; clear hb ho46; obtain ⟨Ao47, co47, eo47⟩ := Kd.R_slice HO265.out; subst eo47; obtain ⟨Ao48, co48, eo48⟩ := Kd.R_slice HO272.out; subst eo48) | (go_at_call 10; (with_reducible refine (linguistbook_Same_rune.calls k3 _ _ t263 _ _ y270 t273 _ ?side1 ?side2 ?side3 ?side4 A41.out).mono ?_); (case side1 => repeat (first | exact (Kd.R_reads' HO265.out).2.2 | (with_reducible refine Kd.C_alloc ?_ _) | (with_reducible refine Kd.C_drewN ?_ _) | (with_reducible refine Kd.C_drew ?_))); (case side2 => exact (Kd.R_reads' HO265.out).2.1); (case side3 => repeat (first | exact (Kd.R_reads' HO272.out).2.2 | (with_reducible refine Kd.C_alloc ?_ _) | (with_reducible refine Kd.C_drewN ?_ _) | (with_reducible refine Kd.C_drew ?_))); (case side4 => exact (Kd.R_reads' HO272.out).2.1); rintro e w' ⟨rfl, ⟨nd, rfl⟩⟩))
                              go_meet
                              case rel => exact ⟨_, (!t273), (by first | rfl | (simp; done) | (simp [*]; done)), H', ⟨by have := HJ3.out; have := HJ7.out; have := HK3.out; first | omega | exact Nat.le_refl _⟩, ⟨by (with_reducible repeat (first | apply Kd.R_alloc | apply Kd.R_drewN | apply Kd.R_drew)); exact HO_7.out⟩, ⟨by (with_reducible repeat (first | apply Kd.R_alloc | apply Kd.R_drewN | apply Kd.R_drew)); exact HO_40.out⟩, ⟨by (with_reducible repeat (first | refine blk_drewN ?_ _ | refine blk_drew ?_ | refine blk_alloc ?_ _)); exact BK257.out⟩, ⟨by (with_reducible repeat (first | refine blk_drewN ?_ _ | refine blk_drew ?_ | refine blk_alloc ?_ _)); exact BK266.out⟩, ⟨by repeat (first | (with_reducible first | exact HB.out | apply below_alloc | apply pw_below_drewN | apply below_drew1 | refine below_set ?_ GE257.out | refine below_set ?_ GE266.out) | exact HB.out)⟩⟩
                          · rw [if_neg c38] at H
                            have c38b0 : (x42_3 == (wrap64 ((t254.length : Int) - 1))) = false := beq_eq_false_iff_ne.mpr c38
                            have c38b1 : (x42_3 != (wrap64 ((t254.length : Int) - 1))) = true := bne_iff_ne.mpr c38
                            have H' := Aside0.mk H
                            clear H
                            go_wp2
                            go_meet
                            case rel => exact ⟨_, (false), (by first | rfl | (simp; done) | (simp [*]; done)), H', ⟨by have := HJ3.out; have := HJ7.out; have := HK3.out; first | omega | exact Nat.le_refl _⟩, ⟨by (with_reducible repeat (first | apply Kd.R_alloc | apply Kd.R_drewN | apply Kd.R_drew)); exact Kd.R_mono (Kd.R_far (p := ⟨gb266, 2, none⟩) (Kd.R_far (p := ⟨gb266, 1, none⟩) (Kd.R_far (p := ⟨gb266, 0, none⟩) (Kd.R_types HO_7.out BK266.out (by decide)) (fun _ hk => hk.2) (.int .i64 t260)) (fun _ hk => hk.2) (.int .i64 t261)) (fun _ hk => hk.2) (.int .i64 t262)) (fun _ hk => trivial)⟩, ⟨by (with_reducible repeat (first | apply Kd.R_alloc | apply Kd.R_drewN | apply Kd.R_drew)); exact Kd.R_mono (Kd.R_far (p := ⟨gb266, 2, none⟩) (Kd.R_far (p := ⟨gb266, 1, none⟩) (Kd.R_far (p := ⟨gb266, 0, none⟩) (Kd.R_types HO_40.out BK266.out (by decide)) (fun _ hk => hk.2) (.int .i64 t260)) (fun _ hk => hk.2) (.int .i64 t261)) (fun _ hk => hk.2) (.int .i64 t262)) (fun _ hk => trivial)⟩, ⟨by (with_reducible repeat (first | refine blk_drewN ?_ _ | refine blk_drew ?_ | refine blk_alloc ?_ _)); refine blk_far ?_ NB257_266.out _; (with_reducible repeat (first | refine blk_drewN ?_ _ | refine blk_drew ?_ | refine blk_alloc ?_ _)); refine blk_far ?_ NB257_266.out _; (with_reducible repeat (first | refine blk_drewN ?_ _ | refine blk_drew ?_ | refine blk_alloc ?_ _)); refine blk_far ?_ NB257_266.out _; (with_reducible repeat (first | refine blk_drewN ?_ _ | refine blk_drew ?_ | refine blk_alloc ?_ _)); exact BK257.out⟩, ⟨by (with_reducible repeat (first | refine blk_drewN ?_ _ | refine blk_drew ?_ | refine blk_alloc ?_ _)); refine blk_put (cs := #[.int .i64 t260, .int .i64 t261, .int .i64 0]) ?_ 2 _ rfl; (with_reducible repeat (first | refine blk_drewN ?_ _ | refine blk_drew ?_ | refine blk_alloc ?_ _)); refine blk_put (cs := #[.int .i64 t260, .int .i64 0, .int .i64 0]) ?_ 1 _ rfl; (with_reducible repeat (first | refine blk_drewN ?_ _ | refine blk_drew ?_ | refine blk_alloc ?_ _)); refine blk_put (cs := #[.int .i64 0, .int .i64 0, .int .i64 0]) ?_ 0 _ rfl; (with_reducible repeat (first | refine blk_drewN ?_ _ | refine blk_drew ?_ | refine blk_alloc ?_ _)); exact BK266.out⟩, ⟨by repeat (first | (with_reducible first | exact HB.out | apply below_alloc | apply pw_below_drewN | apply below_drew1 | refine below_set ?_ GE257.out | refine below_set ?_ GE266.out) | exact HB.out)⟩⟩
                      case rest =>
                        clear HC23
                        try clear c1
                        try clear c2
                        try clear p2
                        try clear q2
                        try clear hx2
                        try clear c3
                        try clear p3
                        try clear c4
                        try clear c5
                        try clear c5b0
                        try clear c5b1
                        try clear p6
                        try clear c7
                        try clear c13
                        try clear c13b0
                        try clear c14
                        try clear c14b0
                        try clear c15
                        try clear c15b0
                        try clear c15b1
                        try clear c18
                        try clear c19
                        try clear c19b0
                        try clear c20
                        try clear c20b0
                        try clear c21
                        try clear c21b0
                        try clear p25
                        try clear q25
                        try clear hx25
                        try clear c27
                        try clear c29
                        try clear c29b0
                        try clear c31
                        try clear c32
                        try clear c32b0
                        try clear c32b1
                        try clear p32
                        try clear c33
                        try clear c33b0
                        try clear c33b1
                        try clear c34
                        try clear c38
                        try clear c38b0
                        try clear c38b1
                        try clear c40
                        try clear c42
                        try clear hcz18_0
                        try clear hcz18_1
                        try clear hcz18_2
                        try clear hcz24_0
                        try clear hcz24_1
                        try clear hcz24_2
                        try clear hcz28_0
                        try clear hcz28_1
                        try clear hcz28_2
                        try clear hcz35_0
                        try clear hcz35_1
                        try clear hcz35_2
                        try clear hcz43_0
                        try clear hcz43_1
                        try clear hcz43_2
                        try clear hfz18_0
                        try clear hfz18_1
                        try clear hfz18_2
                        try clear hfz24_0
                        try clear hfz24_1
                        try clear hfz24_2
                        try clear hfz28_0
                        try clear hfz28_1
                        try clear hfz28_2
                        try clear hfz35_0
                        try clear hfz35_1
                        try clear hfz35_2
                        try clear hfz43_0
                        try clear hfz43_1
                        try clear hfz43_2
                        try clear hx259_0
                        try clear p2
                        try clear p259
                        try clear p3
                        try clear q259
                        obtain ⟨kq, x85_22, rfl, HA, HJ22, HO_7, HO_40, BK257, BK266, HB⟩ := hcut
                        cases kq with
                        | zero => exact absurd HA.out (by simp [linguistlaw1_UtfWide.j3])
                        | succ kj22 =>
                          have H := HA.out
                          clear HA
                          simp only [linguistlaw1_UtfWide.j3] at H
                          by_cases c49 : x85_22 = true
                          · subst c49
                            have H1 : (none) = some r := by rw [if_pos rfl] at H; exact H
                            clear H
                            have H := H1
                            clear H1
                            exact absurd H (by simp)
                          · replace c49 := Bool.eq_false_iff.mpr c49
                            subst c49
                            have H1 : (if x42_3 < (wrap64 ((t254.length : Int) - 1)) then ((utf_Decoder_Push.f kj22 t260 t261 t262 (Go.bits .and .u8 a1 127)).bind fun bt274 => ((linguistbook_Same_rune.f kj22 bt274.2.2.2 (([65533, wrap32 (Go.bits .and .u8 a1 127)] : List Int))).bind fun t284 => (if t284 = true then (linguistlaw1_UtfWide.l0 kj22 a1 x6_3 t254 t254 (t254.length : Int) (wrap64 (x42_3 + 1)) t260 t261 t262) else (none)))) else (linguistlaw1_UtfWide.l0 kj22 a1 x6_3 t254 t254 (t254.length : Int) (wrap64 (x42_3 + 1)) t260 t261 t262)) = some r := by rw [if_neg (show ¬ (false = true) by decide)] at H; exact H
                            clear H
                            have H := H1
                            clear H1
                            by_cases c50 : x42_3 < (wrap64 ((t254.length : Int) - 1))
                            · rw [if_pos c50] at H
                              have c50b0 : decide (x42_3 < (wrap64 ((t254.length : Int) - 1))) = true := decide_eq_true c50
                              clear c50
                              replace H := Option.bind_eq_some_iff.mp H
                              obtain ⟨⟨t274, t275, t276, t277⟩, A510, H⟩ := H
                              replace H : ((linguistbook_Same_rune.f kj22 t277 (([65533, wrap32 (Go.bits .and .u8 a1 127)] : List Int))).bind fun t284 => (if t284 = true then (linguistlaw1_UtfWide.l0 kj22 a1 x6_3 t254 t254 (t254.length : Int) (wrap64 (x42_3 + 1)) t260 t261 t262) else (none))) = some r := H
                              have A51 := Aside0.mk A510
                              clear A510
                              obtain ⟨y281, hy281⟩ : ∃ y_ : List Int, y_ = (([65533, wrap32 (Go.bits .and .u8 a1 127)] : List Int)) := ⟨_, rfl⟩
                              replace H : ((linguistbook_Same_rune.f kj22 t277 y281).bind fun t284 => (if t284 = true then (linguistlaw1_UtfWide.l0 kj22 a1 x6_3 t254 t254 (t254.length : Int) (wrap64 (x42_3 + 1)) t260 t261 t262) else (none))) = some r := by first | (rw [hy281]; with_reducible exact H) | (have H2_ := (Option.bind_some _ _).symm.trans H; rw [hy281]; with_reducible exact H2_) | (have H2_ := (Option.bind_some _ _).symm.trans H; with_reducible exact H2_) | with_reducible exact H | (rw [hy281]; exact H) | exact H
                              have Ny281 := Aside0.mk hy281
                              clear hy281
                              replace H := Option.bind_eq_some_iff.mp H
                              obtain ⟨t284, A520, H⟩ := H
                              replace H : (if t284 = true then (linguistlaw1_UtfWide.l0 kj22 a1 x6_3 t254 t254 (t254.length : Int) (wrap64 (x42_3 + 1)) t260 t261 t262) else (none)) = some r := H
                              have A52 := Aside0.mk A520
                              clear A520
                              by_cases c53 : t284 = true
                              · subst c53
                                have H1 : (linguistlaw1_UtfWide.l0 kj22 a1 x6_3 t254 t254 (t254.length : Int) (wrap64 (x42_3 + 1)) t260 t261 t262) = some r := by rw [if_pos rfl] at H; exact H
                                clear H
                                have H := H1
                                clear H1
                                have H' := Aside0.mk H
                                clear H
                                have hnb54 := NB266_257.out
                                have hnc54 := NB257_266.out
                                have hcz55_0 : wc.cell? ⟨gb266, 0, none⟩ = some (.int .i64 t260) := (blk_cell BK266.out 0).trans rfl
                                have hcz55_1 : wc.cell? ⟨gb266, 1, none⟩ = some (.int .i64 t261) := (blk_cell BK266.out 1).trans rfl
                                have hcz55_2 : wc.cell? ⟨gb266, 2, none⟩ = some (.int .i64 t262) := (blk_cell BK266.out 2).trans rfl
                                have hfz55_0 := blk_frozen BK266.out 0
                                have hfz55_1 := blk_frozen BK266.out 1
                                have hfz55_2 := blk_frozen BK266.out 2
                                go_wp2_with (first | ((with_reducible refine gate_callee (f := 19) rfl ?_); refine goesL_ (some 95) rfl rfl Try.func19 (by kernel_rfl) rfl #[.agg #[.int .i64 t260, .int .i64 t261, .int .i64 t262], .int .u8 (Go.bits .and .u8 a1 127)] rfl (by (try simp only [List.map_toArray, List.map_cons, List.map_nil]); first | done | rfl | (simp only [List.length_drop, List.length_take]; rfl) | (simp only [List.length_drop, List.length_take]; rw [Nat.min_eq_left (by first | assumption | omega)]; rfl)) ?_; (with_reducible refine (utf_Decoder_Push.calls kj22 t260 t261 t262 (Go.bits .and .u8 a1 127) t274 t275 t276 t277 _ A51.out).mono ?_); rintro e w56 ⟨v278, rfl, ho0, hb⟩; refine ⟨_, rfl, ?_⟩; have n0_ := Aside0.mk (Kd.R_below (by (with_reducible repeat (first | apply Kd.R_alloc | apply Kd.R_drewN | apply Kd.R_drew)); exact HO_7.out) hb); have n1_ := Aside0.mk (Kd.R_below (by (with_reducible repeat (first | apply Kd.R_alloc | apply Kd.R_drewN | apply Kd.R_drew)); exact HO_40.out) hb); have n2_ := Aside0.mk (Kd.R_lower ho0 (below_size (by repeat (first | (with_reducible first | exact HB.out | apply below_alloc | apply pw_below_drewN | apply below_drew1 | refine below_set ?_ GE257.out | refine below_set ?_ GE266.out) | exact HB.out)))); have n3_ := Aside0.mk (blk_below (g := gb257) (o := .cells #[.int .i64 x258000_3, .int .i64 x258001_3, .int .i64 x258002_3] 24 (0, 0)) (by (with_reducible repeat (first | refine blk_drewN ?_ _ | refine blk_drew ?_ | refine blk_alloc ?_ _)); exact BK257.out) hb); have n4_ := Aside0.mk (blk_below (g := gb266) (o := .cells #[.int .i64 t260, .int .i64 t261, .int .i64 t262] 24 (0, 0)) (by (with_reducible repeat (first | refine blk_drewN ?_ _ | refine blk_drew ?_ | refine blk_alloc ?_ _)); exact BK266.out) hb); have n5_ := Aside0.mk (below_step (by repeat (first | (with_reducible first | exact HB.out | apply below_alloc | apply pw_below_drewN | apply below_drew1 | refine below_set ?_ GE257.out | refine below_set ?_ GE266.out) | exact HB.out)) hb); clear HO_7; clear HO_40; clear BK257; clear BK266; clear HB; have HO_7 := n0_; have HO_40 := n1_; have HO279 := n2_; have BK257 := n3_; have BK266 := n4_; have HB := n5_; clear n0_ n1_ n2_ n3_ n4_ n5_; (try clear hb); (try clear hb2); (try clear hk); (try clear hi); (try clear ho0)) | ((with_reducible refine gate_dst (N := 14) rfl ?_); (try (refine gate_guard (by rfl) ?_; dsimp only)); refine box_event ?hg (N := 14) ?hd (cs := #[.int .i64 0, .int .i64 0, .int .i64 0]) (t := 24) ?hr ?_; (case hd => rfl); (case hg => rfl); (case hr => first | (go_simp; done) | (go_simp; rfl)); intro gb280 hg w57 hbox hb; have n0_ := Aside0.mk (Kd.R_below (by (with_reducible repeat (first | apply Kd.R_alloc | apply Kd.R_drewN | apply Kd.R_drew)); exact HO_7.out) hb); have n1_ := Aside0.mk (Kd.R_below (by (with_reducible repeat (first | apply Kd.R_alloc | apply Kd.R_drewN | apply Kd.R_drew)); exact HO_40.out) hb); have n2_ := Aside0.mk (Kd.R_below (by (with_reducible repeat (first | apply Kd.R_alloc | apply Kd.R_drewN | apply Kd.R_drew)); exact HO279.out) hb); have n3_ := Aside0.mk (blk_below (g := gb257) (o := .cells #[.int .i64 x258000_3, .int .i64 x258001_3, .int .i64 x258002_3] 24 (0, 0)) (by (with_reducible repeat (first | refine blk_drewN ?_ _ | refine blk_drew ?_ | refine blk_alloc ?_ _)); exact BK257.out) hb); have n4_ := Aside0.mk (blk_below (g := gb266) (o := .cells #[.int .i64 t260, .int .i64 t261, .int .i64 t262] 24 (0, 0)) (by (with_reducible repeat (first | refine blk_drewN ?_ _ | refine blk_drew ?_ | refine blk_alloc ?_ _)); exact BK266.out) hb); have n5_ := Aside0.mk (below_step (by repeat (first | (with_reducible first | exact HB.out | apply below_alloc | apply pw_below_drewN | apply below_drew1 | refine below_set ?_ GE257.out | refine below_set ?_ GE266.out) | exact HB.out)) hb); have n6_ := Aside0.mk (hbox); have n7_ := Aside0.mk ((by rw [hg]; exact (below_size (by repeat (first | (with_reducible first | exact HB.out | apply below_alloc | apply pw_below_drewN | apply below_drew1 | refine below_set ?_ GE257.out | refine below_set ?_ GE266.out) | exact HB.out))) : w.heap.size ≤ gb280)); have n8_ := Aside0.mk ((by rw [hg]; exact (below_size (by repeat (first | (with_reducible first | exact HB.out | apply below_alloc | apply pw_below_drewN | apply below_drew1 | refine below_set ?_ GE257.out | refine below_set ?_ GE266.out) | exact HB.out))) : w.heap.size ≤ gb280)); have n9_ := Aside0.mk ((by rw [hg]; exact Nat.ne_of_lt (blk_lt (g := gb257) (o := .cells #[.int .i64 x258000_3, .int .i64 x258001_3, .int .i64 x258002_3] 24 (0, 0)) (by (with_reducible repeat (first | refine blk_drewN ?_ _ | refine blk_drew ?_ | refine blk_alloc ?_ _)); exact BK257.out)) : gb257 ≠ gb280)); have n10_ := Aside0.mk ((by rw [hg]; exact Nat.ne_of_gt (blk_lt (g := gb257) (o := .cells #[.int .i64 x258000_3, .int .i64 x258001_3, .int .i64 x258002_3] 24 (0, 0)) (by (with_reducible repeat (first | refine blk_drewN ?_ _ | refine blk_drew ?_ | refine blk_alloc ?_ _)); exact BK257.out)) : gb280 ≠ gb257)); have n11_ := Aside0.mk ((by rw [hg]; exact Nat.ne_of_lt (blk_lt (g := gb266) (o := .cells #[.int .i64 t260, .int .i64 t261, .int .i64 t262] 24 (0, 0)) (by (with_reducible repeat (first | refine blk_drewN ?_ _ | refine blk_drew ?_ | refine blk_alloc ?_ _)); exact BK266.out)) : gb266 ≠ gb280)); have n12_ := Aside0.mk ((by rw [hg]; exact Nat.ne_of_gt (blk_lt (g := gb266) (o := .cells #[.int .i64 t260, .int .i64 t261, .int .i64 t262] 24 (0, 0)) (by (with_reducible repeat (first | refine blk_drewN ?_ _ | refine blk_drew ?_ | refine blk_alloc ?_ _)); exact BK266.out)) : gb280 ≠ gb266)); clear HO_7; clear HO_40; clear HO279; clear BK257; clear BK266; clear HB; have HO_7 := n0_; have HO_40 := n1_; have HO279 := n2_; have BK257 := n3_; have BK266 := n4_; have HB := n5_; have BK280 := n6_; have GW280 := n7_; have GE280 := n8_; have NB257_280 := n9_; have NB280_257 := n10_; have NB266_280 := n11_; have NB280_266 := n12_; clear n0_ n1_ n2_ n3_ n4_ n5_ n6_ n7_ n8_ n9_ n10_ n11_ n12_; clear hb hbox hg; have hnb58 := NB280_257.out; have hnc58 := NB257_280.out; have hnb59 := NB280_266.out; have hnc59 := NB266_280.out; have hcz60_0 : w57.cell? ⟨gb280, 0, none⟩ = some (.int .i64 0) := (blk_cell BK280.out 0).trans rfl; have hcz60_1 : w57.cell? ⟨gb280, 1, none⟩ = some (.int .i64 0) := (blk_cell BK280.out 1).trans rfl; have hcz60_2 : w57.cell? ⟨gb280, 2, none⟩ = some (.int .i64 0) := (blk_cell BK280.out 2).trans rfl; have hfz60_0 := blk_frozen BK280.out 0; have hfz60_1 := blk_frozen BK280.out 1; have hfz60_2 := blk_frozen BK280.out 2) | ((with_reducible refine gate_dst (N := 102) rfl ?_); (try (refine gate_guard (by rfl) ?_; dsimp only)); refine Kd.R_lit (Kd.int .i32) _ 21 ?hg (N := 102) ?hd (xs := ([65533, wrap32 (Go.bits .and .u8 a1 127)] : List Int)) (inner := [.int .i32 65533, .int .i32 (wrap32 (Go.bits .and .u8 a1 127))]) (ok := fun _ => True) (okp := fun _ => True) ?hr ?hp (fun _ hk => hk) trivial (Below.refl _ _) (Nat.le_refl _) (by simp) ?_; (case hd => rfl); (case hg => rfl); (case hr => first | (go_simp; done) | (go_simp; rfl)); (case hp => exact (Reps.one (show Kd.M (Kd.int .i32) _ _ _ 65533 [.int .i32 65533] from rfl) (Reps.one (show Kd.M (Kd.int .i32) _ _ _ (wrap32 (Go.bits .and .u8 a1 127)) [.int .i32 (wrap32 (Go.bits .and .u8 a1 127))] from rfl) (Reps.none _ _)))); intro v282 w61 ho62 hb hg_ hnew_; clear hg_ hnew_; (first | rw [← Ny281.out] at ho62 | (simp only [Int.reduceToNat] at ho62; rw [← Ny281.out] at ho62)); have n0_ := Aside0.mk (Kd.R_below (by (with_reducible repeat (first | apply Kd.R_alloc | apply Kd.R_drewN | apply Kd.R_drew)); exact (Kd.R_mono (Kd.R_far (p := ⟨gb280, 2, none⟩) (Kd.R_far (p := ⟨gb280, 1, none⟩) (Kd.R_far (p := ⟨gb280, 0, none⟩) (Kd.R_types HO_7.out BK280.out (by decide)) (fun _ hk => hk.2) (.int .i64 t274)) (fun _ hk => hk.2) (.int .i64 t275)) (fun _ hk => hk.2) (.int .i64 t276)) (fun _ h_ => h_.1))) hb); have n1_ := Aside0.mk (Kd.R_below (by (with_reducible repeat (first | apply Kd.R_alloc | apply Kd.R_drewN | apply Kd.R_drew)); exact (Kd.R_mono (Kd.R_far (p := ⟨gb280, 2, none⟩) (Kd.R_far (p := ⟨gb280, 1, none⟩) (Kd.R_far (p := ⟨gb280, 0, none⟩) (Kd.R_types HO_40.out BK280.out (by decide)) (fun _ hk => hk.2) (.int .i64 t274)) (fun _ hk => hk.2) (.int .i64 t275)) (fun _ hk => hk.2) (.int .i64 t276)) (fun _ h_ => h_.1))) hb); have n2_ := Aside0.mk (Kd.R_elder' (by (with_reducible repeat (first | apply Kd.R_alloc | apply Kd.R_drewN | apply Kd.R_drew)); exact (Kd.R_mono (Kd.R_far (p := ⟨gb280, 2, none⟩) (Kd.R_far (p := ⟨gb280, 1, none⟩) (Kd.R_far (p := ⟨gb280, 0, none⟩) (Kd.R_types HO279.out BK280.out (by decide)) (fun _ hk => hk.2) (.int .i64 t274)) (fun _ hk => hk.2) (.int .i64 t275)) (fun _ hk => hk.2) (.int .i64 t276)) (fun _ h_ => h_.1))) (Kd.R_base ho62) hb); have n3_ := Aside0.mk (Kd.R_lower (Kd.R_new' ho62 (Kd.R_lt (by (with_reducible repeat (first | apply Kd.R_alloc | apply Kd.R_drewN | apply Kd.R_drew)); exact (Kd.R_mono (Kd.R_far (p := ⟨gb280, 2, none⟩) (Kd.R_far (p := ⟨gb280, 1, none⟩) (Kd.R_far (p := ⟨gb280, 0, none⟩) (Kd.R_types HO279.out BK280.out (by decide)) (fun _ hk => hk.2) (.int .i64 t274)) (fun _ hk => hk.2) (.int .i64 t275)) (fun _ hk => hk.2) (.int .i64 t276)) (fun _ h_ => h_.1))))) (below_size (by repeat (first | (with_reducible first | exact HB.out | apply below_alloc | apply pw_below_drewN | apply below_drew1 | refine below_set ?_ GE257.out | refine below_set ?_ GE266.out | refine below_set ?_ GE280.out) | exact HB.out)))); have n4_ := Aside0.mk (blk_below (g := gb257) (o := .cells #[.int .i64 x258000_3, .int .i64 x258001_3, .int .i64 x258002_3] 24 (0, 0)) (by (with_reducible repeat (first | refine blk_drewN ?_ _ | refine blk_drew ?_ | refine blk_alloc ?_ _)); refine blk_far ?_ NB257_280.out _; (with_reducible repeat (first | refine blk_drewN ?_ _ | refine blk_drew ?_ | refine blk_alloc ?_ _)); refine blk_far ?_ NB257_280.out _; (with_reducible repeat (first | refine blk_drewN ?_ _ | refine blk_drew ?_ | refine blk_alloc ?_ _)); refine blk_far ?_ NB257_280.out _; (with_reducible repeat (first | refine blk_drewN ?_ _ | refine blk_drew ?_ | refine blk_alloc ?_ _)); exact BK257.out) hb); have n5_ := Aside0.mk (blk_below (g := gb266) (o := .cells #[.int .i64 t260, .int .i64 t261, .int .i64 t262] 24 (0, 0)) (by (with_reducible repeat (first | refine blk_drewN ?_ _ | refine blk_drew ?_ | refine blk_alloc ?_ _)); refine blk_far ?_ NB266_280.out _; (with_reducible repeat (first | refine blk_drewN ?_ _ | refine blk_drew ?_ | refine blk_alloc ?_ _)); refine blk_far ?_ NB266_280.out _; (with_reducible repeat (first | refine blk_drewN ?_ _ | refine blk_drew ?_ | refine blk_alloc ?_ _)); refine blk_far ?_ NB266_280.out _; (with_reducible repeat (first | refine blk_drewN ?_ _ | refine blk_drew ?_ | refine blk_alloc ?_ _)); exact BK266.out) hb); have n6_ := Aside0.mk (blk_below (g := gb280) (o := .cells #[.int .i64 t274, .int .i64 t275, .int .i64 t276] 24 (0, 0)) (by (with_reducible repeat (first | refine blk_drewN ?_ _ | refine blk_drew ?_ | refine blk_alloc ?_ _)); refine blk_put (cs := #[.int .i64 t274, .int .i64 t275, .int .i64 0]) ?_ 2 _ rfl; (with_reducible repeat (first | refine blk_drewN ?_ _ | refine blk_drew ?_ | refine blk_alloc ?_ _)); refine blk_put (cs := #[.int .i64 t274, .int .i64 0, .int .i64 0]) ?_ 1 _ rfl; (with_reducible repeat (first | refine blk_drewN ?_ _ | refine blk_drew ?_ | refine blk_alloc ?_ _)); refine blk_put (cs := #[.int .i64 0, .int .i64 0, .int .i64 0]) ?_ 0 _ rfl; (with_reducible repeat (first | refine blk_drewN ?_ _ | refine blk_drew ?_ | refine blk_alloc ?_ _)); exact BK280.out) hb); have n7_ := Aside0.mk (below_step (by repeat (first | (with_reducible first | exact HB.out | apply below_alloc | apply pw_below_drewN | apply below_drew1 | refine below_set ?_ GE257.out | refine below_set ?_ GE266.out | refine below_set ?_ GE280.out) | exact HB.out)) hb); clear HO_7; clear HO_40; clear HO279; clear BK257; clear BK266; clear BK280; clear HB; have HO_7 := n0_; have HO_40 := n1_; have HO279 := n2_; have HO283 := n3_; have BK257 := n4_; have BK266 := n5_; have BK280 := n6_; have HB := n7_; clear n0_ n1_ n2_ n3_ n4_ n5_ n6_ n7_; clear hb ho62; obtain ⟨Ao63, co63, eo63⟩ := Kd.R_slice HO279.out; subst eo63; obtain ⟨Ao64, co64, eo64⟩ := Kd.R_slice HO283.out; subst eo64) | ((with_reducible refine gate_callee (f := 10) rfl ?_); refine goesL_ (some 103) rfl rfl Try.func10 (by kernel_rfl) rfl #[.slice Ao63 t277.length co63, .slice Ao64 y281.length co64] rfl (by (try simp only [List.map_toArray, List.map_cons, List.map_nil]); first | done | rfl | (simp only [List.length_drop, List.length_take]; rfl) | (simp only [List.length_drop, List.length_take]; rw [Nat.min_eq_left (by first | assumption | omega)]; rfl)) ?_; (with_reducible refine (linguistbook_Same_rune.calls kj22 _ _ t277 _ _ y281 true _ ?side1 ?side2 ?side3 ?side4 A52.out).mono ?_); (case side1 => repeat (first | exact (Kd.R_reads' HO279.out).2.2 | (with_reducible refine Kd.C_alloc ?_ _) | (with_reducible refine Kd.C_drewN ?_ _) | (with_reducible refine Kd.C_drew ?_))); (case side2 => exact (Kd.R_reads' HO279.out).2.1); (case side3 => repeat (first | exact (Kd.R_reads' HO283.out).2.2 | (with_reducible refine Kd.C_alloc ?_ _) | (with_reducible refine Kd.C_drewN ?_ _) | (with_reducible refine Kd.C_drew ?_))); (case side4 => exact (Kd.R_reads' HO283.out).2.1); rintro e w' ⟨rfl, ⟨nd, rfl⟩⟩; refine ⟨_, rfl, ?_⟩; (try (rw [drewN_self w61]; generalize hq_ : World.drewN w61 _ = w61; have n0_ : Aside0 (Kd.R (Kd.int .i32) 21 w61 w.heap.size (fun k_ => some k_ ≠ (.slice Ao64 y281.length co64 : Value).ownBlock) (.slice Ao63 t277.length co63) t277) := ⟨by rw [← hq_]; exact (by (with_reducible repeat (first | apply Kd.R_alloc | apply Kd.R_drewN | apply Kd.R_drew)); exact Kd.R_mono HO279.out (fun _ hk => hk.2))⟩; have n1_ : Aside0 (Kd.R (Kd.int .i32) 21 w61 w.heap.size (fun k_ => some k_ ≠ (.slice Ao63 t277.length co63 : Value).ownBlock) (.slice Ao64 y281.length co64) y281) := ⟨by rw [← hq_]; exact (by (with_reducible repeat (first | apply Kd.R_alloc | apply Kd.R_drewN | apply Kd.R_drew)); exact Kd.R_mono HO283.out (fun _ hk => hk.2))⟩; have n2_ : Aside0 (Kd.R (Kd.int .u8) 5 w61 w.heap.size (fun _ => True) (.slice (some ad259) t254.length co16) t254) := ⟨by rw [← hq_]; exact (by (with_reducible repeat (first | apply Kd.R_alloc | apply Kd.R_drewN | apply Kd.R_drew)); exact HO_40.out)⟩; have n3_ : Aside0 (Kd.R (Kd.int .u8) 5 w61 w.heap.size (fun _ => True) (.slice (some ad259) t254.length co16) t254) := ⟨by rw [← hq_]; exact (by (with_reducible repeat (first | apply Kd.R_alloc | apply Kd.R_drewN | apply Kd.R_drew)); exact HO_7.out)⟩; have n4_ : Aside0 (w61.heap[gb257]? = some (.cells #[.int .i64 x258000_3, .int .i64 x258001_3, .int .i64 x258002_3] 24 (0, 0))) := ⟨by rw [← hq_]; exact (by (with_reducible repeat (first | refine blk_drewN ?_ _ | refine blk_drew ?_ | refine blk_alloc ?_ _)); exact BK257.out)⟩; have n5_ : Aside0 (w61.heap[gb266]? = some (.cells #[.int .i64 t260, .int .i64 t261, .int .i64 t262] 24 (0, 0))) := ⟨by rw [← hq_]; exact (by (with_reducible repeat (first | refine blk_drewN ?_ _ | refine blk_drew ?_ | refine blk_alloc ?_ _)); exact BK266.out)⟩; have n6_ : Aside0 (w61.heap[gb280]? = some (.cells #[.int .i64 t274, .int .i64 t275, .int .i64 t276] 24 (0, 0))) := ⟨by rw [← hq_]; exact (by (with_reducible repeat (first | refine blk_drewN ?_ _ | refine blk_drew ?_ | refine blk_alloc ?_ _)); exact BK280.out)⟩; have n7_ : Aside0 (Below w.heap.size w w61) := ⟨by rw [← hq_]; exact (by repeat (first | (with_reducible first | exact HB.out | apply below_alloc | apply pw_below_drewN | apply below_drew1 | refine below_set ?_ GE257.out | refine below_set ?_ GE266.out | refine below_set ?_ GE280.out) | exact HB.out))⟩; clear HO279 HO283 HO_40 HO_7 BK257 BK266 BK280 HB hq_; have HO279 := n0_; have HO283 := n1_; have HO_40 := n2_; have HO_7 := n3_; have BK257 := n4_; have BK266 := n5_; have BK280 := n6_; have HB := n7_; clear n0_ n1_ n2_ n3_ n4_ n5_ n6_ n7_)); have hcz65_0 : w61.cell? ⟨gb266, 0, none⟩ = some (.int .i64 t260) := (blk_cell BK266.out 0).trans rfl; have hcz65_1 : w61.cell? ⟨gb266, 1, none⟩ = some (.int .i64 t261) := (blk_cell BK266.out 1).trans rfl; have hcz65_2 : w61.cell? ⟨gb266, 2, none⟩ = some (.int .i64 t262) := (blk_cell BK266.out 2).trans rfl; have hfz65_0 := blk_frozen BK266.out 0; have hfz65_1 := blk_frozen BK266.out 1; have hfz65_2 := blk_frozen BK266.out 2; have hcz66_0 : w61.cell? ⟨gb257, 0, none⟩ = some (.int .i64 x258000_3) := (blk_cell BK257.out 0).trans rfl; have hcz66_1 : w61.cell? ⟨gb257, 1, none⟩ = some (.int .i64 x258001_3) := (blk_cell BK257.out 1).trans rfl; have hcz66_2 : w61.cell? ⟨gb257, 2, none⟩ = some (.int .i64 x258002_3) := (blk_cell BK257.out 2).trans rfl; have hfz66_0 := blk_frozen BK257.out 0; have hfz66_1 := blk_frozen BK257.out 1; have hfz66_2 := blk_frozen BK257.out 2))
                                go_roundg kj22
                                case measure => have := HJ3.out; have := HJ7.out; have := HK3.out; have := HJ22.out; omega
                                case rel => exact ⟨(wrap64 (x42_3 + 1)), (t260), (t261), (t262), (by first | rfl | (simp; done) | (simp [*]; done)), H', ⟨by have := HJ3.out; have := HJ7.out; have := HK3.out; have := HJ22.out; omega⟩, ⟨by (with_reducible repeat (first | apply Kd.R_alloc | apply Kd.R_drewN | apply Kd.R_drew)); exact Kd.R_mono (Kd.R_far (p := ⟨gb257, 2, none⟩) (Kd.R_far (p := ⟨gb257, 1, none⟩) (Kd.R_far (p := ⟨gb257, 0, none⟩) (Kd.R_types HO_7.out BK257.out (by decide)) (fun _ hk => hk.2) (.int .i64 t260)) (fun _ hk => hk.2) (.int .i64 t261)) (fun _ hk => hk.2) (.int .i64 t262)) (fun _ hk => trivial)⟩, ⟨by (with_reducible repeat (first | apply Kd.R_alloc | apply Kd.R_drewN | apply Kd.R_drew)); exact Kd.R_mono (Kd.R_far (p := ⟨gb257, 2, none⟩) (Kd.R_far (p := ⟨gb257, 1, none⟩) (Kd.R_far (p := ⟨gb257, 0, none⟩) (Kd.R_types HO_40.out BK257.out (by decide)) (fun _ hk => hk.2) (.int .i64 t260)) (fun _ hk => hk.2) (.int .i64 t261)) (fun _ hk => hk.2) (.int .i64 t262)) (fun _ hk => trivial)⟩, ⟨by (with_reducible repeat (first | refine blk_drewN ?_ _ | refine blk_drew ?_ | refine blk_alloc ?_ _)); refine blk_put (cs := #[.int .i64 t260, .int .i64 t261, .int .i64 x258002_3]) ?_ 2 _ rfl; (with_reducible repeat (first | refine blk_drewN ?_ _ | refine blk_drew ?_ | refine blk_alloc ?_ _)); refine blk_put (cs := #[.int .i64 t260, .int .i64 x258001_3, .int .i64 x258002_3]) ?_ 1 _ rfl; (with_reducible repeat (first | refine blk_drewN ?_ _ | refine blk_drew ?_ | refine blk_alloc ?_ _)); refine blk_put (cs := #[.int .i64 x258000_3, .int .i64 x258001_3, .int .i64 x258002_3]) ?_ 0 _ rfl; (with_reducible repeat (first | refine blk_drewN ?_ _ | refine blk_drew ?_ | refine blk_alloc ?_ _)); exact BK257.out⟩, ⟨by repeat (first | (with_reducible first | exact HB.out | apply below_alloc | apply pw_below_drewN | apply below_drew1 | refine below_set ?_ GE257.out | refine below_set ?_ GE266.out | refine below_set ?_ GE280.out) | exact HB.out)⟩⟩
                              · replace c53 := Bool.eq_false_iff.mpr c53
                                subst c53
                                have H1 : (none) = some r := by rw [if_neg (show ¬ (false = true) by decide)] at H; exact H
                                clear H
                                have H := H1
                                clear H1
                                exact absurd H (by simp)
                            · rw [if_neg c50] at H
                              have c50b0 : decide (x42_3 < (wrap64 ((t254.length : Int) - 1))) = false := decide_eq_false c50
                              clear c50
                              have H' := Aside0.mk H
                              clear H
                              have hnb67 := NB266_257.out
                              have hnc67 := NB257_266.out
                              have hcz68_0 : wc.cell? ⟨gb266, 0, none⟩ = some (.int .i64 t260) := (blk_cell BK266.out 0).trans rfl
                              have hcz68_1 : wc.cell? ⟨gb266, 1, none⟩ = some (.int .i64 t261) := (blk_cell BK266.out 1).trans rfl
                              have hcz68_2 : wc.cell? ⟨gb266, 2, none⟩ = some (.int .i64 t262) := (blk_cell BK266.out 2).trans rfl
                              have hfz68_0 := blk_frozen BK266.out 0
                              have hfz68_1 := blk_frozen BK266.out 1
                              have hfz68_2 := blk_frozen BK266.out 2
                              have hcz69_0 : wc.cell? ⟨gb257, 0, none⟩ = some (.int .i64 x258000_3) := (blk_cell BK257.out 0).trans rfl
                              have hcz69_1 : wc.cell? ⟨gb257, 1, none⟩ = some (.int .i64 x258001_3) := (blk_cell BK257.out 1).trans rfl
                              have hcz69_2 : wc.cell? ⟨gb257, 2, none⟩ = some (.int .i64 x258002_3) := (blk_cell BK257.out 2).trans rfl
                              have hfz69_0 := blk_frozen BK257.out 0
                              have hfz69_1 := blk_frozen BK257.out 1
                              have hfz69_2 := blk_frozen BK257.out 2
                              go_wp2
                              go_roundg kj22
                              case measure => have := HJ3.out; have := HJ7.out; have := HK3.out; have := HJ22.out; omega
                              case rel => exact ⟨(wrap64 (x42_3 + 1)), (t260), (t261), (t262), (by first | rfl | (simp; done) | (simp [*]; done)), H', ⟨by have := HJ3.out; have := HJ7.out; have := HK3.out; have := HJ22.out; omega⟩, ⟨by (with_reducible repeat (first | apply Kd.R_alloc | apply Kd.R_drewN | apply Kd.R_drew)); exact Kd.R_mono (Kd.R_far (p := ⟨gb257, 2, none⟩) (Kd.R_far (p := ⟨gb257, 1, none⟩) (Kd.R_far (p := ⟨gb257, 0, none⟩) (Kd.R_types HO_7.out BK257.out (by decide)) (fun _ hk => hk.2) (.int .i64 t260)) (fun _ hk => hk.2) (.int .i64 t261)) (fun _ hk => hk.2) (.int .i64 t262)) (fun _ hk => trivial)⟩, ⟨by (with_reducible repeat (first | apply Kd.R_alloc | apply Kd.R_drewN | apply Kd.R_drew)); exact Kd.R_mono (Kd.R_far (p := ⟨gb257, 2, none⟩) (Kd.R_far (p := ⟨gb257, 1, none⟩) (Kd.R_far (p := ⟨gb257, 0, none⟩) (Kd.R_types HO_40.out BK257.out (by decide)) (fun _ hk => hk.2) (.int .i64 t260)) (fun _ hk => hk.2) (.int .i64 t261)) (fun _ hk => hk.2) (.int .i64 t262)) (fun _ hk => trivial)⟩, ⟨by (with_reducible repeat (first | refine blk_drewN ?_ _ | refine blk_drew ?_ | refine blk_alloc ?_ _)); refine blk_put (cs := #[.int .i64 t260, .int .i64 t261, .int .i64 x258002_3]) ?_ 2 _ rfl; (with_reducible repeat (first | refine blk_drewN ?_ _ | refine blk_drew ?_ | refine blk_alloc ?_ _)); refine blk_put (cs := #[.int .i64 t260, .int .i64 x258001_3, .int .i64 x258002_3]) ?_ 1 _ rfl; (with_reducible repeat (first | refine blk_drewN ?_ _ | refine blk_drew ?_ | refine blk_alloc ?_ _)); refine blk_put (cs := #[.int .i64 x258000_3, .int .i64 x258001_3, .int .i64 x258002_3]) ?_ 0 _ rfl; (with_reducible repeat (first | refine blk_drewN ?_ _ | refine blk_drew ?_ | refine blk_alloc ?_ _)); exact BK257.out⟩, ⟨by repeat (first | (with_reducible first | exact HB.out | apply below_alloc | apply pw_below_drewN | apply below_drew1 | refine below_set ?_ GE257.out | refine below_set ?_ GE266.out) | exact HB.out)⟩⟩
                    · rw [if_neg c21] at H
                      exact absurd H (by simp)
                  · rw [if_neg c20] at H
                    exact absurd H (by simp)
                · rw [if_neg c19] at H
                  have c19b0 : decide (x42_3 < (t254.length : Int)) = false := decide_eq_false c19
                  clear c19
                  replace H := Option.bind_eq_some_iff.mp H
                  obtain ⟨t258, A700, H⟩ := H
                  replace H : (some t258) = some r := H
                  have A70 := Aside0.mk A700
                  clear A700
                  obtain rfl := Option.some.inj H
                  go_wp2_with (first | ((with_reducible refine gate_callee (f := 3) rfl ?_); refine goesL_ (some 107) rfl rfl Try.func3 (by kernel_rfl) rfl #[] rfl (by (try simp only [List.map_toArray, List.map_cons, List.map_nil]); first | done | rfl | (simp only [List.length_drop, List.length_take]; rfl) | (simp only [List.length_drop, List.length_take]; rw [Nat.min_eq_left (by first | assumption | omega)]; rfl)) ?_; (with_reducible refine (linguistlaw1_UtfRuns.calls k3  t258 _ A70.out).mono ?_); rintro e w71 ⟨rfl, hb⟩; refine ⟨_, rfl, ?_⟩; have n0_ := Aside0.mk (Kd.R_below (by (with_reducible repeat (first | apply Kd.R_alloc | apply Kd.R_drewN | apply Kd.R_drew)); exact HO_7.out) hb); have n1_ := Aside0.mk (Kd.R_below (by (with_reducible repeat (first | apply Kd.R_alloc | apply Kd.R_drewN | apply Kd.R_drew)); exact HO_40.out) hb); have n2_ := Aside0.mk (blk_below (g := gb257) (o := .cells #[.int .i64 x258000_3, .int .i64 x258001_3, .int .i64 x258002_3] 24 (0, 0)) (by (with_reducible repeat (first | refine blk_drewN ?_ _ | refine blk_drew ?_ | refine blk_alloc ?_ _)); exact BK257.out) hb); have n3_ := Aside0.mk (below_step (by repeat (first | (with_reducible first | exact HB.out | apply below_alloc | apply pw_below_drewN | apply below_drew1 | refine below_set ?_ GE257.out) | exact HB.out)) hb); clear HO_7; clear HO_40; clear BK257; clear HB; have HO_7 := n0_; have HO_40 := n1_; have BK257 := n2_; have HB := n3_; clear n0_ n1_ n2_ n3_; (try clear hb); (try clear hb2); (try clear hk); (try clear hi)))
                  go_ret
                  exact ⟨by first | rfl | (simp [errW_none, errW_some] <;> rfl) | (simp [*, errW_none, errW_some] <;> rfl), by repeat (first | (with_reducible first | exact HB.out | apply below_alloc | apply pw_below_drewN | apply below_drew1 | refine below_set ?_ GE257.out) | exact HB.out)⟩
          · rw [if_neg c15] at H
            exact absurd H (by simp)

/-- THE ONE PURE STATEMENT of linguistlaw1_UtfWide. -/
def linguistlaw1_UtfWide.Pure : Prop := ∀ (a0 : Int) (a1 : Int), (Lit.int .i64 a0).wf = true → (Lit.int .u8 a1).wf = true → ∃ k, linguistlaw1_UtfWide.f k a0 a1 = some true
theorem linguistlaw1_UtfWide.walk (P : linguistlaw1_UtfWide.Pure) (a0 : Int) (a1 : Int) (w : World) (w0 : (Lit.int .i64 a0).wf = true) (w1 : (Lit.int .u8 a1).wf = true)  :
    Calls Try.prog 7 #[.int .i64 a0, .int .u8 a1] w fun e w' => e = .returned (.bool true) ∧ Below w.heap.size w w' := by
  obtain ⟨k, h⟩ := P a0 a1 w0 w1
  refine (linguistlaw1_UtfWide.calls k a0 a1 true w  h).mono ?_
  rintro e w' ⟨rfl, hd⟩
  exact ⟨rfl, hd⟩

end Go.Proofs.Ytnammlamdhpnpaa.GUtfWide
