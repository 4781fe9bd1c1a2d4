-- Written by a program of this session (out of the kit's printer); Lean checks it.
import Derived.Test.YtnammlamdhpnpaaGUtfTellsx0
import Derived.Test.YtnammlamdhpnpaaGUtfTellsx3
namespace Go.Proofs.Ytnammlamdhpnpaa.GUtfTells
open Go.RowKit Go.Proofs.YtnammlamdhpnpaaW.PrintWords Go.Proofs.YtnammlamdhpnpaaW.PrintLast Go.Proofs.YtnammlamdhpnpaaW.PrintMore
attribute [local go_sem] max2_int min2_int max_two min_two max_three min_three max_four min_four   -- for this text's walks alone
set_option linter.unusedVariables false
set_option linter.unusedSimpArgs false

/-! ### linguistref1_Encode: function 15 -/
mutual
def linguistref1_Encode.j0 : Nat → Int → Bool → Option (List Int)
  | 0, _, _ => none
  | k + 1, x3, x6 => if x6 = true then ((linguistref1_Encode.f k 65533).bind fun t283 => (some t283)) else (if x3 < 128 then (some (([(x3) % 256] : List Int))) else (if x3 < 2048 then (some (([(Go.bits .or .i64 192 (x3 / 64)) % 256, (Go.bits .or .i64 128 (Go.bits .and .i64 x3 63)) % 256] : List Int))) else (if x3 < 65536 then (some (([(Go.bits .or .i64 224 (x3 / 4096)) % 256, (Go.bits .or .i64 128 (Go.bits .and .i64 (x3 / 64) 63)) % 256, (Go.bits .or .i64 128 (Go.bits .and .i64 x3 63)) % 256] : List Int))) else (some (([(Go.bits .or .i64 240 (x3 / 262144)) % 256, (Go.bits .or .i64 128 (Go.bits .and .i64 (x3 / 4096) 63)) % 256, (Go.bits .or .i64 128 (Go.bits .and .i64 (x3 / 64) 63)) % 256, (Go.bits .or .i64 128 (Go.bits .and .i64 x3 63)) % 256] : List Int))))))
def linguistref1_Encode.f : Nat → Int → Option (List Int)
  | 0, _ => none
  | k + 1, a0 => if (wrap64 (a0)) < 0 then (linguistref1_Encode.j0 k (wrap64 (a0)) true) else (if (wrap64 (a0)) > 1114111 then (linguistref1_Encode.j0 k (wrap64 (a0)) true) else (if (wrap64 (a0)) ≥ 55296 then (linguistref1_Encode.j0 k (wrap64 (a0)) (decide ((wrap64 (a0)) ≤ 57343))) else (linguistref1_Encode.j0 k (wrap64 (a0)) false)))
end
theorem linguistref1_Encode.mono_l : ∀ k, (∀ y0, LeO (linguistref1_Encode.f k y0) (linguistref1_Encode.f (k + 1) y0)) ∧ (∀ y0 y1, LeO (linguistref1_Encode.j0 k y0 y1) (linguistref1_Encode.j0 (k + 1) y0 y1))
  | 0 => ⟨fun _ r h => by simp [linguistref1_Encode.f] at h, fun _ _ r h => by simp [linguistref1_Encode.j0] at h⟩
  | k + 1 => by
    obtain ⟨ih0, ih1⟩ := linguistref1_Encode.mono_l k
    refine ⟨?_, ?_⟩
    · intro y0
      unfold linguistref1_Encode.f
      repeat' first
      | (with_reducible exact ih0 _)
      | (with_reducible exact ih1 _ _)
      | (with_reducible exact LeO.refl _)
      | (with_reducible exact LeO.none _)
      | (with_reducible refine LeO.ite ?_ ?_)
      | (with_reducible refine LeO.bind ?_ (fun _ => ?_))
      | exact ih0 _
      | exact ih1 _ _
      | exact LeO.none _
      | refine LeO.ite ?_ ?_
      | refine LeO.bind ?_ (fun _ => ?_)
    · intro y0 y1
      unfold linguistref1_Encode.j0
      repeat' first
      | (with_reducible exact ih0 _)
      | (with_reducible exact ih1 _ _)
      | (with_reducible exact LeO.refl _)
      | (with_reducible exact LeO.none _)
      | (with_reducible refine LeO.ite ?_ ?_)
      | (with_reducible refine LeO.bind ?_ (fun _ => ?_))
      | exact ih0 _
      | exact ih1 _ _
      | exact LeO.none _
      | refine LeO.ite ?_ ?_
      | refine LeO.bind ?_ (fun _ => ?_)
theorem linguistref1_Encode.mono : ∀ a0 k, LeO (linguistref1_Encode.f k a0) (linguistref1_Encode.f (k + 1) a0) := by
  intro a0 k
  obtain ⟨ih0, ih1⟩ := linguistref1_Encode.mono_l k
  exact ih0 a0
set_option maxHeartbeats 8000000 in
set_option maxRecDepth 100000 in
theorem linguistref1_Encode.calls (k : Nat) : ∀ (a0 : Int) (r : List Int) (w : World) (h : linguistref1_Encode.f k a0 = some r),
    Calls Try.prog 15 #[.int .i32 a0] w fun e w' => ∃ v0_ : Value, e = .returned (v0_) ∧ Kd.R (Kd.int .u8) 5 w' w.heap.size (fun _ => True) v0_ r ∧ Below w.heap.size w w' := by
  induction k using Nat.strongRecOn with
  | _ k ih =>
  intro a0 r w h
  cases k with
  | zero => exact absurd h (by simp [linguistref1_Encode.f])
  | succ k =>
  simp only [linguistref1_Encode.f] at h
  have HB := Aside0.mk (Below.refl w.heap.size w)
  have H : (if (wrap64 (a0)) < 0 then (linguistref1_Encode.j0 k (wrap64 (a0)) true) else (if (wrap64 (a0)) > 1114111 then (linguistref1_Encode.j0 k (wrap64 (a0)) true) else (if (wrap64 (a0)) ≥ 55296 then (linguistref1_Encode.j0 k (wrap64 (a0)) (decide ((wrap64 (a0)) ≤ 57343))) else (linguistref1_Encode.j0 k (wrap64 (a0)) false)))) = some r := h
  clear h
  have HC2 := Aside0.mk H
  clear H
  go_enter Try.func15, Try.ntmps15
  go_upto_region 2 with (fail)
  go_cut [6] (fun v6 wc => ∃ (kq : Nat) (x6_1 : Bool), v6 = .bool x6_1 ∧ Aside0 (linguistref1_Encode.j0 kq (wrap64 (a0)) x6_1 = some r) ∧ Aside0 (kq ≤ k) ∧ Aside0 (Below w.heap.size w wc))
  case first =>
    have H := HC2.out
    clear HC2
    by_cases c3 : (wrap64 (a0)) < 0
    · rw [if_pos c3] at H
      have c3b0 : decide ((wrap64 (a0)) < 0) = true := decide_eq_true c3
      clear c3
      (first | rw [c3b0] | (simp only [i64_w, i32_w]; rw [c3b0]) | skip)
      have H' := Aside0.mk H
      clear H
      go_wp2
      go_meet
      case rel => exact ⟨_, (true), (by first | rfl | (simp; done) | (simp [*]; done)), H', ⟨by first | omega | exact Nat.le_refl _⟩, ⟨by repeat (first | (with_reducible first | exact HB.out | apply below_alloc | apply pw_below_drewN | apply below_drew1) | exact HB.out)⟩⟩
    · rw [if_neg c3] at H
      have c3b0 : decide ((wrap64 (a0)) < 0) = false := decide_eq_false c3
      clear c3
      (first | rw [c3b0] | (simp only [i64_w, i32_w]; rw [c3b0]) | skip)
      by_cases c4 : (wrap64 (a0)) > 1114111
      · rw [if_pos c4] at H
        have c4b0 : decide (1114111 < (wrap64 (a0))) = true := decide_eq_true c4
        clear c4
        have H' := Aside0.mk H
        clear H
        go_wp2
        go_meet
        case rel => exact ⟨_, (true), (by first | rfl | (simp; done) | (simp [*]; done)), H', ⟨by first | omega | exact Nat.le_refl _⟩, ⟨by repeat (first | (with_reducible first | exact HB.out | apply below_alloc | apply pw_below_drewN | apply below_drew1) | exact HB.out)⟩⟩
      · rw [if_neg c4] at H
        have c4b0 : decide (1114111 < (wrap64 (a0))) = false := decide_eq_false c4
        clear c4
        by_cases c5 : (wrap64 (a0)) ≥ 55296
        · rw [if_pos c5] at H
          have c5b0 : decide (55296 ≤ (wrap64 (a0))) = true := decide_eq_true c5
          clear c5
          have H' := Aside0.mk H
          clear H
          go_wp2
          go_meet
          case rel => exact ⟨_, (decide ((wrap64 (a0)) ≤ 57343)), (by first | rfl | (simp; done) | (simp [*]; done)), H', ⟨by first | omega | exact Nat.le_refl _⟩, ⟨by repeat (first | (with_reducible first | exact HB.out | apply below_alloc | apply pw_below_drewN | apply below_drew1) | exact HB.out)⟩⟩
        · rw [if_neg c5] at H
          have c5b0 : decide (55296 ≤ (wrap64 (a0))) = false := decide_eq_false c5
          clear c5
          have H' := Aside0.mk H
          clear H
          go_wp2
          go_meet
          case rel => exact ⟨_, (false), (by first | rfl | (simp; done) | (simp [*]; done)), H', ⟨by first | omega | exact Nat.le_refl _⟩, ⟨by repeat (first | (with_reducible first | exact HB.out | apply below_alloc | apply pw_below_drewN | apply below_drew1) | exact HB.out)⟩⟩
  case rest =>
    clear HC2
    try clear c1
    try clear p2
    try clear c3
    try clear c3b0
    try clear c4
    try clear c4b0
    try clear c5
    try clear c5b0
    obtain ⟨kq, x6_1, rfl, HA, HJ1, HB⟩ := hcut
    cases kq with
    | zero => exact absurd HA.out (by simp [linguistref1_Encode.j0])
    | succ kj1 =>
      have H := HA.out
      clear HA
      simp only [linguistref1_Encode.j0] at H
      by_cases c6 : x6_1 = true
      · subst c6
        have H1 : ((linguistref1_Encode.f kj1 65533).bind fun t283 => (some t283)) = some r := by rw [if_pos rfl] at H; exact H
        clear H
        have H := H1
        clear H1
        replace H := Option.bind_eq_some_iff.mp H
        obtain ⟨t283, A70, H⟩ := H
        replace H : (some t283) = some r := H
        have A7 := Aside0.mk A70
        clear A70
        obtain rfl := Option.some.inj H
        go_wp2_with (first | ((with_reducible refine gate_callee (f := 15) rfl ?_); refine goesL_ (some 21) rfl rfl Try.func15 (by kernel_rfl) rfl #[.int .i32 65533] rfl (by (try simp only [List.map_toArray, List.map_cons, List.map_nil]); first | done | rfl | (simp only [List.length_drop, List.length_take]; rfl) | (simp only [List.length_drop, List.length_take]; rw [Nat.min_eq_left (by first | assumption | omega)]; rfl)) ?_; (with_reducible refine (ih kj1 (by have := HJ1.out; omega) 65533 t283 _ A7.out).mono ?_); rintro e w8 ⟨v284, rfl, ho0, hb⟩; refine ⟨_, rfl, ?_⟩; have n0_ := Aside0.mk (Kd.R_lower ho0 (below_size (by repeat (first | (with_reducible first | exact HB.out | apply below_alloc | apply pw_below_drewN | apply below_drew1) | exact HB.out)))); have n1_ := Aside0.mk (below_step (by repeat (first | (with_reducible first | exact HB.out | apply below_alloc | apply pw_below_drewN | apply below_drew1) | exact HB.out)) hb); clear HB; have HO285 := n0_; have HB := n1_; clear n0_ n1_; (try clear hb); (try clear hb2); (try clear hk); (try clear hi); (try clear ho0)))
        go_ret
        exact ⟨_, by first | rfl | (simp [errW_none, errW_some] <;> rfl) | (simp [*, errW_none, errW_some] <;> rfl), by (with_reducible repeat (first | apply Kd.R_alloc | apply Kd.R_drewN | apply Kd.R_drew)); exact HO285.out, by repeat (first | (with_reducible first | exact HB.out | apply below_alloc | apply pw_below_drewN | apply below_drew1) | exact HB.out)⟩
      · replace c6 := Bool.eq_false_iff.mpr c6
        subst c6
        have H1 : (if (wrap64 (a0)) < 128 then (some (([((wrap64 (a0))) % 256] : List Int))) else (if (wrap64 (a0)) < 2048 then (some (([(Go.bits .or .i64 192 ((wrap64 (a0)) / 64)) % 256, (Go.bits .or .i64 128 (Go.bits .and .i64 (wrap64 (a0)) 63)) % 256] : List Int))) else (if (wrap64 (a0)) < 65536 then (some (([(Go.bits .or .i64 224 ((wrap64 (a0)) / 4096)) % 256, (Go.bits .or .i64 128 (Go.bits .and .i64 ((wrap64 (a0)) / 64) 63)) % 256, (Go.bits .or .i64 128 (Go.bits .and .i64 (wrap64 (a0)) 63)) % 256] : List Int))) else (some (([(Go.bits .or .i64 240 ((wrap64 (a0)) / 262144)) % 256, (Go.bits .or .i64 128 (Go.bits .and .i64 ((wrap64 (a0)) / 4096) 63)) % 256, (Go.bits .or .i64 128 (Go.bits .and .i64 ((wrap64 (a0)) / 64) 63)) % 256, (Go.bits .or .i64 128 (Go.bits .and .i64 (wrap64 (a0)) 63)) % 256] : List Int)))))) = some r := by rw [if_neg (show ¬ (false = true) by decide)] at H; exact H
        clear H
        have H := H1
        clear H1
        by_cases c9 : (wrap64 (a0)) < 128
        · rw [if_pos c9] at H
          have c9b0 : decide ((wrap64 (a0)) < 128) = true := decide_eq_true c9
          clear c9
          obtain ⟨y286, hy286⟩ : ∃ y_ : List Int, y_ = (([((wrap64 (a0))) % 256] : List Int)) := ⟨_, rfl⟩
          replace H : (some y286) = some r := by first | (rw [hy286]; with_reducible exact H) | (have H2_ := (Option.bind_some _ _).symm.trans H; rw [hy286]; with_reducible exact H2_) | (have H2_ := (Option.bind_some _ _).symm.trans H; with_reducible exact H2_) | with_reducible exact H | (rw [hy286]; exact H) | exact H
          have Ny286 := Aside0.mk hy286
          clear hy286
          obtain rfl := Option.some.inj H
          go_wp2_with (first | ((with_reducible refine gate_dst (N := 27) rfl ?_); refine Kd.R_lit (Kd.int .u8) _ 5 ?hg (N := 27) ?hd (xs := ([((wrap64 (a0))) % 256] : List Int)) (inner := [.int .u8 (((wrap64 (a0))) % 256)]) (ok := fun _ => True) (okp := fun _ => True) ?hr ?hp (fun _ hk => hk) trivial (Below.refl _ _) (Nat.le_refl _) (by simp) ?_; (case hd => rfl); (case hg => rfl); (case hr => first | (go_simp; done) | (go_simp; rfl)); (case hp => exact (Reps.one (show Kd.M (Kd.int .u8) _ _ _ (((wrap64 (a0))) % 256) [.int .u8 (((wrap64 (a0))) % 256)] from rfl) (Reps.none _ _))); intro v287 w10 ho11 hb hg_ hnew_; clear hg_ hnew_; (first | rw [← Ny286.out] at ho11 | (simp only [Int.reduceToNat] at ho11; rw [← Ny286.out] at ho11)); have n0_ := Aside0.mk (Kd.R_lower ho11 (below_size (by repeat (first | (with_reducible first | exact HB.out | apply below_alloc | apply pw_below_drewN | apply below_drew1) | exact HB.out)))); have n1_ := Aside0.mk (below_step (by repeat (first | (with_reducible first | exact HB.out | apply below_alloc | apply pw_below_drewN | apply below_drew1) | exact HB.out)) hb); clear HB; have HO288 := n0_; have HB := n1_; clear n0_ n1_; clear hb ho11))
          go_ret
          exact ⟨_, by first | rfl | (simp [errW_none, errW_some] <;> rfl) | (simp [*, errW_none, errW_some] <;> rfl), by (with_reducible repeat (first | apply Kd.R_alloc | apply Kd.R_drewN | apply Kd.R_drew)); exact HO288.out, by repeat (first | (with_reducible first | exact HB.out | apply below_alloc | apply pw_below_drewN | apply below_drew1) | exact HB.out)⟩
        · rw [if_neg c9] at H
          have c9b0 : decide ((wrap64 (a0)) < 128) = false := decide_eq_false c9
          clear c9
          by_cases c12 : (wrap64 (a0)) < 2048
          · rw [if_pos c12] at H
            have c12b0 : decide ((wrap64 (a0)) < 2048) = true := decide_eq_true c12
            clear c12
            obtain ⟨y289, hy289⟩ : ∃ y_ : List Int, y_ = (([(Go.bits .or .i64 192 ((wrap64 (a0)) / 64)) % 256, (Go.bits .or .i64 128 (Go.bits .and .i64 (wrap64 (a0)) 63)) % 256] : List Int)) := ⟨_, rfl⟩
            replace H : (some y289) = some r := by first | (rw [hy289]; with_reducible exact H) | (have H2_ := (Option.bind_some _ _).symm.trans H; rw [hy289]; with_reducible exact H2_) | (have H2_ := (Option.bind_some _ _).symm.trans H; with_reducible exact H2_) | with_reducible exact H | (rw [hy289]; exact H) | exact H
            have Ny289 := Aside0.mk hy289
            clear hy289
            obtain rfl := Option.some.inj H
            go_wp2_with (first | ((with_reducible refine gate_dst (N := 39) rfl ?_); refine Kd.R_lit (Kd.int .u8) _ 5 ?hg (N := 39) ?hd (xs := ([(Go.bits .or .i64 192 ((wrap64 (a0)) / 64)) % 256, (Go.bits .or .i64 128 (Go.bits .and .i64 (wrap64 (a0)) 63)) % 256] : List Int)) (inner := [.int .u8 ((Go.bits .or .i64 192 ((wrap64 (a0)) / 64)) % 256), .int .u8 ((Go.bits .or .i64 128 (Go.bits .and .i64 (wrap64 (a0)) 63)) % 256)]) (ok := fun _ => True) (okp := fun _ => True) ?hr ?hp (fun _ hk => hk) trivial (Below.refl _ _) (Nat.le_refl _) (by simp) ?_; (case hd => rfl); (case hg => rfl); (case hr => first | (go_simp; done) | (go_simp; rfl)); (case hp => exact (Reps.one (show Kd.M (Kd.int .u8) _ _ _ ((Go.bits .or .i64 192 ((wrap64 (a0)) / 64)) % 256) [.int .u8 ((Go.bits .or .i64 192 ((wrap64 (a0)) / 64)) % 256)] from rfl) (Reps.one (show Kd.M (Kd.int .u8) _ _ _ ((Go.bits .or .i64 128 (Go.bits .and .i64 (wrap64 (a0)) 63)) % 256) [.int .u8 ((Go.bits .or .i64 128 (Go.bits .and .i64 (wrap64 (a0)) 63)) % 256)] from rfl) (Reps.none _ _)))); intro v290 w13 ho14 hb hg_ hnew_; clear hg_ hnew_; (first | rw [← Ny289.out] at ho14 | (simp only [Int.reduceToNat] at ho14; rw [← Ny289.out] at ho14)); have n0_ := Aside0.mk (Kd.R_lower ho14 (below_size (by repeat (first | (with_reducible first | exact HB.out | apply below_alloc | apply pw_below_drewN | apply below_drew1) | exact HB.out)))); have n1_ := Aside0.mk (below_step (by repeat (first | (with_reducible first | exact HB.out | apply below_alloc | apply pw_below_drewN | apply below_drew1) | exact HB.out)) hb); clear HB; have HO291 := n0_; have HB := n1_; clear n0_ n1_; clear hb ho14))
            go_ret
            exact ⟨_, by first | rfl | (simp [errW_none, errW_some] <;> rfl) | (simp [*, errW_none, errW_some] <;> rfl), by (with_reducible repeat (first | apply Kd.R_alloc | apply Kd.R_drewN | apply Kd.R_drew)); exact HO291.out, by repeat (first | (with_reducible first | exact HB.out | apply below_alloc | apply pw_below_drewN | apply below_drew1) | exact HB.out)⟩
          · rw [if_neg c12] at H
            have c12b0 : decide ((wrap64 (a0)) < 2048) = false := decide_eq_false c12
            clear c12
            by_cases c15 : (wrap64 (a0)) < 65536
            · rw [if_pos c15] at H
              have c15b0 : decide ((wrap64 (a0)) < 65536) = true := decide_eq_true c15
              clear c15
              obtain ⟨y292, hy292⟩ : ∃ y_ : List Int, y_ = (([(Go.bits .or .i64 224 ((wrap64 (a0)) / 4096)) % 256, (Go.bits .or .i64 128 (Go.bits .and .i64 ((wrap64 (a0)) / 64) 63)) % 256, (Go.bits .or .i64 128 (Go.bits .and .i64 (wrap64 (a0)) 63)) % 256] : List Int)) := ⟨_, rfl⟩
              replace H : (some y292) = some r := by first | (rw [hy292]; with_reducible exact H) | (have H2_ := (Option.bind_some _ _).symm.trans H; rw [hy292]; with_reducible exact H2_) | (have H2_ := (Option.bind_some _ _).symm.trans H; with_reducible exact H2_) | with_reducible exact H | (rw [hy292]; exact H) | exact H
              have Ny292 := Aside0.mk hy292
              clear hy292
              obtain rfl := Option.some.inj H
              go_wp2_with (first | ((with_reducible refine gate_dst (N := 56) rfl ?_); refine Kd.R_lit (Kd.int .u8) _ 5 ?hg (N := 56) ?hd (xs := ([(Go.bits .or .i64 224 ((wrap64 (a0)) / 4096)) % 256, (Go.bits .or .i64 128 (Go.bits .and .i64 ((wrap64 (a0)) / 64) 63)) % 256, (Go.bits .or .i64 128 (Go.bits .and .i64 (wrap64 (a0)) 63)) % 256] : List Int)) (inner := [.int .u8 ((Go.bits .or .i64 224 ((wrap64 (a0)) / 4096)) % 256), .int .u8 ((Go.bits .or .i64 128 (Go.bits .and .i64 ((wrap64 (a0)) / 64) 63)) % 256), .int .u8 ((Go.bits .or .i64 128 (Go.bits .and .i64 (wrap64 (a0)) 63)) % 256)]) (ok := fun _ => True) (okp := fun _ => True) ?hr ?hp (fun _ hk => hk) trivial (Below.refl _ _) (Nat.le_refl _) (by simp) ?_; (case hd => rfl); (case hg => rfl); (case hr => first | (go_simp; done) | (go_simp; rfl)); (case hp => exact (Reps.one (show Kd.M (Kd.int .u8) _ _ _ ((Go.bits .or .i64 224 ((wrap64 (a0)) / 4096)) % 256) [.int .u8 ((Go.bits .or .i64 224 ((wrap64 (a0)) / 4096)) % 256)] from rfl) (Reps.one (show Kd.M (Kd.int .u8) _ _ _ ((Go.bits .or .i64 128 (Go.bits .and .i64 ((wrap64 (a0)) / 64) 63)) % 256) [.int .u8 ((Go.bits .or .i64 128 (Go.bits .and .i64 ((wrap64 (a0)) / 64) 63)) % 256)] from rfl) (Reps.one (show Kd.M (Kd.int .u8) _ _ _ ((Go.bits .or .i64 128 (Go.bits .and .i64 (wrap64 (a0)) 63)) % 256) [.int .u8 ((Go.bits .or .i64 128 (Go.bits .and .i64 (wrap64 (a0)) 63)) % 256)] from rfl) (Reps.none _ _))))); intro v293 w16 ho17 hb hg_ hnew_; clear hg_ hnew_; (first | rw [← Ny292.out] at ho17 | (simp only [Int.reduceToNat] at ho17; rw [← Ny292.out] at ho17)); have n0_ := Aside0.mk (Kd.R_lower ho17 (below_size (by repeat (first | (with_reducible first | exact HB.out | apply below_alloc | apply pw_below_drewN | apply below_drew1) | exact HB.out)))); have n1_ := Aside0.mk (below_step (by repeat (first | (with_reducible first | exact HB.out | apply below_alloc | apply pw_below_drewN | apply below_drew1) | exact HB.out)) hb); clear HB; have HO294 := n0_; have HB := n1_; clear n0_ n1_; clear hb ho17))
              go_ret
              exact ⟨_, by first | rfl | (simp [errW_none, errW_some] <;> rfl) | (simp [*, errW_none, errW_some] <;> rfl), by (with_reducible repeat (first | apply Kd.R_alloc | apply Kd.R_drewN | apply Kd.R_drew)); exact HO294.out, by repeat (first | (with_reducible first | exact HB.out | apply below_alloc | apply pw_below_drewN | apply below_drew1) | exact HB.out)⟩
            · rw [if_neg c15] at H
              have c15b0 : decide ((wrap64 (a0)) < 65536) = false := decide_eq_false c15
              clear c15
              obtain ⟨y295, hy295⟩ : ∃ y_ : List Int, y_ = (([(Go.bits .or .i64 240 ((wrap64 (a0)) / 262144)) % 256, (Go.bits .or .i64 128 (Go.bits .and .i64 ((wrap64 (a0)) / 4096) 63)) % 256, (Go.bits .or .i64 128 (Go.bits .and .i64 ((wrap64 (a0)) / 64) 63)) % 256, (Go.bits .or .i64 128 (Go.bits .and .i64 (wrap64 (a0)) 63)) % 256] : List Int)) := ⟨_, rfl⟩
              replace H : (some y295) = some r := by first | (rw [hy295]; with_reducible exact H) | (have H2_ := (Option.bind_some _ _).symm.trans H; rw [hy295]; with_reducible exact H2_) | (have H2_ := (Option.bind_some _ _).symm.trans H; with_reducible exact H2_) | with_reducible exact H | (rw [hy295]; exact H) | exact H
              have Ny295 := Aside0.mk hy295
              clear hy295
              obtain rfl := Option.some.inj H
              go_wp2_with (first | ((with_reducible refine gate_dst (N := 75) rfl ?_); refine Kd.R_lit (Kd.int .u8) _ 5 ?hg (N := 75) ?hd (xs := ([(Go.bits .or .i64 240 ((wrap64 (a0)) / 262144)) % 256, (Go.bits .or .i64 128 (Go.bits .and .i64 ((wrap64 (a0)) / 4096) 63)) % 256, (Go.bits .or .i64 128 (Go.bits .and .i64 ((wrap64 (a0)) / 64) 63)) % 256, (Go.bits .or .i64 128 (Go.bits .and .i64 (wrap64 (a0)) 63)) % 256] : List Int)) (inner := [.int .u8 ((Go.bits .or .i64 240 ((wrap64 (a0)) / 262144)) % 256), .int .u8 ((Go.bits .or .i64 128 (Go.bits .and .i64 ((wrap64 (a0)) / 4096) 63)) % 256), .int .u8 ((Go.bits .or .i64 128 (Go.bits .and .i64 ((wrap64 (a0)) / 64) 63)) % 256), .int .u8 ((Go.bits .or .i64 128 (Go.bits .and .i64 (wrap64 (a0)) 63)) % 256)]) (ok := fun _ => True) (okp := fun _ => True) ?hr ?hp (fun _ hk => hk) trivial (Below.refl _ _) (Nat.le_refl _) (by simp) ?_; (case hd => rfl); (case hg => rfl); (case hr => first | (go_simp; done) | (go_simp; rfl)); (case hp => exact (Reps.one (show Kd.M (Kd.int .u8) _ _ _ ((Go.bits .or .i64 240 ((wrap64 (a0)) / 262144)) % 256) [.int .u8 ((Go.bits .or .i64 240 ((wrap64 (a0)) / 262144)) % 256)] from rfl) (Reps.one (show Kd.M (Kd.int .u8) _ _ _ ((Go.bits .or .i64 128 (Go.bits .and .i64 ((wrap64 (a0)) / 4096) 63)) % 256) [.int .u8 ((Go.bits .or .i64 128 (Go.bits .and .i64 ((wrap64 (a0)) / 4096) 63)) % 256)] from rfl) (Reps.one (show Kd.M (Kd.int .u8) _ _ _ ((Go.bits .or .i64 128 (Go.bits .and .i64 ((wrap64 (a0)) / 64) 63)) % 256) [.int .u8 ((Go.bits .or .i64 128 (Go.bits .and .i64 ((wrap64 (a0)) / 64) 63)) % 256)] from rfl) (Reps.one (show Kd.M (Kd.int .u8) _ _ _ ((Go.bits .or .i64 128 (Go.bits .and .i64 (wrap64 (a0)) 63)) % 256) [.int .u8 ((Go.bits .or .i64 128 (Go.bits .and .i64 (wrap64 (a0)) 63)) % 256)] from rfl) (Reps.none _ _)))))); intro v296 w18 ho19 hb hg_ hnew_; clear hg_ hnew_; (first | rw [← Ny295.out] at ho19 | (simp only [Int.reduceToNat] at ho19; rw [← Ny295.out] at ho19)); have n0_ := Aside0.mk (Kd.R_lower ho19 (below_size (by repeat (first | (with_reducible first | exact HB.out | apply below_alloc | apply pw_below_drewN | apply below_drew1) | exact HB.out)))); have n1_ := Aside0.mk (below_step (by repeat (first | (with_reducible first | exact HB.out | apply below_alloc | apply pw_below_drewN | apply below_drew1) | exact HB.out)) hb); clear HB; have HO297 := n0_; have HB := n1_; clear n0_ n1_; clear hb ho19))
              go_ret
              exact ⟨_, by first | rfl | (simp [errW_none, errW_some] <;> rfl) | (simp [*, errW_none, errW_some] <;> rfl), by (with_reducible repeat (first | apply Kd.R_alloc | apply Kd.R_drewN | apply Kd.R_drew)); exact HO297.out, by repeat (first | (with_reducible first | exact HB.out | apply below_alloc | apply pw_below_drewN | apply below_drew1) | exact HB.out)⟩

/-! ### linguistbook_Roomy_rune: function 16 -/
def linguistbook_Roomy_rune.l0 : Nat → Int → List Int → Int → Option (List Int)
  | 0, _, _, _ => none
  | k + 1, x1, x5, x6 => if x6 < (x5.length : Int) then (if 0 ≤ x6 then (linguistbook_Roomy_rune.l0 k x1 (x5.set (x6 : Int).toNat x1) (wrap64 (x6 + 1))) else (none)) else (some x5)
def linguistbook_Roomy_rune.f (k : Nat) (l0 : List Int) (a1 : Int) : Option (List Int) := if 0 ≤ (wrap64 ((l0.length : Int) + 80)) then (if (wrap64 ((l0.length : Int) + 80) : Int).toNat ≤ 70368744177664 then ((some (List.replicate (wrap64 ((l0.length : Int) + 80) : Int).toNat 0 : List Int)).bind fun y298 => (if 0 < (y298.length : Int) then (linguistbook_Roomy_rune.l0 k a1 (cpy y298 0 y298.length l0) (l0.length : Int)) else (none))) else (none)) else (none)
theorem linguistbook_Roomy_rune.mono_l : ∀ k, (∀ y0 y1 y2, LeO (linguistbook_Roomy_rune.l0 k y0 y1 y2) (linguistbook_Roomy_rune.l0 (k + 1) y0 y1 y2))
  | 0 => fun _ _ _ r h => by simp [linguistbook_Roomy_rune.l0] at h
  | k + 1 => by
    have ih0 := linguistbook_Roomy_rune.mono_l k
    · intro y0 y1 y2
      unfold linguistbook_Roomy_rune.l0
      repeat' first
      | (with_reducible exact ih0 _ _ _)
      | (with_reducible exact LeO.refl _)
      | (with_reducible exact LeO.none _)
      | (with_reducible refine LeO.ite ?_ ?_)
      | (with_reducible refine LeO.bind ?_ (fun _ => ?_))
      | exact ih0 _ _ _
      | exact LeO.none _
      | refine LeO.ite ?_ ?_
      | refine LeO.bind ?_ (fun _ => ?_)
theorem linguistbook_Roomy_rune.mono : ∀ a0 a1 k, LeO (linguistbook_Roomy_rune.f k a0 a1) (linguistbook_Roomy_rune.f (k + 1) a0 a1) := by
  intro a0 a1 k
  have ih0 := linguistbook_Roomy_rune.mono_l k
  unfold linguistbook_Roomy_rune.f
  repeat' first
      | (with_reducible exact ih0 _ _ _)
      | (with_reducible exact LeO.refl _)
      | (with_reducible exact LeO.none _)
      | (with_reducible refine LeO.ite ?_ ?_)
      | (with_reducible refine LeO.bind ?_ (fun _ => ?_))
      | exact ih0 _ _ _
      | exact LeO.none _
      | refine LeO.ite ?_ ?_
      | refine LeO.bind ?_ (fun _ => ?_)
set_option maxHeartbeats 8000000 in
set_option maxRecDepth 100000 in
theorem linguistbook_Roomy_rune.calls (k : Nat) (A0 : Option Addr) (c0 : Nat) (l0 : List Int) (a1 : Int) (r : List Int) (w : World) (hr0 : Kd.C (Kd.int .i32) w A0 l0.length l0) (hc0 : l0.length ≤ c0) (h : linguistbook_Roomy_rune.f k l0 a1 = some r) :
    Calls Try.prog 16 #[.slice A0 l0.length c0, .int .i32 a1] w fun e w' => ∃ v0_ : Value, e = .returned (v0_) ∧ Kd.R (Kd.int .i32) 21 w' w.heap.size (fun _ => True) v0_ r ∧ Below w.heap.size w w' := by
  have HR0 := Aside0.mk hr0
  have HC0 := Aside0.mk hc0
  clear hr0 hc0
  have HB := Aside0.mk (Below.refl w.heap.size w)
  have H : (if 0 ≤ (wrap64 ((l0.length : Int) + 80)) then (if (wrap64 ((l0.length : Int) + 80) : Int).toNat ≤ 70368744177664 then ((some (List.replicate (wrap64 ((l0.length : Int) + 80) : Int).toNat 0 : List Int)).bind fun y298 => (if 0 < (y298.length : Int) then (linguistbook_Roomy_rune.l0 k a1 (cpy y298 0 y298.length l0) (l0.length : Int)) else (none))) else (none)) else (none)) = some r := h
  clear h
  obtain ⟨ji3, hji3⟩ : ∃ j_ : Int, (wrap64 ((l0.length : Int) + 80)) = j_ := ⟨_, rfl⟩
  replace H : (if 0 ≤ (ji3) then (if (ji3 : Int).toNat ≤ 70368744177664 then ((some (List.replicate (ji3 : Int).toNat 0 : List Int)).bind fun y298 => (if 0 < (y298.length : Int) then (linguistbook_Roomy_rune.l0 k a1 (cpy y298 0 y298.length l0) (l0.length : Int)) else (none))) else (none)) else (none)) = some r := by first | (rw [hji3] at H; exact H) | (simp only [hji3] at H ⊢; exact H)
  have hji3w : (IntKind.i64.wrap ((l0.length : Int) + 80)) = ji3 := (i64_w _).trans hji3
  by_cases c4 : 0 ≤ (ji3)
  · rw [if_pos c4] at H
    have c4b0 := eq_true c4
    have c4b1 : decide (0 ≤ (ji3)) = true := decide_eq_true c4
    clear c4
    by_cases c5 : (ji3 : Int).toNat ≤ 70368744177664
    · rw [if_pos c5] at H
      have c5b0 := eq_true c5
      have c5b1 : decide ((ji3 : Int).toNat ≤ 70368744177664) = true := decide_eq_true c5
      clear c5
      obtain ⟨y298, hy298⟩ : ∃ y_ : List Int, y_ = (List.replicate (ji3 : Int).toNat 0) := ⟨_, rfl⟩
      replace H : (if 0 < (y298.length : Int) then (linguistbook_Roomy_rune.l0 k a1 (cpy y298 0 y298.length l0) (l0.length : Int)) else (none)) = some r := by first | (rw [hy298]; with_reducible exact H) | (have H2_ := (Option.bind_some _ _).symm.trans H; rw [hy298]; with_reducible exact H2_) | (have H2_ := (Option.bind_some _ _).symm.trans H; with_reducible exact H2_) | with_reducible exact H | (rw [hy298]; exact H) | exact H
      have Ny298 := Aside0.mk hy298
      clear hy298
      by_cases c6 : 0 < (y298.length : Int)
      · rw [if_pos c6] at H
        have c6b0 : decide (0 < (y298.length : Int)) = true := decide_eq_true c6
        have c6b1 : decide (0 < y298.length) = true := decide_eq_true (by omega)
        clear c6
        obtain ⟨y301, hy301⟩ : ∃ y_ : List Int, y_ = (cpy y298 0 y298.length l0) := ⟨_, rfl⟩
        replace H : (linguistbook_Roomy_rune.l0 k a1 y301 (l0.length : Int)) = some r := by first | (rw [hy301]; with_reducible exact H) | (have H2_ := (Option.bind_some _ _).symm.trans H; rw [hy301]; with_reducible exact H2_) | (have H2_ := (Option.bind_some _ _).symm.trans H; with_reducible exact H2_) | with_reducible exact H | (rw [hy301]; exact H) | exact H
        have Ny301 := Aside0.mk hy301
        clear hy301
        have H' := Aside0.mk H
        clear H
        go_enter Try.func16, Try.ntmps16
        go_wp2_with (first | ((with_reducible refine gate_dst (N := 10) rfl ?_); refine Kd.R_make (Kd.int .i32) _ 21 rfl (N := 10) rfl 22 _ _ rfl ji3 rfl rfl Try.underlying22 (.int .i32 0) 4 info21 rfl (by decide) (by omega) 0 (ok := fun _ => True) (okp := fun _ => True) rfl (fun _ hk => hk) trivial (of_decide_eq_true (by first | (with_reducible assumption) | assumption)) (Nat.le_trans (Nat.mul_le_mul_right _ (of_decide_eq_true (by first | (with_reducible assumption) | assumption) : ji3.toNat ≤ 70368744177664)) (by omega)) (Below.refl _ _) (Nat.le_refl _) ?_; intro v299 w8 ho9 hb hg_ hnew_; clear hg_ hnew_; (first | rw [← Ny298.out] at ho9 | (simp only [Int.reduceToNat] at ho9; rw [← Ny298.out] at ho9)); have n0_ := Aside0.mk (Kd.R_lower ho9 (below_size (by repeat (first | (with_reducible first | exact HB.out | apply below_alloc | apply pw_below_drewN | apply below_drew1) | exact HB.out)))); have n1_ := Aside0.mk (below_step (by repeat (first | (with_reducible first | exact HB.out | apply below_alloc | apply pw_below_drewN | apply below_drew1) | exact HB.out)) hb); clear HB; have HO300 := n0_; have HB := n1_; clear n0_ n1_; clear hb ho9; have p7 : 0 ≤ (0 : Int) := (by omega); have q7 : (0 : Int) < ((y298.length : Int) : Int) := of_decide_eq_true (by first | (with_reducible assumption) | assumption); have qi7 : (0 < y298.length) = True := eq_true (by omega); obtain ⟨go7, co7, eo7, gb7, gl7, cl7, HG7⟩ := Kd.R_form HO300.out (by omega); (first | cases eo7 | (injection eo7 with ea_ en_ ec_; (first | subst ea_ | (injection ea_ with ea_; subst ea_)); subst ec_; clear en_)); have GB7 := Aside0.mk gb7; have GG7 := Aside0.mk HG7; clear gb7 gl7 HG7; obtain ⟨hx7_0, hf7_0⟩ := Kd.R_celln 0 HO300.out (0 : Int) p7 q7; (try rw [show ((0 : Int)).toNat = 0 from rfl] at hx7_0); (try simp only [Nat.reduceMul, Nat.zero_mul, Nat.zero_add, Nat.reduceAdd] at hx7_0); (try rw [show ((0 : Int)).toNat = 0 from rfl] at hf7_0); (try simp only [Nat.reduceMul, Nat.zero_mul, Nat.zero_add, Nat.reduceAdd] at hf7_0); replace p7 := eq_true p7; replace q7 := eq_true q7; obtain ⟨i010, hi010, _, hsz10, _⟩ := info_parts info21; obtain ⟨W110, hrun10, HP10⟩ := Kd.R_copyg (W := w8) (d := (Kd.int .i32)) (o := 0) (m := y298.length) (dCap := co7) (sCap := c0) (A := A0) (xs := y298) (ys := l0) (by (with_reducible repeat (first | apply Kd.R_alloc | apply Kd.R_drewN | apply Kd.R_drew)); exact HO300.out) (fun h => h) (fun h => h) (by repeat (first | exact (Kd.C_below HR0.out HB.out) | (with_reducible refine Kd.C_alloc ?_ _) | (with_reducible refine Kd.C_drewN ?_ _) | (with_reducible refine Kd.C_drew ?_))) (by have e_ := (Kd.R_reads' HO300.out).1; omega) (P := Try.prog) 22 22 3 Try.underlying22 (by rw [hi010]; exact congrArg some hsz10); clear hi010 hsz10; (try simp only [Nat.zero_mul, show ((Kd.int .i32)).sz = 1 from rfl, Nat.mul_one] at hrun10)) | ((with_reducible refine gate_builtin (b := .copy) (xs := #[.tmp 11, .tmp 12]) rfl ?_); refine copy_event rfl (s := .tmp 11) (x := .tmp 12) (t := 22) (t2 := 22) rfl ?hs ?hx hrun10 ?_; (case hs => first | rfl | (go_simp; done)); (case hx => first | rfl | (go_simp; done)); intro w11 hw; have hg : w8.grownBy w11 (some go7) := (by rw [hw]; exact HP10.2); have hp_ : Kd.R (Kd.int .i32) 21 w11 w.heap.size (fun _ => True) (.slice (some ⟨go7, 0, none⟩) y298.length co7) y301 := (by rw [hw, Ny301.out]; exact HP10.1); clear HP10 hrun10; have n0_ := Aside0.mk (hp_); have n1_ := Aside0.mk ((Below.grown (by repeat (first | (with_reducible first | exact HB.out | apply below_alloc | apply pw_below_drewN | apply below_drew1) | exact HB.out)) hg ((below_size (by repeat (first | (with_reducible first | exact HB.out | apply below_alloc | apply pw_below_drewN | apply below_drew1) | exact HB.out)))) (fun k_ e_ => by injection e_ with e_; rw [← e_]; exact GB7.out) : Below w.heap.size w w11)); clear HO300; clear HB; have HO300 := n0_; have HB := n1_; clear n0_ n1_; clear hg hw hp_))
        go_loopg [6] k (fun kq v6 w' => ∃ (x5_1 : List Int) (x6_1 : Int), v6 = .int .i64 x6_1 ∧ Aside0 (linguistbook_Roomy_rune.l0 kq a1 x5_1 x6_1 = some r) ∧ Aside0 (kq ≤ k) ∧ Aside0 (Kd.R (Kd.int .i32) 21 w' w.heap.size (fun _ => True) (.slice (some ⟨go7, 0, none⟩) y298.length co7) x5_1) ∧ Aside0 (Below w.heap.size w w'))
        case atStart => exact ⟨(y301), ((l0.length : Int)), (by first | rfl | (simp; done) | (simp [*]; done)), H', ⟨Nat.le_refl _⟩, ⟨by (with_reducible repeat (first | apply Kd.R_alloc | apply Kd.R_drewN | apply Kd.R_drew)); exact HO300.out⟩, ⟨by repeat (first | (with_reducible first | exact HB.out | apply below_alloc | apply pw_below_drewN | apply below_drew1) | exact HB.out)⟩⟩
        case round =>
          clear H'
          try clear c1
          try clear p2
          try clear c4
          try clear c4b0
          try clear c4b1
          try clear c5
          try clear c5b0
          try clear c5b1
          try clear c6
          try clear c6b0
          try clear c6b1
          try clear p6
          try clear p7
          try clear q7
          try clear hx7
          try clear qi7
          try clear hf7
          try clear hx7_0
          try clear p7
          try clear q7
          obtain ⟨x5_1, x6_1, rfl, HA, HK1, HO_5, HB⟩ := hrel
          have hl5_1 := (Kd.R_reads' HO_5.out).1
          rw [hl5_1] at HO_5
          (try simp only [hl5_1])
          cases gk with
          | zero => exact absurd HA.out (by simp [linguistbook_Roomy_rune.l0])
          | succ k1 =>
            have H := HA.out
            clear HA
            simp only [linguistbook_Roomy_rune.l0] at H
            by_cases c12 : x6_1 < (x5_1.length : Int)
            · rw [if_pos c12] at H
              have c12b0 : decide (x6_1 < (x5_1.length : Int)) = true := decide_eq_true c12
              clear c12
              by_cases c13 : 0 ≤ x6_1
              · rw [if_pos c13] at H
                have c13b0 : decide (0 ≤ x6_1) = true := decide_eq_true c13
                clear c13
                obtain ⟨y302, hy302⟩ : ∃ y_ : List Int, y_ = (x5_1.set (x6_1 : Int).toNat a1) := ⟨_, rfl⟩
                replace H : (linguistbook_Roomy_rune.l0 k1 a1 y302 (wrap64 (x6_1 + 1))) = some r := by first | (rw [hy302]; with_reducible exact H) | (have H2_ := (Option.bind_some _ _).symm.trans H; rw [hy302]; with_reducible exact H2_) | (have H2_ := (Option.bind_some _ _).symm.trans H; with_reducible exact H2_) | with_reducible exact H | (rw [hy302]; exact H) | exact H
                have Ny302 := Aside0.mk hy302
                clear hy302
                have H' := Aside0.mk H
                clear H
                have p14 : 0 ≤ (x6_1 : Int) := of_decide_eq_true (by first | (with_reducible assumption) | assumption)
                have q14 : (x6_1 : Int) < ((x5_1.length : Int) : Int) := of_decide_eq_true (by first | (with_reducible assumption) | assumption)
                obtain ⟨hx14_0, hf14_0⟩ := Kd.R_celln 0 HO_5.out (x6_1 : Int) p14 q14
                replace p14 := eq_true p14
                replace q14 := eq_true q14
                have HP15 := Kd.R_putg HO_5.out (x6_1 : Int) a1
                go_wp2_with (first | ((with_reducible refine gate_store (t := 21) (p := 25) rfl ?_); refine store_event (t := 21) (p := 25) (v := ?vo_w16) (w1 := (wr.setCell ⟨go7, (x6_1 : Int).toNat, none⟩ (.int .i32 a1))) ?hg ?ho ?hn ?hr ?_; (case ho => rfl); (case hg => rfl); (case hn => rfl); (case hr => first | (go_simp; done) | (go_simp; rfl)); intro w16 hw; have hg : wr.grownBy w16 (some go7) := (by rw [hw]; exact HP15.2); have hp_ : Kd.R (Kd.int .i32) 21 w16 w.heap.size (fun _ => True) (.slice (some ⟨go7, 0, none⟩) x5_1.length co7) y302 := (by rw [hw, Ny302.out]; exact HP15.1); clear HP15; have n0_ := Aside0.mk (hp_); have n1_ := Aside0.mk ((by rw [hw]; exact below_set (HB.out) GB7.out : Below w.heap.size w w16)); clear HO_5; clear HB; have HO_5 := n0_; have HB := n1_; clear n0_ n1_; clear hg hw hp_))
                (try simp only [← hl5_1])
                go_roundg k1
                case measure => have := HK1.out; omega
                case rel => exact ⟨(y302), (wrap64 (x6_1 + 1)), (by first | rfl | (simp; done) | (simp [*]; done)), H', ⟨by have := HK1.out; omega⟩, ⟨by (try simp only [hl5_1]); (with_reducible repeat (first | apply Kd.R_alloc | apply Kd.R_drewN | apply Kd.R_drew)); exact HO_5.out⟩, ⟨by repeat (first | (with_reducible first | exact HB.out | apply below_alloc | apply pw_below_drewN | apply below_drew1) | exact HB.out)⟩⟩
              · rw [if_neg c13] at H
                exact absurd H (by simp)
            · rw [if_neg c12] at H
              have c12b0 : decide (x6_1 < (x5_1.length : Int)) = false := decide_eq_false c12
              clear c12
              obtain rfl := Option.some.inj H
              go_wp2
              go_ret
              exact ⟨_, by first | rfl | (simp [errW_none, errW_some] <;> rfl) | (simp only [← hji3]; first | rfl | (simp [errW_none, errW_some] <;> rfl)) | (simp [*, errW_none, errW_some] <;> rfl), by (with_reducible repeat (first | apply Kd.R_alloc | apply Kd.R_drewN | apply Kd.R_drew)); exact HO_5.out, by repeat (first | (with_reducible first | exact HB.out | apply below_alloc | apply pw_below_drewN | apply below_drew1) | exact HB.out)⟩
      · rw [if_neg c6] at H
        exact absurd H (by simp)
    · rw [if_neg c5] at H
      exact absurd H (by simp)
  · rw [if_neg c4] at H
    exact absurd H (by simp)

/-! ### linguistbook_Intact_rune: function 17 -/
mutual
def linguistbook_Intact_rune.j0 : Nat → List Int → List Int → Int → Bool → Option (Bool)
  | 0, _, _, _, _ => none
  | k + 1, x0, x1, x2, x22 => if x22 = true then (some false) else (linguistbook_Intact_rune.l0 k x0 x2 (x1.length : Int))
def linguistbook_Intact_rune.l0 : Nat → List Int → Int → Int → Option (Bool)
  | 0, _, _, _ => none
  | k + 1, x0, x2, x7 => if x7 < (x0.length : Int) then (if 0 ≤ x7 then (if (rd x0 x7) = x2 then (linguistbook_Intact_rune.l0 k x0 x2 (wrap64 (x7 + 1))) else (some false)) else (none)) else (some true)
end
def linguistbook_Intact_rune.f (k : Nat) (l0 : List Int) (l1 : List Int) (a2 : Int) : Option (Bool) := if (l0.length : Int) = (wrap64 ((l1.length : Int) + 80)) then (if 0 ≤ (l1.length : Int) then (if (l1.length : Int) ≤ (l0.length : Int) then ((linguistbook_Same_rune.f k (l0.take ((l1.length : Int) : Int).toNat) l1).bind fun t304 => (linguistbook_Intact_rune.j0 k l0 l1 a2 (!t304))) else (none)) else (none)) else (linguistbook_Intact_rune.j0 k l0 l1 a2 true)
theorem linguistbook_Intact_rune.mono_l : ∀ k, (∀ y0 y1 y2 y3, LeO (linguistbook_Intact_rune.j0 k y0 y1 y2 y3) (linguistbook_Intact_rune.j0 (k + 1) y0 y1 y2 y3)) ∧ (∀ y0 y1 y2, LeO (linguistbook_Intact_rune.l0 k y0 y1 y2) (linguistbook_Intact_rune.l0 (k + 1) y0 y1 y2))
  | 0 => ⟨fun _ _ _ _ r h => by simp [linguistbook_Intact_rune.j0] at h, fun _ _ _ r h => by simp [linguistbook_Intact_rune.l0] at h⟩
  | k + 1 => by
    obtain ⟨ih0, ih1⟩ := linguistbook_Intact_rune.mono_l k
    refine ⟨?_, ?_⟩
    · intro y0 y1 y2 y3
      unfold linguistbook_Intact_rune.j0
      repeat' first
      | (with_reducible exact ih0 _ _ _ _)
      | (with_reducible exact ih1 _ _ _)
      | (with_reducible exact linguistbook_Same_rune.mono _ _ _)
      | (with_reducible exact LeO.refl _)
      | (with_reducible exact LeO.none _)
      | (with_reducible refine LeO.ite ?_ ?_)
      | (with_reducible refine LeO.bind ?_ (fun _ => ?_))
      | exact ih0 _ _ _ _
      | exact ih1 _ _ _
      | exact linguistbook_Same_rune.mono _ _ _
      | exact LeO.none _
      | refine LeO.ite ?_ ?_
      | refine LeO.bind ?_ (fun _ => ?_)
    · intro y0 y1 y2
      unfold linguistbook_Intact_rune.l0
      repeat' first
      | (with_reducible exact ih0 _ _ _ _)
      | (with_reducible exact ih1 _ _ _)
      | (with_reducible exact linguistbook_Same_rune.mono _ _ _)
      | (with_reducible exact LeO.refl _)
      | (with_reducible exact LeO.none _)
      | (with_reducible refine LeO.ite ?_ ?_)
      | (with_reducible refine LeO.bind ?_ (fun _ => ?_))
      | exact ih0 _ _ _ _
      | exact ih1 _ _ _
      | exact linguistbook_Same_rune.mono _ _ _
      | exact LeO.none _
      | refine LeO.ite ?_ ?_
      | refine LeO.bind ?_ (fun _ => ?_)
theorem linguistbook_Intact_rune.mono : ∀ a0 a1 a2 k, LeO (linguistbook_Intact_rune.f k a0 a1 a2) (linguistbook_Intact_rune.f (k + 1) a0 a1 a2) := by
  intro a0 a1 a2 k
  obtain ⟨ih0, ih1⟩ := linguistbook_Intact_rune.mono_l k
  unfold linguistbook_Intact_rune.f
  repeat' first
      | (with_reducible exact ih0 _ _ _ _)
      | (with_reducible exact ih1 _ _ _)
      | (with_reducible exact linguistbook_Same_rune.mono _ _ _)
      | (with_reducible exact LeO.refl _)
      | (with_reducible exact LeO.none _)
      | (with_reducible refine LeO.ite ?_ ?_)
      | (with_reducible refine LeO.bind ?_ (fun _ => ?_))
      | exact ih0 _ _ _ _
      | exact ih1 _ _ _
      | exact linguistbook_Same_rune.mono _ _ _
      | exact LeO.none _
      | refine LeO.ite ?_ ?_
      | refine LeO.bind ?_ (fun _ => ?_)
set_option maxHeartbeats 8000000 in
set_option maxRecDepth 100000 in
theorem linguistbook_Intact_rune.calls (k : Nat) (A0 : Option Addr) (c0 : Nat) (l0 : List Int) (A1 : Option Addr) (c1 : Nat) (l1 : List Int) (a2 : Int) (r : Bool) (w : World) (hr0 : Kd.C (Kd.int .i32) w A0 l0.length l0) (hc0 : l0.length ≤ c0) (hr1 : Kd.C (Kd.int .i32) w A1 l1.length l1) (hc1 : l1.length ≤ c1) (h : linguistbook_Intact_rune.f k l0 l1 a2 = some r) :
    Calls Try.prog 17 #[.slice A0 l0.length c0, .slice A1 l1.length c1, .int .i32 a2] w fun e w' => e = .returned (.bool r) ∧ Drawn0 w w' := by
  have HR0 := Aside0.mk hr0
  have HC0 := Aside0.mk hc0
  clear hr0 hc0
  have HR1 := Aside0.mk hr1
  have HC1 := Aside0.mk hc1
  clear hr1 hc1
  have H : (if (l0.length : Int) = (wrap64 ((l1.length : Int) + 80)) then (if 0 ≤ (l1.length : Int) then (if (l1.length : Int) ≤ (l0.length : Int) then ((linguistbook_Same_rune.f k (l0.take ((l1.length : Int) : Int).toNat) l1).bind fun t304 => (linguistbook_Intact_rune.j0 k l0 l1 a2 (!t304))) else (none)) else (none)) else (linguistbook_Intact_rune.j0 k l0 l1 a2 true)) = some r := h
  clear h
  have HC4 := Aside0.mk H
  clear H
  go_enter Try.func17, Try.ntmps17
  go_upto_region 1 with (fail)
  go_cut [22] (fun v22 wc => ∃ (kq : Nat) (x22_3 : Bool), v22 = .bool x22_3 ∧ Aside0 (linguistbook_Intact_rune.j0 kq l0 l1 a2 x22_3 = some r) ∧ Aside0 (kq ≤ k) ∧ Drawn0 w wc)
  case first =>
    have H := HC4.out
    clear HC4
    by_cases c5 : (l0.length : Int) = (wrap64 ((l1.length : Int) + 80))
    · rw [if_pos c5] at H
      have c5b0 : ((l0.length : Int) == (wrap64 ((l1.length : Int) + 80))) = true := beq_iff_eq.mpr c5
      have c5b1 : ((l0.length : Int) != (wrap64 ((l1.length : Int) + 80))) = false := bne_eq_false_iff_eq.mpr c5
      clear c5
      (first | rw [c5b0] | (simp only [i64_w, i32_w]; rw [c5b0]) | skip)
      by_cases c6 : 0 ≤ (l1.length : Int)
      · rw [if_pos c6] at H
        have c6b0 := eq_true c6
        have c6b1 : decide (0 ≤ (l1.length : Int)) = true := decide_eq_true c6
        clear c6
        by_cases c7 : (l1.length : Int) ≤ (l0.length : Int)
        · rw [if_pos c7] at H
          have c7b0 := eq_true c7
          have c7b1 : decide ((l1.length : Int) ≤ (l0.length : Int)) = true := decide_eq_true c7
          clear c7
          replace H := Option.bind_eq_some_iff.mp H
          obtain ⟨t304, A80, H⟩ := H
          replace H : (linguistbook_Intact_rune.j0 k l0 l1 a2 (!t304)) = some r := H
          have A8 := Aside0.mk A80
          clear A80
          have H' := Aside0.mk H
          clear H
          obtain ⟨i09, hi09, _, hsz9, _⟩ := info_parts info21
          obtain ⟨hcut9, hA9, hC9⟩ := print_take_of (P := Try.prog) (Value.int .i32) 0 22 21 .i64 Try.underlying22 hi09 hsz9 A0 c0 l0 (l1.length : Int) (of_decide_eq_true (by first | (with_reducible assumption) | assumption)) (of_decide_eq_true (by first | (with_reducible assumption) | assumption)) HC0.out
          have HR303 := Aside0.mk (Kd.C_of_reads (h1 := fun _ => rfl) (hA9 _ (Kd.reads_of_C HR0.out)))
          have HC303 := Aside0.mk hC9
          clear hA9 hC9 hi09 hsz9
          go_wp2_with (first | (go_at_call 10; refine calls_of_args (args' := #[.slice A0 (l0.take ((l1.length : Int) : Int).toNat).length c0, .slice A1 l1.length c1]) (by first | rfl | (simp only [List.length_take, List.length_drop, Int.toNat_natCast]; done) | (simp only [List.length_take, List.length_drop, Int.toNat_natCast]; rfl)) ?_; (with_reducible refine (linguistbook_Same_rune.calls k _ _ (l0.take ((l1.length : Int) : Int).toNat) _ _ l1 t304 _ ?side1 ?side2 ?side3 ?side4 A8.out).mono ?_); (case side1 => repeat (first | exact HR303.out | (with_reducible refine Kd.C_alloc ?_ _) | (with_reducible refine Kd.C_drewN ?_ _) | (with_reducible refine Kd.C_drew ?_))); (case side2 => exact HC303.out); (case side3 => repeat (first | exact HR1.out | (with_reducible refine Kd.C_alloc ?_ _) | (with_reducible refine Kd.C_drewN ?_ _) | (with_reducible refine Kd.C_drew ?_))); (case side4 => exact HC1.out); rintro e w' ⟨rfl, ⟨nd, rfl⟩⟩))
          go_meet
          case rel => exact ⟨_, (!t304), (by first | rfl | (simp; done) | (simp [*]; done)), H', ⟨by first | omega | exact Nat.le_refl _⟩, by repeat (first | exact Drawn0.refl _ | apply Drawn0.step)⟩
        · rw [if_neg c7] at H
          exact absurd H (by simp)
      · rw [if_neg c6] at H
        exact absurd H (by simp)
    · rw [if_neg c5] at H
      have c5b0 : ((l0.length : Int) == (wrap64 ((l1.length : Int) + 80))) = false := beq_eq_false_iff_ne.mpr c5
      have c5b1 : ((l0.length : Int) != (wrap64 ((l1.length : Int) + 80))) = true := bne_iff_ne.mpr c5
      (first | rw [c5b0] | (simp only [i64_w, i32_w]; rw [c5b0]) | skip)
      have H' := Aside0.mk H
      clear H
      go_wp2
      go_meet
      case rel => exact ⟨_, (true), (by first | rfl | (simp; done) | (simp [*]; done)), H', ⟨by first | omega | exact Nat.le_refl _⟩, by repeat (first | exact Drawn0.refl _ | apply Drawn0.step)⟩
  case rest =>
    clear HC4
    try clear c1
    try clear p2
    try clear c5
    try clear c5b0
    try clear c5b1
    try clear c6
    try clear c6b0
    try clear c6b1
    try clear p6
    try clear c7
    try clear c7b0
    try clear c7b1
    obtain ⟨kq, x22_3, rfl, HA, HJ3, ⟨mc3, rfl⟩⟩ := hcut
    cases kq with
    | zero => exact absurd HA.out (by simp [linguistbook_Intact_rune.j0])
    | succ kj3 =>
      have H := HA.out
      clear HA
      simp only [linguistbook_Intact_rune.j0] at H
      by_cases c10 : x22_3 = true
      · subst c10
        have H1 : (some false) = some r := by rw [if_pos rfl] at H; exact H
        clear H
        have H := H1
        clear H1
        obtain rfl := Option.some.inj H
        go_wp2
        go_ret
        exact ⟨by first | rfl | (simp; done) | (simp [*]; done), by repeat (first | exact Drawn0.refl _ | apply Drawn0.step)⟩
      · replace c10 := Bool.eq_false_iff.mpr c10
        subst c10
        have H1 : (linguistbook_Intact_rune.l0 kj3 l0 a2 (l1.length : Int)) = some r := by rw [if_neg (show ¬ (false = true) by decide)] at H; exact H
        clear H
        have H := H1
        clear H1
        have H' := Aside0.mk H
        clear H
        go_wp2
        go_loopg [7] kj3 (fun kq v7 w' => ∃ (x7_2 : Int), v7 = .int .i64 x7_2 ∧ Aside0 (linguistbook_Intact_rune.l0 kq l0 a2 x7_2 = some r) ∧ Aside0 (kq ≤ kj3) ∧ Drawn0 w w')
        case atStart => exact ⟨((l1.length : Int)), (by first | rfl | (simp; done) | (simp [*]; done)), H', ⟨Nat.le_refl _⟩, by repeat (first | exact Drawn0.refl _ | apply Drawn0.step)⟩
        case round =>
          clear H'
          try clear c1
          try clear p2
          try clear c3
          try clear c5
          try clear c5b0
          try clear c5b1
          try clear c6
          try clear c6b0
          try clear c6b1
          try clear p6
          try clear c7
          try clear c7b0
          try clear c7b1
          try clear c10
          try clear p2
          try clear p6
          obtain ⟨x7_2, rfl, HA, HK2, ⟨m2, rfl⟩⟩ := hrel
          cases gk with
          | zero => exact absurd HA.out (by simp [linguistbook_Intact_rune.l0])
          | succ k2 =>
            have H := HA.out
            clear HA
            simp only [linguistbook_Intact_rune.l0] at H
            by_cases c11 : x7_2 < (l0.length : Int)
            · rw [if_pos c11] at H
              have c11b0 : decide (x7_2 < (l0.length : Int)) = true := decide_eq_true c11
              clear c11
              by_cases c12 : 0 ≤ x7_2
              · rw [if_pos c12] at H
                have c12b0 : decide (0 ≤ x7_2) = true := decide_eq_true c12
                clear c12
                by_cases c13 : (rd l0 x7_2) = a2
                · rw [if_pos c13] at H
                  have c13b0 : ((rd l0 x7_2) == a2) = true := beq_iff_eq.mpr c13
                  have c13b1 : ((rd l0 x7_2) != a2) = false := bne_eq_false_iff_eq.mpr c13
                  clear c13
                  have H' := Aside0.mk H
                  clear H
                  have p305 : 0 ≤ (x7_2 : Int) := of_decide_eq_true (by first | (with_reducible assumption) | assumption)
                  have q305 : x7_2 < (l0.length : Int) := of_decide_eq_true (by first | (with_reducible assumption) | assumption)
                  obtain ⟨ad305, e305, hx305_0⟩ := Kd.at_int HR0.out x7_2 p305 q305
                  cases e305
                  replace p305 := eq_true p305
                  replace q305 := eq_true q305
                  go_wp2
                  go_roundg k2
                  case measure => have := HJ3.out; have := HK2.out; omega
                  case rel => exact ⟨(wrap64 (x7_2 + 1)), (by first | rfl | (simp; done) | (simp [*]; done)), H', ⟨by have := HJ3.out; have := HK2.out; omega⟩, by repeat (first | exact Drawn0.refl _ | apply Drawn0.step)⟩
                · rw [if_neg c13] at H
                  have c13b0 : ((rd l0 x7_2) == a2) = false := beq_eq_false_iff_ne.mpr c13
                  have c13b1 : ((rd l0 x7_2) != a2) = true := bne_iff_ne.mpr c13
                  obtain rfl := Option.some.inj H
                  have p305 : 0 ≤ (x7_2 : Int) := of_decide_eq_true (by first | (with_reducible assumption) | assumption)
                  have q305 : x7_2 < (l0.length : Int) := of_decide_eq_true (by first | (with_reducible assumption) | assumption)
                  obtain ⟨ad305, e305, hx305_0⟩ := Kd.at_int HR0.out x7_2 p305 q305
                  cases e305
                  replace p305 := eq_true p305
                  replace q305 := eq_true q305
                  go_wp2
                  go_ret
                  exact ⟨by first | rfl | (simp; done) | (simp [*]; done), by repeat (first | exact Drawn0.refl _ | apply Drawn0.step)⟩
              · rw [if_neg c12] at H
                exact absurd H (by simp)
            · rw [if_neg c11] at H
              have c11b0 : decide (x7_2 < (l0.length : Int)) = false := decide_eq_false c11
              clear c11
              obtain rfl := Option.some.inj H
              go_wp2
              go_ret
              exact ⟨by first | rfl | (simp; done) | (simp [*]; done), by repeat (first | exact Drawn0.refl _ | apply Drawn0.step)⟩

end Go.Proofs.Ytnammlamdhpnpaa.GUtfTells
