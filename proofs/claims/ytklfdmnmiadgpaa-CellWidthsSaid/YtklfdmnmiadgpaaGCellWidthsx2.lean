-- Written by a program of this session (out of the kit's printer); Lean checks it.
import Derived.Test.YtklfdmnmiadgpaaGCellWidthsx0
import Derived.Test.YtklfdmnmiadgpaaGCellWidthsx1
namespace Go.Proofs.Ytklfdmnmiadgpaa.GCellWidths
open Go.RowKit Go.Proofs.YtklfdmnmiadgpaaW.PrintWords Go.Proofs.YtklfdmnmiadgpaaW.PrintLast Go.Proofs.YtklfdmnmiadgpaaW.PrintMore
attribute [local go_sem] max2_int min2_int max_two min_two max_three min_three max_four min_four   -- for this text's walks alone
set_option linter.unusedVariables false
set_option linter.unusedSimpArgs false

/-! ### linguistlaw2_CellWidths: function 4 -/
mutual
def linguistlaw2_CellWidths.j0 : Nat → Int → Int → Bool → Option (Bool)
  | 0, _, _, _ => none
  | k + 1, x3, x4, x14 => if x14 = true then (linguistlaw2_CellWidths.j1 k x3 0) else (linguistlaw2_CellWidths.j1 k x3 x4)
def linguistlaw2_CellWidths.j1 : Nat → Int → Int → Option (Bool)
  | 0, _, _ => none
  | k + 1, x3, x4 => (some (([(⟨4351, 4352⟩ : S34), (⟨11903, 11904⟩ : S34), (⟨42192, 42191⟩ : S34), (⟨44031, 44032⟩ : S34), (⟨55204, 55203⟩ : S34), (⟨65377, 65376⟩ : S34), (⟨127743, 127744⟩ : S34), (⟨129792, 129791⟩ : S34), (⟨131071, 131072⟩ : S34), (⟨262142, 262141⟩ : S34)] : List (S34)) : List (S34))).bind fun y134 => (linguistlaw2_CellWidths.l0 k x3 x4 y134 (y134.length : Int) 0)
def linguistlaw2_CellWidths.l0 : Nat → Int → Int → List (S34) → Int → Int → Option (Bool)
  | 0, _, _, _, _, _ => none
  | k + 1, x3, x4, x25, x26, x27 => if x27 < x26 then (if 0 ≤ x27 then (if x27 < (x25.length : Int) then ((cell_Width.f k ((rd_T34 x25 x27).f0)).bind fun t139 => (if t139 = 1 then ((cell_Width.f k ((rd_T34 x25 x27).f1)).bind fun t140 => (if t140 = 2 then (linguistlaw2_CellWidths.l0 k x3 x4 x25 x26 (wrap64 (x27 + 1))) else (none))) else (none))) else (none)) else (none)) else ((cell_Width.f k (wrap32 (x3))).bind fun t141 => (if t141 = x4 then ((cell_Width.f k (-1)).bind fun t142 => (if t142 = 0 then ((cell_Width.f k 1114112).bind fun t143 => (if t143 = 0 then ((cell_Width.f k 55296).bind fun t144 => (if t144 = 0 then ((cell_Width.f k 160).bind fun t145 => (if t145 = 1 then ((linguistlaw2_CellRuns.f k).bind fun t146 => (some t146)) else (none))) else (none))) else (none))) else (none))) else (none)))
end
def linguistlaw2_CellWidths.f (k : Nat) (a0 : Int) : Option (Bool) := (linguistbook_Within.f a0 0 159).bind fun t133 => (if t133 < 32 then (linguistlaw2_CellWidths.j0 k t133 1 true) else (linguistlaw2_CellWidths.j0 k t133 1 (decide (t133 ≥ 127))))
theorem linguistlaw2_CellWidths.mono_l : ∀ k, (∀ y0 y1 y2, LeO (linguistlaw2_CellWidths.j0 k y0 y1 y2) (linguistlaw2_CellWidths.j0 (k + 1) y0 y1 y2)) ∧ (∀ y0 y1, LeO (linguistlaw2_CellWidths.j1 k y0 y1) (linguistlaw2_CellWidths.j1 (k + 1) y0 y1)) ∧ (∀ y0 y1 y2 y3 y4, LeO (linguistlaw2_CellWidths.l0 k y0 y1 y2 y3 y4) (linguistlaw2_CellWidths.l0 (k + 1) y0 y1 y2 y3 y4))
  | 0 => ⟨fun _ _ _ r h => by simp [linguistlaw2_CellWidths.j0] at h, fun _ _ r h => by simp [linguistlaw2_CellWidths.j1] at h, fun _ _ _ _ _ r h => by simp [linguistlaw2_CellWidths.l0] at h⟩
  | k + 1 => by
    obtain ⟨ih0, ih1, ih2⟩ := linguistlaw2_CellWidths.mono_l k
    refine ⟨?_, ?_, ?_⟩
    · intro y0 y1 y2
      unfold linguistlaw2_CellWidths.j0
      repeat' first
      | (with_reducible exact ih0 _ _ _)
      | (with_reducible exact ih1 _ _)
      | (with_reducible exact ih2 _ _ _ _ _)
      | (with_reducible exact cell_Width.mono _ _)
      | (with_reducible exact linguistlaw2_CellRuns.mono _)
      | (with_reducible exact LeO.refl _)
      | (with_reducible exact LeO.none _)
      | (with_reducible refine LeO.ite ?_ ?_)
      | (with_reducible refine LeO.bind ?_ (fun _ => ?_))
      | exact ih0 _ _ _
      | exact ih1 _ _
      | exact ih2 _ _ _ _ _
      | exact cell_Width.mono _ _
      | exact linguistlaw2_CellRuns.mono _
      | exact LeO.none _
      | refine LeO.ite ?_ ?_
      | refine LeO.bind ?_ (fun _ => ?_)
    · intro y0 y1
      unfold linguistlaw2_CellWidths.j1
      repeat' first
      | (with_reducible exact ih0 _ _ _)
      | (with_reducible exact ih1 _ _)
      | (with_reducible exact ih2 _ _ _ _ _)
      | (with_reducible exact cell_Width.mono _ _)
      | (with_reducible exact linguistlaw2_CellRuns.mono _)
      | (with_reducible exact LeO.refl _)
      | (with_reducible exact LeO.none _)
      | (with_reducible refine LeO.ite ?_ ?_)
      | (with_reducible refine LeO.bind ?_ (fun _ => ?_))
      | exact ih0 _ _ _
      | exact ih1 _ _
      | exact ih2 _ _ _ _ _
      | exact cell_Width.mono _ _
      | exact linguistlaw2_CellRuns.mono _
      | exact LeO.none _
      | refine LeO.ite ?_ ?_
      | refine LeO.bind ?_ (fun _ => ?_)
    · intro y0 y1 y2 y3 y4
      unfold linguistlaw2_CellWidths.l0
      repeat' first
      | (with_reducible exact ih0 _ _ _)
      | (with_reducible exact ih1 _ _)
      | (with_reducible exact ih2 _ _ _ _ _)
      | (with_reducible exact cell_Width.mono _ _)
      | (with_reducible exact linguistlaw2_CellRuns.mono _)
      | (with_reducible exact LeO.refl _)
      | (with_reducible exact LeO.none _)
      | (with_reducible refine LeO.ite ?_ ?_)
      | (with_reducible refine LeO.bind ?_ (fun _ => ?_))
      | exact ih0 _ _ _
      | exact ih1 _ _
      | exact ih2 _ _ _ _ _
      | exact cell_Width.mono _ _
      | exact linguistlaw2_CellRuns.mono _
      | exact LeO.none _
      | refine LeO.ite ?_ ?_
      | refine LeO.bind ?_ (fun _ => ?_)
theorem linguistlaw2_CellWidths.mono : ∀ a0 k, LeO (linguistlaw2_CellWidths.f k a0) (linguistlaw2_CellWidths.f (k + 1) a0) := by
  intro a0 k
  obtain ⟨ih0, ih1, ih2⟩ := linguistlaw2_CellWidths.mono_l k
  unfold linguistlaw2_CellWidths.f
  repeat' first
      | (with_reducible exact ih0 _ _ _)
      | (with_reducible exact ih1 _ _)
      | (with_reducible exact ih2 _ _ _ _ _)
      | (with_reducible exact cell_Width.mono _ _)
      | (with_reducible exact linguistlaw2_CellRuns.mono _)
      | (with_reducible exact LeO.refl _)
      | (with_reducible exact LeO.none _)
      | (with_reducible refine LeO.ite ?_ ?_)
      | (with_reducible refine LeO.bind ?_ (fun _ => ?_))
      | exact ih0 _ _ _
      | exact ih1 _ _
      | exact ih2 _ _ _ _ _
      | exact cell_Width.mono _ _
      | exact linguistlaw2_CellRuns.mono _
      | exact LeO.none _
      | refine LeO.ite ?_ ?_
      | refine LeO.bind ?_ (fun _ => ?_)
set_option maxHeartbeats 8000000 in
set_option maxRecDepth 100000 in
theorem linguistlaw2_CellWidths.calls (k : Nat) (a0 : Int) (r : Bool) (w : World) (h : linguistlaw2_CellWidths.f k a0 = some r) :
    Calls Try.prog 4 #[.int .i64 a0] w fun e w' => e = .returned (.bool r) ∧ Below w.heap.size w w' := by
  have hu34 := Try.underlying34
  have HB := Aside0.mk (Below.refl w.heap.size w)
  have H : ((linguistbook_Within.f a0 0 159).bind fun t133 => (if t133 < 32 then (linguistlaw2_CellWidths.j0 k t133 1 true) else (linguistlaw2_CellWidths.j0 k t133 1 (decide (t133 ≥ 127))))) = some r := h
  clear h
  replace H := Option.bind_eq_some_iff.mp H
  obtain ⟨t133, A20, H⟩ := H
  replace H : (if t133 < 32 then (linguistlaw2_CellWidths.j0 k t133 1 true) else (linguistlaw2_CellWidths.j0 k t133 1 (decide (t133 ≥ 127)))) = some r := H
  have A2 := Aside0.mk A20
  clear A20
  have HC3 := Aside0.mk H
  clear H
  go_enter Try.func4, Try.ntmps4
  go_upto_region 3 with (first | ((with_reducible refine gate_callee (f := 13) rfl ?_); refine goesL_ (some 8) rfl rfl Try.func13 (by kernel_rfl) rfl #[.int .i64 a0, .int .i64 0, .int .i64 159] rfl (by (try simp only [List.map_toArray, List.map_cons, List.map_nil]); first | done | rfl | (simp only [List.length_drop, List.length_take]; rfl)) ?_; (with_reducible refine (linguistbook_Within.calls a0 0 159 t133 _ A2.out).mono ?_); rintro e w' ⟨rfl, ⟨nd, rfl⟩⟩; refine ⟨_, rfl, ?_⟩))
  (try simp only [Act.put, List.setIfInBounds_toArray, List.set_cons_zero, List.set_cons_succ])
  go_cut [14] (fun v14 wc => ∃ (kq : Nat) (x14_2 : Bool), v14 = .bool x14_2 ∧ Aside0 (linguistlaw2_CellWidths.j0 kq t133 1 x14_2 = some r) ∧ Aside0 (kq ≤ k) ∧ Aside0 (Below w.heap.size w wc))
  case first =>
    have H := HC3.out
    clear HC3
    by_cases c4 : t133 < 32
    · rw [if_pos c4] at H
      have c4b0 : decide (t133 < 32) = true := decide_eq_true c4
      clear c4
      (first | rw [c4b0] | (simp only [i64_w, i32_w]; rw [c4b0]) | skip)
      have H' := Aside0.mk H
      clear H
      go_wp2
      go_meet
      case rel => exact ⟨_, (true), (by first | rfl | (simp; done) | (simp [*]; done)), H', ⟨by first | omega | exact Nat.le_refl _⟩, ⟨by repeat (first | (with_reducible first | exact HB.out | apply below_alloc | apply pw_below_drewN | apply below_drew1) | exact HB.out)⟩⟩
    · rw [if_neg c4] at H
      have c4b0 : decide (t133 < 32) = false := decide_eq_false c4
      clear c4
      (first | rw [c4b0] | (simp only [i64_w, i32_w]; rw [c4b0]) | skip)
      have H' := Aside0.mk H
      clear H
      go_wp2
      go_meet
      case rel => exact ⟨_, (decide (t133 ≥ 127)), (by first | rfl | (simp; done) | (simp [*]; done)), H', ⟨by first | omega | exact Nat.le_refl _⟩, ⟨by repeat (first | (with_reducible first | exact HB.out | apply below_alloc | apply pw_below_drewN | apply below_drew1) | exact HB.out)⟩⟩
  case rest =>
    clear HC3
    try clear c1
    try clear p2
    try clear c4
    try clear c4b0
    obtain ⟨kq, x14_2, rfl, HA, HJ2, HB⟩ := hcut
    cases kq with
    | zero => exact absurd HA.out (by simp [linguistlaw2_CellWidths.j0])
    | succ kj2 =>
      have H := HA.out
      clear HA
      simp only [linguistlaw2_CellWidths.j0] at H
      have HC5 := Aside0.mk H
      clear H
      go_upto_if 14 with (fail)
      go_cut [4] (fun v4 wc => ∃ (kq : Nat) (x4_4 : Int), v4 = .int .i64 x4_4 ∧ Aside0 (linguistlaw2_CellWidths.j1 kq t133 x4_4 = some r) ∧ Aside0 (kq ≤ kj2) ∧ Aside0 (Below w.heap.size w wc))
      case first =>
        have H := HC5.out
        clear HC5
        by_cases c6 : x14_2 = true
        · subst c6
          have H1 : (linguistlaw2_CellWidths.j1 kj2 t133 0) = some r := by rw [if_pos rfl] at H; exact H
          clear H
          have H := H1
          clear H1
          have H' := Aside0.mk H
          clear H
          go_wp2
          go_meet
          case rel => exact ⟨_, (0), (by first | rfl | (simp; done) | (simp [*]; done)), H', ⟨by have := HJ2.out; first | omega | exact Nat.le_refl _⟩, ⟨by repeat (first | (with_reducible first | exact HB.out | apply below_alloc | apply pw_below_drewN | apply below_drew1) | exact HB.out)⟩⟩
        · replace c6 := Bool.eq_false_iff.mpr c6
          subst c6
          have H1 : (linguistlaw2_CellWidths.j1 kj2 t133 1) = some r := by rw [if_neg (show ¬ (false = true) by decide)] at H; exact H
          clear H
          have H := H1
          clear H1
          have H' := Aside0.mk H
          clear H
          go_wp2
          go_meet
          case rel => exact ⟨_, (1), (by first | rfl | (simp; done) | (simp [*]; done)), H', ⟨by have := HJ2.out; first | omega | exact Nat.le_refl _⟩, ⟨by repeat (first | (with_reducible first | exact HB.out | apply below_alloc | apply pw_below_drewN | apply below_drew1) | exact HB.out)⟩⟩
      case rest =>
        clear HC5
        try clear c1
        try clear p2
        try clear c4
        try clear c4b0
        try clear c6
        try clear p2
        obtain ⟨kq, x4_4, rfl, HA, HJ4, HB⟩ := hcut
        cases kq with
        | zero => exact absurd HA.out (by simp [linguistlaw2_CellWidths.j1])
        | succ kj4 =>
          have H := HA.out
          clear HA
          simp only [linguistlaw2_CellWidths.j1] at H
          obtain ⟨y134, hy134⟩ : ∃ y_ : List (S34), y_ = (([(⟨4351, 4352⟩ : S34), (⟨11903, 11904⟩ : S34), (⟨42192, 42191⟩ : S34), (⟨44031, 44032⟩ : S34), (⟨55204, 55203⟩ : S34), (⟨65377, 65376⟩ : S34), (⟨127743, 127744⟩ : S34), (⟨129792, 129791⟩ : S34), (⟨131071, 131072⟩ : S34), (⟨262142, 262141⟩ : S34)] : List (S34))) := ⟨_, rfl⟩
          replace H : (linguistlaw2_CellWidths.l0 kj4 t133 x4_4 y134 (y134.length : Int) 0) = some r := by first | (rw [hy134]; with_reducible exact H) | (have H2_ := (Option.bind_some _ _).symm.trans H; rw [hy134]; with_reducible exact H2_) | (have H2_ := (Option.bind_some _ _).symm.trans H; with_reducible exact H2_) | with_reducible exact H | (rw [hy134]; exact H) | exact H
          have Ny134 := Aside0.mk hy134
          clear hy134
          have H' := Aside0.mk H
          clear H
          go_wp2_with (first | ((with_reducible refine gate_dst (N := 25) rfl ?_); refine Kd.R_lit k34 _ 34 ?hg (N := 25) ?hd (xs := ([(⟨4351, 4352⟩ : S34), (⟨11903, 11904⟩ : S34), (⟨42192, 42191⟩ : S34), (⟨44031, 44032⟩ : S34), (⟨55204, 55203⟩ : S34), (⟨65377, 65376⟩ : S34), (⟨127743, 127744⟩ : S34), (⟨129792, 129791⟩ : S34), (⟨131071, 131072⟩ : S34), (⟨262142, 262141⟩ : S34)] : List (S34))) (inner := [.int .i32 4351, .int .i32 4352, .int .i32 11903, .int .i32 11904, .int .i32 42192, .int .i32 42191, .int .i32 44031, .int .i32 44032, .int .i32 55204, .int .i32 55203, .int .i32 65377, .int .i32 65376, .int .i32 127743, .int .i32 127744, .int .i32 129792, .int .i32 129791, .int .i32 131071, .int .i32 131072, .int .i32 262142, .int .i32 262141]) (ok := fun _ => True) (okp := fun _ => True) ?hr ?hp (fun _ hk => hk) trivial (Below.refl _ _) (Nat.le_refl _) (by simp) ?_; (case hd => rfl); (case hg => rfl); (case hr => first | (go_simp; done) | (go_simp; rfl)); (case hp => exact (Reps.c2 (show Kd.M k34 _ _ _ (⟨4351, 4352⟩ : S34) [.int .i32 4351, .int .i32 4352] from (k34_mkM _ _ _ (⟨4351, 4352⟩ : S34) )) (Reps.c2 (show Kd.M k34 _ _ _ (⟨11903, 11904⟩ : S34) [.int .i32 11903, .int .i32 11904] from (k34_mkM _ _ _ (⟨11903, 11904⟩ : S34) )) (Reps.c2 (show Kd.M k34 _ _ _ (⟨42192, 42191⟩ : S34) [.int .i32 42192, .int .i32 42191] from (k34_mkM _ _ _ (⟨42192, 42191⟩ : S34) )) (Reps.c2 (show Kd.M k34 _ _ _ (⟨44031, 44032⟩ : S34) [.int .i32 44031, .int .i32 44032] from (k34_mkM _ _ _ (⟨44031, 44032⟩ : S34) )) (Reps.c2 (show Kd.M k34 _ _ _ (⟨55204, 55203⟩ : S34) [.int .i32 55204, .int .i32 55203] from (k34_mkM _ _ _ (⟨55204, 55203⟩ : S34) )) (Reps.c2 (show Kd.M k34 _ _ _ (⟨65377, 65376⟩ : S34) [.int .i32 65377, .int .i32 65376] from (k34_mkM _ _ _ (⟨65377, 65376⟩ : S34) )) (Reps.c2 (show Kd.M k34 _ _ _ (⟨127743, 127744⟩ : S34) [.int .i32 127743, .int .i32 127744] from (k34_mkM _ _ _ (⟨127743, 127744⟩ : S34) )) (Reps.c2 (show Kd.M k34 _ _ _ (⟨129792, 129791⟩ : S34) [.int .i32 129792, .int .i32 129791] from (k34_mkM _ _ _ (⟨129792, 129791⟩ : S34) )) (Reps.c2 (show Kd.M k34 _ _ _ (⟨131071, 131072⟩ : S34) [.int .i32 131071, .int .i32 131072] from (k34_mkM _ _ _ (⟨131071, 131072⟩ : S34) )) (Reps.c2 (show Kd.M k34 _ _ _ (⟨262142, 262141⟩ : S34) [.int .i32 262142, .int .i32 262141] from (k34_mkM _ _ _ (⟨262142, 262141⟩ : S34) )) (Reps.none _ _)))))))))))); intro v135 w7 ho8 hb hg_ hnew_; clear hg_ hnew_; (first | rw [← Ny134.out] at ho8 | (simp only [Int.reduceToNat] at ho8; rw [← Ny134.out] at ho8)); have n0_ := Aside0.mk (Kd.R_lower ho8 (below_size (by repeat (first | (with_reducible first | exact HB.out | apply below_alloc | apply pw_below_drewN | apply below_drew1) | exact HB.out)))); have n1_ := Aside0.mk (below_step (by repeat (first | (with_reducible first | exact HB.out | apply below_alloc | apply pw_below_drewN | apply below_drew1) | exact HB.out)) hb); clear HB; have HO136 := n0_; have HB := n1_; clear n0_ n1_; clear hb ho8; obtain ⟨Ao9, co9, eo9⟩ := Kd.R_slice HO136.out; subst eo9))
          go_loopg [27] kj4 (fun kq v27 w' => ∃ (x27_3 : Int), v27 = .int .i64 x27_3 ∧ Aside0 (linguistlaw2_CellWidths.l0 kq t133 x4_4 y134 (y134.length : Int) x27_3 = some r) ∧ Aside0 (kq ≤ kj4) ∧ Aside0 (Kd.R k34 34 w' w.heap.size (fun _ => True) (.slice Ao9 y134.length co9) y134) ∧ Aside0 (Below w.heap.size w w'))
          case atStart => exact ⟨(0), (by first | rfl | (simp; done) | (simp [*]; done)), H', ⟨Nat.le_refl _⟩, ⟨by (with_reducible repeat (first | apply Kd.R_alloc | apply Kd.R_drewN | apply Kd.R_drew)); exact HO136.out⟩, ⟨by repeat (first | (with_reducible first | exact HB.out | apply below_alloc | apply pw_below_drewN | apply below_drew1) | exact HB.out)⟩⟩
          case round =>
            clear H'
            try clear c1
            try clear c2
            try clear p2
            try clear c4
            try clear c4b0
            try clear c6
            try clear p2
            obtain ⟨x27_3, rfl, HA, HK3, HO_25, HB⟩ := hrel
            cases gk with
            | zero => exact absurd HA.out (by simp [linguistlaw2_CellWidths.l0])
            | succ k3 =>
              have H := HA.out
              clear HA
              simp only [linguistlaw2_CellWidths.l0] at H
              by_cases c10 : x27_3 < (y134.length : Int)
              · rw [if_pos c10] at H
                have c10b0 : decide (x27_3 < (y134.length : Int)) = true := decide_eq_true c10
                clear c10
                by_cases c11 : 0 ≤ x27_3
                · rw [if_pos c11] at H
                  have c11b0 : decide (0 ≤ x27_3) = true := decide_eq_true c11
                  clear c11
                  by_cases c12 : x27_3 < (y134.length : Int)
                  · rw [if_pos c12] at H
                    have c12b0 : decide (x27_3 < (y134.length : Int)) = true := decide_eq_true c12
                    clear c12
                    replace H := Option.bind_eq_some_iff.mp H
                    obtain ⟨t139, A130, H⟩ := H
                    replace H : (if t139 = 1 then ((cell_Width.f k3 ((rd_T34 y134 x27_3).f1)).bind fun t140 => (if t140 = 2 then (linguistlaw2_CellWidths.l0 k3 t133 x4_4 y134 (y134.length : Int) (wrap64 (x27_3 + 1))) else (none))) else (none)) = some r := H
                    have A13 := Aside0.mk A130
                    clear A130
                    by_cases c14 : t139 = 1
                    · rw [if_pos c14] at H
                      have c14b0 : (t139 == 1) = true := beq_iff_eq.mpr c14
                      have c14b1 : (t139 != 1) = false := bne_eq_false_iff_eq.mpr c14
                      clear c14
                      replace H := Option.bind_eq_some_iff.mp H
                      obtain ⟨t140, A150, H⟩ := H
                      replace H : (if t140 = 2 then (linguistlaw2_CellWidths.l0 k3 t133 x4_4 y134 (y134.length : Int) (wrap64 (x27_3 + 1))) else (none)) = some r := H
                      have A15 := Aside0.mk A150
                      clear A150
                      by_cases c16 : t140 = 2
                      · rw [if_pos c16] at H
                        have c16b0 : (t140 == 2) = true := beq_iff_eq.mpr c16
                        have c16b1 : (t140 != 2) = false := bne_eq_false_iff_eq.mpr c16
                        clear c16
                        have H' := Aside0.mk H
                        clear H
                        have p137 : 0 ≤ (x27_3 : Int) := of_decide_eq_true (by first | (with_reducible assumption) | assumption)
                        have q137 : x27_3 < (y134.length : Int) := of_decide_eq_true (by first | (with_reducible assumption) | assumption)
                        obtain ⟨ad137, e137, hx137_0, hx137_1⟩ := at_T34 (Kd.R_reads' HO_25.out).2.2 x27_3 p137 q137
                        cases e137
                        replace p137 := eq_true p137
                        replace q137 := eq_true q137
                        go_wp2_with (first | ((with_reducible refine gate_dst (N := 6) rfl ?_); refine box_event ?hg (N := 6) ?hd (cs := #[.int .i32 0, .int .i32 0]) (t := 34) ?hr ?_; (case hd => rfl); (case hg => rfl); (case hr => first | (go_simp; done) | (go_simp; rfl)); intro gb138 hg w17 hbox hb; have n0_ := Aside0.mk (Kd.R_below (Kd.R_elderB (by (with_reducible repeat (first | apply Kd.R_alloc | apply Kd.R_drewN | apply Kd.R_drew)); exact HO_25.out) gb138 (Nat.le_of_eq hg.symm)) hb); have n1_ := Aside0.mk (below_step (by repeat (first | (with_reducible first | exact HB.out | apply below_alloc | apply pw_below_drewN | apply below_drew1) | exact HB.out)) hb); have n2_ := Aside0.mk (hbox); have n3_ := Aside0.mk ((by rw [hg]; exact (below_size (by repeat (first | (with_reducible first | exact HB.out | apply below_alloc | apply pw_below_drewN | apply below_drew1) | exact HB.out))) : w.heap.size ≤ gb138)); have n4_ := Aside0.mk ((by rw [hg]; exact (below_size (by repeat (first | (with_reducible first | exact HB.out | apply below_alloc | apply pw_below_drewN | apply below_drew1) | exact HB.out))) : w.heap.size ≤ gb138)); clear HO_25; clear HB; have HO_25 := n0_; have HB := n1_; have BK138 := n2_; have GW138 := n3_; have GE138 := n4_; clear n0_ n1_ n2_ n3_ n4_; clear hb hbox hg; have hcz18_0 : w17.cell? ⟨gb138, 0, none⟩ = some (.int .i32 0) := (blk_cell BK138.out 0).trans rfl; have hcz18_1 : w17.cell? ⟨gb138, 1, none⟩ = some (.int .i32 0) := (blk_cell BK138.out 1).trans rfl; have hfz18_0 := blk_frozen BK138.out 0; have hfz18_1 := blk_frozen BK138.out 1) | ((with_reducible refine gate_callee (f := 8) rfl ?_); refine goesL_ (some 33) rfl rfl Try.func8 (by kernel_rfl) rfl #[.int .i32 ((rd_T34 y134 x27_3).f0)] rfl (by (try simp only [List.map_toArray, List.map_cons, List.map_nil]); first | done | rfl | (simp only [List.length_drop, List.length_take]; rfl)) ?_; (with_reducible refine (cell_Width.calls k3 ((rd_T34 y134 x27_3).f0) t139 _ A13.out).mono ?_); rintro e w19 ⟨rfl, hb⟩; refine ⟨_, rfl, ?_⟩; have n0_ := Aside0.mk (Kd.R_below (by (with_reducible repeat (first | apply Kd.R_alloc | apply Kd.R_drewN | apply Kd.R_drew)); exact (Kd.R_mono (Kd.R_far (p := ⟨gb138, 1, none⟩) (Kd.R_far (p := ⟨gb138, 0, none⟩) (Kd.R_mono HO_25.out (fun k_ hk => (⟨hk, hk.2⟩ : _ ∧ k_ ≠ gb138))) (fun _ hk => hk.2) (.int .i32 ((rd_T34 y134 x27_3).f0))) (fun _ hk => hk.2) (.int .i32 ((rd_T34 y134 x27_3).f1))) (fun _ h_ => h_.1))) hb); have n1_ := Aside0.mk (blk_below (g := gb138) (o := .cells #[.int .i32 ((rd_T34 y134 x27_3).f0), .int .i32 ((rd_T34 y134 x27_3).f1)] 34 (0, 0)) (by (with_reducible repeat (first | refine blk_drewN ?_ _ | refine blk_drew ?_ | refine blk_alloc ?_ _)); refine blk_put (cs := #[.int .i32 ((rd_T34 y134 x27_3).f0), .int .i32 0]) ?_ 1 _ rfl; (with_reducible repeat (first | refine blk_drewN ?_ _ | refine blk_drew ?_ | refine blk_alloc ?_ _)); refine blk_put (cs := #[.int .i32 0, .int .i32 0]) ?_ 0 _ rfl; (with_reducible repeat (first | refine blk_drewN ?_ _ | refine blk_drew ?_ | refine blk_alloc ?_ _)); exact BK138.out) hb); have n2_ := Aside0.mk (below_step (by repeat (first | (with_reducible first | exact HB.out | apply below_alloc | apply pw_below_drewN | apply below_drew1 | refine below_set ?_ GE138.out) | exact HB.out)) hb); clear HO_25; clear BK138; clear HB; have HO_25 := n0_; have BK138 := n1_; have HB := n2_; clear n0_ n1_ n2_; (try clear hb); (try clear hb2); (try clear hk); (try clear hi); have hcz20_0 : w19.cell? ⟨gb138, 0, none⟩ = some (.int .i32 ((rd_T34 y134 x27_3).f0)) := (blk_cell BK138.out 0).trans rfl; have hcz20_1 : w19.cell? ⟨gb138, 1, none⟩ = some (.int .i32 ((rd_T34 y134 x27_3).f1)) := (blk_cell BK138.out 1).trans rfl; have hfz20_0 := blk_frozen BK138.out 0; have hfz20_1 := blk_frozen BK138.out 1) | (go_at_call 8; (with_reducible refine (cell_Width.calls k3 ((rd_T34 y134 x27_3).f1) t140 _ A15.out).mono ?_); rintro e w21 ⟨rfl, hb⟩; have n0_ := Aside0.mk (Kd.R_below (by (with_reducible repeat (first | apply Kd.R_alloc | apply Kd.R_drewN | apply Kd.R_drew)); exact HO_25.out) hb); have n1_ := Aside0.mk (blk_below (g := gb138) (o := .cells #[.int .i32 ((rd_T34 y134 x27_3).f0), .int .i32 ((rd_T34 y134 x27_3).f1)] 34 (0, 0)) (by (with_reducible repeat (first | refine blk_drewN ?_ _ | refine blk_drew ?_ | refine blk_alloc ?_ _)); exact BK138.out) hb); have n2_ := Aside0.mk (below_step (by repeat (first | (with_reducible first | exact HB.out | apply below_alloc | apply pw_below_drewN | apply below_drew1 | refine below_set ?_ GE138.out) | exact HB.out)) hb); clear HO_25; clear BK138; clear HB; have HO_25 := n0_; have BK138 := n1_; have HB := n2_; clear n0_ n1_ n2_; (try clear hb); (try clear hb2); (try clear hk); (try clear hi)))
                        go_roundg k3
                        case measure => have := HJ2.out; have := HJ4.out; have := HK3.out; omega
                        case rel => exact ⟨(wrap64 (x27_3 + 1)), (by first | rfl | (simp; done) | (simp [*]; done)), H', ⟨by have := HJ2.out; have := HJ4.out; have := HK3.out; omega⟩, ⟨by (with_reducible repeat (first | apply Kd.R_alloc | apply Kd.R_drewN | apply Kd.R_drew)); exact Kd.R_mono HO_25.out (fun _ hk => trivial)⟩, ⟨by repeat (first | (with_reducible first | exact HB.out | apply below_alloc | apply pw_below_drewN | apply below_drew1 | refine below_set ?_ GE138.out) | exact HB.out)⟩⟩
                      · rw [if_neg c16] at H
                        exact absurd H (by simp)
                    · rw [if_neg c14] at H
                      exact absurd H (by simp)
                  · rw [if_neg c12] at H
                    exact absurd H (by simp)
                · rw [if_neg c11] at H
                  exact absurd H (by simp)
              · rw [if_neg c10] at H
                have c10b0 : decide (x27_3 < (y134.length : Int)) = false := decide_eq_false c10
                clear c10
                replace H := Option.bind_eq_some_iff.mp H
                obtain ⟨t141, A220, H⟩ := H
                replace H : (if t141 = x4_4 then ((cell_Width.f k3 (-1)).bind fun t142 => (if t142 = 0 then ((cell_Width.f k3 1114112).bind fun t143 => (if t143 = 0 then ((cell_Width.f k3 55296).bind fun t144 => (if t144 = 0 then ((cell_Width.f k3 160).bind fun t145 => (if t145 = 1 then ((linguistlaw2_CellRuns.f k3).bind fun t146 => (some t146)) else (none))) else (none))) else (none))) else (none))) else (none)) = some r := H
                have A22 := Aside0.mk A220
                clear A220
                by_cases c23 : t141 = x4_4
                · rw [if_pos c23] at H
                  have c23b0 : (t141 == x4_4) = true := beq_iff_eq.mpr c23
                  have c23b1 : (t141 != x4_4) = false := bne_eq_false_iff_eq.mpr c23
                  clear c23
                  replace H := Option.bind_eq_some_iff.mp H
                  obtain ⟨t142, A240, H⟩ := H
                  replace H : (if t142 = 0 then ((cell_Width.f k3 1114112).bind fun t143 => (if t143 = 0 then ((cell_Width.f k3 55296).bind fun t144 => (if t144 = 0 then ((cell_Width.f k3 160).bind fun t145 => (if t145 = 1 then ((linguistlaw2_CellRuns.f k3).bind fun t146 => (some t146)) else (none))) else (none))) else (none))) else (none)) = some r := H
                  have A24 := Aside0.mk A240
                  clear A240
                  by_cases c25 : t142 = 0
                  · rw [if_pos c25] at H
                    have c25b0 : (t142 == 0) = true := beq_iff_eq.mpr c25
                    have c25b1 : (t142 != 0) = false := bne_eq_false_iff_eq.mpr c25
                    clear c25
                    replace H := Option.bind_eq_some_iff.mp H
                    obtain ⟨t143, A260, H⟩ := H
                    replace H : (if t143 = 0 then ((cell_Width.f k3 55296).bind fun t144 => (if t144 = 0 then ((cell_Width.f k3 160).bind fun t145 => (if t145 = 1 then ((linguistlaw2_CellRuns.f k3).bind fun t146 => (some t146)) else (none))) else (none))) else (none)) = some r := H
                    have A26 := Aside0.mk A260
                    clear A260
                    by_cases c27 : t143 = 0
                    · rw [if_pos c27] at H
                      have c27b0 : (t143 == 0) = true := beq_iff_eq.mpr c27
                      have c27b1 : (t143 != 0) = false := bne_eq_false_iff_eq.mpr c27
                      clear c27
                      replace H := Option.bind_eq_some_iff.mp H
                      obtain ⟨t144, A280, H⟩ := H
                      replace H : (if t144 = 0 then ((cell_Width.f k3 160).bind fun t145 => (if t145 = 1 then ((linguistlaw2_CellRuns.f k3).bind fun t146 => (some t146)) else (none))) else (none)) = some r := H
                      have A28 := Aside0.mk A280
                      clear A280
                      by_cases c29 : t144 = 0
                      · rw [if_pos c29] at H
                        have c29b0 : (t144 == 0) = true := beq_iff_eq.mpr c29
                        have c29b1 : (t144 != 0) = false := bne_eq_false_iff_eq.mpr c29
                        clear c29
                        replace H := Option.bind_eq_some_iff.mp H
                        obtain ⟨t145, A300, H⟩ := H
                        replace H : (if t145 = 1 then ((linguistlaw2_CellRuns.f k3).bind fun t146 => (some t146)) else (none)) = some r := H
                        have A30 := Aside0.mk A300
                        clear A300
                        by_cases c31 : t145 = 1
                        · rw [if_pos c31] at H
                          have c31b0 : (t145 == 1) = true := beq_iff_eq.mpr c31
                          have c31b1 : (t145 != 1) = false := bne_eq_false_iff_eq.mpr c31
                          clear c31
                          replace H := Option.bind_eq_some_iff.mp H
                          obtain ⟨t146, A320, H⟩ := H
                          replace H : (some t146) = some r := H
                          have A32 := Aside0.mk A320
                          clear A320
                          obtain rfl := Option.some.inj H
                          go_wp2_with (first | ((with_reducible refine gate_callee (f := 8) rfl ?_); refine goesL_ (some 44) rfl rfl Try.func8 (by kernel_rfl) rfl #[.int .i32 (wrap32 (t133))] rfl (by (try simp only [List.map_toArray, List.map_cons, List.map_nil]); first | done | rfl | (simp only [List.length_drop, List.length_take]; rfl)) ?_; (with_reducible refine (cell_Width.calls k3 (wrap32 (t133)) t141 _ A22.out).mono ?_); rintro e w33 ⟨rfl, hb⟩; refine ⟨_, rfl, ?_⟩; have n0_ := Aside0.mk (Kd.R_below (by (with_reducible repeat (first | apply Kd.R_alloc | apply Kd.R_drewN | apply Kd.R_drew)); exact HO_25.out) hb); have n1_ := Aside0.mk (below_step (by repeat (first | (with_reducible first | exact HB.out | apply below_alloc | apply pw_below_drewN | apply below_drew1) | exact HB.out)) hb); clear HO_25; clear HB; have HO_25 := n0_; have HB := n1_; clear n0_ n1_; (try clear hb); (try clear hb2); (try clear hk); (try clear hi)) | (go_at_call 8; (with_reducible refine (cell_Width.calls k3 (-1) t142 _ A24.out).mono ?_); rintro e w34 ⟨rfl, hb⟩; have n0_ := Aside0.mk (Kd.R_below (by (with_reducible repeat (first | apply Kd.R_alloc | apply Kd.R_drewN | apply Kd.R_drew)); exact HO_25.out) hb); have n1_ := Aside0.mk (below_step (by repeat (first | (with_reducible first | exact HB.out | apply below_alloc | apply pw_below_drewN | apply below_drew1) | exact HB.out)) hb); clear HO_25; clear HB; have HO_25 := n0_; have HB := n1_; clear n0_ n1_; (try clear hb); (try clear hb2); (try clear hk); (try clear hi)) | (go_at_call 8; (with_reducible refine (cell_Width.calls k3 1114112 t143 _ A26.out).mono ?_); rintro e w35 ⟨rfl, hb⟩; have n0_ := Aside0.mk (Kd.R_below (by (with_reducible repeat (first | apply Kd.R_alloc | apply Kd.R_drewN | apply Kd.R_drew)); exact HO_25.out) hb); have n1_ := Aside0.mk (below_step (by repeat (first | (with_reducible first | exact HB.out | apply below_alloc | apply pw_below_drewN | apply below_drew1) | exact HB.out)) hb); clear HO_25; clear HB; have HO_25 := n0_; have HB := n1_; clear n0_ n1_; (try clear hb); (try clear hb2); (try clear hk); (try clear hi)) | (go_at_call 8; (with_reducible refine (cell_Width.calls k3 55296 t144 _ A28.out).mono ?_); rintro e w36 ⟨rfl, hb⟩; have n0_ := Aside0.mk (Kd.R_below (by (with_reducible repeat (first | apply Kd.R_alloc | apply Kd.R_drewN | apply Kd.R_drew)); exact HO_25.out) hb); have n1_ := Aside0.mk (below_step (by repeat (first | (with_reducible first | exact HB.out | apply below_alloc | apply pw_below_drewN | apply below_drew1) | exact HB.out)) hb); clear HO_25; clear HB; have HO_25 := n0_; have HB := n1_; clear n0_ n1_; (try clear hb); (try clear hb2); (try clear hk); (try clear hi)) | (go_at_call 8; (with_reducible refine (cell_Width.calls k3 160 t145 _ A30.out).mono ?_); rintro e w37 ⟨rfl, hb⟩; have n0_ := Aside0.mk (Kd.R_below (by (with_reducible repeat (first | apply Kd.R_alloc | apply Kd.R_drewN | apply Kd.R_drew)); exact HO_25.out) hb); have n1_ := Aside0.mk (below_step (by repeat (first | (with_reducible first | exact HB.out | apply below_alloc | apply pw_below_drewN | apply below_drew1) | exact HB.out)) hb); clear HO_25; clear HB; have HO_25 := n0_; have HB := n1_; clear n0_ n1_; (try clear hb); (try clear hb2); (try clear hk); (try clear hi)) | (go_at_call 3; (with_reducible refine (linguistlaw2_CellRuns.calls k3  t146 _ A32.out).mono ?_); rintro e w38 ⟨rfl, hb⟩; have n0_ := Aside0.mk (Kd.R_below (by (with_reducible repeat (first | apply Kd.R_alloc | apply Kd.R_drewN | apply Kd.R_drew)); exact HO_25.out) hb); have n1_ := Aside0.mk (below_step (by repeat (first | (with_reducible first | exact HB.out | apply below_alloc | apply pw_below_drewN | apply below_drew1) | exact HB.out)) hb); clear HO_25; clear HB; have HO_25 := n0_; have HB := n1_; clear n0_ n1_; (try clear hb); (try clear hb2); (try clear hk); (try clear hi)))
                          go_ret
                          exact ⟨by first | rfl | (simp [errW_none, errW_some] <;> rfl) | (simp [*, errW_none, errW_some] <;> rfl), by repeat (first | (with_reducible first | exact HB.out | apply below_alloc | apply pw_below_drewN | apply below_drew1) | exact HB.out)⟩
                        · rw [if_neg c31] at H
                          exact absurd H (by simp)
                      · rw [if_neg c29] at H
                        exact absurd H (by simp)
                    · rw [if_neg c27] at H
                      exact absurd H (by simp)
                  · rw [if_neg c25] at H
                    exact absurd H (by simp)
                · rw [if_neg c23] at H
                  exact absurd H (by simp)

/-- THE ONE PURE STATEMENT of linguistlaw2_CellWidths. -/
def linguistlaw2_CellWidths.Pure : Prop := ∀ (a0 : Int), (Lit.int .i64 a0).wf = true → ∃ k, linguistlaw2_CellWidths.f k a0 = some true
theorem linguistlaw2_CellWidths.walk (P : linguistlaw2_CellWidths.Pure) (a0 : Int) (w : World) (w0 : (Lit.int .i64 a0).wf = true)  :
    Calls Try.prog 4 #[.int .i64 a0] w fun e w' => e = .returned (.bool true) ∧ Below w.heap.size w w' := by
  obtain ⟨k, h⟩ := P a0 w0
  refine (linguistlaw2_CellWidths.calls k a0 true w  h).mono ?_
  rintro e w' ⟨rfl, hd⟩
  exact ⟨rfl, hd⟩

end Go.Proofs.Ytklfdmnmiadgpaa.GCellWidths
