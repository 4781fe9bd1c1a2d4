-- Written by a program of this session (out of the kit's printer); Lean checks it.
import Derived.Test.YtlpmhldejeaefaaGLowerRunsx0
import Derived.Test.YtlpmhldejeaefaaGLowerRunsx1
import Derived.Test.YtlpmhldejeaefaaGLowerRunsx2
namespace Go.Proofs.Ytlpmhldejeaefaa.GLowerRuns
open Go.RowKit Go.Proofs.YtlpmhldejeaefaaW.PrintWords Go.Proofs.YtlpmhldejeaefaaW.PrintLast Go.Proofs.YtlpmhldejeaefaaW.PrintMore
attribute [local go_sem] max2_int min2_int max_two min_two max_three min_three max_four min_four   -- for this text's walks alone
set_option linter.unusedVariables false
set_option linter.unusedSimpArgs false

/-! ### linguistlaw18_LowerRuns: function 3 -/
def linguistlaw18_LowerRuns.f (k : Nat)  : Option (Bool) := (linguistref7_Plain.f).bind fun bt161 => ((lower_Cell.f k 2 19968 1 bt161.1 bt161.2.1 bt161.2.2).bind fun bt165 => ((lower_Cell.f k 2 0 2 bt161.1 bt161.2.1 bt161.2.2).bind fun bt170 => (if bt165.1 = 63 then (if bt165.2.1 = 0 then (if bt170.1 = 32 then ((lower_Pen.f k 2 200 (-1) 0).bind fun bt177 => (if bt177.1 = 5 then ((lower_Rune.f k 3 9472).bind fun t180 => (if t180 = 45 then ((lower_Rune.f k 1 9472).bind fun t181 => (some (t181 == 9472))) else (none))) else (none))) else (none)) else (none)) else (none))))
theorem linguistlaw18_LowerRuns.mono : ∀ k, LeO (linguistlaw18_LowerRuns.f k ) (linguistlaw18_LowerRuns.f (k + 1) ) := by
  intro  k
  unfold linguistlaw18_LowerRuns.f
  repeat' first
      | (with_reducible exact lower_Cell.mono _ _ _ _ _ _ _)
      | (with_reducible exact lower_Pen.mono _ _ _ _ _)
      | (with_reducible exact lower_Rune.mono _ _ _)
      | (with_reducible exact LeO.refl _)
      | (with_reducible exact LeO.none _)
      | (with_reducible refine LeO.ite ?_ ?_)
      | (with_reducible refine LeO.bind ?_ (fun _ => ?_))
      | exact lower_Cell.mono _ _ _ _ _ _ _
      | exact lower_Pen.mono _ _ _ _ _
      | exact lower_Rune.mono _ _ _
      | exact LeO.none _
      | refine LeO.ite ?_ ?_
      | refine LeO.bind ?_ (fun _ => ?_)
def linguistlaw18_LowerRuns.T2 : Bool × List (List Nat × List Nat) := (true, [([], []), ([0], [0]), ([1], [1]), ([], []), ([3], [3]), ([4, 2], [4]), ([], []), ([], []), ([6, 2, 5, 0, 1, 2, 6, 7], [2, 6]), ([7, 5, 8, 0, 1, 2, 3, 4, 5, 6, 7, 8], [5, 7])])
def linguistlaw18_LowerRuns.B2 : List Nat := [0, 1, 3, 0, 8, 31, 0, 0, 255, 511]
theorem linguistlaw18_LowerRuns.tab2 : rtab .any (opsOf Try.f3 2) = linguistlaw18_LowerRuns.T2 := by kernel_rfl
theorem linguistlaw18_LowerRuns.bits2 : waitsOk linguistlaw18_LowerRuns.T2.2 linguistlaw18_LowerRuns.B2 = true := by kernel_rfl
set_option maxHeartbeats 8000000 in
set_option maxRecDepth 100000 in
theorem linguistlaw18_LowerRuns.calls (k : Nat)  (r : Bool) (w : World) (h : linguistlaw18_LowerRuns.f k  = some r) :
    Calls Try.prog 3 #[] w fun e w' => e = .returned (.bool r) ∧ Below w.heap.size w w' := by
  have hu23 := Try.underlying23
  have hu26 := Try.underlying26
  have hfield23_0 : ∀ (c0 c1 c2 : Value) (W : World), (Instr.field 23 (.agg #[c0, c1, c2]) 0).run Try.prog W = .ok (c0) W := fun _ _ _ _ => by rfl
  have HB := Aside0.mk (Below.refl w.heap.size w)
  have H : ((linguistref7_Plain.f).bind fun bt161 => ((lower_Cell.f k 2 19968 1 bt161.1 bt161.2.1 bt161.2.2).bind fun bt165 => ((lower_Cell.f k 2 0 2 bt161.1 bt161.2.1 bt161.2.2).bind fun bt170 => (if bt165.1 = 63 then (if bt165.2.1 = 0 then (if bt170.1 = 32 then ((lower_Pen.f k 2 200 (-1) 0).bind fun bt177 => (if bt177.1 = 5 then ((lower_Rune.f k 3 9472).bind fun t180 => (if t180 = 45 then ((lower_Rune.f k 1 9472).bind fun t181 => (some (t181 == 9472))) else (none))) else (none))) else (none)) else (none)) else (none))))) = some r := h
  clear h
  replace H := Option.bind_eq_some_iff.mp H
  obtain ⟨⟨t161, t162, t163⟩, A10, H⟩ := H
  replace H : ((lower_Cell.f k 2 19968 1 t161 t162 t163).bind fun bt165 => ((lower_Cell.f k 2 0 2 t161 t162 t163).bind fun bt170 => (if bt165.1 = 63 then (if bt165.2.1 = 0 then (if bt170.1 = 32 then ((lower_Pen.f k 2 200 (-1) 0).bind fun bt177 => (if bt177.1 = 5 then ((lower_Rune.f k 3 9472).bind fun t180 => (if t180 = 45 then ((lower_Rune.f k 1 9472).bind fun t181 => (some (t181 == 9472))) else (none))) else (none))) else (none)) else (none)) else (none)))) = some r := H
  have A1 := Aside0.mk A10
  clear A10
  replace H := Option.bind_eq_some_iff.mp H
  obtain ⟨⟨t165, t166, t167, t168, t169⟩, A20, H⟩ := H
  replace H : ((lower_Cell.f k 2 0 2 t161 t162 t163).bind fun bt170 => (if t165 = 63 then (if t166 = 0 then (if bt170.1 = 32 then ((lower_Pen.f k 2 200 (-1) 0).bind fun bt177 => (if bt177.1 = 5 then ((lower_Rune.f k 3 9472).bind fun t180 => (if t180 = 45 then ((lower_Rune.f k 1 9472).bind fun t181 => (some (t181 == 9472))) else (none))) else (none))) else (none)) else (none)) else (none))) = some r := H
  have A2 := Aside0.mk A20
  clear A20
  replace H := Option.bind_eq_some_iff.mp H
  obtain ⟨⟨t170, t171, t172, t173, t174⟩, A30, H⟩ := H
  replace H : (if t165 = 63 then (if t166 = 0 then (if t170 = 32 then ((lower_Pen.f k 2 200 (-1) 0).bind fun bt177 => (if bt177.1 = 5 then ((lower_Rune.f k 3 9472).bind fun t180 => (if t180 = 45 then ((lower_Rune.f k 1 9472).bind fun t181 => (some (t181 == 9472))) else (none))) else (none))) else (none)) else (none)) else (none)) = some r := H
  have A3 := Aside0.mk A30
  clear A30
  by_cases c4 : t165 = 63
  · rw [if_pos c4] at H
    have c4b0 : (t165 == 63) = true := beq_iff_eq.mpr c4
    have c4b1 : (t165 != 63) = false := bne_eq_false_iff_eq.mpr c4
    clear c4
    by_cases c5 : t166 = 0
    · rw [if_pos c5] at H
      have c5b0 : (t166 == 0) = true := beq_iff_eq.mpr c5
      have c5b1 : (t166 != 0) = false := bne_eq_false_iff_eq.mpr c5
      clear c5
      by_cases c6 : t170 = 32
      · rw [if_pos c6] at H
        have c6b0 : (t170 == 32) = true := beq_iff_eq.mpr c6
        have c6b1 : (t170 != 32) = false := bne_eq_false_iff_eq.mpr c6
        clear c6
        replace H := Option.bind_eq_some_iff.mp H
        obtain ⟨⟨t177, t178, t179⟩, A70, H⟩ := H
        replace H : (if t177 = 5 then ((lower_Rune.f k 3 9472).bind fun t180 => (if t180 = 45 then ((lower_Rune.f k 1 9472).bind fun t181 => (some (t181 == 9472))) else (none))) else (none)) = some r := H
        have A7 := Aside0.mk A70
        clear A70
        by_cases c8 : t177 = 5
        · rw [if_pos c8] at H
          have c8b0 : (t177 == 5) = true := beq_iff_eq.mpr c8
          have c8b1 : (t177 != 5) = false := bne_eq_false_iff_eq.mpr c8
          clear c8
          replace H := Option.bind_eq_some_iff.mp H
          obtain ⟨t180, A90, H⟩ := H
          replace H : (if t180 = 45 then ((lower_Rune.f k 1 9472).bind fun t181 => (some (t181 == 9472))) else (none)) = some r := H
          have A9 := Aside0.mk A90
          clear A90
          by_cases c10 : t180 = 45
          · rw [if_pos c10] at H
            have c10b0 : (t180 == 45) = true := beq_iff_eq.mpr c10
            have c10b1 : (t180 != 45) = false := bne_eq_false_iff_eq.mpr c10
            clear c10
            replace H := Option.bind_eq_some_iff.mp H
            obtain ⟨t181, A110, H⟩ := H
            replace H : (some (t181 == 9472)) = some r := H
            have A11 := Aside0.mk A110
            clear A110
            obtain rfl := Option.some.inj H
            go_enter Try.func3, Try.ntmps3
            try go_wp2_with (first | ((with_reducible refine gate_callee (f := 8) rfl ?_); refine goesL_ (some 4) rfl rfl Try.func8 (by kernel_rfl) rfl #[] rfl (by (try simp only [List.map_toArray, List.map_cons, List.map_nil]); first | done | rfl | (simp only [List.length_drop, List.length_take]; rfl) | (simp only [List.length_drop, List.length_take]; rw [Nat.min_eq_left (by first | assumption | omega)]; rfl)) ?_; (with_reducible refine (linguistref7_Plain.calls  t161 t162 t163 _ A1.out).mono ?_); rintro e w12 ⟨rfl, hb⟩; refine ⟨_, rfl, ?_⟩; have n0_ := Aside0.mk (below_step (by repeat (first | (with_reducible first | exact HB.out | apply below_alloc | apply pw_below_drewN | apply below_drew1) | exact HB.out)) hb); clear HB; have HB := n0_; clear n0_; (try clear hb); (try clear hb2); (try clear hk); (try clear hi)) | ((with_reducible refine gate_dst (N := 1) rfl ?_); refine box_event ?hg (N := 1) ?hd (cs := #[.int .i64 0, .int .i64 0, .int .i64 0]) (t := 23) ?hr ?_; (case hd => rfl); (case hg => rfl); (case hr => first | (go_simp; done) | (go_simp; rfl)); intro gb164 hg w13 hbox hb; have n0_ := Aside0.mk (below_step (by repeat (first | (with_reducible first | exact HB.out | apply below_alloc | apply pw_below_drewN | apply below_drew1) | exact HB.out)) hb); have n1_ := Aside0.mk (hbox); have n2_ := Aside0.mk ((by rw [hg]; exact (below_size (by repeat (first | (with_reducible first | exact HB.out | apply below_alloc | apply pw_below_drewN | apply below_drew1) | exact HB.out))) : w.heap.size ≤ gb164)); have n3_ := Aside0.mk ((by rw [hg]; exact (below_size (by repeat (first | (with_reducible first | exact HB.out | apply below_alloc | apply pw_below_drewN | apply below_drew1) | exact HB.out))) : w.heap.size ≤ gb164)); clear HB; have HB := n0_; have BK164 := n1_; have GW164 := n2_; have GE164 := n3_; clear n0_ n1_ n2_ n3_; clear hb hbox hg; have hcz14_0 : w13.cell? ⟨gb164, 0, none⟩ = some (.int .i64 0) := (blk_cell BK164.out 0).trans rfl; have hcz14_1 : w13.cell? ⟨gb164, 1, none⟩ = some (.int .i64 0) := (blk_cell BK164.out 1).trans rfl; have hcz14_2 : w13.cell? ⟨gb164, 2, none⟩ = some (.int .i64 0) := (blk_cell BK164.out 2).trans rfl; have hfz14_0 := blk_frozen BK164.out 0; have hfz14_1 := blk_frozen BK164.out 1; have hfz14_2 := blk_frozen BK164.out 2))
            have n0_ : Aside0 ((((w13.setCell ⟨gb164, 0, none⟩ (.int .i64 t161)).setCell ⟨gb164, 1, none⟩ (.int .i64 t162)).setCell ⟨gb164, 2, none⟩ (.int .i64 t163)).heap[gb164]? = some (.cells #[.int .i64 t161, .int .i64 t162, .int .i64 t163] 23 (0, 0))) := ⟨by (with_reducible repeat (first | refine blk_drewN ?_ _ | refine blk_drew ?_ | refine blk_alloc ?_ _)); refine blk_put (cs := #[.int .i64 t161, .int .i64 t162, .int .i64 0]) ?_ 2 _ rfl; (with_reducible repeat (first | refine blk_drewN ?_ _ | refine blk_drew ?_ | refine blk_alloc ?_ _)); refine blk_put (cs := #[.int .i64 t161, .int .i64 0, .int .i64 0]) ?_ 1 _ rfl; (with_reducible repeat (first | refine blk_drewN ?_ _ | refine blk_drew ?_ | refine blk_alloc ?_ _)); refine blk_put (cs := #[.int .i64 0, .int .i64 0, .int .i64 0]) ?_ 0 _ rfl; (with_reducible repeat (first | refine blk_drewN ?_ _ | refine blk_drew ?_ | refine blk_alloc ?_ _)); exact BK164.out⟩
            have n1_ : Aside0 (Below w.heap.size w (((w13.setCell ⟨gb164, 0, none⟩ (.int .i64 t161)).setCell ⟨gb164, 1, none⟩ (.int .i64 t162)).setCell ⟨gb164, 2, none⟩ (.int .i64 t163))) := ⟨by repeat (first | (with_reducible first | exact HB.out | apply below_alloc | apply pw_below_drewN | apply below_drew1 | refine below_set ?_ GE164.out) | exact HB.out)⟩
            (try clear BK164)
            (try clear HB)
            generalize (((w13.setCell ⟨gb164, 0, none⟩ (.int .i64 t161)).setCell ⟨gb164, 1, none⟩ (.int .i64 t162)).setCell ⟨gb164, 2, none⟩ (.int .i64 t163)) = w15 at n0_ n1_ ⊢
            have BK164 := n0_
            have HB := n1_
            clear n0_ n1_
            have n0_ := Aside0.mk (blk_drew BK164.out)
            have n1_ := Aside0.mk (below_drew1 HB.out)
            clear BK164
            clear HB
            have BK164 := n0_
            have HB := n1_
            clear n0_ n1_
            refine start_ (n := 10) (S := fun w' => w'.cell? ⟨gb164, 0, none⟩ = some (.int .i64 t161) ∧ w'.cell? ⟨gb164, 1, none⟩ = some (.int .i64 t162) ∧ w'.cell? ⟨gb164, 2, none⟩ = some (.int .i64 t163)) (ds := []) #[false, false, false, false, false, false, false, false, false, false] (by kernel_rfl) rfl rfl ⟨(blk_cell BK164.out 0).trans rfl, (blk_cell BK164.out 1).trans rfl, (blk_cell BK164.out 2).trans rfl⟩ (fun hHeld => ?_); refine with_tabW linguistlaw18_LowerRuns.tab2 linguistlaw18_LowerRuns.bits2 (fun HT_ HW_ => ?_)
            generalize w15.drew = w16 at BK164 HB hHeld ⊢
            refine take_ (i := 0) (N := some 5) (v := ?_) (a' := ?_) #[true, false, false, false, false, false, false, false, false, false] rfl rfl (take_ofW HT_.out HW_.out (by kernel_rfl)) (fun _ _ _ h => h) (Or.inl ⟨by rfl, ?_⟩) hHeld ?_ ?_
            rotate_left
            · rintro w' ⟨s0, s1, s2⟩
              go_simp
              with_reducible rfl
            rotate_left
            · simp only [Act.put, List.setIfInBounds_toArray, List.set_cons_zero, List.set_cons_succ, i64_w, i32_w]
              rfl
            refine pure_ (i := 1) (N := some 6) (v := ?_) (a' := ?_) #[true, true, false, false, false, false, false, false, false, false] rfl rfl (any_of HT_.out (by kernel_rfl)) (fun _ _ _ h => h) (Or.inl ⟨by rfl, ?_⟩) ?_ ?_
            rotate_left
            · intro w'
              go_simp
              with_reducible rfl
            rotate_left
            · simp only [Act.put, List.setIfInBounds_toArray, List.set_cons_zero, List.set_cons_succ, i64_w, i32_w]
              rfl
            refine take_ (i := 3) (N := some 8) (v := ?_) (a' := ?_) #[true, true, false, true, false, false, false, false, false, false] rfl rfl (take_ofW HT_.out HW_.out (by kernel_rfl)) (fun _ _ _ h => h) (Or.inl ⟨by rfl, ?_⟩) hHeld ?_ ?_
            rotate_left
            · rintro w' ⟨s0, s1, s2⟩
              go_simp
              with_reducible rfl
            rotate_left
            · simp only [Act.put, List.setIfInBounds_toArray, List.set_cons_zero, List.set_cons_succ, i64_w, i32_w]
              rfl
            refine pure_ (i := 4) (N := some 9) (v := ?_) (a' := ?_) #[true, true, false, true, true, false, false, false, false, false] rfl rfl (any_of HT_.out (by kernel_rfl)) (fun _ _ _ h => h) (Or.inl ⟨by rfl, ?_⟩) ?_ ?_
            rotate_left
            · intro w'
              go_simp
              with_reducible rfl
            rotate_left
            · simp only [Act.put, List.setIfInBounds_toArray, List.set_cons_zero, List.set_cons_succ, i64_w, i32_w]
              rfl
            refine join_ (σ := Nat × Nat) 2 #[true, true, true, true, true, true, true, true, false, false] (fun s_ => [(7, .agg #[.int .i32 t165, .int .i64 t166, .int .i64 t167, .int .i64 t168, .int .i64 t169]), (10, .agg #[.int .i32 t170, .int .i64 t171, .int .i64 t172, .int .i64 t173, .int .i64 t174]), (2, .pointer (some ⟨s_.1, 0, none⟩)), (3, .pointer (some ⟨s_.2, 0, none⟩))]) (fun s_ w' => (w'.cell? ⟨gb164, 0, none⟩ = some (.int .i64 t161) ∧ w'.cell? ⟨gb164, 1, none⟩ = some (.int .i64 t162) ∧ w'.cell? ⟨gb164, 2, none⟩ = some (.int .i64 t163)) ∧ (w'.heap[gb164]? = some (.cells #[.int .i64 t161, .int .i64 t162, .int .i64 t163] 23 (0, 0))) ∧ (w'.heap[s_.1]? = some (.cells #[.int .i32 0, .int .i64 0, .int .i64 0, .int .i64 0, .int .i64 0] 26 (0, 0))) ∧ (w'.heap[s_.2]? = some (.cells #[.int .i32 0, .int .i64 0, .int .i64 0, .int .i64 0, .int .i64 0] 26 (0, 0))) ∧ (w.heap.size ≤ s_.1) ∧ (w.heap.size ≤ s_.1) ∧ (gb164 ≠ s_.1) ∧ (s_.1 ≠ gb164) ∧ (s_.2 ≠ s_.1) ∧ (s_.1 ≠ s_.2) ∧ (w.heap.size ≤ s_.2) ∧ (w.heap.size ≤ s_.2) ∧ (gb164 ≠ s_.2) ∧ (s_.2 ≠ gb164) ∧ (Below w.heap.size w w')) ?_ ?_
            rotate_left
            · intro hJ2_5_6_7
              refine join_ (σ := Nat) 3 #[true, true, true, true, true, true, true, false, false, false] (fun s_ => [(7, .agg #[.int .i32 t165, .int .i64 t166, .int .i64 t167, .int .i64 t168, .int .i64 t169]), (10, .agg #[.int .i32 t170, .int .i64 t171, .int .i64 t172, .int .i64 t173, .int .i64 t174]), (2, .pointer (some ⟨s_, 0, none⟩))]) (fun s_ w' => (w'.cell? ⟨gb164, 0, none⟩ = some (.int .i64 t161) ∧ w'.cell? ⟨gb164, 1, none⟩ = some (.int .i64 t162) ∧ w'.cell? ⟨gb164, 2, none⟩ = some (.int .i64 t163)) ∧ (w'.heap[gb164]? = some (.cells #[.int .i64 t161, .int .i64 t162, .int .i64 t163] 23 (0, 0))) ∧ (w'.heap[s_]? = some (.cells #[.int .i32 0, .int .i64 0, .int .i64 0, .int .i64 0, .int .i64 0] 26 (0, 0))) ∧ (w.heap.size ≤ s_) ∧ (w.heap.size ≤ s_) ∧ (gb164 ≠ s_) ∧ (s_ ≠ gb164) ∧ (Below w.heap.size w w')) ?_ ?_
              rotate_left
              · intro hJ2_5_6
                refine join_ (σ := Nat) 3 #[true, true, true, true, true, true, false, true, false, false] (fun s_ => [(7, .agg #[.int .i32 t165, .int .i64 t166, .int .i64 t167, .int .i64 t168, .int .i64 t169]), (10, .agg #[.int .i32 t170, .int .i64 t171, .int .i64 t172, .int .i64 t173, .int .i64 t174]), (3, .pointer (some ⟨s_, 0, none⟩))]) (fun s_ w' => (w'.cell? ⟨gb164, 0, none⟩ = some (.int .i64 t161) ∧ w'.cell? ⟨gb164, 1, none⟩ = some (.int .i64 t162) ∧ w'.cell? ⟨gb164, 2, none⟩ = some (.int .i64 t163)) ∧ (w'.heap[gb164]? = some (.cells #[.int .i64 t161, .int .i64 t162, .int .i64 t163] 23 (0, 0))) ∧ (w'.heap[s_]? = some (.cells #[.int .i32 0, .int .i64 0, .int .i64 0, .int .i64 0, .int .i64 0] 26 (0, 0))) ∧ (w.heap.size ≤ s_) ∧ (w.heap.size ≤ s_) ∧ (gb164 ≠ s_) ∧ (s_ ≠ gb164) ∧ (Below w.heap.size w w')) ?_ ?_
                rotate_left
                · intro hJ2_5_7
                  refine join_ (σ := Nat × Nat) 3 #[true, true, true, true, true, false, true, true, false, false] (fun s_ => [(7, .agg #[.int .i32 t165, .int .i64 t166, .int .i64 t167, .int .i64 t168, .int .i64 t169]), (2, .pointer (some ⟨s_.1, 0, none⟩)), (3, .pointer (some ⟨s_.2, 0, none⟩))]) (fun s_ w' => (w'.cell? ⟨gb164, 0, none⟩ = some (.int .i64 t161) ∧ w'.cell? ⟨gb164, 1, none⟩ = some (.int .i64 t162) ∧ w'.cell? ⟨gb164, 2, none⟩ = some (.int .i64 t163)) ∧ (w'.heap[gb164]? = some (.cells #[.int .i64 t161, .int .i64 t162, .int .i64 t163] 23 (0, 0))) ∧ (w'.heap[s_.1]? = some (.cells #[.int .i32 0, .int .i64 0, .int .i64 0, .int .i64 0, .int .i64 0] 26 (0, 0))) ∧ (w'.heap[s_.2]? = some (.cells #[.int .i32 0, .int .i64 0, .int .i64 0, .int .i64 0, .int .i64 0] 26 (0, 0))) ∧ (w.heap.size ≤ s_.1) ∧ (w.heap.size ≤ s_.1) ∧ (gb164 ≠ s_.1) ∧ (s_.1 ≠ gb164) ∧ (s_.2 ≠ s_.1) ∧ (s_.1 ≠ s_.2) ∧ (w.heap.size ≤ s_.2) ∧ (w.heap.size ≤ s_.2) ∧ (gb164 ≠ s_.2) ∧ (s_.2 ≠ gb164) ∧ (Below w.heap.size w w')) ?_ ?_
                  rotate_left
                  · intro hJ2_6_7
                    refine join_ (σ := Unit) 4 #[true, true, true, true, true, true, false, false, false, false] (fun s_ => [(7, .agg #[.int .i32 t165, .int .i64 t166, .int .i64 t167, .int .i64 t168, .int .i64 t169]), (10, .agg #[.int .i32 t170, .int .i64 t171, .int .i64 t172, .int .i64 t173, .int .i64 t174])]) (fun s_ w' => (w'.cell? ⟨gb164, 0, none⟩ = some (.int .i64 t161) ∧ w'.cell? ⟨gb164, 1, none⟩ = some (.int .i64 t162) ∧ w'.cell? ⟨gb164, 2, none⟩ = some (.int .i64 t163)) ∧ (w'.heap[gb164]? = some (.cells #[.int .i64 t161, .int .i64 t162, .int .i64 t163] 23 (0, 0))) ∧ (Below w.heap.size w w')) ?_ ?_
                    rotate_left
                    · intro hJ2_5
                      refine join_ (σ := Nat) 4 #[true, true, true, true, true, false, true, false, false, false] (fun s_ => [(7, .agg #[.int .i32 t165, .int .i64 t166, .int .i64 t167, .int .i64 t168, .int .i64 t169]), (2, .pointer (some ⟨s_, 0, none⟩))]) (fun s_ w' => (w'.cell? ⟨gb164, 0, none⟩ = some (.int .i64 t161) ∧ w'.cell? ⟨gb164, 1, none⟩ = some (.int .i64 t162) ∧ w'.cell? ⟨gb164, 2, none⟩ = some (.int .i64 t163)) ∧ (w'.heap[gb164]? = some (.cells #[.int .i64 t161, .int .i64 t162, .int .i64 t163] 23 (0, 0))) ∧ (w'.heap[s_]? = some (.cells #[.int .i32 0, .int .i64 0, .int .i64 0, .int .i64 0, .int .i64 0] 26 (0, 0))) ∧ (w.heap.size ≤ s_) ∧ (w.heap.size ≤ s_) ∧ (gb164 ≠ s_) ∧ (s_ ≠ gb164) ∧ (Below w.heap.size w w')) ?_ ?_
                      rotate_left
                      · intro hJ2_6
                        refine join_ (σ := Nat) 4 #[true, true, true, true, true, false, false, true, false, false] (fun s_ => [(7, .agg #[.int .i32 t165, .int .i64 t166, .int .i64 t167, .int .i64 t168, .int .i64 t169]), (3, .pointer (some ⟨s_, 0, none⟩))]) (fun s_ w' => (w'.cell? ⟨gb164, 0, none⟩ = some (.int .i64 t161) ∧ w'.cell? ⟨gb164, 1, none⟩ = some (.int .i64 t162) ∧ w'.cell? ⟨gb164, 2, none⟩ = some (.int .i64 t163)) ∧ (w'.heap[gb164]? = some (.cells #[.int .i64 t161, .int .i64 t162, .int .i64 t163] 23 (0, 0))) ∧ (w'.heap[s_]? = some (.cells #[.int .i32 0, .int .i64 0, .int .i64 0, .int .i64 0, .int .i64 0] 26 (0, 0))) ∧ (w.heap.size ≤ s_) ∧ (w.heap.size ≤ s_) ∧ (gb164 ≠ s_) ∧ (s_ ≠ gb164) ∧ (Below w.heap.size w w')) ?_ ?_
                        rotate_left
                        · intro hJ2_7
                          refine join_ (σ := Nat × Nat) 4 #[true, true, false, true, true, false, true, true, false, false] (fun s_ => [(2, .pointer (some ⟨s_.1, 0, none⟩)), (3, .pointer (some ⟨s_.2, 0, none⟩))]) (fun s_ w' => (w'.cell? ⟨gb164, 0, none⟩ = some (.int .i64 t161) ∧ w'.cell? ⟨gb164, 1, none⟩ = some (.int .i64 t162) ∧ w'.cell? ⟨gb164, 2, none⟩ = some (.int .i64 t163)) ∧ (w'.heap[gb164]? = some (.cells #[.int .i64 t161, .int .i64 t162, .int .i64 t163] 23 (0, 0))) ∧ (w'.heap[s_.1]? = some (.cells #[.int .i32 0, .int .i64 0, .int .i64 0, .int .i64 0, .int .i64 0] 26 (0, 0))) ∧ (w'.heap[s_.2]? = some (.cells #[.int .i32 0, .int .i64 0, .int .i64 0, .int .i64 0, .int .i64 0] 26 (0, 0))) ∧ (w.heap.size ≤ s_.1) ∧ (w.heap.size ≤ s_.1) ∧ (gb164 ≠ s_.1) ∧ (s_.1 ≠ gb164) ∧ (s_.2 ≠ s_.1) ∧ (s_.1 ≠ s_.2) ∧ (w.heap.size ≤ s_.2) ∧ (w.heap.size ≤ s_.2) ∧ (gb164 ≠ s_.2) ∧ (s_.2 ≠ gb164) ∧ (Below w.heap.size w w')) ?_ ?_
                          rotate_left
                          · intro hJ6_7
                            refine join_ (σ := Unit) 5 #[true, true, true, true, true, false, false, false, false, false] (fun s_ => [(7, .agg #[.int .i32 t165, .int .i64 t166, .int .i64 t167, .int .i64 t168, .int .i64 t169])]) (fun s_ w' => (w'.cell? ⟨gb164, 0, none⟩ = some (.int .i64 t161) ∧ w'.cell? ⟨gb164, 1, none⟩ = some (.int .i64 t162) ∧ w'.cell? ⟨gb164, 2, none⟩ = some (.int .i64 t163)) ∧ (w'.heap[gb164]? = some (.cells #[.int .i64 t161, .int .i64 t162, .int .i64 t163] 23 (0, 0))) ∧ (Below w.heap.size w w')) ?_ ?_
                            rotate_left
                            · intro hJ2
                              refine join_ (σ := Nat) 5 #[true, true, false, true, true, false, true, false, false, false] (fun s_ => [(2, .pointer (some ⟨s_, 0, none⟩))]) (fun s_ w' => (w'.cell? ⟨gb164, 0, none⟩ = some (.int .i64 t161) ∧ w'.cell? ⟨gb164, 1, none⟩ = some (.int .i64 t162) ∧ w'.cell? ⟨gb164, 2, none⟩ = some (.int .i64 t163)) ∧ (w'.heap[gb164]? = some (.cells #[.int .i64 t161, .int .i64 t162, .int .i64 t163] 23 (0, 0))) ∧ (w'.heap[s_]? = some (.cells #[.int .i32 0, .int .i64 0, .int .i64 0, .int .i64 0, .int .i64 0] 26 (0, 0))) ∧ (w.heap.size ≤ s_) ∧ (w.heap.size ≤ s_) ∧ (gb164 ≠ s_) ∧ (s_ ≠ gb164) ∧ (Below w.heap.size w w')) ?_ ?_
                              rotate_left
                              · intro hJ6
                                refine join_ (σ := Nat) 5 #[true, true, false, true, true, false, false, true, false, false] (fun s_ => [(3, .pointer (some ⟨s_, 0, none⟩))]) (fun s_ w' => (w'.cell? ⟨gb164, 0, none⟩ = some (.int .i64 t161) ∧ w'.cell? ⟨gb164, 1, none⟩ = some (.int .i64 t162) ∧ w'.cell? ⟨gb164, 2, none⟩ = some (.int .i64 t163)) ∧ (w'.heap[gb164]? = some (.cells #[.int .i64 t161, .int .i64 t162, .int .i64 t163] 23 (0, 0))) ∧ (w'.heap[s_]? = some (.cells #[.int .i32 0, .int .i64 0, .int .i64 0, .int .i64 0, .int .i64 0] 26 (0, 0))) ∧ (w.heap.size ≤ s_) ∧ (w.heap.size ≤ s_) ∧ (gb164 ≠ s_) ∧ (s_ ≠ gb164) ∧ (Below w.heap.size w w')) ?_ ?_
                                rotate_left
                                · intro hJ7
                                  refine three_ (i := 2) (j := 6) (k := 7) (Ni := some 7) (Nj := some 2) (Nk := some 3) #[true, true, true, true, true, false, false, false, false, false] #[true, true, false, true, true, false, true, false, false, false] #[true, true, false, true, true, false, false, true, false, false] rfl rfl rfl rfl rfl rfl (three_of HT_.out (by kernel_rfl)) (by decide) (by decide) (by decide) (fun K hK => ?_) (fun K hK => ?_) (fun K hK => ?_)
                                  · skip
                                    refine goes_ Try.func9 (by kernel_rfl) rfl #[.int .i64 2, .agg #[.int .i32 19968, .int .i64 1, .int .i64 t161, .int .i64 t162, .int .i64 t163]] (by rfl) rfl rfl (by (try simp only [List.map_toArray, List.map_cons, List.map_nil]); first | done | rfl | (simp only [List.length_drop, List.length_take]; rfl) | (simp only [List.length_drop, List.length_take]; rw [Nat.min_eq_left (by first | assumption | omega)]; rfl)) ?_
                                    with_reducible refine (lower_Cell.calls k 2 19968 1 t161 t162 t163 t165 t166 t167 t168 t169 _ A2.out).mono ?_
                                    rintro e w17 ⟨rfl, hb⟩
                                    refine ⟨_, rfl, ?_⟩
                                    have n0_ := Aside0.mk (blk_below (g := gb164) (o := .cells #[.int .i64 t161, .int .i64 t162, .int .i64 t163] 23 (0, 0)) (by (with_reducible repeat (first | refine blk_drewN ?_ _ | refine blk_drew ?_ | refine blk_alloc ?_ _)); exact BK164.out) hb)
                                    have n1_ := Aside0.mk (below_step (by repeat (first | (with_reducible first | exact HB.out | apply below_alloc | apply pw_below_drewN | apply below_drew1 | refine below_set ?_ GE164.out) | exact HB.out)) hb)
                                    clear BK164
                                    clear HB
                                    have BK164 := n0_
                                    have HB := n1_
                                    clear n0_ n1_
                                    (try clear hb)
                                    (try clear hb2)
                                    (try clear hk)
                                    (try clear hi)
                                    refine hK.out _ _ ⟨(blk_cell BK164.out 0).trans rfl, (blk_cell BK164.out 1).trans rfl, (blk_cell BK164.out 2).trans rfl⟩ (fun hHeld => ?_)
                                    clear hK K
                                    refine norm_ (a' := ?_) ?_ ?_
                                    rotate_left
                                    · show Act.put _ (some 7) _ = _
                                      simp only [Act.put, List.setIfInBounds_toArray, List.set_cons_zero, List.set_cons_succ, i64_w, i32_w]
                                      rfl
                                    exact norm_ (by first | (simp only [putAll, Act.put, List.setIfInBounds_toArray, List.set_cons_zero, List.set_cons_succ]; done) | (simp only [putAll, Act.put, List.setIfInBounds_toArray, List.set_cons_zero, List.set_cons_succ]; rfl)) (hJ2 () _ ⟨hHeld, (by (with_reducible repeat (first | refine blk_drewN ?_ _ | refine blk_drew ?_ | refine blk_alloc ?_ _)); exact BK164.out), (by repeat (first | (with_reducible first | exact HB.out | apply below_alloc | apply pw_below_drewN | apply below_drew1 | refine below_set ?_ GE164.out) | exact HB.out))⟩)
                                  · skip
                                    refine box_step ?hg (N := 2) ?hd (cs := #[.int .i32 0, .int .i64 0, .int .i64 0, .int .i64 0, .int .i64 0]) (t := 26) ?hr ?_; (case hd => rfl); (case hg => rfl); (case hr => first | (go_simp; done) | (go_simp; rfl))
                                    intro gb175 hg w17 hbox hb
                                    have n0_ := Aside0.mk (blk_below (g := gb164) (o := .cells #[.int .i64 t161, .int .i64 t162, .int .i64 t163] 23 (0, 0)) (by (with_reducible repeat (first | refine blk_drewN ?_ _ | refine blk_drew ?_ | refine blk_alloc ?_ _)); exact BK164.out) hb)
                                    have n1_ := Aside0.mk (below_step (by repeat (first | (with_reducible first | exact HB.out | apply below_alloc | apply pw_below_drewN | apply below_drew1 | refine below_set ?_ GE164.out) | exact HB.out)) hb)
                                    have n2_ := Aside0.mk (hbox)
                                    have n3_ := Aside0.mk ((by rw [hg]; exact (below_size (by repeat (first | (with_reducible first | exact HB.out | apply below_alloc | apply pw_below_drewN | apply below_drew1 | refine below_set ?_ GE164.out) | exact HB.out))) : w.heap.size ≤ gb175))
                                    have n4_ := Aside0.mk ((by rw [hg]; exact (below_size (by repeat (first | (with_reducible first | exact HB.out | apply below_alloc | apply pw_below_drewN | apply below_drew1 | refine below_set ?_ GE164.out) | exact HB.out))) : w.heap.size ≤ gb175))
                                    have n5_ := Aside0.mk ((by rw [hg]; exact Nat.ne_of_lt (blk_lt (g := gb164) (o := .cells #[.int .i64 t161, .int .i64 t162, .int .i64 t163] 23 (0, 0)) (by (with_reducible repeat (first | refine blk_drewN ?_ _ | refine blk_drew ?_ | refine blk_alloc ?_ _)); exact BK164.out)) : gb164 ≠ gb175))
                                    have n6_ := Aside0.mk ((by rw [hg]; exact Nat.ne_of_gt (blk_lt (g := gb164) (o := .cells #[.int .i64 t161, .int .i64 t162, .int .i64 t163] 23 (0, 0)) (by (with_reducible repeat (first | refine blk_drewN ?_ _ | refine blk_drew ?_ | refine blk_alloc ?_ _)); exact BK164.out)) : gb175 ≠ gb164))
                                    clear BK164
                                    clear HB
                                    have BK164 := n0_
                                    have HB := n1_
                                    have BK175 := n2_
                                    have GW175 := n3_
                                    have GE175 := n4_
                                    have NB164_175 := n5_
                                    have NB175_164 := n6_
                                    clear n0_ n1_ n2_ n3_ n4_ n5_ n6_
                                    clear hb hbox hg
                                    refine hK.out _ _ ⟨(blk_cell BK164.out 0).trans rfl, (blk_cell BK164.out 1).trans rfl, (blk_cell BK164.out 2).trans rfl⟩ (fun hHeld => ?_)
                                    clear hK K
                                    refine norm_ (a' := ?_) ?_ ?_
                                    rotate_left
                                    · show Act.put _ (some 2) _ = _
                                      simp only [Act.put, List.setIfInBounds_toArray, List.set_cons_zero, List.set_cons_succ, i64_w, i32_w]
                                      rfl
                                    exact norm_ (by first | (simp only [putAll, Act.put, List.setIfInBounds_toArray, List.set_cons_zero, List.set_cons_succ]; done) | (simp only [putAll, Act.put, List.setIfInBounds_toArray, List.set_cons_zero, List.set_cons_succ]; rfl)) (hJ6 (gb175) _ ⟨hHeld, (by (with_reducible repeat (first | refine blk_drewN ?_ _ | refine blk_drew ?_ | refine blk_alloc ?_ _)); exact BK164.out), (by (with_reducible repeat (first | refine blk_drewN ?_ _ | refine blk_drew ?_ | refine blk_alloc ?_ _)); exact BK175.out), GW175.out, GE175.out, NB164_175.out, NB175_164.out, (by repeat (first | (with_reducible first | exact HB.out | apply below_alloc | apply pw_below_drewN | apply below_drew1 | refine below_set ?_ GE164.out | refine below_set ?_ GE175.out) | exact HB.out))⟩)
                                  · skip
                                    refine box_step ?hg (N := 3) ?hd (cs := #[.int .i32 0, .int .i64 0, .int .i64 0, .int .i64 0, .int .i64 0]) (t := 26) ?hr ?_; (case hd => rfl); (case hg => rfl); (case hr => first | (go_simp; done) | (go_simp; rfl))
                                    intro gb176 hg w17 hbox hb
                                    have n0_ := Aside0.mk (blk_below (g := gb164) (o := .cells #[.int .i64 t161, .int .i64 t162, .int .i64 t163] 23 (0, 0)) (by (with_reducible repeat (first | refine blk_drewN ?_ _ | refine blk_drew ?_ | refine blk_alloc ?_ _)); exact BK164.out) hb)
                                    have n1_ := Aside0.mk (below_step (by repeat (first | (with_reducible first | exact HB.out | apply below_alloc | apply pw_below_drewN | apply below_drew1 | refine below_set ?_ GE164.out) | exact HB.out)) hb)
                                    have n2_ := Aside0.mk (hbox)
                                    have n3_ := Aside0.mk ((by rw [hg]; exact (below_size (by repeat (first | (with_reducible first | exact HB.out | apply below_alloc | apply pw_below_drewN | apply below_drew1 | refine below_set ?_ GE164.out) | exact HB.out))) : w.heap.size ≤ gb176))
                                    have n4_ := Aside0.mk ((by rw [hg]; exact (below_size (by repeat (first | (with_reducible first | exact HB.out | apply below_alloc | apply pw_below_drewN | apply below_drew1 | refine below_set ?_ GE164.out) | exact HB.out))) : w.heap.size ≤ gb176))
                                    have n5_ := Aside0.mk ((by rw [hg]; exact Nat.ne_of_lt (blk_lt (g := gb164) (o := .cells #[.int .i64 t161, .int .i64 t162, .int .i64 t163] 23 (0, 0)) (by (with_reducible repeat (first | refine blk_drewN ?_ _ | refine blk_drew ?_ | refine blk_alloc ?_ _)); exact BK164.out)) : gb164 ≠ gb176))
                                    have n6_ := Aside0.mk ((by rw [hg]; exact Nat.ne_of_gt (blk_lt (g := gb164) (o := .cells #[.int .i64 t161, .int .i64 t162, .int .i64 t163] 23 (0, 0)) (by (with_reducible repeat (first | refine blk_drewN ?_ _ | refine blk_drew ?_ | refine blk_alloc ?_ _)); exact BK164.out)) : gb176 ≠ gb164))
                                    clear BK164
                                    clear HB
                                    have BK164 := n0_
                                    have HB := n1_
                                    have BK176 := n2_
                                    have GW176 := n3_
                                    have GE176 := n4_
                                    have NB164_176 := n5_
                                    have NB176_164 := n6_
                                    clear n0_ n1_ n2_ n3_ n4_ n5_ n6_
                                    clear hb hbox hg
                                    refine hK.out _ _ ⟨(blk_cell BK164.out 0).trans rfl, (blk_cell BK164.out 1).trans rfl, (blk_cell BK164.out 2).trans rfl⟩ (fun hHeld => ?_)
                                    clear hK K
                                    refine norm_ (a' := ?_) ?_ ?_
                                    rotate_left
                                    · show Act.put _ (some 3) _ = _
                                      simp only [Act.put, List.setIfInBounds_toArray, List.set_cons_zero, List.set_cons_succ, i64_w, i32_w]
                                      rfl
                                    exact norm_ (by first | (simp only [putAll, Act.put, List.setIfInBounds_toArray, List.set_cons_zero, List.set_cons_succ]; done) | (simp only [putAll, Act.put, List.setIfInBounds_toArray, List.set_cons_zero, List.set_cons_succ]; rfl)) (hJ7 (gb176) _ ⟨hHeld, (by (with_reducible repeat (first | refine blk_drewN ?_ _ | refine blk_drew ?_ | refine blk_alloc ?_ _)); exact BK164.out), (by (with_reducible repeat (first | refine blk_drewN ?_ _ | refine blk_drew ?_ | refine blk_alloc ?_ _)); exact BK176.out), GW176.out, GE176.out, NB164_176.out, NB176_164.out, (by repeat (first | (with_reducible first | exact HB.out | apply below_alloc | apply pw_below_drewN | apply below_drew1 | refine below_set ?_ GE164.out | refine below_set ?_ GE176.out) | exact HB.out))⟩)
                                · skip
                                  rintro gb176 w18 ⟨hS_, h0_, h1_, h2_, h3_, h4_, h5_, h6_⟩
                                  have n0_ : Aside0 (w18.heap[gb164]? = some (.cells #[.int .i64 t161, .int .i64 t162, .int .i64 t163] 23 (0, 0))) := ⟨h0_⟩
                                  have n1_ : Aside0 (w18.heap[gb176]? = some (.cells #[.int .i32 0, .int .i64 0, .int .i64 0, .int .i64 0, .int .i64 0] 26 (0, 0))) := ⟨h1_⟩
                                  have n2_ : Aside0 (w.heap.size ≤ gb176) := ⟨h2_⟩
                                  have n3_ : Aside0 (w.heap.size ≤ gb176) := ⟨h3_⟩
                                  have n4_ : Aside0 (gb164 ≠ gb176) := ⟨h4_⟩
                                  have n5_ : Aside0 (gb176 ≠ gb164) := ⟨h5_⟩
                                  have n6_ : Aside0 (Below w.heap.size w w18) := ⟨h6_⟩
                                  clear BK164
                                  clear HB
                                  clear h0_ h1_ h2_ h3_ h4_ h5_ h6_
                                  have BK164 := n0_
                                  have BK176 := n1_
                                  have GW176 := n2_
                                  have GE176 := n3_
                                  have NB164_176 := n4_
                                  have NB176_164 := n5_
                                  have HB := n6_
                                  clear n0_ n1_ n2_ n3_ n4_ n5_ n6_
                                  have hHeld : w18.cell? ⟨gb164, 0, none⟩ = some (.int .i64 t161) ∧ w18.cell? ⟨gb164, 1, none⟩ = some (.int .i64 t162) ∧ w18.cell? ⟨gb164, 2, none⟩ = some (.int .i64 t163) := hS_
                                  refine norm_ (a' := ?_) ?_ ?_
                                  rotate_left
                                  · simp only [putAll, Act.put, List.setIfInBounds_toArray, List.set_cons_zero, List.set_cons_succ]
                                    rfl
                                  refine two_ (i := 2) (j := 6) (Ni := some 7) (Nj := some 2) #[true, true, true, true, true, false, false, true, false, false] #[true, true, false, true, true, false, true, true, false, false] rfl rfl rfl rfl (two_of HT_.out (by kernel_rfl)) (by decide) (by decide) (fun K hK => ?_) (fun K hK => ?_)
                                  · skip
                                    refine goes_ Try.func9 (by kernel_rfl) rfl #[.int .i64 2, .agg #[.int .i32 19968, .int .i64 1, .int .i64 t161, .int .i64 t162, .int .i64 t163]] (by rfl) rfl rfl (by (try simp only [List.map_toArray, List.map_cons, List.map_nil]); first | done | rfl | (simp only [List.length_drop, List.length_take]; rfl) | (simp only [List.length_drop, List.length_take]; rw [Nat.min_eq_left (by first | assumption | omega)]; rfl)) ?_
                                    with_reducible refine (lower_Cell.calls k 2 19968 1 t161 t162 t163 t165 t166 t167 t168 t169 _ A2.out).mono ?_
                                    rintro e w19 ⟨rfl, hb⟩
                                    refine ⟨_, rfl, ?_⟩
                                    have n0_ := Aside0.mk (blk_below (g := gb164) (o := .cells #[.int .i64 t161, .int .i64 t162, .int .i64 t163] 23 (0, 0)) (by (with_reducible repeat (first | refine blk_drewN ?_ _ | refine blk_drew ?_ | refine blk_alloc ?_ _)); exact BK164.out) hb)
                                    have n1_ := Aside0.mk (blk_below (g := gb176) (o := .cells #[.int .i32 0, .int .i64 0, .int .i64 0, .int .i64 0, .int .i64 0] 26 (0, 0)) (by (with_reducible repeat (first | refine blk_drewN ?_ _ | refine blk_drew ?_ | refine blk_alloc ?_ _)); exact BK176.out) hb)
                                    have n2_ := Aside0.mk (below_step (by repeat (first | (with_reducible first | exact HB.out | apply below_alloc | apply pw_below_drewN | apply below_drew1 | refine below_set ?_ GE164.out | refine below_set ?_ GE176.out) | exact HB.out)) hb)
                                    clear BK164
                                    clear BK176
                                    clear HB
                                    have BK164 := n0_
                                    have BK176 := n1_
                                    have HB := n2_
                                    clear n0_ n1_ n2_
                                    (try clear hb)
                                    (try clear hb2)
                                    (try clear hk)
                                    (try clear hi)
                                    refine hK.out _ _ ⟨(blk_cell BK164.out 0).trans rfl, (blk_cell BK164.out 1).trans rfl, (blk_cell BK164.out 2).trans rfl⟩ (fun hHeld => ?_)
                                    clear hK K
                                    refine norm_ (a' := ?_) ?_ ?_
                                    rotate_left
                                    · show Act.put _ (some 7) _ = _
                                      simp only [Act.put, List.setIfInBounds_toArray, List.set_cons_zero, List.set_cons_succ, i64_w, i32_w]
                                      rfl
                                    exact norm_ (by first | (simp only [putAll, Act.put, List.setIfInBounds_toArray, List.set_cons_zero, List.set_cons_succ]; done) | (simp only [putAll, Act.put, List.setIfInBounds_toArray, List.set_cons_zero, List.set_cons_succ]; rfl)) (hJ2_7 (gb176) _ ⟨hHeld, (by (with_reducible repeat (first | refine blk_drewN ?_ _ | refine blk_drew ?_ | refine blk_alloc ?_ _)); exact BK164.out), (by (with_reducible repeat (first | refine blk_drewN ?_ _ | refine blk_drew ?_ | refine blk_alloc ?_ _)); exact BK176.out), GW176.out, GE176.out, NB164_176.out, NB176_164.out, (by repeat (first | (with_reducible first | exact HB.out | apply below_alloc | apply pw_below_drewN | apply below_drew1 | refine below_set ?_ GE164.out | refine below_set ?_ GE176.out) | exact HB.out))⟩)
                                  · skip
                                    refine box_step ?hg (N := 2) ?hd (cs := #[.int .i32 0, .int .i64 0, .int .i64 0, .int .i64 0, .int .i64 0]) (t := 26) ?hr ?_; (case hd => rfl); (case hg => rfl); (case hr => first | (go_simp; done) | (go_simp; rfl))
                                    intro gb175 hg w19 hbox hb
                                    have n0_ := Aside0.mk (blk_below (g := gb164) (o := .cells #[.int .i64 t161, .int .i64 t162, .int .i64 t163] 23 (0, 0)) (by (with_reducible repeat (first | refine blk_drewN ?_ _ | refine blk_drew ?_ | refine blk_alloc ?_ _)); exact BK164.out) hb)
                                    have n1_ := Aside0.mk (blk_below (g := gb176) (o := .cells #[.int .i32 0, .int .i64 0, .int .i64 0, .int .i64 0, .int .i64 0] 26 (0, 0)) (by (with_reducible repeat (first | refine blk_drewN ?_ _ | refine blk_drew ?_ | refine blk_alloc ?_ _)); exact BK176.out) hb)
                                    have n2_ := Aside0.mk (below_step (by repeat (first | (with_reducible first | exact HB.out | apply below_alloc | apply pw_below_drewN | apply below_drew1 | refine below_set ?_ GE164.out | refine below_set ?_ GE176.out) | exact HB.out)) hb)
                                    have n3_ := Aside0.mk (hbox)
                                    have n4_ := Aside0.mk ((by rw [hg]; exact (below_size (by repeat (first | (with_reducible first | exact HB.out | apply below_alloc | apply pw_below_drewN | apply below_drew1 | refine below_set ?_ GE164.out | refine below_set ?_ GE176.out) | exact HB.out))) : w.heap.size ≤ gb175))
                                    have n5_ := Aside0.mk ((by rw [hg]; exact (below_size (by repeat (first | (with_reducible first | exact HB.out | apply below_alloc | apply pw_below_drewN | apply below_drew1 | refine below_set ?_ GE164.out | refine below_set ?_ GE176.out) | exact HB.out))) : w.heap.size ≤ gb175))
                                    have n6_ := Aside0.mk ((by rw [hg]; exact Nat.ne_of_lt (blk_lt (g := gb164) (o := .cells #[.int .i64 t161, .int .i64 t162, .int .i64 t163] 23 (0, 0)) (by (with_reducible repeat (first | refine blk_drewN ?_ _ | refine blk_drew ?_ | refine blk_alloc ?_ _)); exact BK164.out)) : gb164 ≠ gb175))
                                    have n7_ := Aside0.mk ((by rw [hg]; exact Nat.ne_of_gt (blk_lt (g := gb164) (o := .cells #[.int .i64 t161, .int .i64 t162, .int .i64 t163] 23 (0, 0)) (by (with_reducible repeat (first | refine blk_drewN ?_ _ | refine blk_drew ?_ | refine blk_alloc ?_ _)); exact BK164.out)) : gb175 ≠ gb164))
                                    have n8_ := Aside0.mk ((by rw [hg]; exact Nat.ne_of_lt (blk_lt (g := gb176) (o := .cells #[.int .i32 0, .int .i64 0, .int .i64 0, .int .i64 0, .int .i64 0] 26 (0, 0)) (by (with_reducible repeat (first | refine blk_drewN ?_ _ | refine blk_drew ?_ | refine blk_alloc ?_ _)); exact BK176.out)) : gb176 ≠ gb175))
                                    have n9_ := Aside0.mk ((by rw [hg]; exact Nat.ne_of_gt (blk_lt (g := gb176) (o := .cells #[.int .i32 0, .int .i64 0, .int .i64 0, .int .i64 0, .int .i64 0] 26 (0, 0)) (by (with_reducible repeat (first | refine blk_drewN ?_ _ | refine blk_drew ?_ | refine blk_alloc ?_ _)); exact BK176.out)) : gb175 ≠ gb176))
                                    clear BK164
                                    clear BK176
                                    clear HB
                                    have BK164 := n0_
                                    have BK176 := n1_
                                    have HB := n2_
                                    have BK175 := n3_
                                    have GW175 := n4_
                                    have GE175 := n5_
                                    have NB164_175 := n6_
                                    have NB175_164 := n7_
                                    have NB176_175 := n8_
                                    have NB175_176 := n9_
                                    clear n0_ n1_ n2_ n3_ n4_ n5_ n6_ n7_ n8_ n9_
                                    clear hb hbox hg
                                    refine hK.out _ _ ⟨(blk_cell BK164.out 0).trans rfl, (blk_cell BK164.out 1).trans rfl, (blk_cell BK164.out 2).trans rfl⟩ (fun hHeld => ?_)
                                    clear hK K
                                    refine norm_ (a' := ?_) ?_ ?_
                                    rotate_left
                                    · show Act.put _ (some 2) _ = _
                                      simp only [Act.put, List.setIfInBounds_toArray, List.set_cons_zero, List.set_cons_succ, i64_w, i32_w]
                                      rfl
                                    exact norm_ (by first | (simp only [putAll, Act.put, List.setIfInBounds_toArray, List.set_cons_zero, List.set_cons_succ]; done) | (simp only [putAll, Act.put, List.setIfInBounds_toArray, List.set_cons_zero, List.set_cons_succ]; rfl)) (hJ6_7 (gb175, gb176) _ ⟨hHeld, (by (with_reducible repeat (first | refine blk_drewN ?_ _ | refine blk_drew ?_ | refine blk_alloc ?_ _)); exact BK164.out), (by (with_reducible repeat (first | refine blk_drewN ?_ _ | refine blk_drew ?_ | refine blk_alloc ?_ _)); exact BK175.out), (by (with_reducible repeat (first | refine blk_drewN ?_ _ | refine blk_drew ?_ | refine blk_alloc ?_ _)); exact BK176.out), GW175.out, GE175.out, NB164_175.out, NB175_164.out, NB176_175.out, NB175_176.out, GW176.out, GE176.out, NB164_176.out, NB176_164.out, (by repeat (first | (with_reducible first | exact HB.out | apply below_alloc | apply pw_below_drewN | apply below_drew1 | refine below_set ?_ GE164.out | refine below_set ?_ GE176.out | refine below_set ?_ GE175.out) | exact HB.out))⟩)
                              · skip
                                rintro gb175 w18 ⟨hS_, h0_, h1_, h2_, h3_, h4_, h5_, h6_⟩
                                have n0_ : Aside0 (w18.heap[gb164]? = some (.cells #[.int .i64 t161, .int .i64 t162, .int .i64 t163] 23 (0, 0))) := ⟨h0_⟩
                                have n1_ : Aside0 (w18.heap[gb175]? = some (.cells #[.int .i32 0, .int .i64 0, .int .i64 0, .int .i64 0, .int .i64 0] 26 (0, 0))) := ⟨h1_⟩
                                have n2_ : Aside0 (w.heap.size ≤ gb175) := ⟨h2_⟩
                                have n3_ : Aside0 (w.heap.size ≤ gb175) := ⟨h3_⟩
                                have n4_ : Aside0 (gb164 ≠ gb175) := ⟨h4_⟩
                                have n5_ : Aside0 (gb175 ≠ gb164) := ⟨h5_⟩
                                have n6_ : Aside0 (Below w.heap.size w w18) := ⟨h6_⟩
                                clear BK164
                                clear HB
                                clear h0_ h1_ h2_ h3_ h4_ h5_ h6_
                                have BK164 := n0_
                                have BK175 := n1_
                                have GW175 := n2_
                                have GE175 := n3_
                                have NB164_175 := n4_
                                have NB175_164 := n5_
                                have HB := n6_
                                clear n0_ n1_ n2_ n3_ n4_ n5_ n6_
                                have hHeld : w18.cell? ⟨gb164, 0, none⟩ = some (.int .i64 t161) ∧ w18.cell? ⟨gb164, 1, none⟩ = some (.int .i64 t162) ∧ w18.cell? ⟨gb164, 2, none⟩ = some (.int .i64 t163) := hS_
                                refine norm_ (a' := ?_) ?_ ?_
                                rotate_left
                                · simp only [putAll, Act.put, List.setIfInBounds_toArray, List.set_cons_zero, List.set_cons_succ]
                                  rfl
                                refine two_ (i := 2) (j := 7) (Ni := some 7) (Nj := some 3) #[true, true, true, true, true, false, true, false, false, false] #[true, true, false, true, true, false, true, true, false, false] rfl rfl rfl rfl (two_of HT_.out (by kernel_rfl)) (by decide) (by decide) (fun K hK => ?_) (fun K hK => ?_)
                                · skip
                                  refine goes_ Try.func9 (by kernel_rfl) rfl #[.int .i64 2, .agg #[.int .i32 19968, .int .i64 1, .int .i64 t161, .int .i64 t162, .int .i64 t163]] (by rfl) rfl rfl (by (try simp only [List.map_toArray, List.map_cons, List.map_nil]); first | done | rfl | (simp only [List.length_drop, List.length_take]; rfl) | (simp only [List.length_drop, List.length_take]; rw [Nat.min_eq_left (by first | assumption | omega)]; rfl)) ?_
                                  with_reducible refine (lower_Cell.calls k 2 19968 1 t161 t162 t163 t165 t166 t167 t168 t169 _ A2.out).mono ?_
                                  rintro e w19 ⟨rfl, hb⟩
                                  refine ⟨_, rfl, ?_⟩
                                  have n0_ := Aside0.mk (blk_below (g := gb164) (o := .cells #[.int .i64 t161, .int .i64 t162, .int .i64 t163] 23 (0, 0)) (by (with_reducible repeat (first | refine blk_drewN ?_ _ | refine blk_drew ?_ | refine blk_alloc ?_ _)); exact BK164.out) hb)
                                  have n1_ := Aside0.mk (blk_below (g := gb175) (o := .cells #[.int .i32 0, .int .i64 0, .int .i64 0, .int .i64 0, .int .i64 0] 26 (0, 0)) (by (with_reducible repeat (first | refine blk_drewN ?_ _ | refine blk_drew ?_ | refine blk_alloc ?_ _)); exact BK175.out) hb)
                                  have n2_ := Aside0.mk (below_step (by repeat (first | (with_reducible first | exact HB.out | apply below_alloc | apply pw_below_drewN | apply below_drew1 | refine below_set ?_ GE164.out | refine below_set ?_ GE175.out) | exact HB.out)) hb)
                                  clear BK164
                                  clear BK175
                                  clear HB
                                  have BK164 := n0_
                                  have BK175 := n1_
                                  have HB := n2_
                                  clear n0_ n1_ n2_
                                  (try clear hb)
                                  (try clear hb2)
                                  (try clear hk)
                                  (try clear hi)
                                  refine hK.out _ _ ⟨(blk_cell BK164.out 0).trans rfl, (blk_cell BK164.out 1).trans rfl, (blk_cell BK164.out 2).trans rfl⟩ (fun hHeld => ?_)
                                  clear hK K
                                  refine norm_ (a' := ?_) ?_ ?_
                                  rotate_left
                                  · show Act.put _ (some 7) _ = _
                                    simp only [Act.put, List.setIfInBounds_toArray, List.set_cons_zero, List.set_cons_succ, i64_w, i32_w]
                                    rfl
                                  exact norm_ (by first | (simp only [putAll, Act.put, List.setIfInBounds_toArray, List.set_cons_zero, List.set_cons_succ]; done) | (simp only [putAll, Act.put, List.setIfInBounds_toArray, List.set_cons_zero, List.set_cons_succ]; rfl)) (hJ2_6 (gb175) _ ⟨hHeld, (by (with_reducible repeat (first | refine blk_drewN ?_ _ | refine blk_drew ?_ | refine blk_alloc ?_ _)); exact BK164.out), (by (with_reducible repeat (first | refine blk_drewN ?_ _ | refine blk_drew ?_ | refine blk_alloc ?_ _)); exact BK175.out), GW175.out, GE175.out, NB164_175.out, NB175_164.out, (by repeat (first | (with_reducible first | exact HB.out | apply below_alloc | apply pw_below_drewN | apply below_drew1 | refine below_set ?_ GE164.out | refine below_set ?_ GE175.out) | exact HB.out))⟩)
                                · skip
                                  refine box_step ?hg (N := 3) ?hd (cs := #[.int .i32 0, .int .i64 0, .int .i64 0, .int .i64 0, .int .i64 0]) (t := 26) ?hr ?_; (case hd => rfl); (case hg => rfl); (case hr => first | (go_simp; done) | (go_simp; rfl))
                                  intro gb176 hg w19 hbox hb
                                  have n0_ := Aside0.mk (blk_below (g := gb164) (o := .cells #[.int .i64 t161, .int .i64 t162, .int .i64 t163] 23 (0, 0)) (by (with_reducible repeat (first | refine blk_drewN ?_ _ | refine blk_drew ?_ | refine blk_alloc ?_ _)); exact BK164.out) hb)
                                  have n1_ := Aside0.mk (blk_below (g := gb175) (o := .cells #[.int .i32 0, .int .i64 0, .int .i64 0, .int .i64 0, .int .i64 0] 26 (0, 0)) (by (with_reducible repeat (first | refine blk_drewN ?_ _ | refine blk_drew ?_ | refine blk_alloc ?_ _)); exact BK175.out) hb)
                                  have n2_ := Aside0.mk (below_step (by repeat (first | (with_reducible first | exact HB.out | apply below_alloc | apply pw_below_drewN | apply below_drew1 | refine below_set ?_ GE164.out | refine below_set ?_ GE175.out) | exact HB.out)) hb)
                                  have n3_ := Aside0.mk (hbox)
                                  have n4_ := Aside0.mk ((by rw [hg]; exact (below_size (by repeat (first | (with_reducible first | exact HB.out | apply below_alloc | apply pw_below_drewN | apply below_drew1 | refine below_set ?_ GE164.out | refine below_set ?_ GE175.out) | exact HB.out))) : w.heap.size ≤ gb176))
                                  have n5_ := Aside0.mk ((by rw [hg]; exact (below_size (by repeat (first | (with_reducible first | exact HB.out | apply below_alloc | apply pw_below_drewN | apply below_drew1 | refine below_set ?_ GE164.out | refine below_set ?_ GE175.out) | exact HB.out))) : w.heap.size ≤ gb176))
                                  have n6_ := Aside0.mk ((by rw [hg]; exact Nat.ne_of_lt (blk_lt (g := gb164) (o := .cells #[.int .i64 t161, .int .i64 t162, .int .i64 t163] 23 (0, 0)) (by (with_reducible repeat (first | refine blk_drewN ?_ _ | refine blk_drew ?_ | refine blk_alloc ?_ _)); exact BK164.out)) : gb164 ≠ gb176))
                                  have n7_ := Aside0.mk ((by rw [hg]; exact Nat.ne_of_gt (blk_lt (g := gb164) (o := .cells #[.int .i64 t161, .int .i64 t162, .int .i64 t163] 23 (0, 0)) (by (with_reducible repeat (first | refine blk_drewN ?_ _ | refine blk_drew ?_ | refine blk_alloc ?_ _)); exact BK164.out)) : gb176 ≠ gb164))
                                  have n8_ := Aside0.mk ((by rw [hg]; exact Nat.ne_of_lt (blk_lt (g := gb175) (o := .cells #[.int .i32 0, .int .i64 0, .int .i64 0, .int .i64 0, .int .i64 0] 26 (0, 0)) (by (with_reducible repeat (first | refine blk_drewN ?_ _ | refine blk_drew ?_ | refine blk_alloc ?_ _)); exact BK175.out)) : gb175 ≠ gb176))
                                  have n9_ := Aside0.mk ((by rw [hg]; exact Nat.ne_of_gt (blk_lt (g := gb175) (o := .cells #[.int .i32 0, .int .i64 0, .int .i64 0, .int .i64 0, .int .i64 0] 26 (0, 0)) (by (with_reducible repeat (first | refine blk_drewN ?_ _ | refine blk_drew ?_ | refine blk_alloc ?_ _)); exact BK175.out)) : gb176 ≠ gb175))
                                  clear BK164
                                  clear BK175
                                  clear HB
                                  have BK164 := n0_
                                  have BK175 := n1_
                                  have HB := n2_
                                  have BK176 := n3_
                                  have GW176 := n4_
                                  have GE176 := n5_
                                  have NB164_176 := n6_
                                  have NB176_164 := n7_
                                  have NB175_176 := n8_
                                  have NB176_175 := n9_
                                  clear n0_ n1_ n2_ n3_ n4_ n5_ n6_ n7_ n8_ n9_
                                  clear hb hbox hg
                                  refine hK.out _ _ ⟨(blk_cell BK164.out 0).trans rfl, (blk_cell BK164.out 1).trans rfl, (blk_cell BK164.out 2).trans rfl⟩ (fun hHeld => ?_)
                                  clear hK K
                                  refine norm_ (a' := ?_) ?_ ?_
                                  rotate_left
                                  · show Act.put _ (some 3) _ = _
                                    simp only [Act.put, List.setIfInBounds_toArray, List.set_cons_zero, List.set_cons_succ, i64_w, i32_w]
                                    rfl
                                  exact norm_ (by first | (simp only [putAll, Act.put, List.setIfInBounds_toArray, List.set_cons_zero, List.set_cons_succ]; done) | (simp only [putAll, Act.put, List.setIfInBounds_toArray, List.set_cons_zero, List.set_cons_succ]; rfl)) (hJ6_7 (gb175, gb176) _ ⟨hHeld, (by (with_reducible repeat (first | refine blk_drewN ?_ _ | refine blk_drew ?_ | refine blk_alloc ?_ _)); exact BK164.out), (by (with_reducible repeat (first | refine blk_drewN ?_ _ | refine blk_drew ?_ | refine blk_alloc ?_ _)); exact BK175.out), (by (with_reducible repeat (first | refine blk_drewN ?_ _ | refine blk_drew ?_ | refine blk_alloc ?_ _)); exact BK176.out), GW175.out, GE175.out, NB164_175.out, NB175_164.out, NB176_175.out, NB175_176.out, GW176.out, GE176.out, NB164_176.out, NB176_164.out, (by repeat (first | (with_reducible first | exact HB.out | apply below_alloc | apply pw_below_drewN | apply below_drew1 | refine below_set ?_ GE164.out | refine below_set ?_ GE175.out | refine below_set ?_ GE176.out) | exact HB.out))⟩)
                            · skip
                              rintro _ w18 ⟨hS_, h0_, h1_⟩
                              have n0_ : Aside0 (w18.heap[gb164]? = some (.cells #[.int .i64 t161, .int .i64 t162, .int .i64 t163] 23 (0, 0))) := ⟨h0_⟩
                              have n1_ : Aside0 (Below w.heap.size w w18) := ⟨h1_⟩
                              clear BK164
                              clear HB
                              clear h0_ h1_
                              have BK164 := n0_
                              have HB := n1_
                              clear n0_ n1_
                              have hHeld : w18.cell? ⟨gb164, 0, none⟩ = some (.int .i64 t161) ∧ w18.cell? ⟨gb164, 1, none⟩ = some (.int .i64 t162) ∧ w18.cell? ⟨gb164, 2, none⟩ = some (.int .i64 t163) := hS_
                              refine norm_ (a' := ?_) ?_ ?_
                              rotate_left
                              · simp only [putAll, Act.put, List.setIfInBounds_toArray, List.set_cons_zero, List.set_cons_succ]
                                rfl
                              refine three_ (i := 5) (j := 6) (k := 7) (Ni := some 10) (Nj := some 2) (Nk := some 3) #[true, true, true, true, true, true, false, false, false, false] #[true, true, true, true, true, false, true, false, false, false] #[true, true, true, true, true, false, false, true, false, false] rfl rfl rfl rfl rfl rfl (three_of HT_.out (by kernel_rfl)) (by decide) (by decide) (by decide) (fun K hK => ?_) (fun K hK => ?_) (fun K hK => ?_)
                              · skip
                                refine goes_ Try.func9 (by kernel_rfl) rfl #[.int .i64 2, .agg #[.int .i32 0, .int .i64 2, .int .i64 t161, .int .i64 t162, .int .i64 t163]] (by rfl) rfl rfl (by (try simp only [List.map_toArray, List.map_cons, List.map_nil]); first | done | rfl | (simp only [List.length_drop, List.length_take]; rfl) | (simp only [List.length_drop, List.length_take]; rw [Nat.min_eq_left (by first | assumption | omega)]; rfl)) ?_
                                with_reducible refine (lower_Cell.calls k 2 0 2 t161 t162 t163 t170 t171 t172 t173 t174 _ A3.out).mono ?_
                                rintro e w19 ⟨rfl, hb⟩
                                refine ⟨_, rfl, ?_⟩
                                have n0_ := Aside0.mk (blk_below (g := gb164) (o := .cells #[.int .i64 t161, .int .i64 t162, .int .i64 t163] 23 (0, 0)) (by (with_reducible repeat (first | refine blk_drewN ?_ _ | refine blk_drew ?_ | refine blk_alloc ?_ _)); exact BK164.out) hb)
                                have n1_ := Aside0.mk (below_step (by repeat (first | (with_reducible first | exact HB.out | apply below_alloc | apply pw_below_drewN | apply below_drew1 | refine below_set ?_ GE164.out) | exact HB.out)) hb)
                                clear BK164
                                clear HB
                                have BK164 := n0_
                                have HB := n1_
                                clear n0_ n1_
                                (try clear hb)
                                (try clear hb2)
                                (try clear hk)
                                (try clear hi)
                                refine hK.out _ _ ⟨(blk_cell BK164.out 0).trans rfl, (blk_cell BK164.out 1).trans rfl, (blk_cell BK164.out 2).trans rfl⟩ (fun hHeld => ?_)
                                clear hK K
                                refine norm_ (a' := ?_) ?_ ?_
                                rotate_left
                                · show Act.put _ (some 10) _ = _
                                  simp only [Act.put, List.setIfInBounds_toArray, List.set_cons_zero, List.set_cons_succ, i64_w, i32_w]
                                  rfl
                                exact norm_ (by first | (simp only [putAll, Act.put, List.setIfInBounds_toArray, List.set_cons_zero, List.set_cons_succ]; done) | (simp only [putAll, Act.put, List.setIfInBounds_toArray, List.set_cons_zero, List.set_cons_succ]; rfl)) (hJ2_5 () _ ⟨hHeld, (by (with_reducible repeat (first | refine blk_drewN ?_ _ | refine blk_drew ?_ | refine blk_alloc ?_ _)); exact BK164.out), (by repeat (first | (with_reducible first | exact HB.out | apply below_alloc | apply pw_below_drewN | apply below_drew1 | refine below_set ?_ GE164.out) | exact HB.out))⟩)
                              · skip
                                refine box_step ?hg (N := 2) ?hd (cs := #[.int .i32 0, .int .i64 0, .int .i64 0, .int .i64 0, .int .i64 0]) (t := 26) ?hr ?_; (case hd => rfl); (case hg => rfl); (case hr => first | (go_simp; done) | (go_simp; rfl))
                                intro gb175 hg w19 hbox hb
                                have n0_ := Aside0.mk (blk_below (g := gb164) (o := .cells #[.int .i64 t161, .int .i64 t162, .int .i64 t163] 23 (0, 0)) (by (with_reducible repeat (first | refine blk_drewN ?_ _ | refine blk_drew ?_ | refine blk_alloc ?_ _)); exact BK164.out) hb)
                                have n1_ := Aside0.mk (below_step (by repeat (first | (with_reducible first | exact HB.out | apply below_alloc | apply pw_below_drewN | apply below_drew1 | refine below_set ?_ GE164.out) | exact HB.out)) hb)
                                have n2_ := Aside0.mk (hbox)
                                have n3_ := Aside0.mk ((by rw [hg]; exact (below_size (by repeat (first | (with_reducible first | exact HB.out | apply below_alloc | apply pw_below_drewN | apply below_drew1 | refine below_set ?_ GE164.out) | exact HB.out))) : w.heap.size ≤ gb175))
                                have n4_ := Aside0.mk ((by rw [hg]; exact (below_size (by repeat (first | (with_reducible first | exact HB.out | apply below_alloc | apply pw_below_drewN | apply below_drew1 | refine below_set ?_ GE164.out) | exact HB.out))) : w.heap.size ≤ gb175))
                                have n5_ := Aside0.mk ((by rw [hg]; exact Nat.ne_of_lt (blk_lt (g := gb164) (o := .cells #[.int .i64 t161, .int .i64 t162, .int .i64 t163] 23 (0, 0)) (by (with_reducible repeat (first | refine blk_drewN ?_ _ | refine blk_drew ?_ | refine blk_alloc ?_ _)); exact BK164.out)) : gb164 ≠ gb175))
                                have n6_ := Aside0.mk ((by rw [hg]; exact Nat.ne_of_gt (blk_lt (g := gb164) (o := .cells #[.int .i64 t161, .int .i64 t162, .int .i64 t163] 23 (0, 0)) (by (with_reducible repeat (first | refine blk_drewN ?_ _ | refine blk_drew ?_ | refine blk_alloc ?_ _)); exact BK164.out)) : gb175 ≠ gb164))
                                clear BK164
                                clear HB
                                have BK164 := n0_
                                have HB := n1_
                                have BK175 := n2_
                                have GW175 := n3_
                                have GE175 := n4_
                                have NB164_175 := n5_
                                have NB175_164 := n6_
                                clear n0_ n1_ n2_ n3_ n4_ n5_ n6_
                                clear hb hbox hg
                                refine hK.out _ _ ⟨(blk_cell BK164.out 0).trans rfl, (blk_cell BK164.out 1).trans rfl, (blk_cell BK164.out 2).trans rfl⟩ (fun hHeld => ?_)
                                clear hK K
                                refine norm_ (a' := ?_) ?_ ?_
                                rotate_left
                                · show Act.put _ (some 2) _ = _
                                  simp only [Act.put, List.setIfInBounds_toArray, List.set_cons_zero, List.set_cons_succ, i64_w, i32_w]
                                  rfl
                                exact norm_ (by first | (simp only [putAll, Act.put, List.setIfInBounds_toArray, List.set_cons_zero, List.set_cons_succ]; done) | (simp only [putAll, Act.put, List.setIfInBounds_toArray, List.set_cons_zero, List.set_cons_succ]; rfl)) (hJ2_6 (gb175) _ ⟨hHeld, (by (with_reducible repeat (first | refine blk_drewN ?_ _ | refine blk_drew ?_ | refine blk_alloc ?_ _)); exact BK164.out), (by (with_reducible repeat (first | refine blk_drewN ?_ _ | refine blk_drew ?_ | refine blk_alloc ?_ _)); exact BK175.out), GW175.out, GE175.out, NB164_175.out, NB175_164.out, (by repeat (first | (with_reducible first | exact HB.out | apply below_alloc | apply pw_below_drewN | apply below_drew1 | refine below_set ?_ GE164.out | refine below_set ?_ GE175.out) | exact HB.out))⟩)
                              · skip
                                refine box_step ?hg (N := 3) ?hd (cs := #[.int .i32 0, .int .i64 0, .int .i64 0, .int .i64 0, .int .i64 0]) (t := 26) ?hr ?_; (case hd => rfl); (case hg => rfl); (case hr => first | (go_simp; done) | (go_simp; rfl))
                                intro gb176 hg w19 hbox hb
                                have n0_ := Aside0.mk (blk_below (g := gb164) (o := .cells #[.int .i64 t161, .int .i64 t162, .int .i64 t163] 23 (0, 0)) (by (with_reducible repeat (first | refine blk_drewN ?_ _ | refine blk_drew ?_ | refine blk_alloc ?_ _)); exact BK164.out) hb)
                                have n1_ := Aside0.mk (below_step (by repeat (first | (with_reducible first | exact HB.out | apply below_alloc | apply pw_below_drewN | apply below_drew1 | refine below_set ?_ GE164.out) | exact HB.out)) hb)
                                have n2_ := Aside0.mk (hbox)
                                have n3_ := Aside0.mk ((by rw [hg]; exact (below_size (by repeat (first | (with_reducible first | exact HB.out | apply below_alloc | apply pw_below_drewN | apply below_drew1 | refine below_set ?_ GE164.out) | exact HB.out))) : w.heap.size ≤ gb176))
                                have n4_ := Aside0.mk ((by rw [hg]; exact (below_size (by repeat (first | (with_reducible first | exact HB.out | apply below_alloc | apply pw_below_drewN | apply below_drew1 | refine below_set ?_ GE164.out) | exact HB.out))) : w.heap.size ≤ gb176))
                                have n5_ := Aside0.mk ((by rw [hg]; exact Nat.ne_of_lt (blk_lt (g := gb164) (o := .cells #[.int .i64 t161, .int .i64 t162, .int .i64 t163] 23 (0, 0)) (by (with_reducible repeat (first | refine blk_drewN ?_ _ | refine blk_drew ?_ | refine blk_alloc ?_ _)); exact BK164.out)) : gb164 ≠ gb176))
                                have n6_ := Aside0.mk ((by rw [hg]; exact Nat.ne_of_gt (blk_lt (g := gb164) (o := .cells #[.int .i64 t161, .int .i64 t162, .int .i64 t163] 23 (0, 0)) (by (with_reducible repeat (first | refine blk_drewN ?_ _ | refine blk_drew ?_ | refine blk_alloc ?_ _)); exact BK164.out)) : gb176 ≠ gb164))
                                clear BK164
                                clear HB
                                have BK164 := n0_
                                have HB := n1_
                                have BK176 := n2_
                                have GW176 := n3_
                                have GE176 := n4_
                                have NB164_176 := n5_
                                have NB176_164 := n6_
                                clear n0_ n1_ n2_ n3_ n4_ n5_ n6_
                                clear hb hbox hg
                                refine hK.out _ _ ⟨(blk_cell BK164.out 0).trans rfl, (blk_cell BK164.out 1).trans rfl, (blk_cell BK164.out 2).trans rfl⟩ (fun hHeld => ?_)
                                clear hK K
                                refine norm_ (a' := ?_) ?_ ?_
                                rotate_left
                                · show Act.put _ (some 3) _ = _
                                  simp only [Act.put, List.setIfInBounds_toArray, List.set_cons_zero, List.set_cons_succ, i64_w, i32_w]
                                  rfl
                                exact norm_ (by first | (simp only [putAll, Act.put, List.setIfInBounds_toArray, List.set_cons_zero, List.set_cons_succ]; done) | (simp only [putAll, Act.put, List.setIfInBounds_toArray, List.set_cons_zero, List.set_cons_succ]; rfl)) (hJ2_7 (gb176) _ ⟨hHeld, (by (with_reducible repeat (first | refine blk_drewN ?_ _ | refine blk_drew ?_ | refine blk_alloc ?_ _)); exact BK164.out), (by (with_reducible repeat (first | refine blk_drewN ?_ _ | refine blk_drew ?_ | refine blk_alloc ?_ _)); exact BK176.out), GW176.out, GE176.out, NB164_176.out, NB176_164.out, (by repeat (first | (with_reducible first | exact HB.out | apply below_alloc | apply pw_below_drewN | apply below_drew1 | refine below_set ?_ GE164.out | refine below_set ?_ GE176.out) | exact HB.out))⟩)
                          · skip
                            rintro ⟨gb175, gb176⟩ w19 ⟨hS_, h0_, h1_, h2_, h3_, h4_, h5_, h6_, h7_, h8_, h9_, h10_, h11_, h12_, h13_⟩
                            have n0_ : Aside0 (w19.heap[gb164]? = some (.cells #[.int .i64 t161, .int .i64 t162, .int .i64 t163] 23 (0, 0))) := ⟨h0_⟩
                            have n1_ : Aside0 (w19.heap[gb175]? = some (.cells #[.int .i32 0, .int .i64 0, .int .i64 0, .int .i64 0, .int .i64 0] 26 (0, 0))) := ⟨h1_⟩
                            have n2_ : Aside0 (w19.heap[gb176]? = some (.cells #[.int .i32 0, .int .i64 0, .int .i64 0, .int .i64 0, .int .i64 0] 26 (0, 0))) := ⟨h2_⟩
                            have n3_ : Aside0 (w.heap.size ≤ gb175) := ⟨h3_⟩
                            have n4_ : Aside0 (w.heap.size ≤ gb175) := ⟨h4_⟩
                            have n5_ : Aside0 (gb164 ≠ gb175) := ⟨h5_⟩
                            have n6_ : Aside0 (gb175 ≠ gb164) := ⟨h6_⟩
                            have n7_ : Aside0 (gb176 ≠ gb175) := ⟨h7_⟩
                            have n8_ : Aside0 (gb175 ≠ gb176) := ⟨h8_⟩
                            have n9_ : Aside0 (w.heap.size ≤ gb176) := ⟨h9_⟩
                            have n10_ : Aside0 (w.heap.size ≤ gb176) := ⟨h10_⟩
                            have n11_ : Aside0 (gb164 ≠ gb176) := ⟨h11_⟩
                            have n12_ : Aside0 (gb176 ≠ gb164) := ⟨h12_⟩
                            have n13_ : Aside0 (Below w.heap.size w w19) := ⟨h13_⟩
                            clear BK164
                            clear HB
                            clear h0_ h1_ h2_ h3_ h4_ h5_ h6_ h7_ h8_ h9_ h10_ h11_ h12_ h13_
                            have BK164 := n0_
                            have BK175 := n1_
                            have BK176 := n2_
                            have GW175 := n3_
                            have GE175 := n4_
                            have NB164_175 := n5_
                            have NB175_164 := n6_
                            have NB176_175 := n7_
                            have NB175_176 := n8_
                            have GW176 := n9_
                            have GE176 := n10_
                            have NB164_176 := n11_
                            have NB176_164 := n12_
                            have HB := n13_
                            clear n0_ n1_ n2_ n3_ n4_ n5_ n6_ n7_ n8_ n9_ n10_ n11_ n12_ n13_
                            have hHeld : w19.cell? ⟨gb164, 0, none⟩ = some (.int .i64 t161) ∧ w19.cell? ⟨gb164, 1, none⟩ = some (.int .i64 t162) ∧ w19.cell? ⟨gb164, 2, none⟩ = some (.int .i64 t163) := hS_
                            refine norm_ (a' := ?_) ?_ ?_
                            rotate_left
                            · simp only [putAll, Act.put, List.setIfInBounds_toArray, List.set_cons_zero, List.set_cons_succ]
                              rfl
                            refine one_ (i := 2) (N := some 7) #[true, true, true, true, true, false, true, true, false, false] rfl rfl (one_of HT_.out (by kernel_rfl)) (by decide) (fun K hK => ?_)
                            refine goes_ Try.func9 (by kernel_rfl) rfl #[.int .i64 2, .agg #[.int .i32 19968, .int .i64 1, .int .i64 t161, .int .i64 t162, .int .i64 t163]] (by rfl) rfl rfl (by (try simp only [List.map_toArray, List.map_cons, List.map_nil]); first | done | rfl | (simp only [List.length_drop, List.length_take]; rfl) | (simp only [List.length_drop, List.length_take]; rw [Nat.min_eq_left (by first | assumption | omega)]; rfl)) ?_
                            with_reducible refine (lower_Cell.calls k 2 19968 1 t161 t162 t163 t165 t166 t167 t168 t169 _ A2.out).mono ?_
                            rintro e w20 ⟨rfl, hb⟩
                            refine ⟨_, rfl, ?_⟩
                            have n0_ := Aside0.mk (blk_below (g := gb164) (o := .cells #[.int .i64 t161, .int .i64 t162, .int .i64 t163] 23 (0, 0)) (by (with_reducible repeat (first | refine blk_drewN ?_ _ | refine blk_drew ?_ | refine blk_alloc ?_ _)); exact BK164.out) hb)
                            have n1_ := Aside0.mk (blk_below (g := gb175) (o := .cells #[.int .i32 0, .int .i64 0, .int .i64 0, .int .i64 0, .int .i64 0] 26 (0, 0)) (by (with_reducible repeat (first | refine blk_drewN ?_ _ | refine blk_drew ?_ | refine blk_alloc ?_ _)); exact BK175.out) hb)
                            have n2_ := Aside0.mk (blk_below (g := gb176) (o := .cells #[.int .i32 0, .int .i64 0, .int .i64 0, .int .i64 0, .int .i64 0] 26 (0, 0)) (by (with_reducible repeat (first | refine blk_drewN ?_ _ | refine blk_drew ?_ | refine blk_alloc ?_ _)); exact BK176.out) hb)
                            have n3_ := Aside0.mk (below_step (by repeat (first | (with_reducible first | exact HB.out | apply below_alloc | apply pw_below_drewN | apply below_drew1 | refine below_set ?_ GE164.out | refine below_set ?_ GE175.out | refine below_set ?_ GE176.out) | exact HB.out)) hb)
                            clear BK164
                            clear BK175
                            clear BK176
                            clear HB
                            have BK164 := n0_
                            have BK175 := n1_
                            have BK176 := n2_
                            have HB := n3_
                            clear n0_ n1_ n2_ n3_
                            (try clear hb)
                            (try clear hb2)
                            (try clear hk)
                            (try clear hi)
                            refine hK.out _ _ ⟨(blk_cell BK164.out 0).trans rfl, (blk_cell BK164.out 1).trans rfl, (blk_cell BK164.out 2).trans rfl⟩ (fun hHeld => ?_)
                            clear hK K
                            refine norm_ (a' := ?_) ?_ ?_
                            rotate_left
                            · show Act.put _ (some 7) _ = _
                              simp only [Act.put, List.setIfInBounds_toArray, List.set_cons_zero, List.set_cons_succ, i64_w, i32_w]
                              rfl
                            exact norm_ (by first | (simp only [putAll, Act.put, List.setIfInBounds_toArray, List.set_cons_zero, List.set_cons_succ]; done) | (simp only [putAll, Act.put, List.setIfInBounds_toArray, List.set_cons_zero, List.set_cons_succ]; rfl)) (hJ2_6_7 (gb175, gb176) _ ⟨hHeld, (by (with_reducible repeat (first | refine blk_drewN ?_ _ | refine blk_drew ?_ | refine blk_alloc ?_ _)); exact BK164.out), (by (with_reducible repeat (first | refine blk_drewN ?_ _ | refine blk_drew ?_ | refine blk_alloc ?_ _)); exact BK175.out), (by (with_reducible repeat (first | refine blk_drewN ?_ _ | refine blk_drew ?_ | refine blk_alloc ?_ _)); exact BK176.out), GW175.out, GE175.out, NB164_175.out, NB175_164.out, NB176_175.out, NB175_176.out, GW176.out, GE176.out, NB164_176.out, NB176_164.out, (by repeat (first | (with_reducible first | exact HB.out | apply below_alloc | apply pw_below_drewN | apply below_drew1 | refine below_set ?_ GE164.out | refine below_set ?_ GE175.out | refine below_set ?_ GE176.out) | exact HB.out))⟩)
                        · skip
                          rintro gb176 w19 ⟨hS_, h0_, h1_, h2_, h3_, h4_, h5_, h6_⟩
                          have n0_ : Aside0 (w19.heap[gb164]? = some (.cells #[.int .i64 t161, .int .i64 t162, .int .i64 t163] 23 (0, 0))) := ⟨h0_⟩
                          have n1_ : Aside0 (w19.heap[gb176]? = some (.cells #[.int .i32 0, .int .i64 0, .int .i64 0, .int .i64 0, .int .i64 0] 26 (0, 0))) := ⟨h1_⟩
                          have n2_ : Aside0 (w.heap.size ≤ gb176) := ⟨h2_⟩
                          have n3_ : Aside0 (w.heap.size ≤ gb176) := ⟨h3_⟩
                          have n4_ : Aside0 (gb164 ≠ gb176) := ⟨h4_⟩
                          have n5_ : Aside0 (gb176 ≠ gb164) := ⟨h5_⟩
                          have n6_ : Aside0 (Below w.heap.size w w19) := ⟨h6_⟩
                          clear BK164
                          clear HB
                          clear h0_ h1_ h2_ h3_ h4_ h5_ h6_
                          have BK164 := n0_
                          have BK176 := n1_
                          have GW176 := n2_
                          have GE176 := n3_
                          have NB164_176 := n4_
                          have NB176_164 := n5_
                          have HB := n6_
                          clear n0_ n1_ n2_ n3_ n4_ n5_ n6_
                          have hHeld : w19.cell? ⟨gb164, 0, none⟩ = some (.int .i64 t161) ∧ w19.cell? ⟨gb164, 1, none⟩ = some (.int .i64 t162) ∧ w19.cell? ⟨gb164, 2, none⟩ = some (.int .i64 t163) := hS_
                          refine norm_ (a' := ?_) ?_ ?_
                          rotate_left
                          · simp only [putAll, Act.put, List.setIfInBounds_toArray, List.set_cons_zero, List.set_cons_succ]
                            rfl
                          refine two_ (i := 5) (j := 6) (Ni := some 10) (Nj := some 2) #[true, true, true, true, true, true, false, true, false, false] #[true, true, true, true, true, false, true, true, false, false] rfl rfl rfl rfl (two_of HT_.out (by kernel_rfl)) (by decide) (by decide) (fun K hK => ?_) (fun K hK => ?_)
                          · skip
                            refine goes_ Try.func9 (by kernel_rfl) rfl #[.int .i64 2, .agg #[.int .i32 0, .int .i64 2, .int .i64 t161, .int .i64 t162, .int .i64 t163]] (by rfl) rfl rfl (by (try simp only [List.map_toArray, List.map_cons, List.map_nil]); first | done | rfl | (simp only [List.length_drop, List.length_take]; rfl) | (simp only [List.length_drop, List.length_take]; rw [Nat.min_eq_left (by first | assumption | omega)]; rfl)) ?_
                            with_reducible refine (lower_Cell.calls k 2 0 2 t161 t162 t163 t170 t171 t172 t173 t174 _ A3.out).mono ?_
                            rintro e w20 ⟨rfl, hb⟩
                            refine ⟨_, rfl, ?_⟩
                            have n0_ := Aside0.mk (blk_below (g := gb164) (o := .cells #[.int .i64 t161, .int .i64 t162, .int .i64 t163] 23 (0, 0)) (by (with_reducible repeat (first | refine blk_drewN ?_ _ | refine blk_drew ?_ | refine blk_alloc ?_ _)); exact BK164.out) hb)
                            have n1_ := Aside0.mk (blk_below (g := gb176) (o := .cells #[.int .i32 0, .int .i64 0, .int .i64 0, .int .i64 0, .int .i64 0] 26 (0, 0)) (by (with_reducible repeat (first | refine blk_drewN ?_ _ | refine blk_drew ?_ | refine blk_alloc ?_ _)); exact BK176.out) hb)
                            have n2_ := Aside0.mk (below_step (by repeat (first | (with_reducible first | exact HB.out | apply below_alloc | apply pw_below_drewN | apply below_drew1 | refine below_set ?_ GE164.out | refine below_set ?_ GE176.out) | exact HB.out)) hb)
                            clear BK164
                            clear BK176
                            clear HB
                            have BK164 := n0_
                            have BK176 := n1_
                            have HB := n2_
                            clear n0_ n1_ n2_
                            (try clear hb)
                            (try clear hb2)
                            (try clear hk)
                            (try clear hi)
                            refine hK.out _ _ ⟨(blk_cell BK164.out 0).trans rfl, (blk_cell BK164.out 1).trans rfl, (blk_cell BK164.out 2).trans rfl⟩ (fun hHeld => ?_)
                            clear hK K
                            refine norm_ (a' := ?_) ?_ ?_
                            rotate_left
                            · show Act.put _ (some 10) _ = _
                              simp only [Act.put, List.setIfInBounds_toArray, List.set_cons_zero, List.set_cons_succ, i64_w, i32_w]
                              rfl
                            exact norm_ (by first | (simp only [putAll, Act.put, List.setIfInBounds_toArray, List.set_cons_zero, List.set_cons_succ]; done) | (simp only [putAll, Act.put, List.setIfInBounds_toArray, List.set_cons_zero, List.set_cons_succ]; rfl)) (hJ2_5_7 (gb176) _ ⟨hHeld, (by (with_reducible repeat (first | refine blk_drewN ?_ _ | refine blk_drew ?_ | refine blk_alloc ?_ _)); exact BK164.out), (by (with_reducible repeat (first | refine blk_drewN ?_ _ | refine blk_drew ?_ | refine blk_alloc ?_ _)); exact BK176.out), GW176.out, GE176.out, NB164_176.out, NB176_164.out, (by repeat (first | (with_reducible first | exact HB.out | apply below_alloc | apply pw_below_drewN | apply below_drew1 | refine below_set ?_ GE164.out | refine below_set ?_ GE176.out) | exact HB.out))⟩)
                          · skip
                            refine box_step ?hg (N := 2) ?hd (cs := #[.int .i32 0, .int .i64 0, .int .i64 0, .int .i64 0, .int .i64 0]) (t := 26) ?hr ?_; (case hd => rfl); (case hg => rfl); (case hr => first | (go_simp; done) | (go_simp; rfl))
                            intro gb175 hg w20 hbox hb
                            have n0_ := Aside0.mk (blk_below (g := gb164) (o := .cells #[.int .i64 t161, .int .i64 t162, .int .i64 t163] 23 (0, 0)) (by (with_reducible repeat (first | refine blk_drewN ?_ _ | refine blk_drew ?_ | refine blk_alloc ?_ _)); exact BK164.out) hb)
                            have n1_ := Aside0.mk (blk_below (g := gb176) (o := .cells #[.int .i32 0, .int .i64 0, .int .i64 0, .int .i64 0, .int .i64 0] 26 (0, 0)) (by (with_reducible repeat (first | refine blk_drewN ?_ _ | refine blk_drew ?_ | refine blk_alloc ?_ _)); exact BK176.out) hb)
                            have n2_ := Aside0.mk (below_step (by repeat (first | (with_reducible first | exact HB.out | apply below_alloc | apply pw_below_drewN | apply below_drew1 | refine below_set ?_ GE164.out | refine below_set ?_ GE176.out) | exact HB.out)) hb)
                            have n3_ := Aside0.mk (hbox)
                            have n4_ := Aside0.mk ((by rw [hg]; exact (below_size (by repeat (first | (with_reducible first | exact HB.out | apply below_alloc | apply pw_below_drewN | apply below_drew1 | refine below_set ?_ GE164.out | refine below_set ?_ GE176.out) | exact HB.out))) : w.heap.size ≤ gb175))
                            have n5_ := Aside0.mk ((by rw [hg]; exact (below_size (by repeat (first | (with_reducible first | exact HB.out | apply below_alloc | apply pw_below_drewN | apply below_drew1 | refine below_set ?_ GE164.out | refine below_set ?_ GE176.out) | exact HB.out))) : w.heap.size ≤ gb175))
                            have n6_ := Aside0.mk ((by rw [hg]; exact Nat.ne_of_lt (blk_lt (g := gb164) (o := .cells #[.int .i64 t161, .int .i64 t162, .int .i64 t163] 23 (0, 0)) (by (with_reducible repeat (first | refine blk_drewN ?_ _ | refine blk_drew ?_ | refine blk_alloc ?_ _)); exact BK164.out)) : gb164 ≠ gb175))
                            have n7_ := Aside0.mk ((by rw [hg]; exact Nat.ne_of_gt (blk_lt (g := gb164) (o := .cells #[.int .i64 t161, .int .i64 t162, .int .i64 t163] 23 (0, 0)) (by (with_reducible repeat (first | refine blk_drewN ?_ _ | refine blk_drew ?_ | refine blk_alloc ?_ _)); exact BK164.out)) : gb175 ≠ gb164))
                            have n8_ := Aside0.mk ((by rw [hg]; exact Nat.ne_of_lt (blk_lt (g := gb176) (o := .cells #[.int .i32 0, .int .i64 0, .int .i64 0, .int .i64 0, .int .i64 0] 26 (0, 0)) (by (with_reducible repeat (first | refine blk_drewN ?_ _ | refine blk_drew ?_ | refine blk_alloc ?_ _)); exact BK176.out)) : gb176 ≠ gb175))
                            have n9_ := Aside0.mk ((by rw [hg]; exact Nat.ne_of_gt (blk_lt (g := gb176) (o := .cells #[.int .i32 0, .int .i64 0, .int .i64 0, .int .i64 0, .int .i64 0] 26 (0, 0)) (by (with_reducible repeat (first | refine blk_drewN ?_ _ | refine blk_drew ?_ | refine blk_alloc ?_ _)); exact BK176.out)) : gb175 ≠ gb176))
                            clear BK164
                            clear BK176
                            clear HB
                            have BK164 := n0_
                            have BK176 := n1_
                            have HB := n2_
                            have BK175 := n3_
                            have GW175 := n4_
                            have GE175 := n5_
                            have NB164_175 := n6_
                            have NB175_164 := n7_
                            have NB176_175 := n8_
                            have NB175_176 := n9_
                            clear n0_ n1_ n2_ n3_ n4_ n5_ n6_ n7_ n8_ n9_
                            clear hb hbox hg
                            refine hK.out _ _ ⟨(blk_cell BK164.out 0).trans rfl, (blk_cell BK164.out 1).trans rfl, (blk_cell BK164.out 2).trans rfl⟩ (fun hHeld => ?_)
                            clear hK K
                            refine norm_ (a' := ?_) ?_ ?_
                            rotate_left
                            · show Act.put _ (some 2) _ = _
                              simp only [Act.put, List.setIfInBounds_toArray, List.set_cons_zero, List.set_cons_succ, i64_w, i32_w]
                              rfl
                            exact norm_ (by first | (simp only [putAll, Act.put, List.setIfInBounds_toArray, List.set_cons_zero, List.set_cons_succ]; done) | (simp only [putAll, Act.put, List.setIfInBounds_toArray, List.set_cons_zero, List.set_cons_succ]; rfl)) (hJ2_6_7 (gb175, gb176) _ ⟨hHeld, (by (with_reducible repeat (first | refine blk_drewN ?_ _ | refine blk_drew ?_ | refine blk_alloc ?_ _)); exact BK164.out), (by (with_reducible repeat (first | refine blk_drewN ?_ _ | refine blk_drew ?_ | refine blk_alloc ?_ _)); exact BK175.out), (by (with_reducible repeat (first | refine blk_drewN ?_ _ | refine blk_drew ?_ | refine blk_alloc ?_ _)); exact BK176.out), GW175.out, GE175.out, NB164_175.out, NB175_164.out, NB176_175.out, NB175_176.out, GW176.out, GE176.out, NB164_176.out, NB176_164.out, (by repeat (first | (with_reducible first | exact HB.out | apply below_alloc | apply pw_below_drewN | apply below_drew1 | refine below_set ?_ GE164.out | refine below_set ?_ GE176.out | refine below_set ?_ GE175.out) | exact HB.out))⟩)
                      · skip
                        rintro gb175 w19 ⟨hS_, h0_, h1_, h2_, h3_, h4_, h5_, h6_⟩
                        have n0_ : Aside0 (w19.heap[gb164]? = some (.cells #[.int .i64 t161, .int .i64 t162, .int .i64 t163] 23 (0, 0))) := ⟨h0_⟩
                        have n1_ : Aside0 (w19.heap[gb175]? = some (.cells #[.int .i32 0, .int .i64 0, .int .i64 0, .int .i64 0, .int .i64 0] 26 (0, 0))) := ⟨h1_⟩
                        have n2_ : Aside0 (w.heap.size ≤ gb175) := ⟨h2_⟩
                        have n3_ : Aside0 (w.heap.size ≤ gb175) := ⟨h3_⟩
                        have n4_ : Aside0 (gb164 ≠ gb175) := ⟨h4_⟩
                        have n5_ : Aside0 (gb175 ≠ gb164) := ⟨h5_⟩
                        have n6_ : Aside0 (Below w.heap.size w w19) := ⟨h6_⟩
                        clear BK164
                        clear HB
                        clear h0_ h1_ h2_ h3_ h4_ h5_ h6_
                        have BK164 := n0_
                        have BK175 := n1_
                        have GW175 := n2_
                        have GE175 := n3_
                        have NB164_175 := n4_
                        have NB175_164 := n5_
                        have HB := n6_
                        clear n0_ n1_ n2_ n3_ n4_ n5_ n6_
                        have hHeld : w19.cell? ⟨gb164, 0, none⟩ = some (.int .i64 t161) ∧ w19.cell? ⟨gb164, 1, none⟩ = some (.int .i64 t162) ∧ w19.cell? ⟨gb164, 2, none⟩ = some (.int .i64 t163) := hS_
                        refine norm_ (a' := ?_) ?_ ?_
                        rotate_left
                        · simp only [putAll, Act.put, List.setIfInBounds_toArray, List.set_cons_zero, List.set_cons_succ]
                          rfl
                        refine two_ (i := 5) (j := 7) (Ni := some 10) (Nj := some 3) #[true, true, true, true, true, true, true, false, false, false] #[true, true, true, true, true, false, true, true, false, false] rfl rfl rfl rfl (two_of HT_.out (by kernel_rfl)) (by decide) (by decide) (fun K hK => ?_) (fun K hK => ?_)
                        · skip
                          refine goes_ Try.func9 (by kernel_rfl) rfl #[.int .i64 2, .agg #[.int .i32 0, .int .i64 2, .int .i64 t161, .int .i64 t162, .int .i64 t163]] (by rfl) rfl rfl (by (try simp only [List.map_toArray, List.map_cons, List.map_nil]); first | done | rfl | (simp only [List.length_drop, List.length_take]; rfl) | (simp only [List.length_drop, List.length_take]; rw [Nat.min_eq_left (by first | assumption | omega)]; rfl)) ?_
                          with_reducible refine (lower_Cell.calls k 2 0 2 t161 t162 t163 t170 t171 t172 t173 t174 _ A3.out).mono ?_
                          rintro e w20 ⟨rfl, hb⟩
                          refine ⟨_, rfl, ?_⟩
                          have n0_ := Aside0.mk (blk_below (g := gb164) (o := .cells #[.int .i64 t161, .int .i64 t162, .int .i64 t163] 23 (0, 0)) (by (with_reducible repeat (first | refine blk_drewN ?_ _ | refine blk_drew ?_ | refine blk_alloc ?_ _)); exact BK164.out) hb)
                          have n1_ := Aside0.mk (blk_below (g := gb175) (o := .cells #[.int .i32 0, .int .i64 0, .int .i64 0, .int .i64 0, .int .i64 0] 26 (0, 0)) (by (with_reducible repeat (first | refine blk_drewN ?_ _ | refine blk_drew ?_ | refine blk_alloc ?_ _)); exact BK175.out) hb)
                          have n2_ := Aside0.mk (below_step (by repeat (first | (with_reducible first | exact HB.out | apply below_alloc | apply pw_below_drewN | apply below_drew1 | refine below_set ?_ GE164.out | refine below_set ?_ GE175.out) | exact HB.out)) hb)
                          clear BK164
                          clear BK175
                          clear HB
                          have BK164 := n0_
                          have BK175 := n1_
                          have HB := n2_
                          clear n0_ n1_ n2_
                          (try clear hb)
                          (try clear hb2)
                          (try clear hk)
                          (try clear hi)
                          refine hK.out _ _ ⟨(blk_cell BK164.out 0).trans rfl, (blk_cell BK164.out 1).trans rfl, (blk_cell BK164.out 2).trans rfl⟩ (fun hHeld => ?_)
                          clear hK K
                          refine norm_ (a' := ?_) ?_ ?_
                          rotate_left
                          · show Act.put _ (some 10) _ = _
                            simp only [Act.put, List.setIfInBounds_toArray, List.set_cons_zero, List.set_cons_succ, i64_w, i32_w]
                            rfl
                          exact norm_ (by first | (simp only [putAll, Act.put, List.setIfInBounds_toArray, List.set_cons_zero, List.set_cons_succ]; done) | (simp only [putAll, Act.put, List.setIfInBounds_toArray, List.set_cons_zero, List.set_cons_succ]; rfl)) (hJ2_5_6 (gb175) _ ⟨hHeld, (by (with_reducible repeat (first | refine blk_drewN ?_ _ | refine blk_drew ?_ | refine blk_alloc ?_ _)); exact BK164.out), (by (with_reducible repeat (first | refine blk_drewN ?_ _ | refine blk_drew ?_ | refine blk_alloc ?_ _)); exact BK175.out), GW175.out, GE175.out, NB164_175.out, NB175_164.out, (by repeat (first | (with_reducible first | exact HB.out | apply below_alloc | apply pw_below_drewN | apply below_drew1 | refine below_set ?_ GE164.out | refine below_set ?_ GE175.out) | exact HB.out))⟩)
                        · skip
                          refine box_step ?hg (N := 3) ?hd (cs := #[.int .i32 0, .int .i64 0, .int .i64 0, .int .i64 0, .int .i64 0]) (t := 26) ?hr ?_; (case hd => rfl); (case hg => rfl); (case hr => first | (go_simp; done) | (go_simp; rfl))
                          intro gb176 hg w20 hbox hb
                          have n0_ := Aside0.mk (blk_below (g := gb164) (o := .cells #[.int .i64 t161, .int .i64 t162, .int .i64 t163] 23 (0, 0)) (by (with_reducible repeat (first | refine blk_drewN ?_ _ | refine blk_drew ?_ | refine blk_alloc ?_ _)); exact BK164.out) hb)
                          have n1_ := Aside0.mk (blk_below (g := gb175) (o := .cells #[.int .i32 0, .int .i64 0, .int .i64 0, .int .i64 0, .int .i64 0] 26 (0, 0)) (by (with_reducible repeat (first | refine blk_drewN ?_ _ | refine blk_drew ?_ | refine blk_alloc ?_ _)); exact BK175.out) hb)
                          have n2_ := Aside0.mk (below_step (by repeat (first | (with_reducible first | exact HB.out | apply below_alloc | apply pw_below_drewN | apply below_drew1 | refine below_set ?_ GE164.out | refine below_set ?_ GE175.out) | exact HB.out)) hb)
                          have n3_ := Aside0.mk (hbox)
                          have n4_ := Aside0.mk ((by rw [hg]; exact (below_size (by repeat (first | (with_reducible first | exact HB.out | apply below_alloc | apply pw_below_drewN | apply below_drew1 | refine below_set ?_ GE164.out | refine below_set ?_ GE175.out) | exact HB.out))) : w.heap.size ≤ gb176))
                          have n5_ := Aside0.mk ((by rw [hg]; exact (below_size (by repeat (first | (with_reducible first | exact HB.out | apply below_alloc | apply pw_below_drewN | apply below_drew1 | refine below_set ?_ GE164.out | refine below_set ?_ GE175.out) | exact HB.out))) : w.heap.size ≤ gb176))
                          have n6_ := Aside0.mk ((by rw [hg]; exact Nat.ne_of_lt (blk_lt (g := gb164) (o := .cells #[.int .i64 t161, .int .i64 t162, .int .i64 t163] 23 (0, 0)) (by (with_reducible repeat (first | refine blk_drewN ?_ _ | refine blk_drew ?_ | refine blk_alloc ?_ _)); exact BK164.out)) : gb164 ≠ gb176))
                          have n7_ := Aside0.mk ((by rw [hg]; exact Nat.ne_of_gt (blk_lt (g := gb164) (o := .cells #[.int .i64 t161, .int .i64 t162, .int .i64 t163] 23 (0, 0)) (by (with_reducible repeat (first | refine blk_drewN ?_ _ | refine blk_drew ?_ | refine blk_alloc ?_ _)); exact BK164.out)) : gb176 ≠ gb164))
                          have n8_ := Aside0.mk ((by rw [hg]; exact Nat.ne_of_lt (blk_lt (g := gb175) (o := .cells #[.int .i32 0, .int .i64 0, .int .i64 0, .int .i64 0, .int .i64 0] 26 (0, 0)) (by (with_reducible repeat (first | refine blk_drewN ?_ _ | refine blk_drew ?_ | refine blk_alloc ?_ _)); exact BK175.out)) : gb175 ≠ gb176))
                          have n9_ := Aside0.mk ((by rw [hg]; exact Nat.ne_of_gt (blk_lt (g := gb175) (o := .cells #[.int .i32 0, .int .i64 0, .int .i64 0, .int .i64 0, .int .i64 0] 26 (0, 0)) (by (with_reducible repeat (first | refine blk_drewN ?_ _ | refine blk_drew ?_ | refine blk_alloc ?_ _)); exact BK175.out)) : gb176 ≠ gb175))
                          clear BK164
                          clear BK175
                          clear HB
                          have BK164 := n0_
                          have BK175 := n1_
                          have HB := n2_
                          have BK176 := n3_
                          have GW176 := n4_
                          have GE176 := n5_
                          have NB164_176 := n6_
                          have NB176_164 := n7_
                          have NB175_176 := n8_
                          have NB176_175 := n9_
                          clear n0_ n1_ n2_ n3_ n4_ n5_ n6_ n7_ n8_ n9_
                          clear hb hbox hg
                          refine hK.out _ _ ⟨(blk_cell BK164.out 0).trans rfl, (blk_cell BK164.out 1).trans rfl, (blk_cell BK164.out 2).trans rfl⟩ (fun hHeld => ?_)
                          clear hK K
                          refine norm_ (a' := ?_) ?_ ?_
                          rotate_left
                          · show Act.put _ (some 3) _ = _
                            simp only [Act.put, List.setIfInBounds_toArray, List.set_cons_zero, List.set_cons_succ, i64_w, i32_w]
                            rfl
                          exact norm_ (by first | (simp only [putAll, Act.put, List.setIfInBounds_toArray, List.set_cons_zero, List.set_cons_succ]; done) | (simp only [putAll, Act.put, List.setIfInBounds_toArray, List.set_cons_zero, List.set_cons_succ]; rfl)) (hJ2_6_7 (gb175, gb176) _ ⟨hHeld, (by (with_reducible repeat (first | refine blk_drewN ?_ _ | refine blk_drew ?_ | refine blk_alloc ?_ _)); exact BK164.out), (by (with_reducible repeat (first | refine blk_drewN ?_ _ | refine blk_drew ?_ | refine blk_alloc ?_ _)); exact BK175.out), (by (with_reducible repeat (first | refine blk_drewN ?_ _ | refine blk_drew ?_ | refine blk_alloc ?_ _)); exact BK176.out), GW175.out, GE175.out, NB164_175.out, NB175_164.out, NB176_175.out, NB175_176.out, GW176.out, GE176.out, NB164_176.out, NB176_164.out, (by repeat (first | (with_reducible first | exact HB.out | apply below_alloc | apply pw_below_drewN | apply below_drew1 | refine below_set ?_ GE164.out | refine below_set ?_ GE175.out | refine below_set ?_ GE176.out) | exact HB.out))⟩)
                    · skip
                      rintro _ w19 ⟨hS_, h0_, h1_⟩
                      have n0_ : Aside0 (w19.heap[gb164]? = some (.cells #[.int .i64 t161, .int .i64 t162, .int .i64 t163] 23 (0, 0))) := ⟨h0_⟩
                      have n1_ : Aside0 (Below w.heap.size w w19) := ⟨h1_⟩
                      clear BK164
                      clear HB
                      clear h0_ h1_
                      have BK164 := n0_
                      have HB := n1_
                      clear n0_ n1_
                      have hHeld : w19.cell? ⟨gb164, 0, none⟩ = some (.int .i64 t161) ∧ w19.cell? ⟨gb164, 1, none⟩ = some (.int .i64 t162) ∧ w19.cell? ⟨gb164, 2, none⟩ = some (.int .i64 t163) := hS_
                      refine norm_ (a' := ?_) ?_ ?_
                      rotate_left
                      · simp only [putAll, Act.put, List.setIfInBounds_toArray, List.set_cons_zero, List.set_cons_succ]
                        rfl
                      refine two_ (i := 6) (j := 7) (Ni := some 2) (Nj := some 3) #[true, true, true, true, true, true, true, false, false, false] #[true, true, true, true, true, true, false, true, false, false] rfl rfl rfl rfl (two_of HT_.out (by kernel_rfl)) (by decide) (by decide) (fun K hK => ?_) (fun K hK => ?_)
                      · skip
                        refine box_step ?hg (N := 2) ?hd (cs := #[.int .i32 0, .int .i64 0, .int .i64 0, .int .i64 0, .int .i64 0]) (t := 26) ?hr ?_; (case hd => rfl); (case hg => rfl); (case hr => first | (go_simp; done) | (go_simp; rfl))
                        intro gb175 hg w20 hbox hb
                        have n0_ := Aside0.mk (blk_below (g := gb164) (o := .cells #[.int .i64 t161, .int .i64 t162, .int .i64 t163] 23 (0, 0)) (by (with_reducible repeat (first | refine blk_drewN ?_ _ | refine blk_drew ?_ | refine blk_alloc ?_ _)); exact BK164.out) hb)
                        have n1_ := Aside0.mk (below_step (by repeat (first | (with_reducible first | exact HB.out | apply below_alloc | apply pw_below_drewN | apply below_drew1 | refine below_set ?_ GE164.out) | exact HB.out)) hb)
                        have n2_ := Aside0.mk (hbox)
                        have n3_ := Aside0.mk ((by rw [hg]; exact (below_size (by repeat (first | (with_reducible first | exact HB.out | apply below_alloc | apply pw_below_drewN | apply below_drew1 | refine below_set ?_ GE164.out) | exact HB.out))) : w.heap.size ≤ gb175))
                        have n4_ := Aside0.mk ((by rw [hg]; exact (below_size (by repeat (first | (with_reducible first | exact HB.out | apply below_alloc | apply pw_below_drewN | apply below_drew1 | refine below_set ?_ GE164.out) | exact HB.out))) : w.heap.size ≤ gb175))
                        have n5_ := Aside0.mk ((by rw [hg]; exact Nat.ne_of_lt (blk_lt (g := gb164) (o := .cells #[.int .i64 t161, .int .i64 t162, .int .i64 t163] 23 (0, 0)) (by (with_reducible repeat (first | refine blk_drewN ?_ _ | refine blk_drew ?_ | refine blk_alloc ?_ _)); exact BK164.out)) : gb164 ≠ gb175))
                        have n6_ := Aside0.mk ((by rw [hg]; exact Nat.ne_of_gt (blk_lt (g := gb164) (o := .cells #[.int .i64 t161, .int .i64 t162, .int .i64 t163] 23 (0, 0)) (by (with_reducible repeat (first | refine blk_drewN ?_ _ | refine blk_drew ?_ | refine blk_alloc ?_ _)); exact BK164.out)) : gb175 ≠ gb164))
                        clear BK164
                        clear HB
                        have BK164 := n0_
                        have HB := n1_
                        have BK175 := n2_
                        have GW175 := n3_
                        have GE175 := n4_
                        have NB164_175 := n5_
                        have NB175_164 := n6_
                        clear n0_ n1_ n2_ n3_ n4_ n5_ n6_
                        clear hb hbox hg
                        refine hK.out _ _ ⟨(blk_cell BK164.out 0).trans rfl, (blk_cell BK164.out 1).trans rfl, (blk_cell BK164.out 2).trans rfl⟩ (fun hHeld => ?_)
                        clear hK K
                        refine norm_ (a' := ?_) ?_ ?_
                        rotate_left
                        · show Act.put _ (some 2) _ = _
                          simp only [Act.put, List.setIfInBounds_toArray, List.set_cons_zero, List.set_cons_succ, i64_w, i32_w]
                          rfl
                        exact norm_ (by first | (simp only [putAll, Act.put, List.setIfInBounds_toArray, List.set_cons_zero, List.set_cons_succ]; done) | (simp only [putAll, Act.put, List.setIfInBounds_toArray, List.set_cons_zero, List.set_cons_succ]; rfl)) (hJ2_5_6 (gb175) _ ⟨hHeld, (by (with_reducible repeat (first | refine blk_drewN ?_ _ | refine blk_drew ?_ | refine blk_alloc ?_ _)); exact BK164.out), (by (with_reducible repeat (first | refine blk_drewN ?_ _ | refine blk_drew ?_ | refine blk_alloc ?_ _)); exact BK175.out), GW175.out, GE175.out, NB164_175.out, NB175_164.out, (by repeat (first | (with_reducible first | exact HB.out | apply below_alloc | apply pw_below_drewN | apply below_drew1 | refine below_set ?_ GE164.out | refine below_set ?_ GE175.out) | exact HB.out))⟩)
                      · skip
                        refine box_step ?hg (N := 3) ?hd (cs := #[.int .i32 0, .int .i64 0, .int .i64 0, .int .i64 0, .int .i64 0]) (t := 26) ?hr ?_; (case hd => rfl); (case hg => rfl); (case hr => first | (go_simp; done) | (go_simp; rfl))
                        intro gb176 hg w20 hbox hb
                        have n0_ := Aside0.mk (blk_below (g := gb164) (o := .cells #[.int .i64 t161, .int .i64 t162, .int .i64 t163] 23 (0, 0)) (by (with_reducible repeat (first | refine blk_drewN ?_ _ | refine blk_drew ?_ | refine blk_alloc ?_ _)); exact BK164.out) hb)
                        have n1_ := Aside0.mk (below_step (by repeat (first | (with_reducible first | exact HB.out | apply below_alloc | apply pw_below_drewN | apply below_drew1 | refine below_set ?_ GE164.out) | exact HB.out)) hb)
                        have n2_ := Aside0.mk (hbox)
                        have n3_ := Aside0.mk ((by rw [hg]; exact (below_size (by repeat (first | (with_reducible first | exact HB.out | apply below_alloc | apply pw_below_drewN | apply below_drew1 | refine below_set ?_ GE164.out) | exact HB.out))) : w.heap.size ≤ gb176))
                        have n4_ := Aside0.mk ((by rw [hg]; exact (below_size (by repeat (first | (with_reducible first | exact HB.out | apply below_alloc | apply pw_below_drewN | apply below_drew1 | refine below_set ?_ GE164.out) | exact HB.out))) : w.heap.size ≤ gb176))
                        have n5_ := Aside0.mk ((by rw [hg]; exact Nat.ne_of_lt (blk_lt (g := gb164) (o := .cells #[.int .i64 t161, .int .i64 t162, .int .i64 t163] 23 (0, 0)) (by (with_reducible repeat (first | refine blk_drewN ?_ _ | refine blk_drew ?_ | refine blk_alloc ?_ _)); exact BK164.out)) : gb164 ≠ gb176))
                        have n6_ := Aside0.mk ((by rw [hg]; exact Nat.ne_of_gt (blk_lt (g := gb164) (o := .cells #[.int .i64 t161, .int .i64 t162, .int .i64 t163] 23 (0, 0)) (by (with_reducible repeat (first | refine blk_drewN ?_ _ | refine blk_drew ?_ | refine blk_alloc ?_ _)); exact BK164.out)) : gb176 ≠ gb164))
                        clear BK164
                        clear HB
                        have BK164 := n0_
                        have HB := n1_
                        have BK176 := n2_
                        have GW176 := n3_
                        have GE176 := n4_
                        have NB164_176 := n5_
                        have NB176_164 := n6_
                        clear n0_ n1_ n2_ n3_ n4_ n5_ n6_
                        clear hb hbox hg
                        refine hK.out _ _ ⟨(blk_cell BK164.out 0).trans rfl, (blk_cell BK164.out 1).trans rfl, (blk_cell BK164.out 2).trans rfl⟩ (fun hHeld => ?_)
                        clear hK K
                        refine norm_ (a' := ?_) ?_ ?_
                        rotate_left
                        · show Act.put _ (some 3) _ = _
                          simp only [Act.put, List.setIfInBounds_toArray, List.set_cons_zero, List.set_cons_succ, i64_w, i32_w]
                          rfl
                        exact norm_ (by first | (simp only [putAll, Act.put, List.setIfInBounds_toArray, List.set_cons_zero, List.set_cons_succ]; done) | (simp only [putAll, Act.put, List.setIfInBounds_toArray, List.set_cons_zero, List.set_cons_succ]; rfl)) (hJ2_5_7 (gb176) _ ⟨hHeld, (by (with_reducible repeat (first | refine blk_drewN ?_ _ | refine blk_drew ?_ | refine blk_alloc ?_ _)); exact BK164.out), (by (with_reducible repeat (first | refine blk_drewN ?_ _ | refine blk_drew ?_ | refine blk_alloc ?_ _)); exact BK176.out), GW176.out, GE176.out, NB164_176.out, NB176_164.out, (by repeat (first | (with_reducible first | exact HB.out | apply below_alloc | apply pw_below_drewN | apply below_drew1 | refine below_set ?_ GE164.out | refine below_set ?_ GE176.out) | exact HB.out))⟩)
                  · skip
                    rintro ⟨gb175, gb176⟩ w20 ⟨hS_, h0_, h1_, h2_, h3_, h4_, h5_, h6_, h7_, h8_, h9_, h10_, h11_, h12_, h13_⟩
                    have n0_ : Aside0 (w20.heap[gb164]? = some (.cells #[.int .i64 t161, .int .i64 t162, .int .i64 t163] 23 (0, 0))) := ⟨h0_⟩
                    have n1_ : Aside0 (w20.heap[gb175]? = some (.cells #[.int .i32 0, .int .i64 0, .int .i64 0, .int .i64 0, .int .i64 0] 26 (0, 0))) := ⟨h1_⟩
                    have n2_ : Aside0 (w20.heap[gb176]? = some (.cells #[.int .i32 0, .int .i64 0, .int .i64 0, .int .i64 0, .int .i64 0] 26 (0, 0))) := ⟨h2_⟩
                    have n3_ : Aside0 (w.heap.size ≤ gb175) := ⟨h3_⟩
                    have n4_ : Aside0 (w.heap.size ≤ gb175) := ⟨h4_⟩
                    have n5_ : Aside0 (gb164 ≠ gb175) := ⟨h5_⟩
                    have n6_ : Aside0 (gb175 ≠ gb164) := ⟨h6_⟩
                    have n7_ : Aside0 (gb176 ≠ gb175) := ⟨h7_⟩
                    have n8_ : Aside0 (gb175 ≠ gb176) := ⟨h8_⟩
                    have n9_ : Aside0 (w.heap.size ≤ gb176) := ⟨h9_⟩
                    have n10_ : Aside0 (w.heap.size ≤ gb176) := ⟨h10_⟩
                    have n11_ : Aside0 (gb164 ≠ gb176) := ⟨h11_⟩
                    have n12_ : Aside0 (gb176 ≠ gb164) := ⟨h12_⟩
                    have n13_ : Aside0 (Below w.heap.size w w20) := ⟨h13_⟩
                    clear BK164
                    clear HB
                    clear h0_ h1_ h2_ h3_ h4_ h5_ h6_ h7_ h8_ h9_ h10_ h11_ h12_ h13_
                    have BK164 := n0_
                    have BK175 := n1_
                    have BK176 := n2_
                    have GW175 := n3_
                    have GE175 := n4_
                    have NB164_175 := n5_
                    have NB175_164 := n6_
                    have NB176_175 := n7_
                    have NB175_176 := n8_
                    have GW176 := n9_
                    have GE176 := n10_
                    have NB164_176 := n11_
                    have NB176_164 := n12_
                    have HB := n13_
                    clear n0_ n1_ n2_ n3_ n4_ n5_ n6_ n7_ n8_ n9_ n10_ n11_ n12_ n13_
                    have hHeld : w20.cell? ⟨gb164, 0, none⟩ = some (.int .i64 t161) ∧ w20.cell? ⟨gb164, 1, none⟩ = some (.int .i64 t162) ∧ w20.cell? ⟨gb164, 2, none⟩ = some (.int .i64 t163) := hS_
                    refine norm_ (a' := ?_) ?_ ?_
                    rotate_left
                    · simp only [putAll, Act.put, List.setIfInBounds_toArray, List.set_cons_zero, List.set_cons_succ]
                      rfl
                    refine one_ (i := 5) (N := some 10) #[true, true, true, true, true, true, true, true, false, false] rfl rfl (one_of HT_.out (by kernel_rfl)) (by decide) (fun K hK => ?_)
                    refine goes_ Try.func9 (by kernel_rfl) rfl #[.int .i64 2, .agg #[.int .i32 0, .int .i64 2, .int .i64 t161, .int .i64 t162, .int .i64 t163]] (by rfl) rfl rfl (by (try simp only [List.map_toArray, List.map_cons, List.map_nil]); first | done | rfl | (simp only [List.length_drop, List.length_take]; rfl) | (simp only [List.length_drop, List.length_take]; rw [Nat.min_eq_left (by first | assumption | omega)]; rfl)) ?_
                    with_reducible refine (lower_Cell.calls k 2 0 2 t161 t162 t163 t170 t171 t172 t173 t174 _ A3.out).mono ?_
                    rintro e w21 ⟨rfl, hb⟩
                    refine ⟨_, rfl, ?_⟩
                    have n0_ := Aside0.mk (blk_below (g := gb164) (o := .cells #[.int .i64 t161, .int .i64 t162, .int .i64 t163] 23 (0, 0)) (by (with_reducible repeat (first | refine blk_drewN ?_ _ | refine blk_drew ?_ | refine blk_alloc ?_ _)); exact BK164.out) hb)
                    have n1_ := Aside0.mk (blk_below (g := gb175) (o := .cells #[.int .i32 0, .int .i64 0, .int .i64 0, .int .i64 0, .int .i64 0] 26 (0, 0)) (by (with_reducible repeat (first | refine blk_drewN ?_ _ | refine blk_drew ?_ | refine blk_alloc ?_ _)); exact BK175.out) hb)
                    have n2_ := Aside0.mk (blk_below (g := gb176) (o := .cells #[.int .i32 0, .int .i64 0, .int .i64 0, .int .i64 0, .int .i64 0] 26 (0, 0)) (by (with_reducible repeat (first | refine blk_drewN ?_ _ | refine blk_drew ?_ | refine blk_alloc ?_ _)); exact BK176.out) hb)
                    have n3_ := Aside0.mk (below_step (by repeat (first | (with_reducible first | exact HB.out | apply below_alloc | apply pw_below_drewN | apply below_drew1 | refine below_set ?_ GE164.out | refine below_set ?_ GE175.out | refine below_set ?_ GE176.out) | exact HB.out)) hb)
                    clear BK164
                    clear BK175
                    clear BK176
                    clear HB
                    have BK164 := n0_
                    have BK175 := n1_
                    have BK176 := n2_
                    have HB := n3_
                    clear n0_ n1_ n2_ n3_
                    (try clear hb)
                    (try clear hb2)
                    (try clear hk)
                    (try clear hi)
                    refine hK.out _ _ ⟨(blk_cell BK164.out 0).trans rfl, (blk_cell BK164.out 1).trans rfl, (blk_cell BK164.out 2).trans rfl⟩ (fun hHeld => ?_)
                    clear hK K
                    refine norm_ (a' := ?_) ?_ ?_
                    rotate_left
                    · show Act.put _ (some 10) _ = _
                      simp only [Act.put, List.setIfInBounds_toArray, List.set_cons_zero, List.set_cons_succ, i64_w, i32_w]
                      rfl
                    exact norm_ (by first | (simp only [putAll, Act.put, List.setIfInBounds_toArray, List.set_cons_zero, List.set_cons_succ]; done) | (simp only [putAll, Act.put, List.setIfInBounds_toArray, List.set_cons_zero, List.set_cons_succ]; rfl)) (hJ2_5_6_7 (gb175, gb176) _ ⟨hHeld, (by (with_reducible repeat (first | refine blk_drewN ?_ _ | refine blk_drew ?_ | refine blk_alloc ?_ _)); exact BK164.out), (by (with_reducible repeat (first | refine blk_drewN ?_ _ | refine blk_drew ?_ | refine blk_alloc ?_ _)); exact BK175.out), (by (with_reducible repeat (first | refine blk_drewN ?_ _ | refine blk_drew ?_ | refine blk_alloc ?_ _)); exact BK176.out), GW175.out, GE175.out, NB164_175.out, NB175_164.out, NB176_175.out, NB175_176.out, GW176.out, GE176.out, NB164_176.out, NB176_164.out, (by repeat (first | (with_reducible first | exact HB.out | apply below_alloc | apply pw_below_drewN | apply below_drew1 | refine below_set ?_ GE164.out | refine below_set ?_ GE175.out | refine below_set ?_ GE176.out) | exact HB.out))⟩)
                · skip
                  rintro gb176 w20 ⟨hS_, h0_, h1_, h2_, h3_, h4_, h5_, h6_⟩
                  have n0_ : Aside0 (w20.heap[gb164]? = some (.cells #[.int .i64 t161, .int .i64 t162, .int .i64 t163] 23 (0, 0))) := ⟨h0_⟩
                  have n1_ : Aside0 (w20.heap[gb176]? = some (.cells #[.int .i32 0, .int .i64 0, .int .i64 0, .int .i64 0, .int .i64 0] 26 (0, 0))) := ⟨h1_⟩
                  have n2_ : Aside0 (w.heap.size ≤ gb176) := ⟨h2_⟩
                  have n3_ : Aside0 (w.heap.size ≤ gb176) := ⟨h3_⟩
                  have n4_ : Aside0 (gb164 ≠ gb176) := ⟨h4_⟩
                  have n5_ : Aside0 (gb176 ≠ gb164) := ⟨h5_⟩
                  have n6_ : Aside0 (Below w.heap.size w w20) := ⟨h6_⟩
                  clear BK164
                  clear HB
                  clear h0_ h1_ h2_ h3_ h4_ h5_ h6_
                  have BK164 := n0_
                  have BK176 := n1_
                  have GW176 := n2_
                  have GE176 := n3_
                  have NB164_176 := n4_
                  have NB176_164 := n5_
                  have HB := n6_
                  clear n0_ n1_ n2_ n3_ n4_ n5_ n6_
                  have hHeld : w20.cell? ⟨gb164, 0, none⟩ = some (.int .i64 t161) ∧ w20.cell? ⟨gb164, 1, none⟩ = some (.int .i64 t162) ∧ w20.cell? ⟨gb164, 2, none⟩ = some (.int .i64 t163) := hS_
                  refine norm_ (a' := ?_) ?_ ?_
                  rotate_left
                  · simp only [putAll, Act.put, List.setIfInBounds_toArray, List.set_cons_zero, List.set_cons_succ]
                    rfl
                  refine one_ (i := 6) (N := some 2) #[true, true, true, true, true, true, true, true, false, false] rfl rfl (one_of HT_.out (by kernel_rfl)) (by decide) (fun K hK => ?_)
                  refine box_step ?hg (N := 2) ?hd (cs := #[.int .i32 0, .int .i64 0, .int .i64 0, .int .i64 0, .int .i64 0]) (t := 26) ?hr ?_; (case hd => rfl); (case hg => rfl); (case hr => first | (go_simp; done) | (go_simp; rfl))
                  intro gb175 hg w21 hbox hb
                  have n0_ := Aside0.mk (blk_below (g := gb164) (o := .cells #[.int .i64 t161, .int .i64 t162, .int .i64 t163] 23 (0, 0)) (by (with_reducible repeat (first | refine blk_drewN ?_ _ | refine blk_drew ?_ | refine blk_alloc ?_ _)); exact BK164.out) hb)
                  have n1_ := Aside0.mk (blk_below (g := gb176) (o := .cells #[.int .i32 0, .int .i64 0, .int .i64 0, .int .i64 0, .int .i64 0] 26 (0, 0)) (by (with_reducible repeat (first | refine blk_drewN ?_ _ | refine blk_drew ?_ | refine blk_alloc ?_ _)); exact BK176.out) hb)
                  have n2_ := Aside0.mk (below_step (by repeat (first | (with_reducible first | exact HB.out | apply below_alloc | apply pw_below_drewN | apply below_drew1 | refine below_set ?_ GE164.out | refine below_set ?_ GE176.out) | exact HB.out)) hb)
                  have n3_ := Aside0.mk (hbox)
                  have n4_ := Aside0.mk ((by rw [hg]; exact (below_size (by repeat (first | (with_reducible first | exact HB.out | apply below_alloc | apply pw_below_drewN | apply below_drew1 | refine below_set ?_ GE164.out | refine below_set ?_ GE176.out) | exact HB.out))) : w.heap.size ≤ gb175))
                  have n5_ := Aside0.mk ((by rw [hg]; exact (below_size (by repeat (first | (with_reducible first | exact HB.out | apply below_alloc | apply pw_below_drewN | apply below_drew1 | refine below_set ?_ GE164.out | refine below_set ?_ GE176.out) | exact HB.out))) : w.heap.size ≤ gb175))
                  have n6_ := Aside0.mk ((by rw [hg]; exact Nat.ne_of_lt (blk_lt (g := gb164) (o := .cells #[.int .i64 t161, .int .i64 t162, .int .i64 t163] 23 (0, 0)) (by (with_reducible repeat (first | refine blk_drewN ?_ _ | refine blk_drew ?_ | refine blk_alloc ?_ _)); exact BK164.out)) : gb164 ≠ gb175))
                  have n7_ := Aside0.mk ((by rw [hg]; exact Nat.ne_of_gt (blk_lt (g := gb164) (o := .cells #[.int .i64 t161, .int .i64 t162, .int .i64 t163] 23 (0, 0)) (by (with_reducible repeat (first | refine blk_drewN ?_ _ | refine blk_drew ?_ | refine blk_alloc ?_ _)); exact BK164.out)) : gb175 ≠ gb164))
                  have n8_ := Aside0.mk ((by rw [hg]; exact Nat.ne_of_lt (blk_lt (g := gb176) (o := .cells #[.int .i32 0, .int .i64 0, .int .i64 0, .int .i64 0, .int .i64 0] 26 (0, 0)) (by (with_reducible repeat (first | refine blk_drewN ?_ _ | refine blk_drew ?_ | refine blk_alloc ?_ _)); exact BK176.out)) : gb176 ≠ gb175))
                  have n9_ := Aside0.mk ((by rw [hg]; exact Nat.ne_of_gt (blk_lt (g := gb176) (o := .cells #[.int .i32 0, .int .i64 0, .int .i64 0, .int .i64 0, .int .i64 0] 26 (0, 0)) (by (with_reducible repeat (first | refine blk_drewN ?_ _ | refine blk_drew ?_ | refine blk_alloc ?_ _)); exact BK176.out)) : gb175 ≠ gb176))
                  clear BK164
                  clear BK176
                  clear HB
                  have BK164 := n0_
                  have BK176 := n1_
                  have HB := n2_
                  have BK175 := n3_
                  have GW175 := n4_
                  have GE175 := n5_
                  have NB164_175 := n6_
                  have NB175_164 := n7_
                  have NB176_175 := n8_
                  have NB175_176 := n9_
                  clear n0_ n1_ n2_ n3_ n4_ n5_ n6_ n7_ n8_ n9_
                  clear hb hbox hg
                  refine hK.out _ _ ⟨(blk_cell BK164.out 0).trans rfl, (blk_cell BK164.out 1).trans rfl, (blk_cell BK164.out 2).trans rfl⟩ (fun hHeld => ?_)
                  clear hK K
                  refine norm_ (a' := ?_) ?_ ?_
                  rotate_left
                  · show Act.put _ (some 2) _ = _
                    simp only [Act.put, List.setIfInBounds_toArray, List.set_cons_zero, List.set_cons_succ, i64_w, i32_w]
                    rfl
                  exact norm_ (by first | (simp only [putAll, Act.put, List.setIfInBounds_toArray, List.set_cons_zero, List.set_cons_succ]; done) | (simp only [putAll, Act.put, List.setIfInBounds_toArray, List.set_cons_zero, List.set_cons_succ]; rfl)) (hJ2_5_6_7 (gb175, gb176) _ ⟨hHeld, (by (with_reducible repeat (first | refine blk_drewN ?_ _ | refine blk_drew ?_ | refine blk_alloc ?_ _)); exact BK164.out), (by (with_reducible repeat (first | refine blk_drewN ?_ _ | refine blk_drew ?_ | refine blk_alloc ?_ _)); exact BK175.out), (by (with_reducible repeat (first | refine blk_drewN ?_ _ | refine blk_drew ?_ | refine blk_alloc ?_ _)); exact BK176.out), GW175.out, GE175.out, NB164_175.out, NB175_164.out, NB176_175.out, NB175_176.out, GW176.out, GE176.out, NB164_176.out, NB176_164.out, (by repeat (first | (with_reducible first | exact HB.out | apply below_alloc | apply pw_below_drewN | apply below_drew1 | refine below_set ?_ GE164.out | refine below_set ?_ GE176.out | refine below_set ?_ GE175.out) | exact HB.out))⟩)
              · skip
                rintro gb175 w20 ⟨hS_, h0_, h1_, h2_, h3_, h4_, h5_, h6_⟩
                have n0_ : Aside0 (w20.heap[gb164]? = some (.cells #[.int .i64 t161, .int .i64 t162, .int .i64 t163] 23 (0, 0))) := ⟨h0_⟩
                have n1_ : Aside0 (w20.heap[gb175]? = some (.cells #[.int .i32 0, .int .i64 0, .int .i64 0, .int .i64 0, .int .i64 0] 26 (0, 0))) := ⟨h1_⟩
                have n2_ : Aside0 (w.heap.size ≤ gb175) := ⟨h2_⟩
                have n3_ : Aside0 (w.heap.size ≤ gb175) := ⟨h3_⟩
                have n4_ : Aside0 (gb164 ≠ gb175) := ⟨h4_⟩
                have n5_ : Aside0 (gb175 ≠ gb164) := ⟨h5_⟩
                have n6_ : Aside0 (Below w.heap.size w w20) := ⟨h6_⟩
                clear BK164
                clear HB
                clear h0_ h1_ h2_ h3_ h4_ h5_ h6_
                have BK164 := n0_
                have BK175 := n1_
                have GW175 := n2_
                have GE175 := n3_
                have NB164_175 := n4_
                have NB175_164 := n5_
                have HB := n6_
                clear n0_ n1_ n2_ n3_ n4_ n5_ n6_
                have hHeld : w20.cell? ⟨gb164, 0, none⟩ = some (.int .i64 t161) ∧ w20.cell? ⟨gb164, 1, none⟩ = some (.int .i64 t162) ∧ w20.cell? ⟨gb164, 2, none⟩ = some (.int .i64 t163) := hS_
                refine norm_ (a' := ?_) ?_ ?_
                rotate_left
                · simp only [putAll, Act.put, List.setIfInBounds_toArray, List.set_cons_zero, List.set_cons_succ]
                  rfl
                refine one_ (i := 7) (N := some 3) #[true, true, true, true, true, true, true, true, false, false] rfl rfl (one_of HT_.out (by kernel_rfl)) (by decide) (fun K hK => ?_)
                refine box_step ?hg (N := 3) ?hd (cs := #[.int .i32 0, .int .i64 0, .int .i64 0, .int .i64 0, .int .i64 0]) (t := 26) ?hr ?_; (case hd => rfl); (case hg => rfl); (case hr => first | (go_simp; done) | (go_simp; rfl))
                intro gb176 hg w21 hbox hb
                have n0_ := Aside0.mk (blk_below (g := gb164) (o := .cells #[.int .i64 t161, .int .i64 t162, .int .i64 t163] 23 (0, 0)) (by (with_reducible repeat (first | refine blk_drewN ?_ _ | refine blk_drew ?_ | refine blk_alloc ?_ _)); exact BK164.out) hb)
                have n1_ := Aside0.mk (blk_below (g := gb175) (o := .cells #[.int .i32 0, .int .i64 0, .int .i64 0, .int .i64 0, .int .i64 0] 26 (0, 0)) (by (with_reducible repeat (first | refine blk_drewN ?_ _ | refine blk_drew ?_ | refine blk_alloc ?_ _)); exact BK175.out) hb)
                have n2_ := Aside0.mk (below_step (by repeat (first | (with_reducible first | exact HB.out | apply below_alloc | apply pw_below_drewN | apply below_drew1 | refine below_set ?_ GE164.out | refine below_set ?_ GE175.out) | exact HB.out)) hb)
                have n3_ := Aside0.mk (hbox)
                have n4_ := Aside0.mk ((by rw [hg]; exact (below_size (by repeat (first | (with_reducible first | exact HB.out | apply below_alloc | apply pw_below_drewN | apply below_drew1 | refine below_set ?_ GE164.out | refine below_set ?_ GE175.out) | exact HB.out))) : w.heap.size ≤ gb176))
                have n5_ := Aside0.mk ((by rw [hg]; exact (below_size (by repeat (first | (with_reducible first | exact HB.out | apply below_alloc | apply pw_below_drewN | apply below_drew1 | refine below_set ?_ GE164.out | refine below_set ?_ GE175.out) | exact HB.out))) : w.heap.size ≤ gb176))
                have n6_ := Aside0.mk ((by rw [hg]; exact Nat.ne_of_lt (blk_lt (g := gb164) (o := .cells #[.int .i64 t161, .int .i64 t162, .int .i64 t163] 23 (0, 0)) (by (with_reducible repeat (first | refine blk_drewN ?_ _ | refine blk_drew ?_ | refine blk_alloc ?_ _)); exact BK164.out)) : gb164 ≠ gb176))
                have n7_ := Aside0.mk ((by rw [hg]; exact Nat.ne_of_gt (blk_lt (g := gb164) (o := .cells #[.int .i64 t161, .int .i64 t162, .int .i64 t163] 23 (0, 0)) (by (with_reducible repeat (first | refine blk_drewN ?_ _ | refine blk_drew ?_ | refine blk_alloc ?_ _)); exact BK164.out)) : gb176 ≠ gb164))
                have n8_ := Aside0.mk ((by rw [hg]; exact Nat.ne_of_lt (blk_lt (g := gb175) (o := .cells #[.int .i32 0, .int .i64 0, .int .i64 0, .int .i64 0, .int .i64 0] 26 (0, 0)) (by (with_reducible repeat (first | refine blk_drewN ?_ _ | refine blk_drew ?_ | refine blk_alloc ?_ _)); exact BK175.out)) : gb175 ≠ gb176))
                have n9_ := Aside0.mk ((by rw [hg]; exact Nat.ne_of_gt (blk_lt (g := gb175) (o := .cells #[.int .i32 0, .int .i64 0, .int .i64 0, .int .i64 0, .int .i64 0] 26 (0, 0)) (by (with_reducible repeat (first | refine blk_drewN ?_ _ | refine blk_drew ?_ | refine blk_alloc ?_ _)); exact BK175.out)) : gb176 ≠ gb175))
                clear BK164
                clear BK175
                clear HB
                have BK164 := n0_
                have BK175 := n1_
                have HB := n2_
                have BK176 := n3_
                have GW176 := n4_
                have GE176 := n5_
                have NB164_176 := n6_
                have NB176_164 := n7_
                have NB175_176 := n8_
                have NB176_175 := n9_
                clear n0_ n1_ n2_ n3_ n4_ n5_ n6_ n7_ n8_ n9_
                clear hb hbox hg
                refine hK.out _ _ ⟨(blk_cell BK164.out 0).trans rfl, (blk_cell BK164.out 1).trans rfl, (blk_cell BK164.out 2).trans rfl⟩ (fun hHeld => ?_)
                clear hK K
                refine norm_ (a' := ?_) ?_ ?_
                rotate_left
                · show Act.put _ (some 3) _ = _
                  simp only [Act.put, List.setIfInBounds_toArray, List.set_cons_zero, List.set_cons_succ, i64_w, i32_w]
                  rfl
                exact norm_ (by first | (simp only [putAll, Act.put, List.setIfInBounds_toArray, List.set_cons_zero, List.set_cons_succ]; done) | (simp only [putAll, Act.put, List.setIfInBounds_toArray, List.set_cons_zero, List.set_cons_succ]; rfl)) (hJ2_5_6_7 (gb175, gb176) _ ⟨hHeld, (by (with_reducible repeat (first | refine blk_drewN ?_ _ | refine blk_drew ?_ | refine blk_alloc ?_ _)); exact BK164.out), (by (with_reducible repeat (first | refine blk_drewN ?_ _ | refine blk_drew ?_ | refine blk_alloc ?_ _)); exact BK175.out), (by (with_reducible repeat (first | refine blk_drewN ?_ _ | refine blk_drew ?_ | refine blk_alloc ?_ _)); exact BK176.out), GW175.out, GE175.out, NB164_175.out, NB175_164.out, NB176_175.out, NB175_176.out, GW176.out, GE176.out, NB164_176.out, NB176_164.out, (by repeat (first | (with_reducible first | exact HB.out | apply below_alloc | apply pw_below_drewN | apply below_drew1 | refine below_set ?_ GE164.out | refine below_set ?_ GE175.out | refine below_set ?_ GE176.out) | exact HB.out))⟩)
            rintro ⟨gb175, gb176⟩ w21 ⟨hS_, h0_, h1_, h2_, h3_, h4_, h5_, h6_, h7_, h8_, h9_, h10_, h11_, h12_, h13_⟩
            have n0_ : Aside0 (w21.heap[gb164]? = some (.cells #[.int .i64 t161, .int .i64 t162, .int .i64 t163] 23 (0, 0))) := ⟨h0_⟩
            have n1_ : Aside0 (w21.heap[gb175]? = some (.cells #[.int .i32 0, .int .i64 0, .int .i64 0, .int .i64 0, .int .i64 0] 26 (0, 0))) := ⟨h1_⟩
            have n2_ : Aside0 (w21.heap[gb176]? = some (.cells #[.int .i32 0, .int .i64 0, .int .i64 0, .int .i64 0, .int .i64 0] 26 (0, 0))) := ⟨h2_⟩
            have n3_ : Aside0 (w.heap.size ≤ gb175) := ⟨h3_⟩
            have n4_ : Aside0 (w.heap.size ≤ gb175) := ⟨h4_⟩
            have n5_ : Aside0 (gb164 ≠ gb175) := ⟨h5_⟩
            have n6_ : Aside0 (gb175 ≠ gb164) := ⟨h6_⟩
            have n7_ : Aside0 (gb176 ≠ gb175) := ⟨h7_⟩
            have n8_ : Aside0 (gb175 ≠ gb176) := ⟨h8_⟩
            have n9_ : Aside0 (w.heap.size ≤ gb176) := ⟨h9_⟩
            have n10_ : Aside0 (w.heap.size ≤ gb176) := ⟨h10_⟩
            have n11_ : Aside0 (gb164 ≠ gb176) := ⟨h11_⟩
            have n12_ : Aside0 (gb176 ≠ gb164) := ⟨h12_⟩
            have n13_ : Aside0 (Below w.heap.size w w21) := ⟨h13_⟩
            clear BK164
            clear HB
            clear h0_ h1_ h2_ h3_ h4_ h5_ h6_ h7_ h8_ h9_ h10_ h11_ h12_ h13_
            have BK164 := n0_
            have BK175 := n1_
            have BK176 := n2_
            have GW175 := n3_
            have GE175 := n4_
            have NB164_175 := n5_
            have NB175_164 := n6_
            have NB176_175 := n7_
            have NB175_176 := n8_
            have GW176 := n9_
            have GE176 := n10_
            have NB164_176 := n11_
            have NB176_164 := n12_
            have HB := n13_
            clear n0_ n1_ n2_ n3_ n4_ n5_ n6_ n7_ n8_ n9_ n10_ n11_ n12_ n13_
            have hHeld : w21.cell? ⟨gb164, 0, none⟩ = some (.int .i64 t161) ∧ w21.cell? ⟨gb164, 1, none⟩ = some (.int .i64 t162) ∧ w21.cell? ⟨gb164, 2, none⟩ = some (.int .i64 t163) := hS_
            refine norm_ (a' := ?_) ?_ ?_
            rotate_left
            · simp only [putAll, Act.put, List.setIfInBounds_toArray, List.set_cons_zero, List.set_cons_succ]
              rfl
            refine one_ (i := 8) (N := none) #[true, true, true, true, true, true, true, true, true, false] rfl rfl (one_of HT_.out (by kernel_rfl)) (by decide) (fun K hK => ?_)
            have hs22 : w21.cell? ⟨gb175, 0, none⟩ = some (.int .i32 0) := (blk_cell BK175.out 0).trans rfl
            have hfs22 := blk_frozen BK175.out 0
            have hns22_0 := NB164_175.out
            have hns22_2 := NB176_175.out
            have hms22_0 := NB175_164.out
            have hms22_2 := NB175_176.out
            have hs23 : w21.cell? ⟨gb175, 1, none⟩ = some (.int .i64 0) := (blk_cell BK175.out 1).trans rfl
            have hfs23 := blk_frozen BK175.out 1
            have hns23_0 := NB164_175.out
            have hns23_2 := NB176_175.out
            have hms23_0 := NB175_164.out
            have hms23_2 := NB175_176.out
            have hs24 : w21.cell? ⟨gb175, 2, none⟩ = some (.int .i64 0) := (blk_cell BK175.out 2).trans rfl
            have hfs24 := blk_frozen BK175.out 2
            have hns24_0 := NB164_175.out
            have hns24_2 := NB176_175.out
            have hms24_0 := NB175_164.out
            have hms24_2 := NB175_176.out
            have hs25 : w21.cell? ⟨gb175, 3, none⟩ = some (.int .i64 0) := (blk_cell BK175.out 3).trans rfl
            have hfs25 := blk_frozen BK175.out 3
            have hns25_0 := NB164_175.out
            have hns25_2 := NB176_175.out
            have hms25_0 := NB175_164.out
            have hms25_2 := NB175_176.out
            have hs26 : w21.cell? ⟨gb175, 4, none⟩ = some (.int .i64 0) := (blk_cell BK175.out 4).trans rfl
            have hfs26 := blk_frozen BK175.out 4
            have hns26_0 := NB164_175.out
            have hns26_2 := NB176_175.out
            have hms26_0 := NB175_164.out
            have hms26_2 := NB175_176.out
            refine skip_ (w1 := ?_) (by rfl) rfl ?_ ?_
            rotate_left
            · go_simp
              rfl
            refine hK.out _ _ ⟨((cell_far (p := ⟨gb175, _, none⟩) NB164_175.out _).trans (((cell_far (p := ⟨gb175, _, none⟩) NB164_175.out _).trans (((cell_far (p := ⟨gb175, _, none⟩) NB164_175.out _).trans (((cell_far (p := ⟨gb175, _, none⟩) NB164_175.out _).trans (((cell_far (p := ⟨gb175, _, none⟩) NB164_175.out _).trans (hHeld.1)))))))))), ((cell_far (p := ⟨gb175, _, none⟩) NB164_175.out _).trans (((cell_far (p := ⟨gb175, _, none⟩) NB164_175.out _).trans (((cell_far (p := ⟨gb175, _, none⟩) NB164_175.out _).trans (((cell_far (p := ⟨gb175, _, none⟩) NB164_175.out _).trans (((cell_far (p := ⟨gb175, _, none⟩) NB164_175.out _).trans (hHeld.2.1)))))))))), ((cell_far (p := ⟨gb175, _, none⟩) NB164_175.out _).trans (((cell_far (p := ⟨gb175, _, none⟩) NB164_175.out _).trans (((cell_far (p := ⟨gb175, _, none⟩) NB164_175.out _).trans (((cell_far (p := ⟨gb175, _, none⟩) NB164_175.out _).trans (((cell_far (p := ⟨gb175, _, none⟩) NB164_175.out _).trans (hHeld.2.2))))))))))⟩ (fun hHeld => ?_)
            clear hK K
            refine one_ (i := 9) (N := none) #[true, true, true, true, true, true, true, true, true, true] rfl rfl (one_of HT_.out (by kernel_rfl)) (by decide) (fun K hK => ?_)
            have hs27 : w21.cell? ⟨gb176, 0, none⟩ = some (.int .i32 0) := (blk_cell BK176.out 0).trans rfl
            have hfs27 := blk_frozen BK176.out 0
            have hns27_0 := NB164_176.out
            have hns27_1 := NB175_176.out
            have hms27_0 := NB176_164.out
            have hms27_1 := NB176_175.out
            have hs28 : w21.cell? ⟨gb176, 1, none⟩ = some (.int .i64 0) := (blk_cell BK176.out 1).trans rfl
            have hfs28 := blk_frozen BK176.out 1
            have hns28_0 := NB164_176.out
            have hns28_1 := NB175_176.out
            have hms28_0 := NB176_164.out
            have hms28_1 := NB176_175.out
            have hs29 : w21.cell? ⟨gb176, 2, none⟩ = some (.int .i64 0) := (blk_cell BK176.out 2).trans rfl
            have hfs29 := blk_frozen BK176.out 2
            have hns29_0 := NB164_176.out
            have hns29_1 := NB175_176.out
            have hms29_0 := NB176_164.out
            have hms29_1 := NB176_175.out
            have hs30 : w21.cell? ⟨gb176, 3, none⟩ = some (.int .i64 0) := (blk_cell BK176.out 3).trans rfl
            have hfs30 := blk_frozen BK176.out 3
            have hns30_0 := NB164_176.out
            have hns30_1 := NB175_176.out
            have hms30_0 := NB176_164.out
            have hms30_1 := NB176_175.out
            have hs31 : w21.cell? ⟨gb176, 4, none⟩ = some (.int .i64 0) := (blk_cell BK176.out 4).trans rfl
            have hfs31 := blk_frozen BK176.out 4
            have hns31_0 := NB164_176.out
            have hns31_1 := NB175_176.out
            have hms31_0 := NB176_164.out
            have hms31_1 := NB176_175.out
            refine skip_ (w1 := ?_) (by rfl) rfl ?_ ?_
            rotate_left
            · go_simp
              rfl
            refine hK.out _ _ ⟨((cell_far (p := ⟨gb176, _, none⟩) NB164_176.out _).trans (((cell_far (p := ⟨gb176, _, none⟩) NB164_176.out _).trans (((cell_far (p := ⟨gb176, _, none⟩) NB164_176.out _).trans (((cell_far (p := ⟨gb176, _, none⟩) NB164_176.out _).trans (((cell_far (p := ⟨gb176, _, none⟩) NB164_176.out _).trans (hHeld.1)))))))))), ((cell_far (p := ⟨gb176, _, none⟩) NB164_176.out _).trans (((cell_far (p := ⟨gb176, _, none⟩) NB164_176.out _).trans (((cell_far (p := ⟨gb176, _, none⟩) NB164_176.out _).trans (((cell_far (p := ⟨gb176, _, none⟩) NB164_176.out _).trans (((cell_far (p := ⟨gb176, _, none⟩) NB164_176.out _).trans (hHeld.2.1)))))))))), ((cell_far (p := ⟨gb176, _, none⟩) NB164_176.out _).trans (((cell_far (p := ⟨gb176, _, none⟩) NB164_176.out _).trans (((cell_far (p := ⟨gb176, _, none⟩) NB164_176.out _).trans (((cell_far (p := ⟨gb176, _, none⟩) NB164_176.out _).trans (((cell_far (p := ⟨gb176, _, none⟩) NB164_176.out _).trans (hHeld.2.2))))))))))⟩ (fun hHeld => ?_)
            clear hK K
            refine done_ (done_of HT_.out (by kernel_rfl)) ?_
            have hnb32 := NB175_164.out
            have hnc32 := NB164_175.out
            have hnb33 := NB175_176.out
            have hnc33 := NB176_175.out
            have hcz34_0 : w21.cell? ⟨gb175, 0, none⟩ = some (.int .i32 0) := (blk_cell BK175.out 0).trans rfl
            have hcz34_1 : w21.cell? ⟨gb175, 1, none⟩ = some (.int .i64 0) := (blk_cell BK175.out 1).trans rfl
            have hcz34_2 : w21.cell? ⟨gb175, 2, none⟩ = some (.int .i64 0) := (blk_cell BK175.out 2).trans rfl
            have hcz34_3 : w21.cell? ⟨gb175, 3, none⟩ = some (.int .i64 0) := (blk_cell BK175.out 3).trans rfl
            have hcz34_4 : w21.cell? ⟨gb175, 4, none⟩ = some (.int .i64 0) := (blk_cell BK175.out 4).trans rfl
            have hfz34_0 := blk_frozen BK175.out 0
            have hfz34_1 := blk_frozen BK175.out 1
            have hfz34_2 := blk_frozen BK175.out 2
            have hfz34_3 := blk_frozen BK175.out 3
            have hfz34_4 := blk_frozen BK175.out 4
            have hnb35 := NB176_164.out
            have hnc35 := NB164_176.out
            have hcz36_0 : w21.cell? ⟨gb176, 0, none⟩ = some (.int .i32 0) := (blk_cell BK176.out 0).trans rfl
            have hcz36_1 : w21.cell? ⟨gb176, 1, none⟩ = some (.int .i64 0) := (blk_cell BK176.out 1).trans rfl
            have hcz36_2 : w21.cell? ⟨gb176, 2, none⟩ = some (.int .i64 0) := (blk_cell BK176.out 2).trans rfl
            have hcz36_3 : w21.cell? ⟨gb176, 3, none⟩ = some (.int .i64 0) := (blk_cell BK176.out 3).trans rfl
            have hcz36_4 : w21.cell? ⟨gb176, 4, none⟩ = some (.int .i64 0) := (blk_cell BK176.out 4).trans rfl
            have hfz36_0 := blk_frozen BK176.out 0
            have hfz36_1 := blk_frozen BK176.out 1
            have hfz36_2 := blk_frozen BK176.out 2
            have hfz36_3 := blk_frozen BK176.out 3
            have hfz36_4 := blk_frozen BK176.out 4
            try go_wp2_with (first | (go_at_call 10; (with_reducible refine (lower_Pen.calls k 2 200 (-1) 0 t177 t178 t179 _ A7.out).mono ?_); rintro e w37 ⟨rfl, hb⟩; have n0_ := Aside0.mk (blk_below (g := gb164) (o := .cells #[.int .i64 t161, .int .i64 t162, .int .i64 t163] 23 (0, 0)) (by (with_reducible repeat (first | refine blk_drewN ?_ _ | refine blk_drew ?_ | refine blk_alloc ?_ _)); refine blk_far ?_ NB164_176.out _; (with_reducible repeat (first | refine blk_drewN ?_ _ | refine blk_drew ?_ | refine blk_alloc ?_ _)); refine blk_far ?_ NB164_176.out _; (with_reducible repeat (first | refine blk_drewN ?_ _ | refine blk_drew ?_ | refine blk_alloc ?_ _)); refine blk_far ?_ NB164_176.out _; (with_reducible repeat (first | refine blk_drewN ?_ _ | refine blk_drew ?_ | refine blk_alloc ?_ _)); refine blk_far ?_ NB164_176.out _; (with_reducible repeat (first | refine blk_drewN ?_ _ | refine blk_drew ?_ | refine blk_alloc ?_ _)); refine blk_far ?_ NB164_176.out _; (with_reducible repeat (first | refine blk_drewN ?_ _ | refine blk_drew ?_ | refine blk_alloc ?_ _)); refine blk_far ?_ NB164_175.out _; (with_reducible repeat (first | refine blk_drewN ?_ _ | refine blk_drew ?_ | refine blk_alloc ?_ _)); refine blk_far ?_ NB164_175.out _; (with_reducible repeat (first | refine blk_drewN ?_ _ | refine blk_drew ?_ | refine blk_alloc ?_ _)); refine blk_far ?_ NB164_175.out _; (with_reducible repeat (first | refine blk_drewN ?_ _ | refine blk_drew ?_ | refine blk_alloc ?_ _)); refine blk_far ?_ NB164_175.out _; (with_reducible repeat (first | refine blk_drewN ?_ _ | refine blk_drew ?_ | refine blk_alloc ?_ _)); refine blk_far ?_ NB164_175.out _; (with_reducible repeat (first | refine blk_drewN ?_ _ | refine blk_drew ?_ | refine blk_alloc ?_ _)); exact BK164.out) hb); have n1_ := Aside0.mk (blk_below (g := gb175) (o := .cells #[.int .i32 t165, .int .i64 t166, .int .i64 t167, .int .i64 t168, .int .i64 t169] 26 (0, 0)) (by (with_reducible repeat (first | refine blk_drewN ?_ _ | refine blk_drew ?_ | refine blk_alloc ?_ _)); refine blk_far ?_ NB175_176.out _; (with_reducible repeat (first | refine blk_drewN ?_ _ | refine blk_drew ?_ | refine blk_alloc ?_ _)); refine blk_far ?_ NB175_176.out _; (with_reducible repeat (first | refine blk_drewN ?_ _ | refine blk_drew ?_ | refine blk_alloc ?_ _)); refine blk_far ?_ NB175_176.out _; (with_reducible repeat (first | refine blk_drewN ?_ _ | refine blk_drew ?_ | refine blk_alloc ?_ _)); refine blk_far ?_ NB175_176.out _; (with_reducible repeat (first | refine blk_drewN ?_ _ | refine blk_drew ?_ | refine blk_alloc ?_ _)); refine blk_far ?_ NB175_176.out _; (with_reducible repeat (first | refine blk_drewN ?_ _ | refine blk_drew ?_ | refine blk_alloc ?_ _)); refine blk_put (cs := #[.int .i32 t165, .int .i64 t166, .int .i64 t167, .int .i64 t168, .int .i64 0]) ?_ 4 _ rfl; (with_reducible repeat (first | refine blk_drewN ?_ _ | refine blk_drew ?_ | refine blk_alloc ?_ _)); refine blk_put (cs := #[.int .i32 t165, .int .i64 t166, .int .i64 t167, .int .i64 0, .int .i64 0]) ?_ 3 _ rfl; (with_reducible repeat (first | refine blk_drewN ?_ _ | refine blk_drew ?_ | refine blk_alloc ?_ _)); refine blk_put (cs := #[.int .i32 t165, .int .i64 t166, .int .i64 0, .int .i64 0, .int .i64 0]) ?_ 2 _ rfl; (with_reducible repeat (first | refine blk_drewN ?_ _ | refine blk_drew ?_ | refine blk_alloc ?_ _)); refine blk_put (cs := #[.int .i32 t165, .int .i64 0, .int .i64 0, .int .i64 0, .int .i64 0]) ?_ 1 _ rfl; (with_reducible repeat (first | refine blk_drewN ?_ _ | refine blk_drew ?_ | refine blk_alloc ?_ _)); refine blk_put (cs := #[.int .i32 0, .int .i64 0, .int .i64 0, .int .i64 0, .int .i64 0]) ?_ 0 _ rfl; (with_reducible repeat (first | refine blk_drewN ?_ _ | refine blk_drew ?_ | refine blk_alloc ?_ _)); exact BK175.out) hb); have n2_ := Aside0.mk (blk_below (g := gb176) (o := .cells #[.int .i32 t170, .int .i64 t171, .int .i64 t172, .int .i64 t173, .int .i64 t174] 26 (0, 0)) (by (with_reducible repeat (first | refine blk_drewN ?_ _ | refine blk_drew ?_ | refine blk_alloc ?_ _)); refine blk_put (cs := #[.int .i32 t170, .int .i64 t171, .int .i64 t172, .int .i64 t173, .int .i64 0]) ?_ 4 _ rfl; (with_reducible repeat (first | refine blk_drewN ?_ _ | refine blk_drew ?_ | refine blk_alloc ?_ _)); refine blk_put (cs := #[.int .i32 t170, .int .i64 t171, .int .i64 t172, .int .i64 0, .int .i64 0]) ?_ 3 _ rfl; (with_reducible repeat (first | refine blk_drewN ?_ _ | refine blk_drew ?_ | refine blk_alloc ?_ _)); refine blk_put (cs := #[.int .i32 t170, .int .i64 t171, .int .i64 0, .int .i64 0, .int .i64 0]) ?_ 2 _ rfl; (with_reducible repeat (first | refine blk_drewN ?_ _ | refine blk_drew ?_ | refine blk_alloc ?_ _)); refine blk_put (cs := #[.int .i32 t170, .int .i64 0, .int .i64 0, .int .i64 0, .int .i64 0]) ?_ 1 _ rfl; (with_reducible repeat (first | refine blk_drewN ?_ _ | refine blk_drew ?_ | refine blk_alloc ?_ _)); refine blk_put (cs := #[.int .i32 0, .int .i64 0, .int .i64 0, .int .i64 0, .int .i64 0]) ?_ 0 _ rfl; (with_reducible repeat (first | refine blk_drewN ?_ _ | refine blk_drew ?_ | refine blk_alloc ?_ _)); refine blk_far ?_ NB176_175.out _; (with_reducible repeat (first | refine blk_drewN ?_ _ | refine blk_drew ?_ | refine blk_alloc ?_ _)); refine blk_far ?_ NB176_175.out _; (with_reducible repeat (first | refine blk_drewN ?_ _ | refine blk_drew ?_ | refine blk_alloc ?_ _)); refine blk_far ?_ NB176_175.out _; (with_reducible repeat (first | refine blk_drewN ?_ _ | refine blk_drew ?_ | refine blk_alloc ?_ _)); refine blk_far ?_ NB176_175.out _; (with_reducible repeat (first | refine blk_drewN ?_ _ | refine blk_drew ?_ | refine blk_alloc ?_ _)); refine blk_far ?_ NB176_175.out _; (with_reducible repeat (first | refine blk_drewN ?_ _ | refine blk_drew ?_ | refine blk_alloc ?_ _)); exact BK176.out) hb); have n3_ := Aside0.mk (below_step (by repeat (first | (with_reducible first | exact HB.out | apply below_alloc | apply pw_below_drewN | apply below_drew1 | refine below_set ?_ GE164.out | refine below_set ?_ GE175.out | refine below_set ?_ GE176.out) | exact HB.out)) hb); clear BK164; clear BK175; clear BK176; clear HB; have BK164 := n0_; have BK175 := n1_; have BK176 := n2_; have HB := n3_; clear n0_ n1_ n2_ n3_; (try clear hb); (try clear hb2); (try clear hk); (try clear hi)) | (go_at_call 11; (with_reducible refine (lower_Rune.calls k 3 9472 t180 _ A9.out).mono ?_); rintro e w38 ⟨rfl, hb⟩; have n0_ := Aside0.mk (blk_below (g := gb164) (o := .cells #[.int .i64 t161, .int .i64 t162, .int .i64 t163] 23 (0, 0)) (by (with_reducible repeat (first | refine blk_drewN ?_ _ | refine blk_drew ?_ | refine blk_alloc ?_ _)); exact BK164.out) hb); have n1_ := Aside0.mk (blk_below (g := gb175) (o := .cells #[.int .i32 t165, .int .i64 t166, .int .i64 t167, .int .i64 t168, .int .i64 t169] 26 (0, 0)) (by (with_reducible repeat (first | refine blk_drewN ?_ _ | refine blk_drew ?_ | refine blk_alloc ?_ _)); exact BK175.out) hb); have n2_ := Aside0.mk (blk_below (g := gb176) (o := .cells #[.int .i32 t170, .int .i64 t171, .int .i64 t172, .int .i64 t173, .int .i64 t174] 26 (0, 0)) (by (with_reducible repeat (first | refine blk_drewN ?_ _ | refine blk_drew ?_ | refine blk_alloc ?_ _)); exact BK176.out) hb); have n3_ := Aside0.mk (below_step (by repeat (first | (with_reducible first | exact HB.out | apply below_alloc | apply pw_below_drewN | apply below_drew1 | refine below_set ?_ GE164.out | refine below_set ?_ GE175.out | refine below_set ?_ GE176.out) | exact HB.out)) hb); clear BK164; clear BK175; clear BK176; clear HB; have BK164 := n0_; have BK175 := n1_; have BK176 := n2_; have HB := n3_; clear n0_ n1_ n2_ n3_; (try clear hb); (try clear hb2); (try clear hk); (try clear hi)) | (go_at_call 11; (with_reducible refine (lower_Rune.calls k 1 9472 t181 _ A11.out).mono ?_); rintro e w39 ⟨rfl, hb⟩; have n0_ := Aside0.mk (blk_below (g := gb164) (o := .cells #[.int .i64 t161, .int .i64 t162, .int .i64 t163] 23 (0, 0)) (by (with_reducible repeat (first | refine blk_drewN ?_ _ | refine blk_drew ?_ | refine blk_alloc ?_ _)); exact BK164.out) hb); have n1_ := Aside0.mk (blk_below (g := gb175) (o := .cells #[.int .i32 t165, .int .i64 t166, .int .i64 t167, .int .i64 t168, .int .i64 t169] 26 (0, 0)) (by (with_reducible repeat (first | refine blk_drewN ?_ _ | refine blk_drew ?_ | refine blk_alloc ?_ _)); exact BK175.out) hb); have n2_ := Aside0.mk (blk_below (g := gb176) (o := .cells #[.int .i32 t170, .int .i64 t171, .int .i64 t172, .int .i64 t173, .int .i64 t174] 26 (0, 0)) (by (with_reducible repeat (first | refine blk_drewN ?_ _ | refine blk_drew ?_ | refine blk_alloc ?_ _)); exact BK176.out) hb); have n3_ := Aside0.mk (below_step (by repeat (first | (with_reducible first | exact HB.out | apply below_alloc | apply pw_below_drewN | apply below_drew1 | refine below_set ?_ GE164.out | refine below_set ?_ GE175.out | refine below_set ?_ GE176.out) | exact HB.out)) hb); clear BK164; clear BK175; clear BK176; clear HB; have BK164 := n0_; have BK175 := n1_; have BK176 := n2_; have HB := n3_; clear n0_ n1_ n2_ n3_; (try clear hb); (try clear hb2); (try clear hk); (try clear hi)))
            go_ret
            exact ⟨by first | rfl | (simp [errW_none, errW_some] <;> rfl) | (simp [*, errW_none, errW_some] <;> rfl), by repeat (first | (with_reducible first | exact HB.out | apply below_alloc | apply pw_below_drewN | apply below_drew1 | refine below_set ?_ GE164.out | refine below_set ?_ GE175.out | refine below_set ?_ GE176.out) | exact HB.out)⟩
          · rw [if_neg c10] at H
            exact absurd H (by simp)
        · rw [if_neg c8] at H
          exact absurd H (by simp)
      · rw [if_neg c6] at H
        exact absurd H (by simp)
    · rw [if_neg c5] at H
      exact absurd H (by simp)
  · rw [if_neg c4] at H
    exact absurd H (by simp)

/-- THE ONE PURE STATEMENT of linguistlaw18_LowerRuns. -/
def linguistlaw18_LowerRuns.Pure : Prop := ∃ k, linguistlaw18_LowerRuns.f k  = some true
theorem linguistlaw18_LowerRuns.walk (P : linguistlaw18_LowerRuns.Pure)  (w : World)   :
    Calls Try.prog 3 #[] w fun e w' => e = .returned (.bool true) ∧ Below w.heap.size w w' := by
  obtain ⟨k, h⟩ := P  
  refine (linguistlaw18_LowerRuns.calls k  true w  h).mono ?_
  rintro e w' ⟨rfl, hd⟩
  exact ⟨rfl, hd⟩

end Go.Proofs.Ytlpmhldejeaefaa.GLowerRuns
