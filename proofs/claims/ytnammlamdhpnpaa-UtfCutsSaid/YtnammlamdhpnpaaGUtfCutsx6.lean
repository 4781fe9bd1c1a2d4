-- Written by a program of this session (out of the kit's printer); Lean checks it.
import Derived.Test.YtnammlamdhpnpaaGUtfCutsx0
import Derived.Test.YtnammlamdhpnpaaGUtfCutsx1
import Derived.Test.YtnammlamdhpnpaaGUtfCutsx2
import Derived.Test.YtnammlamdhpnpaaGUtfCutsx3
import Derived.Test.YtnammlamdhpnpaaGUtfCutsx4
import Derived.Test.YtnammlamdhpnpaaGUtfCutsx5
namespace Go.Proofs.Ytnammlamdhpnpaa.GUtfCuts
open Go.RowKit Go.Proofs.YtnammlamdhpnpaaW.PrintWords Go.Proofs.YtnammlamdhpnpaaW.PrintLast Go.Proofs.YtnammlamdhpnpaaW.PrintMore
attribute [local go_sem] max2_int min2_int max_two min_two max_three min_three max_four min_four   -- for this text's walks alone
set_option linter.unusedVariables false
set_option linter.unusedSimpArgs false

attribute [local go_sem high] eqA24
/-! ### linguistlaw1_UtfCuts: function 6 -/
def linguistlaw1_UtfCuts.l0 : Nat → List Int → List Int → List Int → List Int → Int → Int → Int → Int → Int → Int → Int → Int → Option (Bool)
  | 0, _, _, _, _, _, _, _, _, _, _, _, _ => none
  | k + 1, x7, x9, x21, x40, x41, x42, x264000, x264001, x264002, x275000, x275001, x275002 => if x42 < x41 then (if 0 ≤ x42 then (if x42 < (x40.length : Int) then ((utf_Decoder_Push.f k x275000 x275001 x275002 (rd x40 x42)).bind fun bt282 => (if (bt282.2.2.2.length : Int) > 2 then (none) else ((utf_Decoder_Held.f x275000 x275001 x275002).bind fun t289 => (if (t289 == false) = true then (if (bt282.2.2.2.length : Int) > 1 then (none) else (if x9.length + bt282.2.2.2.length < 35184372088832 then (linguistlaw1_UtfCuts.l0 k x7 (x9 ++ bt282.2.2.2) x21 x40 x41 (wrap64 (x42 + 1)) x264000 x264001 x264002 bt282.1 bt282.2.1 bt282.2.2.1) else (none))) else (if x9.length + bt282.2.2.2.length < 35184372088832 then (linguistlaw1_UtfCuts.l0 k x7 (x9 ++ bt282.2.2.2) x21 x40 x41 (wrap64 (x42 + 1)) x264000 x264001 x264002 bt282.1 bt282.2.1 bt282.2.2.1) else (none)))))) else (none)) else (none)) else ((linguistbook_Same_rune.f k x9 x7).bind fun t279 => (if t279 = true then (if (x275000 == x264000 && (x275001 == x264001 && (x275002 == x264002))) = true then ((linguistlaw1_UtfRuns.f k).bind fun t280 => (some t280)) else (none)) else (none)))
def linguistlaw1_UtfCuts.f (k : Nat) (l0 : List Int) (a1 : Int) : Option (Bool) := (some (([] : List Int) : List Int)).bind fun y249 => (if 0 ≤ (mn (l0.length : Int) 30) then (if (mn (l0.length : Int) 30) ≤ (l0.length : Int) then (if y249.length + (l0.take ((mn (l0.length : Int) 30) : Int).toNat).length < 140737488355328 then ((some (y249 ++ (l0.take ((mn (l0.length : Int) 30) : Int).toNat) : List Int)).bind fun y253 => ((linguistbook_Within.f a1 0 (y253.length : Int)).bind fun t256 => ((utf_Decode.f k y253).bind fun bt257 => (if 0 ≤ t256 then (if t256 ≤ (y253.length : Int) then ((utf_Decode.f k (y253.take (t256 : Int).toNat)).bind fun bt268 => ((some (y253.drop (t256 : Int).toNat : List Int)).bind fun y275 => (linguistlaw1_UtfCuts.l0 k bt257.1 bt268.1 y253 y275 (y275.length : Int) 0 bt257.2.1 bt257.2.2.1 bt257.2.2.2 bt268.2.1 bt268.2.2.1 bt268.2.2.2))) else (none)) else (none))))) else (none)) else (none)) else (none))
theorem linguistlaw1_UtfCuts.mono_l : ∀ k, (∀ y0 y1 y2 y3 y4 y5 y6 y7 y8 y9 y10 y11, LeO (linguistlaw1_UtfCuts.l0 k y0 y1 y2 y3 y4 y5 y6 y7 y8 y9 y10 y11) (linguistlaw1_UtfCuts.l0 (k + 1) y0 y1 y2 y3 y4 y5 y6 y7 y8 y9 y10 y11))
  | 0 => fun _ _ _ _ _ _ _ _ _ _ _ _ r h => by simp [linguistlaw1_UtfCuts.l0] at h
  | k + 1 => by
    have ih0 := linguistlaw1_UtfCuts.mono_l k
    · intro y0 y1 y2 y3 y4 y5 y6 y7 y8 y9 y10 y11
      unfold linguistlaw1_UtfCuts.l0
      repeat' first
      | (with_reducible exact ih0 _ _ _ _ _ _ _ _ _ _ _ _)
      | (with_reducible exact linguistbook_Same_rune.mono _ _ _)
      | (with_reducible exact linguistlaw1_UtfRuns.mono _)
      | (with_reducible exact utf_Decode.mono _ _)
      | (with_reducible exact utf_Decoder_Push.mono _ _ _ _ _)
      | (with_reducible exact LeO.refl _)
      | (with_reducible exact LeO.none _)
      | (with_reducible refine LeO.ite ?_ ?_)
      | (with_reducible refine LeO.bind ?_ (fun _ => ?_))
      | exact ih0 _ _ _ _ _ _ _ _ _ _ _ _
      | exact linguistbook_Same_rune.mono _ _ _
      | exact linguistlaw1_UtfRuns.mono _
      | exact utf_Decode.mono _ _
      | exact utf_Decoder_Push.mono _ _ _ _ _
      | exact LeO.none _
      | refine LeO.ite ?_ ?_
      | refine LeO.bind ?_ (fun _ => ?_)
theorem linguistlaw1_UtfCuts.mono : ∀ a0 a1 k, LeO (linguistlaw1_UtfCuts.f k a0 a1) (linguistlaw1_UtfCuts.f (k + 1) a0 a1) := by
  intro a0 a1 k
  have ih0 := linguistlaw1_UtfCuts.mono_l k
  unfold linguistlaw1_UtfCuts.f
  repeat' first
      | (with_reducible exact ih0 _ _ _ _ _ _ _ _ _ _ _ _)
      | (with_reducible exact linguistbook_Same_rune.mono _ _ _)
      | (with_reducible exact linguistlaw1_UtfRuns.mono _)
      | (with_reducible exact utf_Decode.mono _ _)
      | (with_reducible exact utf_Decoder_Push.mono _ _ _ _ _)
      | (with_reducible exact LeO.refl _)
      | (with_reducible exact LeO.none _)
      | (with_reducible refine LeO.ite ?_ ?_)
      | (with_reducible refine LeO.bind ?_ (fun _ => ?_))
      | exact ih0 _ _ _ _ _ _ _ _ _ _ _ _
      | exact linguistbook_Same_rune.mono _ _ _
      | exact linguistlaw1_UtfRuns.mono _
      | exact utf_Decode.mono _ _
      | exact utf_Decoder_Push.mono _ _ _ _ _
      | exact LeO.none _
      | refine LeO.ite ?_ ?_
      | refine LeO.bind ?_ (fun _ => ?_)
set_option maxHeartbeats 8000000 in
set_option maxRecDepth 100000 in
theorem linguistlaw1_UtfCuts.calls (k : Nat) (A0 : Option Addr) (c0 : Nat) (l0 : List Int) (a1 : Int) (r : Bool) (w : World) (hr0 : Kd.C (Kd.int .u8) w A0 l0.length l0) (hc0 : l0.length ≤ c0) (h : linguistlaw1_UtfCuts.f k l0 a1 = some r) :
    Calls Try.prog 6 #[.slice A0 l0.length c0, .int .i64 a1] w fun e w' => e = .returned (.bool r) ∧ Below w.heap.size w w' := by
  have hu24 := Try.underlying24
  have HR0 := Aside0.mk hr0
  have HC0 := Aside0.mk hc0
  clear hr0 hc0
  have HB := Aside0.mk (Below.refl w.heap.size w)
  have H : ((some (([] : List Int) : List Int)).bind fun y249 => (if 0 ≤ (mn (l0.length : Int) 30) then (if (mn (l0.length : Int) 30) ≤ (l0.length : Int) then (if y249.length + (l0.take ((mn (l0.length : Int) 30) : Int).toNat).length < 140737488355328 then ((some (y249 ++ (l0.take ((mn (l0.length : Int) 30) : Int).toNat) : List Int)).bind fun y253 => ((linguistbook_Within.f a1 0 (y253.length : Int)).bind fun t256 => ((utf_Decode.f k y253).bind fun bt257 => (if 0 ≤ t256 then (if t256 ≤ (y253.length : Int) then ((utf_Decode.f k (y253.take (t256 : Int).toNat)).bind fun bt268 => ((some (y253.drop (t256 : Int).toNat : List Int)).bind fun y275 => (linguistlaw1_UtfCuts.l0 k bt257.1 bt268.1 y253 y275 (y275.length : Int) 0 bt257.2.1 bt257.2.2.1 bt257.2.2.2 bt268.2.1 bt268.2.2.1 bt268.2.2.2))) else (none)) else (none))))) else (none)) else (none)) else (none))) = some r := h
  clear h
  obtain ⟨y249, hy249⟩ : ∃ y_ : List Int, y_ = (([] : List Int)) := ⟨_, rfl⟩
  replace H : (if 0 ≤ (mn (l0.length : Int) 30) then (if (mn (l0.length : Int) 30) ≤ (l0.length : Int) then (if y249.length + (l0.take ((mn (l0.length : Int) 30) : Int).toNat).length < 140737488355328 then ((some (y249 ++ (l0.take ((mn (l0.length : Int) 30) : Int).toNat) : List Int)).bind fun y253 => ((linguistbook_Within.f a1 0 (y253.length : Int)).bind fun t256 => ((utf_Decode.f k y253).bind fun bt257 => (if 0 ≤ t256 then (if t256 ≤ (y253.length : Int) then ((utf_Decode.f k (y253.take (t256 : Int).toNat)).bind fun bt268 => ((some (y253.drop (t256 : Int).toNat : List Int)).bind fun y275 => (linguistlaw1_UtfCuts.l0 k bt257.1 bt268.1 y253 y275 (y275.length : Int) 0 bt257.2.1 bt257.2.2.1 bt257.2.2.2 bt268.2.1 bt268.2.2.1 bt268.2.2.2))) else (none)) else (none))))) else (none)) else (none)) else (none)) = some r := by first | (rw [hy249]; with_reducible exact H) | (have H2_ := (Option.bind_some _ _).symm.trans H; rw [hy249]; with_reducible exact H2_) | (have H2_ := (Option.bind_some _ _).symm.trans H; with_reducible exact H2_) | with_reducible exact H | (rw [hy249]; exact H) | exact H
  have Ny249 := Aside0.mk hy249
  clear hy249
  obtain ⟨ji3, hji3⟩ : ∃ j_ : Int, (mn (l0.length : Int) 30) = j_ := ⟨_, rfl⟩
  replace H : (if 0 ≤ (ji3) then (if (ji3) ≤ (l0.length : Int) then (if y249.length + (l0.take ((ji3) : Int).toNat).length < 140737488355328 then ((some (y249 ++ (l0.take ((ji3) : Int).toNat) : List Int)).bind fun y253 => ((linguistbook_Within.f a1 0 (y253.length : Int)).bind fun t256 => ((utf_Decode.f k y253).bind fun bt257 => (if 0 ≤ t256 then (if t256 ≤ (y253.length : Int) then ((utf_Decode.f k (y253.take (t256 : Int).toNat)).bind fun bt268 => ((some (y253.drop (t256 : Int).toNat : List Int)).bind fun y275 => (linguistlaw1_UtfCuts.l0 k bt257.1 bt268.1 y253 y275 (y275.length : Int) 0 bt257.2.1 bt257.2.2.1 bt257.2.2.2 bt268.2.1 bt268.2.2.1 bt268.2.2.2))) else (none)) else (none))))) else (none)) else (none)) else (none)) = some r := by first | (rw [hji3] at H; exact H) | (simp only [hji3] at H ⊢; exact H)
  (try (have hji3h : ji3 ≤ 30 := by (rw [← hji3]; unfold mn; (repeat' split) <;> omega)))
  (try (have hji3g : ji3 ≤ 64 := by omega))
  (try (have hji3l : 0 ≤ ji3 := by (rw [← hji3]; unfold mn; (repeat' split) <;> omega)))
  (try (have hji3m : 0 ≤ ji3 := by omega))
  have hji3_ : (if 30 < (l0.length : Int) then 30 else (l0.length : Int)) = ji3 := hji3
  (try (have hji3n : ji3.toNat ≤ l0.length := by (have f_ := hji3_; split at f_ <;> omega)))
  by_cases c4 : 0 ≤ (ji3)
  · rw [if_pos c4] at H
    have c4b0 := eq_true c4
    have c4b1 : decide (0 ≤ (ji3)) = true := decide_eq_true c4
    clear c4
    by_cases c5 : (ji3) ≤ (l0.length : Int)
    · rw [if_pos c5] at H
      have c5b0 := eq_true c5
      have c5b1 : decide ((ji3) ≤ (l0.length : Int)) = true := decide_eq_true c5
      clear c5
      by_cases c6 : y249.length + (l0.take ((ji3) : Int).toNat).length < 140737488355328
      · rw [if_pos c6] at H
        have LMc6 := Aside0.mk c6
        clear c6
        obtain ⟨y253, hy253⟩ : ∃ y_ : List Int, y_ = (y249 ++ (l0.take ((ji3) : Int).toNat)) := ⟨_, rfl⟩
        replace H : ((linguistbook_Within.f a1 0 (y253.length : Int)).bind fun t256 => ((utf_Decode.f k y253).bind fun bt257 => (if 0 ≤ t256 then (if t256 ≤ (y253.length : Int) then ((utf_Decode.f k (y253.take (t256 : Int).toNat)).bind fun bt268 => ((some (y253.drop (t256 : Int).toNat : List Int)).bind fun y275 => (linguistlaw1_UtfCuts.l0 k bt257.1 bt268.1 y253 y275 (y275.length : Int) 0 bt257.2.1 bt257.2.2.1 bt257.2.2.2 bt268.2.1 bt268.2.2.1 bt268.2.2.2))) else (none)) else (none)))) = some r := by first | (rw [hy253]; with_reducible exact H) | (have H2_ := (Option.bind_some _ _).symm.trans H; rw [hy253]; with_reducible exact H2_) | (have H2_ := (Option.bind_some _ _).symm.trans H; with_reducible exact H2_) | with_reducible exact H | (rw [hy253]; exact H) | exact H
        have Ny253 := Aside0.mk hy253
        clear hy253
        replace H := Option.bind_eq_some_iff.mp H
        obtain ⟨t256, A70, H⟩ := H
        replace H : ((utf_Decode.f k y253).bind fun bt257 => (if 0 ≤ t256 then (if t256 ≤ (y253.length : Int) then ((utf_Decode.f k (y253.take (t256 : Int).toNat)).bind fun bt268 => ((some (y253.drop (t256 : Int).toNat : List Int)).bind fun y275 => (linguistlaw1_UtfCuts.l0 k bt257.1 bt268.1 y253 y275 (y275.length : Int) 0 bt257.2.1 bt257.2.2.1 bt257.2.2.2 bt268.2.1 bt268.2.2.1 bt268.2.2.2))) else (none)) else (none))) = some r := H
        have A7 := Aside0.mk A70
        clear A70
        replace H := Option.bind_eq_some_iff.mp H
        obtain ⟨⟨t257, t260, t261, t262⟩, A80, H⟩ := H
        replace H : (if 0 ≤ t256 then (if t256 ≤ (y253.length : Int) then ((utf_Decode.f k (y253.take (t256 : Int).toNat)).bind fun bt268 => ((some (y253.drop (t256 : Int).toNat : List Int)).bind fun y275 => (linguistlaw1_UtfCuts.l0 k t257 bt268.1 y253 y275 (y275.length : Int) 0 t260 t261 t262 bt268.2.1 bt268.2.2.1 bt268.2.2.2))) else (none)) else (none)) = some r := H
        have A8 := Aside0.mk A80
        clear A80
        by_cases c9 : 0 ≤ t256
        · rw [if_pos c9] at H
          have c9b0 := eq_true c9
          have c9b1 : decide (0 ≤ t256) = true := decide_eq_true c9
          clear c9
          by_cases c10 : t256 ≤ (y253.length : Int)
          · rw [if_pos c10] at H
            have c10b0 := eq_true c10
            have c10b1 : decide (t256 ≤ (y253.length : Int)) = true := decide_eq_true c10
            clear c10
            obtain ⟨y264, hy264⟩ : ∃ y_ : List Int, y_ = (y253.take (t256 : Int).toNat) := ⟨_, rfl⟩
            replace H : ((utf_Decode.f k y264).bind fun bt268 => ((some (y253.drop (t256 : Int).toNat : List Int)).bind fun y275 => (linguistlaw1_UtfCuts.l0 k t257 bt268.1 y253 y275 (y275.length : Int) 0 t260 t261 t262 bt268.2.1 bt268.2.2.1 bt268.2.2.2))) = some r := by first | (rw [hy264]; with_reducible exact H) | (have H2_ := (Option.bind_some _ _).symm.trans H; rw [hy264]; with_reducible exact H2_) | (have H2_ := (Option.bind_some _ _).symm.trans H; with_reducible exact H2_) | with_reducible exact H | (rw [hy264]; exact H) | exact H
            have Ny264 := Aside0.mk hy264
            clear hy264
            replace H := Option.bind_eq_some_iff.mp H
            obtain ⟨⟨t268, t271, t272, t273⟩, A110, H⟩ := H
            replace H : ((some (y253.drop (t256 : Int).toNat : List Int)).bind fun y275 => (linguistlaw1_UtfCuts.l0 k t257 t268 y253 y275 (y275.length : Int) 0 t260 t261 t262 t271 t272 t273)) = some r := H
            have A11 := Aside0.mk A110
            clear A110
            have c12b0 := eq_true (of_decide_eq_true (by first | (with_reducible assumption) | assumption) : 0 ≤ t256)
            have c13b0 := eq_true (of_decide_eq_true (by first | (with_reducible assumption) | assumption) : t256 ≤ (y253.length : Int))
            obtain ⟨y275, hy275⟩ : ∃ y_ : List Int, y_ = (y253.drop (t256 : Int).toNat) := ⟨_, rfl⟩
            replace H : (linguistlaw1_UtfCuts.l0 k t257 t268 y253 y275 (y275.length : Int) 0 t260 t261 t262 t271 t272 t273) = some r := by first | (rw [hy275]; with_reducible exact H) | (have H2_ := (Option.bind_some _ _).symm.trans H; rw [hy275]; with_reducible exact H2_) | (have H2_ := (Option.bind_some _ _).symm.trans H; with_reducible exact H2_) | with_reducible exact H | (rw [hy275]; exact H) | exact H
            have Ny275 := Aside0.mk hy275
            clear hy275
            have H' := Aside0.mk H
            clear H
            go_enter Try.func6, Try.ntmps6
            go_wp2_with (first | ((with_reducible refine gate_dst (N := 15) rfl ?_); (try (refine gate_guard (by rfl) ?_; dsimp only)); refine Kd.R_lit (Kd.int .u8) _ 5 ?hg (N := 15) ?hd (xs := ([] : List Int)) (inner := []) (ok := fun _ => True) (okp := fun _ => True) ?hr ?hp (fun _ hk => hk) trivial (Below.refl _ _) (Nat.le_refl _) (by simp) ?_; (case hd => rfl); (case hg => rfl); (case hr => first | (go_simp; done) | (go_simp; rfl)); (case hp => exact (Reps.none _ _)); intro v250 w14 ho15 hb hg_ hnew_; clear hg_ hnew_; (first | rw [← Ny249.out] at ho15 | (simp only [Int.reduceToNat] at ho15; rw [← Ny249.out] at ho15)); have n0_ := Aside0.mk (Kd.R_lower ho15 (below_size (by repeat (first | (with_reducible first | exact HB.out | apply below_alloc | apply pw_below_drewN | apply below_drew1) | exact HB.out)))); have n1_ := Aside0.mk (below_step (by repeat (first | (with_reducible first | exact HB.out | apply below_alloc | apply pw_below_drewN | apply below_drew1) | exact HB.out)) hb); clear HB; have HO251 := n0_; have HB := n1_; clear n0_ n1_; clear hb ho15; obtain ⟨i016, hi016, _, hsz16, _⟩ := info_parts info5; obtain ⟨hcut16, hA16, hC16⟩ := print_take_of (P := Try.prog) (Value.int .u8) 0 27 5 .i64 Try.underlying27 hi016 hsz16 A0 c0 l0 (ji3) (of_decide_eq_true (by first | (with_reducible assumption) | assumption)) (of_decide_eq_true (by first | (with_reducible assumption) | assumption)) HC0.out; have HR252 := Aside0.mk (Kd.C_of_reads (h1 := fun _ => rfl) (hA16 _ (Kd.reads_of_C HR0.out))); have HC252 := Aside0.mk hC16; clear hA16 hC16 hi016 hsz16) | ((with_reducible refine gate_builtin (b := .append) (xs := #[.tmp 15, .tmp 20]) rfl ?_); (try (refine gate_guard (by rfl) ?_; dsimp only)); at_builtin; refine Kd.R_append_rows (Kd.int .u8) (w0 := w) w.heap.size rfl (.tmp 15) (.tmp 20) 27 5 (.int .u8 0) 1 rfl Try.underlying27 info5 rfl (by decide) (by omega) v250 y249 (l0.take ((ji3) : Int).toNat) _ _ _ (fun _ => True) (fun _ => False) rfl rfl ?aO ?aR (fun _ _ h => h) (fun _ h => h.elim) ?aF ?aB ?aS ?aL ?_; (case aR => first | (refine row_len_ (show (l0.take ((ji3) : Int).toNat).length = (ji3).toNat from (by rw [List.length_take]; have h_ : ((ji3) : Int) ≤ (l0.length : Int) := of_decide_eq_true (by first | (with_reducible assumption) | assumption); omega)) ?_; repeat (first | exact (Kd.C_below HR252.out HB.out) | (with_reducible refine Kd.C_alloc ?_ _) | (with_reducible refine Kd.C_drewN ?_ _) | (with_reducible refine Kd.C_drew ?_))) | (repeat (first | exact (Kd.C_below HR252.out HB.out) | (with_reducible refine Kd.C_alloc ?_ _) | (with_reducible refine Kd.C_drewN ?_ _) | (with_reducible refine Kd.C_drew ?_)))); (case aB => exact (by repeat (first | (with_reducible first | exact HB.out | apply below_alloc | apply pw_below_drewN | apply below_drew1) | exact HB.out))); (case aF => exact (fun _ _ => trivial)); (case aO => exact (by (with_reducible repeat (first | apply Kd.R_alloc | apply Kd.R_drewN | apply Kd.R_drew)); exact HO251.out)); (case aS => exact (below_size (by repeat (first | (with_reducible first | exact HB.out | apply below_alloc | apply pw_below_drewN | apply below_drew1) | exact HB.out)))); (case aL => have := LMc6.out; have hlx_ := (show (l0.take ((ji3) : Int).toNat).length = (ji3).toNat from (by rw [List.length_take]; have h_ : ((ji3) : Int) ≤ (l0.length : Int) := of_decide_eq_true (by first | (with_reducible assumption) | assumption); omega)); omega); intro v254 w17 ho hb hg hat; rw [← Ny253.out] at ho; have n0_ := Aside0.mk (hb); have n1_ := Aside0.mk (ho); clear HB; clear HO251; have HB := n0_; have HO255 := n1_; clear n0_ n1_; clear ho hb hg hat; obtain ⟨Ao18, co18, eo18⟩ := Kd.R_slice HO255.out; subst eo18) | ((with_reducible refine gate_callee (f := 18) rfl ?_); refine goesL_ (some 25) rfl rfl Try.func18 (by kernel_rfl) rfl #[.int .i64 a1, .int .i64 0, .int .i64 (y253.length : Int)] rfl (by (try simp only [List.map_toArray, List.map_cons, List.map_nil]); first | done | rfl | (simp only [List.length_drop, List.length_take]; rfl) | (simp only [List.length_drop, List.length_take]; rw [Nat.min_eq_left (by first | assumption | omega)]; rfl)) ?_; (with_reducible refine (linguistbook_Within.calls a1 0 (y253.length : Int) t256 _ A7.out).mono ?_); rintro e w' ⟨rfl, ⟨nd, rfl⟩⟩; refine ⟨_, rfl, ?_⟩; (try (rw [drewN_self w17]; generalize hq_ : World.drewN w17 _ = w17; have n0_ : Aside0 (Kd.R (Kd.int .u8) 5 w17 w.heap.size (fun _ => True) (.slice Ao18 y253.length co18) y253) := ⟨by rw [← hq_]; exact (by (with_reducible repeat (first | apply Kd.R_alloc | apply Kd.R_drewN | apply Kd.R_drew)); exact HO255.out)⟩; have n1_ : Aside0 (Below w.heap.size w w17) := ⟨by rw [← hq_]; exact (by repeat (first | (with_reducible first | exact HB.out | apply below_alloc | apply pw_below_drewN | apply below_drew1) | exact HB.out))⟩; clear HO255 HB hq_; have HO255 := n0_; have HB := n1_; clear n0_ n1_))) | ((with_reducible refine gate_callee (f := 9) rfl ?_); refine goesL_ (some 28) rfl rfl Try.func9 (by kernel_rfl) rfl #[.slice Ao18 y253.length co18] rfl (by (try simp only [List.map_toArray, List.map_cons, List.map_nil]); first | done | rfl | (simp only [List.length_drop, List.length_take]; rfl) | (simp only [List.length_drop, List.length_take]; rw [Nat.min_eq_left (by first | assumption | omega)]; rfl)) ?_; (with_reducible refine (utf_Decode.calls k _ _ y253 t257 t260 t261 t262 _ ?side1 ?side2 A8.out).mono ?_); (case side1 => repeat (first | exact (Kd.R_reads' HO255.out).2.2 | (with_reducible refine Kd.C_alloc ?_ _) | (with_reducible refine Kd.C_drewN ?_ _) | (with_reducible refine Kd.C_drew ?_))); (case side2 => exact (Kd.R_reads' HO255.out).2.1); rintro e w19 ⟨v258, rfl, ho0, hb⟩; refine ⟨_, rfl, ?_⟩; have n0_ := Aside0.mk (Kd.R_below (by (with_reducible repeat (first | apply Kd.R_alloc | apply Kd.R_drewN | apply Kd.R_drew)); exact HO255.out) hb); have n1_ := Aside0.mk (Kd.R_lower ho0 (below_size (by repeat (first | (with_reducible first | exact HB.out | apply below_alloc | apply pw_below_drewN | apply below_drew1) | exact HB.out)))); have n2_ := Aside0.mk (below_step (by repeat (first | (with_reducible first | exact HB.out | apply below_alloc | apply pw_below_drewN | apply below_drew1) | exact HB.out)) hb); clear HO255; clear HB; have HO255 := n0_; have HO259 := n1_; have HB := n2_; clear n0_ n1_ n2_; (try clear hb); (try clear hb2); (try clear hk); (try clear hi); (try clear ho0)) | ((with_reducible refine gate_dst (N := 8) rfl ?_); (try (refine gate_guard (by rfl) ?_; dsimp only)); refine box_event ?hg (N := 8) ?hd (cs := #[.int .i64 0, .int .i64 0, .int .i64 0]) (t := 24) ?hr ?_; (case hd => rfl); (case hg => rfl); (case hr => first | (go_simp; done) | (go_simp; rfl)); intro gb263 hg w20 hbox hb; have n0_ := Aside0.mk (Kd.R_below (by (with_reducible repeat (first | apply Kd.R_alloc | apply Kd.R_drewN | apply Kd.R_drew)); exact HO255.out) hb); have n1_ := Aside0.mk (Kd.R_below (by (with_reducible repeat (first | apply Kd.R_alloc | apply Kd.R_drewN | apply Kd.R_drew)); exact HO259.out) hb); have n2_ := Aside0.mk (below_step (by repeat (first | (with_reducible first | exact HB.out | apply below_alloc | apply pw_below_drewN | apply below_drew1) | exact HB.out)) hb); have n3_ := Aside0.mk (hbox); have n4_ := Aside0.mk ((by rw [hg]; exact (below_size (by repeat (first | (with_reducible first | exact HB.out | apply below_alloc | apply pw_below_drewN | apply below_drew1) | exact HB.out))) : w.heap.size ≤ gb263)); have n5_ := Aside0.mk ((by rw [hg]; exact (below_size (by repeat (first | (with_reducible first | exact HB.out | apply below_alloc | apply pw_below_drewN | apply below_drew1) | exact HB.out))) : w.heap.size ≤ gb263)); clear HO255; clear HO259; clear HB; have HO255 := n0_; have HO259 := n1_; have HB := n2_; have BK263 := n3_; have GW263 := n4_; have GE263 := n5_; clear n0_ n1_ n2_ n3_ n4_ n5_; clear hb hbox hg; have hcz21_0 : w20.cell? ⟨gb263, 0, none⟩ = some (.int .i64 0) := (blk_cell BK263.out 0).trans rfl; have hcz21_1 : w20.cell? ⟨gb263, 1, none⟩ = some (.int .i64 0) := (blk_cell BK263.out 1).trans rfl; have hcz21_2 : w20.cell? ⟨gb263, 2, none⟩ = some (.int .i64 0) := (blk_cell BK263.out 2).trans rfl; have hfz21_0 := blk_frozen BK263.out 0; have hfz21_1 := blk_frozen BK263.out 1; have hfz21_2 := blk_frozen BK263.out 2) | ((with_reducible refine gate_store (t := 24) (p := 8) rfl ?_); refine store_event (t := 24) (p := 8) (v := ?vo_w22) (w1 := (((w20.setCell ⟨gb263, 0, none⟩ (.int .i64 t260)).setCell ⟨gb263, 1, none⟩ (.int .i64 t261)).setCell ⟨gb263, 2, none⟩ (.int .i64 t262))) ?hg ?ho ?hn ?hr ?_; (case ho => rfl); (case hg => rfl); (case hn => rfl); (case hr => first | (go_simp; done) | (go_simp; rfl)); intro w22 hw; have n0_ : Aside0 (Kd.R (Kd.int .u8) 5 w22 w.heap.size (fun _ => True) (.slice Ao18 y253.length co18) y253) := ⟨(by rw [hw]; exact (by (with_reducible repeat (first | apply Kd.R_alloc | apply Kd.R_drewN | apply Kd.R_drew)); exact Kd.R_mono (Kd.R_far (p := ⟨gb263, 2, none⟩) (Kd.R_far (p := ⟨gb263, 1, none⟩) (Kd.R_far (p := ⟨gb263, 0, none⟩) (Kd.R_types HO255.out BK263.out (by decide)) (fun _ hk => hk.2) (.int .i64 t260)) (fun _ hk => hk.2) (.int .i64 t261)) (fun _ hk => hk.2) (.int .i64 t262)) (fun _ hk => trivial)))⟩; have n1_ : Aside0 (Kd.R (Kd.int .i32) 21 w22 w.heap.size (fun _ => True) v258 t257) := ⟨(by rw [hw]; exact (by (with_reducible repeat (first | apply Kd.R_alloc | apply Kd.R_drewN | apply Kd.R_drew)); exact Kd.R_mono (Kd.R_far (p := ⟨gb263, 2, none⟩) (Kd.R_far (p := ⟨gb263, 1, none⟩) (Kd.R_far (p := ⟨gb263, 0, none⟩) (Kd.R_types HO259.out BK263.out (by decide)) (fun _ hk => hk.2) (.int .i64 t260)) (fun _ hk => hk.2) (.int .i64 t261)) (fun _ hk => hk.2) (.int .i64 t262)) (fun _ hk => trivial)))⟩; have n2_ : Aside0 (w22.heap[gb263]? = some (.cells #[.int .i64 t260, .int .i64 t261, .int .i64 t262] 24 (0, 0))) := ⟨(by rw [hw]; exact (by (with_reducible repeat (first | refine blk_drewN ?_ _ | refine blk_drew ?_ | refine blk_alloc ?_ _)); refine blk_put (cs := #[.int .i64 t260, .int .i64 t261, .int .i64 0]) ?_ 2 _ rfl; (with_reducible repeat (first | refine blk_drewN ?_ _ | refine blk_drew ?_ | refine blk_alloc ?_ _)); refine blk_put (cs := #[.int .i64 t260, .int .i64 0, .int .i64 0]) ?_ 1 _ rfl; (with_reducible repeat (first | refine blk_drewN ?_ _ | refine blk_drew ?_ | refine blk_alloc ?_ _)); refine blk_put (cs := #[.int .i64 0, .int .i64 0, .int .i64 0]) ?_ 0 _ rfl; (with_reducible repeat (first | refine blk_drewN ?_ _ | refine blk_drew ?_ | refine blk_alloc ?_ _)); exact BK263.out))⟩; have n3_ : Aside0 (Below w.heap.size w w22) := ⟨(by rw [hw]; exact (by repeat (first | (with_reducible first | exact HB.out | apply below_alloc | apply pw_below_drewN | apply below_drew1 | refine below_set ?_ GE263.out) | exact HB.out)))⟩; clear hw; clear HO255; clear HO259; clear BK263; clear HB; have HO255 := n0_; have HO259 := n1_; have BK263 := n2_; have HB := n3_; clear n0_ n1_ n2_ n3_; have q23 : (t256 : Int) ≤ ((y253.length : Int) : Int) := of_decide_eq_true (by first | (with_reducible assumption) | assumption); obtain ⟨i023, hi023, _, hsz23, _⟩ := info_parts info5; have hroom23 : y253.length ≤ co18 := (Kd.R_reads' HO255.out).2.1; have hC23 : Kd.C (Kd.int .u8) _ Ao18 y253.length y253 := (Kd.R_reads' HO255.out).2.2; have hcut23 := cut_to (P := Try.prog) 27 5 .i64 Try.underlying27 hi023 Ao18 y253.length co18 t256 (of_decide_eq_true (by first | (with_reducible assumption) | assumption)) q23 hroom23; have hr23 := Kd.C_take (m := (t256 : Int).toNat) hC23 (by omega); have hy23 : y264.length = (t256 : Int).toNat := (by rw [Ny264.out, List.length_take]; omega); rw [← Ny264.out] at hr23; rw [← hy23] at hcut23; have HR267 := Aside0.mk hr23; have HC267 := Aside0.mk (show y264.length ≤ co18 from by omega); clear hr23 hC23 hroom23 hi023 hsz23; have KY23 := Aside0.mk hy23; clear hy23; have KL23 := Aside0.mk (show (t256 : Int).toNat ≤ y253.length from by omega); replace q23 := eq_true q23) | ((with_reducible refine gate_callee (f := 9) rfl ?_); refine goesL_ (some 35) rfl rfl Try.func9 (by kernel_rfl) rfl #[.slice Ao18 y264.length co18] rfl (by (try simp only [List.map_toArray, List.map_cons, List.map_nil]); first | done | rfl | (simp only [List.length_drop, List.length_take]; rfl) | (simp only [List.length_drop, List.length_take]; rw [Nat.min_eq_left (by first | assumption | omega)]; rfl)) ?_; (with_reducible refine (utf_Decode.calls k _ _ y264 t268 t271 t272 t273 _ ?side1 ?side2 A11.out).mono ?_); (case side1 => repeat (first | exact (by repeat (first | (with_reducible exact HR267.out) | (with_reducible refine Kd.C_alloc ?_ _) | (with_reducible refine Kd.C_drewN ?_ _) | (with_reducible refine Kd.C_drew ?_) | exact HR267.out)) | (with_reducible refine Kd.C_alloc ?_ _) | (with_reducible refine Kd.C_drewN ?_ _) | (with_reducible refine Kd.C_drew ?_))); (case side2 => exact HC267.out); rintro e w24 ⟨v269, rfl, ho0, hb⟩; refine ⟨_, rfl, ?_⟩; have n0_ := Aside0.mk (Kd.R_below (by (with_reducible repeat (first | apply Kd.R_alloc | apply Kd.R_drewN | apply Kd.R_drew)); exact HO255.out) hb); have n1_ := Aside0.mk (Kd.R_elder' (by (with_reducible repeat (first | apply Kd.R_alloc | apply Kd.R_drewN | apply Kd.R_drew)); exact HO259.out) (Kd.R_base ho0) hb); have n2_ := Aside0.mk (Kd.R_lower (Kd.R_new' ho0 (Kd.R_lt (by (with_reducible repeat (first | apply Kd.R_alloc | apply Kd.R_drewN | apply Kd.R_drew)); exact HO259.out))) (below_size (by repeat (first | (with_reducible first | exact HB.out | apply below_alloc | apply pw_below_drewN | apply below_drew1 | refine below_set ?_ GE263.out) | exact HB.out)))); have n3_ := Aside0.mk (blk_below (g := gb263) (o := .cells #[.int .i64 t260, .int .i64 t261, .int .i64 t262] 24 (0, 0)) (by (with_reducible repeat (first | refine blk_drewN ?_ _ | refine blk_drew ?_ | refine blk_alloc ?_ _)); exact BK263.out) hb); have n4_ := Aside0.mk (Kd.C_below (by repeat (first | (with_reducible exact HR267.out) | (with_reducible refine Kd.C_alloc ?_ _) | (with_reducible refine Kd.C_drewN ?_ _) | (with_reducible refine Kd.C_drew ?_) | exact HR267.out)) hb); have n5_ := Aside0.mk (below_step (by repeat (first | (with_reducible first | exact HB.out | apply below_alloc | apply pw_below_drewN | apply below_drew1 | refine below_set ?_ GE263.out) | exact HB.out)) hb); clear HO255; clear HO259; clear BK263; clear HR267; clear HB; have HO255 := n0_; have HO259 := n1_; have HO270 := n2_; have BK263 := n3_; have HR267 := n4_; have HB := n5_; clear n0_ n1_ n2_ n3_ n4_ n5_; (try clear hb); (try clear hb2); (try clear hk); (try clear hi); (try clear ho0)) | ((with_reducible refine gate_dst (N := 10) rfl ?_); (try (refine gate_guard (by rfl) ?_; dsimp only)); refine box_event ?hg (N := 10) ?hd (cs := #[.int .i64 0, .int .i64 0, .int .i64 0]) (t := 24) ?hr ?_; (case hd => rfl); (case hg => rfl); (case hr => first | (go_simp; done) | (go_simp; rfl)); intro gb274 hg w25 hbox hb; have n0_ := Aside0.mk (Kd.R_below (by (with_reducible repeat (first | apply Kd.R_alloc | apply Kd.R_drewN | apply Kd.R_drew)); exact HO255.out) hb); have n1_ := Aside0.mk (Kd.R_below (by (with_reducible repeat (first | apply Kd.R_alloc | apply Kd.R_drewN | apply Kd.R_drew)); exact HO259.out) hb); have n2_ := Aside0.mk (Kd.R_below (by (with_reducible repeat (first | apply Kd.R_alloc | apply Kd.R_drewN | apply Kd.R_drew)); exact HO270.out) hb); have n3_ := Aside0.mk (blk_below (g := gb263) (o := .cells #[.int .i64 t260, .int .i64 t261, .int .i64 t262] 24 (0, 0)) (by (with_reducible repeat (first | refine blk_drewN ?_ _ | refine blk_drew ?_ | refine blk_alloc ?_ _)); exact BK263.out) hb); have n4_ := Aside0.mk (Kd.C_below (by repeat (first | (with_reducible exact HR267.out) | (with_reducible refine Kd.C_alloc ?_ _) | (with_reducible refine Kd.C_drewN ?_ _) | (with_reducible refine Kd.C_drew ?_) | exact HR267.out)) hb); have n5_ := Aside0.mk (below_step (by repeat (first | (with_reducible first | exact HB.out | apply below_alloc | apply pw_below_drewN | apply below_drew1 | refine below_set ?_ GE263.out) | exact HB.out)) hb); have n6_ := Aside0.mk (hbox); have n7_ := Aside0.mk ((by rw [hg]; exact (below_size (by repeat (first | (with_reducible first | exact HB.out | apply below_alloc | apply pw_below_drewN | apply below_drew1 | refine below_set ?_ GE263.out) | exact HB.out))) : w.heap.size ≤ gb274)); have n8_ := Aside0.mk ((by rw [hg]; exact (below_size (by repeat (first | (with_reducible first | exact HB.out | apply below_alloc | apply pw_below_drewN | apply below_drew1 | refine below_set ?_ GE263.out) | exact HB.out))) : w.heap.size ≤ gb274)); have n9_ := Aside0.mk ((by rw [hg]; exact Nat.ne_of_lt (blk_lt (g := gb263) (o := .cells #[.int .i64 t260, .int .i64 t261, .int .i64 t262] 24 (0, 0)) (by (with_reducible repeat (first | refine blk_drewN ?_ _ | refine blk_drew ?_ | refine blk_alloc ?_ _)); exact BK263.out)) : gb263 ≠ gb274)); have n10_ := Aside0.mk ((by rw [hg]; exact Nat.ne_of_gt (blk_lt (g := gb263) (o := .cells #[.int .i64 t260, .int .i64 t261, .int .i64 t262] 24 (0, 0)) (by (with_reducible repeat (first | refine blk_drewN ?_ _ | refine blk_drew ?_ | refine blk_alloc ?_ _)); exact BK263.out)) : gb274 ≠ gb263)); clear HO255; clear HO259; clear HO270; clear BK263; clear HR267; clear HB; have HO255 := n0_; have HO259 := n1_; have HO270 := n2_; have BK263 := n3_; have HR267 := n4_; have HB := n5_; have BK274 := n6_; have GW274 := n7_; have GE274 := n8_; have NB263_274 := n9_; have NB274_263 := n10_; clear n0_ n1_ n2_ n3_ n4_ n5_ n6_ n7_ n8_ n9_ n10_; clear hb hbox hg; have hnb26 := NB274_263.out; have hnc26 := NB263_274.out; have hcz27_0 : w25.cell? ⟨gb274, 0, none⟩ = some (.int .i64 0) := (blk_cell BK274.out 0).trans rfl; have hcz27_1 : w25.cell? ⟨gb274, 1, none⟩ = some (.int .i64 0) := (blk_cell BK274.out 1).trans rfl; have hcz27_2 : w25.cell? ⟨gb274, 2, none⟩ = some (.int .i64 0) := (blk_cell BK274.out 2).trans rfl; have hfz27_0 := blk_frozen BK274.out 0; have hfz27_1 := blk_frozen BK274.out 1; have hfz27_2 := blk_frozen BK274.out 2) | ((with_reducible refine gate_store (t := 24) (p := 10) rfl ?_); refine store_event (t := 24) (p := 10) (v := ?vo_w28) (w1 := (((w25.setCell ⟨gb274, 0, none⟩ (.int .i64 t271)).setCell ⟨gb274, 1, none⟩ (.int .i64 t272)).setCell ⟨gb274, 2, none⟩ (.int .i64 t273))) ?hg ?ho ?hn ?hr ?_; (case ho => rfl); (case hg => rfl); (case hn => rfl); (case hr => first | (go_simp; done) | (go_simp; rfl)); intro w28 hw; have n0_ : Aside0 (Kd.R (Kd.int .u8) 5 w28 w.heap.size (fun _ => True) (.slice Ao18 y253.length co18) y253) := ⟨(by rw [hw]; exact (by (with_reducible repeat (first | apply Kd.R_alloc | apply Kd.R_drewN | apply Kd.R_drew)); exact Kd.R_mono (Kd.R_far (p := ⟨gb274, 2, none⟩) (Kd.R_far (p := ⟨gb274, 1, none⟩) (Kd.R_far (p := ⟨gb274, 0, none⟩) (Kd.R_types HO255.out BK274.out (by decide)) (fun _ hk => hk.2) (.int .i64 t271)) (fun _ hk => hk.2) (.int .i64 t272)) (fun _ hk => hk.2) (.int .i64 t273)) (fun _ hk => trivial)))⟩; have n1_ : Aside0 (Kd.R (Kd.int .i32) 21 w28 w.heap.size (fun k_ => some k_ ≠ (v269 : Value).ownBlock) v258 t257) := ⟨(by rw [hw]; exact (by (with_reducible repeat (first | apply Kd.R_alloc | apply Kd.R_drewN | apply Kd.R_drew)); exact Kd.R_mono (Kd.R_far (p := ⟨gb274, 2, none⟩) (Kd.R_far (p := ⟨gb274, 1, none⟩) (Kd.R_far (p := ⟨gb274, 0, none⟩) (Kd.R_types HO259.out BK274.out (by decide)) (fun _ hk => hk.2) (.int .i64 t271)) (fun _ hk => hk.2) (.int .i64 t272)) (fun _ hk => hk.2) (.int .i64 t273)) (fun _ hk => hk.1.2)))⟩; have n2_ : Aside0 (Kd.R (Kd.int .i32) 21 w28 w.heap.size (fun k_ => some k_ ≠ (v258 : Value).ownBlock) v269 t268) := ⟨(by rw [hw]; exact (by (with_reducible repeat (first | apply Kd.R_alloc | apply Kd.R_drewN | apply Kd.R_drew)); exact Kd.R_mono (Kd.R_far (p := ⟨gb274, 2, none⟩) (Kd.R_far (p := ⟨gb274, 1, none⟩) (Kd.R_far (p := ⟨gb274, 0, none⟩) (Kd.R_types HO270.out BK274.out (by decide)) (fun _ hk => hk.2) (.int .i64 t271)) (fun _ hk => hk.2) (.int .i64 t272)) (fun _ hk => hk.2) (.int .i64 t273)) (fun _ hk => hk.1.2)))⟩; have n3_ : Aside0 (w28.heap[gb263]? = some (.cells #[.int .i64 t260, .int .i64 t261, .int .i64 t262] 24 (0, 0))) := ⟨(by rw [hw]; exact (by (with_reducible repeat (first | refine blk_drewN ?_ _ | refine blk_drew ?_ | refine blk_alloc ?_ _)); refine blk_far ?_ NB263_274.out _; (with_reducible repeat (first | refine blk_drewN ?_ _ | refine blk_drew ?_ | refine blk_alloc ?_ _)); refine blk_far ?_ NB263_274.out _; (with_reducible repeat (first | refine blk_drewN ?_ _ | refine blk_drew ?_ | refine blk_alloc ?_ _)); refine blk_far ?_ NB263_274.out _; (with_reducible repeat (first | refine blk_drewN ?_ _ | refine blk_drew ?_ | refine blk_alloc ?_ _)); exact BK263.out))⟩; have n4_ : Aside0 (w28.heap[gb274]? = some (.cells #[.int .i64 t271, .int .i64 t272, .int .i64 t273] 24 (0, 0))) := ⟨(by rw [hw]; exact (by (with_reducible repeat (first | refine blk_drewN ?_ _ | refine blk_drew ?_ | refine blk_alloc ?_ _)); refine blk_put (cs := #[.int .i64 t271, .int .i64 t272, .int .i64 0]) ?_ 2 _ rfl; (with_reducible repeat (first | refine blk_drewN ?_ _ | refine blk_drew ?_ | refine blk_alloc ?_ _)); refine blk_put (cs := #[.int .i64 t271, .int .i64 0, .int .i64 0]) ?_ 1 _ rfl; (with_reducible repeat (first | refine blk_drewN ?_ _ | refine blk_drew ?_ | refine blk_alloc ?_ _)); refine blk_put (cs := #[.int .i64 0, .int .i64 0, .int .i64 0]) ?_ 0 _ rfl; (with_reducible repeat (first | refine blk_drewN ?_ _ | refine blk_drew ?_ | refine blk_alloc ?_ _)); exact BK274.out))⟩; have n5_ : Aside0 (Below w.heap.size w w28) := ⟨(by rw [hw]; exact (by repeat (first | (with_reducible first | exact HB.out | apply below_alloc | apply pw_below_drewN | apply below_drew1 | refine below_set ?_ GE263.out | refine below_set ?_ GE274.out) | exact HB.out)))⟩; clear hw; clear HO255; clear HO259; clear HO270; clear BK263; clear BK274; clear HB; have HO255 := n0_; have HO259 := n1_; have HO270 := n2_; have BK263 := n3_; have BK274 := n4_; have HB := n5_; clear n0_ n1_ n2_ n3_ n4_ n5_; have q29 : (t256 : Int) ≤ ((y253.length : Int) : Int) := of_decide_eq_true (by first | (with_reducible assumption) | assumption); obtain ⟨i029, hi029, _, hsz29, _⟩ := info_parts info5; have hroom29 : y253.length ≤ co18 := (Kd.R_reads' HO255.out).2.1; have hC29 : Kd.C (Kd.int .u8) _ Ao18 y253.length y253 := (Kd.R_reads' HO255.out).2.2; have q029 : (0 : Int) ≤ (t256 : Int) := of_decide_eq_true (by first | (with_reducible assumption) | assumption); have hcut29 := cut_from (P := Try.prog) 27 5 .i64 Try.underlying27 hi029 1 hsz29 Ao18 y253.length co18 t256 q029 q29; have hr29 := Kd.C_drop (m := (t256 : Int).toNat) (c := co18) hC29 (by omega) hroom29; obtain ⟨A29, hA29⟩ : ∃ A1, A1 = (if co18 = (t256 : Int).toNat then Ao18 else (Ao18 : Option Addr).map (·.add ((t256 : Int).toNat * 1))) := ⟨_, rfl⟩; obtain ⟨c29, hc29⟩ : ∃ c1, c1 = co18 - (t256 : Int).toNat := ⟨_, rfl⟩; have hy29 : y275.length = y253.length - (t256 : Int).toNat := (by rw [Ny275.out, List.length_drop] <;> omega); rw [show (y253).drop (t256 : Int).toNat = y275 from Ny275.out.symm] at hr29; replace hr29 : Kd.C (Kd.int .u8) _ A29 y275.length y275 := (by rw [hA29]; exact hr29); rw [← hy29, ← hA29, ← hc29] at hcut29; have HR278 := Aside0.mk hr29; have HC278 := Aside0.mk (show y275.length ≤ c29 from by rw [hy29, hc29]; exact Nat.sub_le_sub_right hroom29 _); clear hr29 hC29 hroom29 hi029 hsz29 hc29; have KY29 := Aside0.mk hy29; have KA29 := Aside0.mk hA29; clear hy29 hA29; have KL29 := Aside0.mk (show (t256 : Int).toNat ≤ y253.length from by omega); replace q29 := eq_true q29))
            go_loopg [9, 42] k (fun kq v9 v42 w' => ∃ (x9_1 : List Int) (x42_1 : Int) (x275000_1 : Int) (x275001_1 : Int) (x275002_1 : Int), v42 = .int .i64 x42_1 ∧ Aside0 (linguistlaw1_UtfCuts.l0 kq t257 x9_1 y253 y275 (y275.length : Int) x42_1 t260 t261 t262 x275000_1 x275001_1 x275002_1 = some r) ∧ Aside0 (kq ≤ k) ∧ Aside0 (Kd.R (Kd.int .i32) 21 w' w.heap.size (fun k_ => some k_ ≠ (v9 : Value).ownBlock) v258 t257) ∧ Aside0 (Kd.R (Kd.int .i32) 21 w' w.heap.size (fun k_ => some k_ ≠ (v258 : Value).ownBlock) v9 x9_1) ∧ Aside0 (Kd.R (Kd.int .u8) 5 w' w.heap.size (fun _ => True) (.slice Ao18 y253.length co18) y253) ∧ Aside0 (w'.heap[gb263]? = some (.cells #[.int .i64 t260, .int .i64 t261, .int .i64 t262] 24 (0, 0))) ∧ Aside0 (w'.heap[gb274]? = some (.cells #[.int .i64 x275000_1, .int .i64 x275001_1, .int .i64 x275002_1] 24 (0, 0))) ∧ Aside0 (Below w.heap.size w w'))
            case atStart => exact ⟨(t268), (0), (t271), (t272), (t273), (by first | rfl | (simp; done) | (simp [*]; done)), H', ⟨Nat.le_refl _⟩, ⟨by (with_reducible repeat (first | apply Kd.R_alloc | apply Kd.R_drewN | apply Kd.R_drew)); exact HO259.out⟩, ⟨by (with_reducible repeat (first | apply Kd.R_alloc | apply Kd.R_drewN | apply Kd.R_drew)); exact HO270.out⟩, ⟨by (with_reducible repeat (first | apply Kd.R_alloc | apply Kd.R_drewN | apply Kd.R_drew)); exact HO255.out⟩, ⟨by (with_reducible repeat (first | refine blk_drewN ?_ _ | refine blk_drew ?_ | refine blk_alloc ?_ _)); exact BK263.out⟩, ⟨by (with_reducible repeat (first | refine blk_drewN ?_ _ | refine blk_drew ?_ | refine blk_alloc ?_ _)); exact BK274.out⟩, ⟨by repeat (first | (with_reducible first | exact HB.out | apply below_alloc | apply pw_below_drewN | apply below_drew1 | refine below_set ?_ GE263.out | refine below_set ?_ GE274.out) | exact HB.out)⟩⟩
            case round =>
              clear H'
              try clear c1
              try clear c2
              try clear p2
              try clear q2
              try clear c4
              try clear c4b0
              try clear c4b1
              try clear c5
              try clear c5b0
              try clear c5b1
              try clear c6
              try clear c9
              try clear c9b0
              try clear c9b1
              try clear c10
              try clear c10b0
              try clear c10b1
              try clear c12
              try clear c12b0
              try clear c13
              try clear c13b0
              try clear c18
              try clear q23
              try clear c26
              try clear c29
              try clear q29
              try clear hcz21_0
              try clear hcz21_1
              try clear hcz21_2
              try clear hcz27_0
              try clear hcz27_1
              try clear hcz27_2
              try clear hfz21_0
              try clear hfz21_1
              try clear hfz21_2
              try clear hfz27_0
              try clear hfz27_1
              try clear hfz27_2
              try clear q029
              try clear q23
              try clear q29
              obtain ⟨x9_1, x42_1, x275000_1, x275001_1, x275002_1, rfl, HA, HK1, HO_7, HO_9, HO_21, BK263, BK274, HB⟩ := hrel
              cases gk with
              | zero => exact absurd HA.out (by simp [linguistlaw1_UtfCuts.l0])
              | succ k1 =>
                have H := HA.out
                clear HA
                simp only [linguistlaw1_UtfCuts.l0] at H
                by_cases c30 : x42_1 < (y275.length : Int)
                · rw [if_pos c30] at H
                  have c30b0 : decide (x42_1 < (y275.length : Int)) = true := decide_eq_true c30
                  clear c30
                  by_cases c31 : 0 ≤ x42_1
                  · rw [if_pos c31] at H
                    have c31b0 : decide (0 ≤ x42_1) = true := decide_eq_true c31
                    clear c31
                    by_cases c32 : x42_1 < (y275.length : Int)
                    · rw [if_pos c32] at H
                      have c32b0 : decide (x42_1 < (y275.length : Int)) = true := decide_eq_true c32
                      clear c32
                      replace H := Option.bind_eq_some_iff.mp H
                      obtain ⟨⟨t282, t283, t284, t285⟩, A330, H⟩ := H
                      replace H : (if (t285.length : Int) > 2 then (none) else ((utf_Decoder_Held.f x275000_1 x275001_1 x275002_1).bind fun t289 => (if (t289 == false) = true then (if (t285.length : Int) > 1 then (none) else (if x9_1.length + t285.length < 35184372088832 then (linguistlaw1_UtfCuts.l0 k1 t257 (x9_1 ++ t285) y253 y275 (y275.length : Int) (wrap64 (x42_1 + 1)) t260 t261 t262 t282 t283 t284) else (none))) else (if x9_1.length + t285.length < 35184372088832 then (linguistlaw1_UtfCuts.l0 k1 t257 (x9_1 ++ t285) y253 y275 (y275.length : Int) (wrap64 (x42_1 + 1)) t260 t261 t262 t282 t283 t284) else (none))))) = some r := H
                      have A33 := Aside0.mk A330
                      clear A330
                      by_cases c34 : (t285.length : Int) > 2
                      · rw [if_pos c34] at H
                        exact absurd H (by simp)
                      · rw [if_neg c34] at H
                        have c34b0 : decide (2 < (t285.length : Int)) = false := decide_eq_false c34
                        have c34b1 : decide (2 < t285.length) = false := decide_eq_false (by omega)
                        clear c34
                        replace H := Option.bind_eq_some_iff.mp H
                        obtain ⟨t289, A350, H⟩ := H
                        replace H : (if (t289 == false) = true then (if (t285.length : Int) > 1 then (none) else (if x9_1.length + t285.length < 35184372088832 then (linguistlaw1_UtfCuts.l0 k1 t257 (x9_1 ++ t285) y253 y275 (y275.length : Int) (wrap64 (x42_1 + 1)) t260 t261 t262 t282 t283 t284) else (none))) else (if x9_1.length + t285.length < 35184372088832 then (linguistlaw1_UtfCuts.l0 k1 t257 (x9_1 ++ t285) y253 y275 (y275.length : Int) (wrap64 (x42_1 + 1)) t260 t261 t262 t282 t283 t284) else (none))) = some r := H
                        have A35 := Aside0.mk A350
                        clear A350
                        by_cases c36 : (t289 == false) = true
                        · rw [if_pos c36] at H
                          have c36b0 : (t289 == false) = true := c36
                          (try (have c36b1 : decide (t289 = false) = true := by simpa using c36))
                          (try (have c36b2 : (t289 == false) = true := by simpa using c36))
                          clear c36
                          by_cases c37 : (t285.length : Int) > 1
                          · rw [if_pos c37] at H
                            exact absurd H (by simp)
                          · rw [if_neg c37] at H
                            have c37b0 : decide (1 < (t285.length : Int)) = false := decide_eq_false c37
                            have c37b1 : decide (1 < t285.length) = false := decide_eq_false (by omega)
                            clear c37
                            by_cases c38 : x9_1.length + t285.length < 35184372088832
                            · rw [if_pos c38] at H
                              have LMc38 := Aside0.mk c38
                              clear c38
                              obtain ⟨y290, hy290⟩ : ∃ y_ : List Int, y_ = (x9_1 ++ t285) := ⟨_, rfl⟩
                              replace H : (linguistlaw1_UtfCuts.l0 k1 t257 y290 y253 y275 (y275.length : Int) (wrap64 (x42_1 + 1)) t260 t261 t262 t282 t283 t284) = some r := by first | (rw [hy290]; with_reducible exact H) | (have H2_ := (Option.bind_some _ _).symm.trans H; rw [hy290]; with_reducible exact H2_) | (have H2_ := (Option.bind_some _ _).symm.trans H; with_reducible exact H2_) | with_reducible exact H | (rw [hy290]; exact H) | exact H
                              have Ny290 := Aside0.mk hy290
                              clear hy290
                              have H' := Aside0.mk H
                              clear H
                              have p281 : 0 ≤ (x42_1 : Int) := of_decide_eq_true (by first | (with_reducible assumption) | assumption)
                              have q281 : x42_1 < (y275.length : Int) := of_decide_eq_true (by first | (with_reducible assumption) | assumption)
                              obtain ⟨ad281, e281, hx281_0⟩ := Kd.at_int (show Kd.C (Kd.int .u8) wr A29 y275.length y275 from by rw [Ny275.out, KA29.out]; exact Kd.C_drop (m := (t256 : Int).toNat) ((Kd.R_reads' (w := wr) (by (with_reducible repeat (first | apply Kd.R_alloc | apply Kd.R_drewN | apply Kd.R_drew)); exact HO_21.out)).2.2) KL29.out ((Kd.R_reads' (w := wr) (by (with_reducible repeat (first | apply Kd.R_alloc | apply Kd.R_drewN | apply Kd.R_drew)); exact HO_21.out)).2.1)) x42_1 p281 q281
                              cases e281
                              replace p281 := eq_true p281
                              replace q281 := eq_true q281
                              have hnb39 := NB274_263.out
                              have hnc39 := NB263_274.out
                              have hcz40_0 : wr.cell? ⟨gb274, 0, none⟩ = some (.int .i64 x275000_1) := (blk_cell BK274.out 0).trans rfl
                              have hcz40_1 : wr.cell? ⟨gb274, 1, none⟩ = some (.int .i64 x275001_1) := (blk_cell BK274.out 1).trans rfl
                              have hcz40_2 : wr.cell? ⟨gb274, 2, none⟩ = some (.int .i64 x275002_1) := (blk_cell BK274.out 2).trans rfl
                              have hfz40_0 := blk_frozen BK274.out 0
                              have hfz40_1 := blk_frozen BK274.out 1
                              have hfz40_2 := blk_frozen BK274.out 2
                              try go_wp2_with (first | ((with_reducible refine gate_callee (f := 19) rfl ?_); refine goesL_ (some 49) rfl rfl Try.func19 (by kernel_rfl) rfl #[.agg #[.int .i64 x275000_1, .int .i64 x275001_1, .int .i64 x275002_1], .int .u8 (rd y275 x42_1)] rfl (by (try simp only [List.map_toArray, List.map_cons, List.map_nil]); first | done | rfl | (simp only [List.length_drop, List.length_take]; rfl) | (simp only [List.length_drop, List.length_take]; rw [Nat.min_eq_left (by first | assumption | omega)]; rfl)) ?_; (with_reducible refine (utf_Decoder_Push.calls k1 x275000_1 x275001_1 x275002_1 (rd y275 x42_1) t282 t283 t284 t285 _ A33.out).mono ?_); rintro e w41 ⟨v286, rfl, ho0, hb⟩; refine ⟨_, rfl, ?_⟩; have n0_ := Aside0.mk (Kd.R_elder' (by (with_reducible repeat (first | apply Kd.R_alloc | apply Kd.R_drewN | apply Kd.R_drew)); exact HO_7.out) (Kd.R_base ho0) hb); have n1_ := Aside0.mk (Kd.R_elder' (by (with_reducible repeat (first | apply Kd.R_alloc | apply Kd.R_drewN | apply Kd.R_drew)); exact HO_9.out) (Kd.R_base ho0) hb); have n2_ := Aside0.mk (Kd.R_below (by (with_reducible repeat (first | apply Kd.R_alloc | apply Kd.R_drewN | apply Kd.R_drew)); exact HO_21.out) hb); have n3_ := Aside0.mk (Kd.R_lower (Kd.R_new' (Kd.R_new' ho0 (Kd.R_lt (by (with_reducible repeat (first | apply Kd.R_alloc | apply Kd.R_drewN | apply Kd.R_drew)); exact HO_7.out))) (Kd.R_lt (by (with_reducible repeat (first | apply Kd.R_alloc | apply Kd.R_drewN | apply Kd.R_drew)); exact HO_9.out))) (below_size (by repeat (first | (with_reducible first | exact HB.out | apply below_alloc | apply pw_below_drewN | apply below_drew1 | refine below_set ?_ GE263.out | refine below_set ?_ GE274.out) | exact HB.out)))); have n4_ := Aside0.mk (blk_below (g := gb263) (o := .cells #[.int .i64 t260, .int .i64 t261, .int .i64 t262] 24 (0, 0)) (by (with_reducible repeat (first | refine blk_drewN ?_ _ | refine blk_drew ?_ | refine blk_alloc ?_ _)); exact BK263.out) hb); have n5_ := Aside0.mk (blk_below (g := gb274) (o := .cells #[.int .i64 x275000_1, .int .i64 x275001_1, .int .i64 x275002_1] 24 (0, 0)) (by (with_reducible repeat (first | refine blk_drewN ?_ _ | refine blk_drew ?_ | refine blk_alloc ?_ _)); exact BK274.out) hb); have n6_ := Aside0.mk (below_step (by repeat (first | (with_reducible first | exact HB.out | apply below_alloc | apply pw_below_drewN | apply below_drew1 | refine below_set ?_ GE263.out | refine below_set ?_ GE274.out) | exact HB.out)) hb); clear HO_7; clear HO_9; clear HO_21; clear BK263; clear BK274; clear HB; have HO_7 := n0_; have HO_9 := n1_; have HO_21 := n2_; have HO287 := n3_; have BK263 := n4_; have BK274 := n5_; have HB := n6_; clear n0_ n1_ n2_ n3_ n4_ n5_ n6_; (try clear hb); (try clear hb2); (try clear hk); (try clear hi); (try clear ho0)) | ((with_reducible refine gate_dst (N := 13) rfl ?_); (try (refine gate_guard (by rfl) ?_; dsimp only)); refine box_event ?hg (N := 13) ?hd (cs := #[.int .i64 0, .int .i64 0, .int .i64 0]) (t := 24) ?hr ?_; (case hd => rfl); (case hg => rfl); (case hr => first | (go_simp; done) | (go_simp; rfl)); intro gb288 hg w42 hbox hb; have n0_ := Aside0.mk (Kd.R_below (by (with_reducible repeat (first | apply Kd.R_alloc | apply Kd.R_drewN | apply Kd.R_drew)); exact HO_7.out) hb); have n1_ := Aside0.mk (Kd.R_below (by (with_reducible repeat (first | apply Kd.R_alloc | apply Kd.R_drewN | apply Kd.R_drew)); exact HO_9.out) hb); have n2_ := Aside0.mk (Kd.R_below (by (with_reducible repeat (first | apply Kd.R_alloc | apply Kd.R_drewN | apply Kd.R_drew)); exact HO_21.out) hb); have n3_ := Aside0.mk (Kd.R_below (by (with_reducible repeat (first | apply Kd.R_alloc | apply Kd.R_drewN | apply Kd.R_drew)); exact HO287.out) hb); have n4_ := Aside0.mk (blk_below (g := gb263) (o := .cells #[.int .i64 t260, .int .i64 t261, .int .i64 t262] 24 (0, 0)) (by (with_reducible repeat (first | refine blk_drewN ?_ _ | refine blk_drew ?_ | refine blk_alloc ?_ _)); exact BK263.out) hb); have n5_ := Aside0.mk (blk_below (g := gb274) (o := .cells #[.int .i64 x275000_1, .int .i64 x275001_1, .int .i64 x275002_1] 24 (0, 0)) (by (with_reducible repeat (first | refine blk_drewN ?_ _ | refine blk_drew ?_ | refine blk_alloc ?_ _)); exact BK274.out) hb); have n6_ := Aside0.mk (below_step (by repeat (first | (with_reducible first | exact HB.out | apply below_alloc | apply pw_below_drewN | apply below_drew1 | refine below_set ?_ GE263.out | refine below_set ?_ GE274.out) | exact HB.out)) hb); have n7_ := Aside0.mk (hbox); have n8_ := Aside0.mk ((by rw [hg]; exact (below_size (by repeat (first | (with_reducible first | exact HB.out | apply below_alloc | apply pw_below_drewN | apply below_drew1 | refine below_set ?_ GE263.out | refine below_set ?_ GE274.out) | exact HB.out))) : w.heap.size ≤ gb288)); have n9_ := Aside0.mk ((by rw [hg]; exact (below_size (by repeat (first | (with_reducible first | exact HB.out | apply below_alloc | apply pw_below_drewN | apply below_drew1 | refine below_set ?_ GE263.out | refine below_set ?_ GE274.out) | exact HB.out))) : w.heap.size ≤ gb288)); have n10_ := Aside0.mk ((by rw [hg]; exact Nat.ne_of_lt (blk_lt (g := gb263) (o := .cells #[.int .i64 t260, .int .i64 t261, .int .i64 t262] 24 (0, 0)) (by (with_reducible repeat (first | refine blk_drewN ?_ _ | refine blk_drew ?_ | refine blk_alloc ?_ _)); exact BK263.out)) : gb263 ≠ gb288)); have n11_ := Aside0.mk ((by rw [hg]; exact Nat.ne_of_gt (blk_lt (g := gb263) (o := .cells #[.int .i64 t260, .int .i64 t261, .int .i64 t262] 24 (0, 0)) (by (with_reducible repeat (first | refine blk_drewN ?_ _ | refine blk_drew ?_ | refine blk_alloc ?_ _)); exact BK263.out)) : gb288 ≠ gb263)); have n12_ := Aside0.mk ((by rw [hg]; exact Nat.ne_of_lt (blk_lt (g := gb274) (o := .cells #[.int .i64 x275000_1, .int .i64 x275001_1, .int .i64 x275002_1] 24 (0, 0)) (by (with_reducible repeat (first | refine blk_drewN ?_ _ | refine blk_drew ?_ | refine blk_alloc ?_ _)); exact BK274.out)) : gb274 ≠ gb288)); have n13_ := Aside0.mk ((by rw [hg]; exact Nat.ne_of_gt (blk_lt (g := gb274) (o := .cells #[.int .i64 x275000_1, .int .i64 x275001_1, .int .i64 x275002_1] 24 (0, 0)) (by (with_reducible repeat (first | refine blk_drewN ?_ _ | refine blk_drew ?_ | refine blk_alloc ?_ _)); exact BK274.out)) : gb288 ≠ gb274)); clear HO_7; clear HO_9; clear HO_21; clear HO287; clear BK263; clear BK274; clear HB; have HO_7 := n0_; have HO_9 := n1_; have HO_21 := n2_; have HO287 := n3_; have BK263 := n4_; have BK274 := n5_; have HB := n6_; have BK288 := n7_; have GW288 := n8_; have GE288 := n9_; have NB263_288 := n10_; have NB288_263 := n11_; have NB274_288 := n12_; have NB288_274 := n13_; clear n0_ n1_ n2_ n3_ n4_ n5_ n6_ n7_ n8_ n9_ n10_ n11_ n12_ n13_; clear hb hbox hg; have hnb43 := NB288_263.out; have hnc43 := NB263_288.out; have hnb44 := NB288_274.out; have hnc44 := NB274_288.out; have hcz45_0 : w42.cell? ⟨gb288, 0, none⟩ = some (.int .i64 0) := (blk_cell BK288.out 0).trans rfl; have hcz45_1 : w42.cell? ⟨gb288, 1, none⟩ = some (.int .i64 0) := (blk_cell BK288.out 1).trans rfl; have hcz45_2 : w42.cell? ⟨gb288, 2, none⟩ = some (.int .i64 0) := (blk_cell BK288.out 2).trans rfl; have hfz45_0 := blk_frozen BK288.out 0; have hfz45_1 := blk_frozen BK288.out 1; have hfz45_2 := blk_frozen BK288.out 2; obtain ⟨Ao46, co46, eo46⟩ := Kd.R_slice HO287.out; subst eo46; have hcz47_0 : w42.cell? ⟨gb274, 0, none⟩ = some (.int .i64 x275000_1) := (blk_cell BK274.out 0).trans rfl; have hcz47_1 : w42.cell? ⟨gb274, 1, none⟩ = some (.int .i64 x275001_1) := (blk_cell BK274.out 1).trans rfl; have hcz47_2 : w42.cell? ⟨gb274, 2, none⟩ = some (.int .i64 x275002_1) := (blk_cell BK274.out 2).trans rfl; have hfz47_0 := blk_frozen BK274.out 0; have hfz47_1 := blk_frozen BK274.out 1; have hfz47_2 := blk_frozen BK274.out 2) | (go_at_call 11; (with_reducible refine (utf_Decoder_Held.calls x275000_1 x275001_1 x275002_1 t289 _ A35.out).mono ?_); rintro e w48 ⟨rfl, hb⟩; have n0_ := Aside0.mk (Kd.R_below (by (with_reducible repeat (first | apply Kd.R_alloc | apply Kd.R_drewN | apply Kd.R_drew)); exact (Kd.R_mono (Kd.R_far (p := ⟨gb288, 2, none⟩) (Kd.R_far (p := ⟨gb288, 1, none⟩) (Kd.R_far (p := ⟨gb288, 0, none⟩) (Kd.R_types HO_7.out BK288.out (by decide)) (fun _ hk => hk.2) (.int .i64 t282)) (fun _ hk => hk.2) (.int .i64 t283)) (fun _ hk => hk.2) (.int .i64 t284)) (fun _ h_ => h_.1))) hb); have n1_ := Aside0.mk (Kd.R_below (by (with_reducible repeat (first | apply Kd.R_alloc | apply Kd.R_drewN | apply Kd.R_drew)); exact (Kd.R_mono (Kd.R_far (p := ⟨gb288, 2, none⟩) (Kd.R_far (p := ⟨gb288, 1, none⟩) (Kd.R_far (p := ⟨gb288, 0, none⟩) (Kd.R_types HO_9.out BK288.out (by decide)) (fun _ hk => hk.2) (.int .i64 t282)) (fun _ hk => hk.2) (.int .i64 t283)) (fun _ hk => hk.2) (.int .i64 t284)) (fun _ h_ => h_.1))) hb); have n2_ := Aside0.mk (Kd.R_below (by (with_reducible repeat (first | apply Kd.R_alloc | apply Kd.R_drewN | apply Kd.R_drew)); exact (Kd.R_mono (Kd.R_far (p := ⟨gb288, 2, none⟩) (Kd.R_far (p := ⟨gb288, 1, none⟩) (Kd.R_far (p := ⟨gb288, 0, none⟩) (Kd.R_types HO_21.out BK288.out (by decide)) (fun _ hk => hk.2) (.int .i64 t282)) (fun _ hk => hk.2) (.int .i64 t283)) (fun _ hk => hk.2) (.int .i64 t284)) (fun _ h_ => h_.1))) hb); have n3_ := Aside0.mk (Kd.R_below (by (with_reducible repeat (first | apply Kd.R_alloc | apply Kd.R_drewN | apply Kd.R_drew)); exact (Kd.R_mono (Kd.R_far (p := ⟨gb288, 2, none⟩) (Kd.R_far (p := ⟨gb288, 1, none⟩) (Kd.R_far (p := ⟨gb288, 0, none⟩) (Kd.R_types HO287.out BK288.out (by decide)) (fun _ hk => hk.2) (.int .i64 t282)) (fun _ hk => hk.2) (.int .i64 t283)) (fun _ hk => hk.2) (.int .i64 t284)) (fun _ h_ => h_.1))) hb); have n4_ := Aside0.mk (blk_below (g := gb263) (o := .cells #[.int .i64 t260, .int .i64 t261, .int .i64 t262] 24 (0, 0)) (by (with_reducible repeat (first | refine blk_drewN ?_ _ | refine blk_drew ?_ | refine blk_alloc ?_ _)); refine blk_far ?_ NB263_288.out _; (with_reducible repeat (first | refine blk_drewN ?_ _ | refine blk_drew ?_ | refine blk_alloc ?_ _)); refine blk_far ?_ NB263_288.out _; (with_reducible repeat (first | refine blk_drewN ?_ _ | refine blk_drew ?_ | refine blk_alloc ?_ _)); refine blk_far ?_ NB263_288.out _; (with_reducible repeat (first | refine blk_drewN ?_ _ | refine blk_drew ?_ | refine blk_alloc ?_ _)); exact BK263.out) hb); have n5_ := Aside0.mk (blk_below (g := gb274) (o := .cells #[.int .i64 x275000_1, .int .i64 x275001_1, .int .i64 x275002_1] 24 (0, 0)) (by (with_reducible repeat (first | refine blk_drewN ?_ _ | refine blk_drew ?_ | refine blk_alloc ?_ _)); refine blk_far ?_ NB274_288.out _; (with_reducible repeat (first | refine blk_drewN ?_ _ | refine blk_drew ?_ | refine blk_alloc ?_ _)); refine blk_far ?_ NB274_288.out _; (with_reducible repeat (first | refine blk_drewN ?_ _ | refine blk_drew ?_ | refine blk_alloc ?_ _)); refine blk_far ?_ NB274_288.out _; (with_reducible repeat (first | refine blk_drewN ?_ _ | refine blk_drew ?_ | refine blk_alloc ?_ _)); exact BK274.out) hb); have n6_ := Aside0.mk (blk_below (g := gb288) (o := .cells #[.int .i64 t282, .int .i64 t283, .int .i64 t284] 24 (0, 0)) (by (with_reducible repeat (first | refine blk_drewN ?_ _ | refine blk_drew ?_ | refine blk_alloc ?_ _)); refine blk_put (cs := #[.int .i64 t282, .int .i64 t283, .int .i64 0]) ?_ 2 _ rfl; (with_reducible repeat (first | refine blk_drewN ?_ _ | refine blk_drew ?_ | refine blk_alloc ?_ _)); refine blk_put (cs := #[.int .i64 t282, .int .i64 0, .int .i64 0]) ?_ 1 _ rfl; (with_reducible repeat (first | refine blk_drewN ?_ _ | refine blk_drew ?_ | refine blk_alloc ?_ _)); refine blk_put (cs := #[.int .i64 0, .int .i64 0, .int .i64 0]) ?_ 0 _ rfl; (with_reducible repeat (first | refine blk_drewN ?_ _ | refine blk_drew ?_ | refine blk_alloc ?_ _)); exact BK288.out) hb); have n7_ := Aside0.mk (below_step (by repeat (first | (with_reducible first | exact HB.out | apply below_alloc | apply pw_below_drewN | apply below_drew1 | refine below_set ?_ GE263.out | refine below_set ?_ GE274.out | refine below_set ?_ GE288.out) | exact HB.out)) hb); clear HO_7; clear HO_9; clear HO_21; clear HO287; clear BK263; clear BK274; clear BK288; clear HB; have HO_7 := n0_; have HO_9 := n1_; have HO_21 := n2_; have HO287 := n3_; have BK263 := n4_; have BK274 := n5_; have BK288 := n6_; have HB := n7_; clear n0_ n1_ n2_ n3_ n4_ n5_ n6_ n7_; (try clear hb); (try clear hb2); (try clear hk); (try clear hi)))
                              have n0_ := Aside0.mk (Kd.R_drew HO_7.out)
                              have n1_ := Aside0.mk (Kd.R_drew HO_9.out)
                              have n2_ := Aside0.mk (Kd.R_drew HO_21.out)
                              have n3_ := Aside0.mk (Kd.R_drew HO287.out)
                              have n4_ := Aside0.mk (blk_drew BK263.out)
                              have n5_ := Aside0.mk (blk_drew BK274.out)
                              have n6_ := Aside0.mk (blk_drew BK288.out)
                              have n7_ := Aside0.mk (below_drew1 HB.out)
                              clear HO_7
                              clear HO_9
                              clear HO_21
                              clear HO287
                              clear BK263
                              clear BK274
                              clear BK288
                              clear HB
                              have HO_7 := n0_
                              have HO_9 := n1_
                              have HO_21 := n2_
                              have HO287 := n3_
                              have BK263 := n4_
                              have BK274 := n5_
                              have BK288 := n6_
                              have HB := n7_
                              clear n0_ n1_ n2_ n3_ n4_ n5_ n6_ n7_
                              refine start_ (n := 6) (S := fun w' => w'.cell? ⟨gb288, 0, none⟩ = some (.int .i64 t282) ∧ w'.cell? ⟨gb288, 1, none⟩ = some (.int .i64 t283) ∧ w'.cell? ⟨gb288, 2, none⟩ = some (.int .i64 t284)) (ds := []) #[false, false, false, false, false, false] (by kernel_rfl) rfl rfl ⟨(blk_cell BK288.out 0).trans rfl, (blk_cell BK288.out 1).trans rfl, (blk_cell BK288.out 2).trans rfl⟩ (fun hHeld => ?_)
                              generalize w48.drew = w49 at HO_7 HO_9 HO_21 HO287 BK263 BK274 BK288 HB hHeld ⊢
                              refine pure_ (i := 0) (N := some 65) (v := ?_) (a' := ?_) #[true, false, false, false, false, false] rfl rfl (by kernel_rfl) (fun _ _ _ h => h) (Or.inl ⟨by rfl, ?_⟩) ?_ ?_
                              rotate_left
                              · intro w'
                                go_simp
                                with_reducible rfl
                              rotate_left
                              · simp only [Act.put, List.setIfInBounds_toArray, List.set_cons_zero, List.set_cons_succ, i64_w, i32_w]
                                rfl
                              refine pure_ (i := 1) (N := some 66) (v := ?_) (a' := ?_) #[true, true, false, false, false, false] rfl rfl (by kernel_rfl) (fun _ _ _ h => h) (Or.inl ⟨by rfl, ?_⟩) ?_ ?_
                              rotate_left
                              · intro w'
                                go_simp
                                with_reducible rfl
                              rotate_left
                              · simp only [Act.put, List.setIfInBounds_toArray, List.set_cons_zero, List.set_cons_succ, i64_w, i32_w]
                                rfl
                              refine take_ (i := 3) (N := some 68) (v := ?_) (a' := ?_) #[true, true, false, true, false, false] rfl rfl (by kernel_rfl) (fun _ _ _ h => h) (Or.inl ⟨by rfl, ?_⟩) hHeld ?_ ?_
                              rotate_left
                              · rintro w' ⟨s0, s1, s2⟩
                                go_simp
                                with_reducible rfl
                              rotate_left
                              · simp only [Act.put, List.setIfInBounds_toArray, List.set_cons_zero, List.set_cons_succ, i64_w, i32_w]
                                rfl
                              refine one_ (i := 2) (N := some 67) #[true, true, true, true, false, false] rfl rfl (by kernel_rfl) (by decide) (fun K hK => ?_)
                              refine Kd.R_append_rows_step (Kd.int .i32) (w0 := w) w.heap.size (by rfl) (.tmp 65) (.tmp 66) 22 21 (.int .i32 0) 4 rfl Try.underlying22 info21 rfl (by decide) (by omega) u9 x9_1 t285 _ _ _ (fun k_ => some k_ ≠ (v258 : Value).ownBlock ∧ some k_ ≠ (.slice Ao46 t285.length co46 : Value).ownBlock) (fun _ => False) rfl rfl ?aO ?aR (fun _ _ h => h) (fun _ h => h.elim) ?aF ?aB ?aS ?aL ?_
                              (case aR => repeat (first | exact (Kd.R_reads' HO287.out).2.2 | (with_reducible refine Kd.C_alloc ?_ _) | (with_reducible refine Kd.C_drewN ?_ _) | (with_reducible refine Kd.C_drew ?_)))
                              (case aB => exact (by repeat (first | (with_reducible first | exact HB.out | apply below_alloc | apply pw_below_drewN | apply below_drew1 | refine below_set ?_ GE263.out | refine below_set ?_ GE274.out | refine below_set ?_ GE288.out) | exact HB.out)))
                              (case aF => exact (fun k_ hk => ⟨Kd.fresh' (Kd.R_lt (by (with_reducible repeat (first | apply Kd.R_alloc | apply Kd.R_drewN | apply Kd.R_drew)); exact HO_7.out)) k_ hk, Kd.fresh' (Kd.R_lt (by (with_reducible repeat (first | apply Kd.R_alloc | apply Kd.R_drewN | apply Kd.R_drew)); exact HO287.out)) k_ hk⟩))
                              (case aO => exact (by (with_reducible repeat (first | apply Kd.R_alloc | apply Kd.R_drewN | apply Kd.R_drew)); exact HO_9.out))
                              (case aS => exact (below_size (by repeat (first | (with_reducible first | exact HB.out | apply below_alloc | apply pw_below_drewN | apply below_drew1 | refine below_set ?_ GE263.out | refine below_set ?_ GE274.out | refine below_set ?_ GE288.out) | exact HB.out))))
                              (case aL => have := LMc38.out; omega)
                              intro v291 w50 ho hb hg hat
                              rw [← Ny290.out] at ho
                              have n0_ := Aside0.mk (Kd.R_after (ok := (fun k_ => some k_ ≠ (.slice Ao46 t285.length co46 : Value).ownBlock)) (by (with_reducible repeat (first | apply Kd.R_alloc | apply Kd.R_drewN | apply Kd.R_drew)); exact Kd.R_mono HO_7.out (fun _ hk => ⟨hk.2, hk.1⟩)) hg hat)
                              have n1_ := Aside0.mk (Kd.R_over' (by (with_reducible repeat (first | apply Kd.R_alloc | apply Kd.R_drewN | apply Kd.R_drew)); exact HO_21.out) (Kd.R_typed (by (with_reducible repeat (first | apply Kd.R_alloc | apply Kd.R_drewN | apply Kd.R_drew)); exact HO_9.out)) (by decide) hg)
                              have n2_ := Aside0.mk (blk_grown (g := gb263) (o := .cells #[.int .i64 t260, .int .i64 t261, .int .i64 t262] 24 (0, 0)) (by (with_reducible repeat (first | refine blk_drewN ?_ _ | refine blk_drew ?_ | refine blk_alloc ?_ _)); exact BK263.out) hg (Kd.R_ne HO_9.out BK263.out (by decide)))
                              have n3_ := Aside0.mk (blk_grown (g := gb274) (o := .cells #[.int .i64 x275000_1, .int .i64 x275001_1, .int .i64 x275002_1] 24 (0, 0)) (by (with_reducible repeat (first | refine blk_drewN ?_ _ | refine blk_drew ?_ | refine blk_alloc ?_ _)); exact BK274.out) hg (Kd.R_ne HO_9.out BK274.out (by decide)))
                              have n4_ := Aside0.mk (Kd.R_after (ok := (fun k_ => some k_ ≠ (v258 : Value).ownBlock)) (by (with_reducible repeat (first | apply Kd.R_alloc | apply Kd.R_drewN | apply Kd.R_drew)); exact Kd.R_mono HO287.out (fun _ hk => ⟨hk.1.2, hk.2⟩)) hg hat)
                              have n5_ := Aside0.mk (blk_grown (g := gb288) (o := .cells #[.int .i64 t282, .int .i64 t283, .int .i64 t284] 24 (0, 0)) (by (with_reducible repeat (first | refine blk_drewN ?_ _ | refine blk_drew ?_ | refine blk_alloc ?_ _)); exact BK288.out) hg (Kd.R_ne HO_9.out BK288.out (by decide)))
                              have n6_ := Aside0.mk (hb)
                              have n7_ := Aside0.mk (ho)
                              clear HO_7
                              clear HO_21
                              clear BK263
                              clear BK274
                              clear HO287
                              clear BK288
                              clear HB
                              clear HO_9
                              have HO_7 := n0_
                              have HO_21 := n1_
                              have BK263 := n2_
                              have BK274 := n3_
                              have HO287 := n4_
                              have BK288 := n5_
                              have HB := n6_
                              have HO292 := n7_
                              clear n0_ n1_ n2_ n3_ n4_ n5_ n6_ n7_
                              clear ho hb hg hat
                              refine hK.out _ _ ⟨(blk_cell BK288.out 0).trans rfl, (blk_cell BK288.out 1).trans rfl, (blk_cell BK288.out 2).trans rfl⟩ (fun hHeld => ?_)
                              clear hK K
                              refine norm_ (a' := ?_) ?_ ?_
                              rotate_left
                              · show Act.put _ (some 67) _ = _
                                simp only [Act.put, List.setIfInBounds_toArray, List.set_cons_zero, List.set_cons_succ, i64_w, i32_w]
                                rfl
                              refine pure_ (i := 4) (N := some 9) (v := ?_) (a' := ?_) #[true, true, true, true, true, false] rfl rfl (by kernel_rfl) (fun _ _ _ h => h) (Or.inl ⟨by rfl, ?_⟩) ?_ ?_
                              rotate_left
                              · intro w'
                                go_simp
                                with_reducible rfl
                              rotate_left
                              · simp only [Act.put, List.setIfInBounds_toArray, List.set_cons_zero, List.set_cons_succ, i64_w, i32_w]
                                rfl
                              refine one_ (i := 5) (N := none) #[true, true, true, true, true, true] rfl rfl (by kernel_rfl) (by decide) (fun K hK => ?_)
                              have hs51 : w50.cell? ⟨gb274, 0, none⟩ = some (.int .i64 x275000_1) := (blk_cell BK274.out 0).trans rfl
                              have hfs51 := blk_frozen BK274.out 0
                              have hns51_0 := NB263_274.out
                              have hns51_2 := NB288_274.out
                              have hms51_0 := NB274_263.out
                              have hms51_2 := NB274_288.out
                              have hs52 : w50.cell? ⟨gb274, 1, none⟩ = some (.int .i64 x275001_1) := (blk_cell BK274.out 1).trans rfl
                              have hfs52 := blk_frozen BK274.out 1
                              have hns52_0 := NB263_274.out
                              have hns52_2 := NB288_274.out
                              have hms52_0 := NB274_263.out
                              have hms52_2 := NB274_288.out
                              have hs53 : w50.cell? ⟨gb274, 2, none⟩ = some (.int .i64 x275002_1) := (blk_cell BK274.out 2).trans rfl
                              have hfs53 := blk_frozen BK274.out 2
                              have hns53_0 := NB263_274.out
                              have hns53_2 := NB288_274.out
                              have hms53_0 := NB274_263.out
                              have hms53_2 := NB274_288.out
                              refine skip_ (w1 := ?_) (by rfl) rfl ?_ ?_
                              rotate_left
                              · go_simp
                                rfl
                              refine hK.out _ _ ⟨((cell_far (p := ⟨gb274, _, none⟩) NB288_274.out _).trans (((cell_far (p := ⟨gb274, _, none⟩) NB288_274.out _).trans (((cell_far (p := ⟨gb274, _, none⟩) NB288_274.out _).trans (hHeld.1)))))), ((cell_far (p := ⟨gb274, _, none⟩) NB288_274.out _).trans (((cell_far (p := ⟨gb274, _, none⟩) NB288_274.out _).trans (((cell_far (p := ⟨gb274, _, none⟩) NB288_274.out _).trans (hHeld.2.1)))))), ((cell_far (p := ⟨gb274, _, none⟩) NB288_274.out _).trans (((cell_far (p := ⟨gb274, _, none⟩) NB288_274.out _).trans (((cell_far (p := ⟨gb274, _, none⟩) NB288_274.out _).trans (hHeld.2.2))))))⟩ (fun hHeld => ?_)
                              clear hK K
                              refine done_ (by kernel_rfl) ?_
                              try go_wp2
                              go_roundg k1
                              case measure => have := HK1.out; omega
                              case rel => exact ⟨(y290), (wrap64 (x42_1 + 1)), (t282), (t283), (t284), (by first | rfl | (simp; done) | (simp [*]; done)), H', ⟨by have := HK1.out; omega⟩, ⟨by (with_reducible repeat (first | apply Kd.R_alloc | apply Kd.R_drewN | apply Kd.R_drew)); exact Kd.R_mono (Kd.R_far (p := ⟨gb274, 2, none⟩) (Kd.R_far (p := ⟨gb274, 1, none⟩) (Kd.R_far (p := ⟨gb274, 0, none⟩) (Kd.R_types HO_7.out BK274.out (by decide)) (fun _ hk => hk.2) (.int .i64 t282)) (fun _ hk => hk.2) (.int .i64 t283)) (fun _ hk => hk.2) (.int .i64 t284)) (fun _ hk => hk.1.2)⟩, ⟨by (with_reducible repeat (first | apply Kd.R_alloc | apply Kd.R_drewN | apply Kd.R_drew)); exact Kd.R_mono (Kd.R_far (p := ⟨gb274, 2, none⟩) (Kd.R_far (p := ⟨gb274, 1, none⟩) (Kd.R_far (p := ⟨gb274, 0, none⟩) (Kd.R_types HO292.out BK274.out (by decide)) (fun _ hk => hk.2) (.int .i64 t282)) (fun _ hk => hk.2) (.int .i64 t283)) (fun _ hk => hk.2) (.int .i64 t284)) (fun _ hk => hk.1.1)⟩, ⟨by (with_reducible repeat (first | apply Kd.R_alloc | apply Kd.R_drewN | apply Kd.R_drew)); exact Kd.R_mono (Kd.R_far (p := ⟨gb274, 2, none⟩) (Kd.R_far (p := ⟨gb274, 1, none⟩) (Kd.R_far (p := ⟨gb274, 0, none⟩) (Kd.R_types HO_21.out BK274.out (by decide)) (fun _ hk => hk.2) (.int .i64 t282)) (fun _ hk => hk.2) (.int .i64 t283)) (fun _ hk => hk.2) (.int .i64 t284)) (fun _ hk => trivial)⟩, ⟨by (with_reducible repeat (first | refine blk_drewN ?_ _ | refine blk_drew ?_ | refine blk_alloc ?_ _)); refine blk_far ?_ NB263_274.out _; (with_reducible repeat (first | refine blk_drewN ?_ _ | refine blk_drew ?_ | refine blk_alloc ?_ _)); refine blk_far ?_ NB263_274.out _; (with_reducible repeat (first | refine blk_drewN ?_ _ | refine blk_drew ?_ | refine blk_alloc ?_ _)); refine blk_far ?_ NB263_274.out _; (with_reducible repeat (first | refine blk_drewN ?_ _ | refine blk_drew ?_ | refine blk_alloc ?_ _)); exact BK263.out⟩, ⟨by (with_reducible repeat (first | refine blk_drewN ?_ _ | refine blk_drew ?_ | refine blk_alloc ?_ _)); refine blk_put (cs := #[.int .i64 t282, .int .i64 t283, .int .i64 x275002_1]) ?_ 2 _ rfl; (with_reducible repeat (first | refine blk_drewN ?_ _ | refine blk_drew ?_ | refine blk_alloc ?_ _)); refine blk_put (cs := #[.int .i64 t282, .int .i64 x275001_1, .int .i64 x275002_1]) ?_ 1 _ rfl; (with_reducible repeat (first | refine blk_drewN ?_ _ | refine blk_drew ?_ | refine blk_alloc ?_ _)); refine blk_put (cs := #[.int .i64 x275000_1, .int .i64 x275001_1, .int .i64 x275002_1]) ?_ 0 _ rfl; (with_reducible repeat (first | refine blk_drewN ?_ _ | refine blk_drew ?_ | refine blk_alloc ?_ _)); exact BK274.out⟩, ⟨by repeat (first | (with_reducible first | exact HB.out | apply below_alloc | apply pw_below_drewN | apply below_drew1 | refine below_set ?_ GE263.out | refine below_set ?_ GE274.out | refine below_set ?_ GE288.out) | exact HB.out)⟩⟩
                            · rw [if_neg c38] at H
                              exact absurd H (by simp)
                        · rw [if_neg c36] at H
                          have c36b0 : (t289 == false) = false := by simpa using c36
                          (try (have c36b1 : decide (t289 = false) = false := by simpa using c36))
                          (try (have c36b2 : (t289 == false) = false := by simpa using c36))
                          (try (have c36b3 : ¬ (t289 = false) := by simpa using c36))
                          clear c36
                          by_cases c54 : x9_1.length + t285.length < 35184372088832
                          · rw [if_pos c54] at H
                            have LMc54 := Aside0.mk c54
                            clear c54
                            obtain ⟨y293, hy293⟩ : ∃ y_ : List Int, y_ = (x9_1 ++ t285) := ⟨_, rfl⟩
                            replace H : (linguistlaw1_UtfCuts.l0 k1 t257 y293 y253 y275 (y275.length : Int) (wrap64 (x42_1 + 1)) t260 t261 t262 t282 t283 t284) = some r := by first | (rw [hy293]; with_reducible exact H) | (have H2_ := (Option.bind_some _ _).symm.trans H; rw [hy293]; with_reducible exact H2_) | (have H2_ := (Option.bind_some _ _).symm.trans H; with_reducible exact H2_) | with_reducible exact H | (rw [hy293]; exact H) | exact H
                            have Ny293 := Aside0.mk hy293
                            clear hy293
                            have H' := Aside0.mk H
                            clear H
                            have p281 : 0 ≤ (x42_1 : Int) := of_decide_eq_true (by first | (with_reducible assumption) | assumption)
                            have q281 : x42_1 < (y275.length : Int) := of_decide_eq_true (by first | (with_reducible assumption) | assumption)
                            obtain ⟨ad281, e281, hx281_0⟩ := Kd.at_int (show Kd.C (Kd.int .u8) wr A29 y275.length y275 from by rw [Ny275.out, KA29.out]; exact Kd.C_drop (m := (t256 : Int).toNat) ((Kd.R_reads' (w := wr) (by (with_reducible repeat (first | apply Kd.R_alloc | apply Kd.R_drewN | apply Kd.R_drew)); exact HO_21.out)).2.2) KL29.out ((Kd.R_reads' (w := wr) (by (with_reducible repeat (first | apply Kd.R_alloc | apply Kd.R_drewN | apply Kd.R_drew)); exact HO_21.out)).2.1)) x42_1 p281 q281
                            cases e281
                            replace p281 := eq_true p281
                            replace q281 := eq_true q281
                            have hnb55 := NB274_263.out
                            have hnc55 := NB263_274.out
                            have hcz56_0 : wr.cell? ⟨gb274, 0, none⟩ = some (.int .i64 x275000_1) := (blk_cell BK274.out 0).trans rfl
                            have hcz56_1 : wr.cell? ⟨gb274, 1, none⟩ = some (.int .i64 x275001_1) := (blk_cell BK274.out 1).trans rfl
                            have hcz56_2 : wr.cell? ⟨gb274, 2, none⟩ = some (.int .i64 x275002_1) := (blk_cell BK274.out 2).trans rfl
                            have hfz56_0 := blk_frozen BK274.out 0
                            have hfz56_1 := blk_frozen BK274.out 1
                            have hfz56_2 := blk_frozen BK274.out 2
                            try go_wp2_with (first | ((with_reducible refine gate_callee (f := 19) rfl ?_); refine goesL_ (some 49) rfl rfl Try.func19 (by kernel_rfl) rfl #[.agg #[.int .i64 x275000_1, .int .i64 x275001_1, .int .i64 x275002_1], .int .u8 (rd y275 x42_1)] rfl (by (try simp only [List.map_toArray, List.map_cons, List.map_nil]); first | done | rfl | (simp only [List.length_drop, List.length_take]; rfl) | (simp only [List.length_drop, List.length_take]; rw [Nat.min_eq_left (by first | assumption | omega)]; rfl)) ?_; (with_reducible refine (utf_Decoder_Push.calls k1 x275000_1 x275001_1 x275002_1 (rd y275 x42_1) t282 t283 t284 t285 _ A33.out).mono ?_); rintro e w57 ⟨v286, rfl, ho0, hb⟩; refine ⟨_, rfl, ?_⟩; have n0_ := Aside0.mk (Kd.R_elder' (by (with_reducible repeat (first | apply Kd.R_alloc | apply Kd.R_drewN | apply Kd.R_drew)); exact HO_7.out) (Kd.R_base ho0) hb); have n1_ := Aside0.mk (Kd.R_elder' (by (with_reducible repeat (first | apply Kd.R_alloc | apply Kd.R_drewN | apply Kd.R_drew)); exact HO_9.out) (Kd.R_base ho0) hb); have n2_ := Aside0.mk (Kd.R_below (by (with_reducible repeat (first | apply Kd.R_alloc | apply Kd.R_drewN | apply Kd.R_drew)); exact HO_21.out) hb); have n3_ := Aside0.mk (Kd.R_lower (Kd.R_new' (Kd.R_new' ho0 (Kd.R_lt (by (with_reducible repeat (first | apply Kd.R_alloc | apply Kd.R_drewN | apply Kd.R_drew)); exact HO_7.out))) (Kd.R_lt (by (with_reducible repeat (first | apply Kd.R_alloc | apply Kd.R_drewN | apply Kd.R_drew)); exact HO_9.out))) (below_size (by repeat (first | (with_reducible first | exact HB.out | apply below_alloc | apply pw_below_drewN | apply below_drew1 | refine below_set ?_ GE263.out | refine below_set ?_ GE274.out) | exact HB.out)))); have n4_ := Aside0.mk (blk_below (g := gb263) (o := .cells #[.int .i64 t260, .int .i64 t261, .int .i64 t262] 24 (0, 0)) (by (with_reducible repeat (first | refine blk_drewN ?_ _ | refine blk_drew ?_ | refine blk_alloc ?_ _)); exact BK263.out) hb); have n5_ := Aside0.mk (blk_below (g := gb274) (o := .cells #[.int .i64 x275000_1, .int .i64 x275001_1, .int .i64 x275002_1] 24 (0, 0)) (by (with_reducible repeat (first | refine blk_drewN ?_ _ | refine blk_drew ?_ | refine blk_alloc ?_ _)); exact BK274.out) hb); have n6_ := Aside0.mk (below_step (by repeat (first | (with_reducible first | exact HB.out | apply below_alloc | apply pw_below_drewN | apply below_drew1 | refine below_set ?_ GE263.out | refine below_set ?_ GE274.out) | exact HB.out)) hb); clear HO_7; clear HO_9; clear HO_21; clear BK263; clear BK274; clear HB; have HO_7 := n0_; have HO_9 := n1_; have HO_21 := n2_; have HO287 := n3_; have BK263 := n4_; have BK274 := n5_; have HB := n6_; clear n0_ n1_ n2_ n3_ n4_ n5_ n6_; (try clear hb); (try clear hb2); (try clear hk); (try clear hi); (try clear ho0)) | ((with_reducible refine gate_dst (N := 13) rfl ?_); (try (refine gate_guard (by rfl) ?_; dsimp only)); refine box_event ?hg (N := 13) ?hd (cs := #[.int .i64 0, .int .i64 0, .int .i64 0]) (t := 24) ?hr ?_; (case hd => rfl); (case hg => rfl); (case hr => first | (go_simp; done) | (go_simp; rfl)); intro gb288 hg w58 hbox hb; have n0_ := Aside0.mk (Kd.R_below (by (with_reducible repeat (first | apply Kd.R_alloc | apply Kd.R_drewN | apply Kd.R_drew)); exact HO_7.out) hb); have n1_ := Aside0.mk (Kd.R_below (by (with_reducible repeat (first | apply Kd.R_alloc | apply Kd.R_drewN | apply Kd.R_drew)); exact HO_9.out) hb); have n2_ := Aside0.mk (Kd.R_below (by (with_reducible repeat (first | apply Kd.R_alloc | apply Kd.R_drewN | apply Kd.R_drew)); exact HO_21.out) hb); have n3_ := Aside0.mk (Kd.R_below (by (with_reducible repeat (first | apply Kd.R_alloc | apply Kd.R_drewN | apply Kd.R_drew)); exact HO287.out) hb); have n4_ := Aside0.mk (blk_below (g := gb263) (o := .cells #[.int .i64 t260, .int .i64 t261, .int .i64 t262] 24 (0, 0)) (by (with_reducible repeat (first | refine blk_drewN ?_ _ | refine blk_drew ?_ | refine blk_alloc ?_ _)); exact BK263.out) hb); have n5_ := Aside0.mk (blk_below (g := gb274) (o := .cells #[.int .i64 x275000_1, .int .i64 x275001_1, .int .i64 x275002_1] 24 (0, 0)) (by (with_reducible repeat (first | refine blk_drewN ?_ _ | refine blk_drew ?_ | refine blk_alloc ?_ _)); exact BK274.out) hb); have n6_ := Aside0.mk (below_step (by repeat (first | (with_reducible first | exact HB.out | apply below_alloc | apply pw_below_drewN | apply below_drew1 | refine below_set ?_ GE263.out | refine below_set ?_ GE274.out) | exact HB.out)) hb); have n7_ := Aside0.mk (hbox); have n8_ := Aside0.mk ((by rw [hg]; exact (below_size (by repeat (first | (with_reducible first | exact HB.out | apply below_alloc | apply pw_below_drewN | apply below_drew1 | refine below_set ?_ GE263.out | refine below_set ?_ GE274.out) | exact HB.out))) : w.heap.size ≤ gb288)); have n9_ := Aside0.mk ((by rw [hg]; exact (below_size (by repeat (first | (with_reducible first | exact HB.out | apply below_alloc | apply pw_below_drewN | apply below_drew1 | refine below_set ?_ GE263.out | refine below_set ?_ GE274.out) | exact HB.out))) : w.heap.size ≤ gb288)); have n10_ := Aside0.mk ((by rw [hg]; exact Nat.ne_of_lt (blk_lt (g := gb263) (o := .cells #[.int .i64 t260, .int .i64 t261, .int .i64 t262] 24 (0, 0)) (by (with_reducible repeat (first | refine blk_drewN ?_ _ | refine blk_drew ?_ | refine blk_alloc ?_ _)); exact BK263.out)) : gb263 ≠ gb288)); have n11_ := Aside0.mk ((by rw [hg]; exact Nat.ne_of_gt (blk_lt (g := gb263) (o := .cells #[.int .i64 t260, .int .i64 t261, .int .i64 t262] 24 (0, 0)) (by (with_reducible repeat (first | refine blk_drewN ?_ _ | refine blk_drew ?_ | refine blk_alloc ?_ _)); exact BK263.out)) : gb288 ≠ gb263)); have n12_ := Aside0.mk ((by rw [hg]; exact Nat.ne_of_lt (blk_lt (g := gb274) (o := .cells #[.int .i64 x275000_1, .int .i64 x275001_1, .int .i64 x275002_1] 24 (0, 0)) (by (with_reducible repeat (first | refine blk_drewN ?_ _ | refine blk_drew ?_ | refine blk_alloc ?_ _)); exact BK274.out)) : gb274 ≠ gb288)); have n13_ := Aside0.mk ((by rw [hg]; exact Nat.ne_of_gt (blk_lt (g := gb274) (o := .cells #[.int .i64 x275000_1, .int .i64 x275001_1, .int .i64 x275002_1] 24 (0, 0)) (by (with_reducible repeat (first | refine blk_drewN ?_ _ | refine blk_drew ?_ | refine blk_alloc ?_ _)); exact BK274.out)) : gb288 ≠ gb274)); clear HO_7; clear HO_9; clear HO_21; clear HO287; clear BK263; clear BK274; clear HB; have HO_7 := n0_; have HO_9 := n1_; have HO_21 := n2_; have HO287 := n3_; have BK263 := n4_; have BK274 := n5_; have HB := n6_; have BK288 := n7_; have GW288 := n8_; have GE288 := n9_; have NB263_288 := n10_; have NB288_263 := n11_; have NB274_288 := n12_; have NB288_274 := n13_; clear n0_ n1_ n2_ n3_ n4_ n5_ n6_ n7_ n8_ n9_ n10_ n11_ n12_ n13_; clear hb hbox hg; have hnb59 := NB288_263.out; have hnc59 := NB263_288.out; have hnb60 := NB288_274.out; have hnc60 := NB274_288.out; have hcz61_0 : w58.cell? ⟨gb288, 0, none⟩ = some (.int .i64 0) := (blk_cell BK288.out 0).trans rfl; have hcz61_1 : w58.cell? ⟨gb288, 1, none⟩ = some (.int .i64 0) := (blk_cell BK288.out 1).trans rfl; have hcz61_2 : w58.cell? ⟨gb288, 2, none⟩ = some (.int .i64 0) := (blk_cell BK288.out 2).trans rfl; have hfz61_0 := blk_frozen BK288.out 0; have hfz61_1 := blk_frozen BK288.out 1; have hfz61_2 := blk_frozen BK288.out 2; obtain ⟨Ao62, co62, eo62⟩ := Kd.R_slice HO287.out; subst eo62; have hcz63_0 : w58.cell? ⟨gb274, 0, none⟩ = some (.int .i64 x275000_1) := (blk_cell BK274.out 0).trans rfl; have hcz63_1 : w58.cell? ⟨gb274, 1, none⟩ = some (.int .i64 x275001_1) := (blk_cell BK274.out 1).trans rfl; have hcz63_2 : w58.cell? ⟨gb274, 2, none⟩ = some (.int .i64 x275002_1) := (blk_cell BK274.out 2).trans rfl; have hfz63_0 := blk_frozen BK274.out 0; have hfz63_1 := blk_frozen BK274.out 1; have hfz63_2 := blk_frozen BK274.out 2) | (go_at_call 11; (with_reducible refine (utf_Decoder_Held.calls x275000_1 x275001_1 x275002_1 t289 _ A35.out).mono ?_); rintro e w64 ⟨rfl, hb⟩; have n0_ := Aside0.mk (Kd.R_below (by (with_reducible repeat (first | apply Kd.R_alloc | apply Kd.R_drewN | apply Kd.R_drew)); exact (Kd.R_mono (Kd.R_far (p := ⟨gb288, 2, none⟩) (Kd.R_far (p := ⟨gb288, 1, none⟩) (Kd.R_far (p := ⟨gb288, 0, none⟩) (Kd.R_types HO_7.out BK288.out (by decide)) (fun _ hk => hk.2) (.int .i64 t282)) (fun _ hk => hk.2) (.int .i64 t283)) (fun _ hk => hk.2) (.int .i64 t284)) (fun _ h_ => h_.1))) hb); have n1_ := Aside0.mk (Kd.R_below (by (with_reducible repeat (first | apply Kd.R_alloc | apply Kd.R_drewN | apply Kd.R_drew)); exact (Kd.R_mono (Kd.R_far (p := ⟨gb288, 2, none⟩) (Kd.R_far (p := ⟨gb288, 1, none⟩) (Kd.R_far (p := ⟨gb288, 0, none⟩) (Kd.R_types HO_9.out BK288.out (by decide)) (fun _ hk => hk.2) (.int .i64 t282)) (fun _ hk => hk.2) (.int .i64 t283)) (fun _ hk => hk.2) (.int .i64 t284)) (fun _ h_ => h_.1))) hb); have n2_ := Aside0.mk (Kd.R_below (by (with_reducible repeat (first | apply Kd.R_alloc | apply Kd.R_drewN | apply Kd.R_drew)); exact (Kd.R_mono (Kd.R_far (p := ⟨gb288, 2, none⟩) (Kd.R_far (p := ⟨gb288, 1, none⟩) (Kd.R_far (p := ⟨gb288, 0, none⟩) (Kd.R_types HO_21.out BK288.out (by decide)) (fun _ hk => hk.2) (.int .i64 t282)) (fun _ hk => hk.2) (.int .i64 t283)) (fun _ hk => hk.2) (.int .i64 t284)) (fun _ h_ => h_.1))) hb); have n3_ := Aside0.mk (Kd.R_below (by (with_reducible repeat (first | apply Kd.R_alloc | apply Kd.R_drewN | apply Kd.R_drew)); exact (Kd.R_mono (Kd.R_far (p := ⟨gb288, 2, none⟩) (Kd.R_far (p := ⟨gb288, 1, none⟩) (Kd.R_far (p := ⟨gb288, 0, none⟩) (Kd.R_types HO287.out BK288.out (by decide)) (fun _ hk => hk.2) (.int .i64 t282)) (fun _ hk => hk.2) (.int .i64 t283)) (fun _ hk => hk.2) (.int .i64 t284)) (fun _ h_ => h_.1))) hb); have n4_ := Aside0.mk (blk_below (g := gb263) (o := .cells #[.int .i64 t260, .int .i64 t261, .int .i64 t262] 24 (0, 0)) (by (with_reducible repeat (first | refine blk_drewN ?_ _ | refine blk_drew ?_ | refine blk_alloc ?_ _)); refine blk_far ?_ NB263_288.out _; (with_reducible repeat (first | refine blk_drewN ?_ _ | refine blk_drew ?_ | refine blk_alloc ?_ _)); refine blk_far ?_ NB263_288.out _; (with_reducible repeat (first | refine blk_drewN ?_ _ | refine blk_drew ?_ | refine blk_alloc ?_ _)); refine blk_far ?_ NB263_288.out _; (with_reducible repeat (first | refine blk_drewN ?_ _ | refine blk_drew ?_ | refine blk_alloc ?_ _)); exact BK263.out) hb); have n5_ := Aside0.mk (blk_below (g := gb274) (o := .cells #[.int .i64 x275000_1, .int .i64 x275001_1, .int .i64 x275002_1] 24 (0, 0)) (by (with_reducible repeat (first | refine blk_drewN ?_ _ | refine blk_drew ?_ | refine blk_alloc ?_ _)); refine blk_far ?_ NB274_288.out _; (with_reducible repeat (first | refine blk_drewN ?_ _ | refine blk_drew ?_ | refine blk_alloc ?_ _)); refine blk_far ?_ NB274_288.out _; (with_reducible repeat (first | refine blk_drewN ?_ _ | refine blk_drew ?_ | refine blk_alloc ?_ _)); refine blk_far ?_ NB274_288.out _; (with_reducible repeat (first | refine blk_drewN ?_ _ | refine blk_drew ?_ | refine blk_alloc ?_ _)); exact BK274.out) hb); have n6_ := Aside0.mk (blk_below (g := gb288) (o := .cells #[.int .i64 t282, .int .i64 t283, .int .i64 t284] 24 (0, 0)) (by (with_reducible repeat (first | refine blk_drewN ?_ _ | refine blk_drew ?_ | refine blk_alloc ?_ _)); refine blk_put (cs := #[.int .i64 t282, .int .i64 t283, .int .i64 0]) ?_ 2 _ rfl; (with_reducible repeat (first | refine blk_drewN ?_ _ | refine blk_drew ?_ | refine blk_alloc ?_ _)); refine blk_put (cs := #[.int .i64 t282, .int .i64 0, .int .i64 0]) ?_ 1 _ rfl; (with_reducible repeat (first | refine blk_drewN ?_ _ | refine blk_drew ?_ | refine blk_alloc ?_ _)); refine blk_put (cs := #[.int .i64 0, .int .i64 0, .int .i64 0]) ?_ 0 _ rfl; (with_reducible repeat (first | refine blk_drewN ?_ _ | refine blk_drew ?_ | refine blk_alloc ?_ _)); exact BK288.out) hb); have n7_ := Aside0.mk (below_step (by repeat (first | (with_reducible first | exact HB.out | apply below_alloc | apply pw_below_drewN | apply below_drew1 | refine below_set ?_ GE263.out | refine below_set ?_ GE274.out | refine below_set ?_ GE288.out) | exact HB.out)) hb); clear HO_7; clear HO_9; clear HO_21; clear HO287; clear BK263; clear BK274; clear BK288; clear HB; have HO_7 := n0_; have HO_9 := n1_; have HO_21 := n2_; have HO287 := n3_; have BK263 := n4_; have BK274 := n5_; have BK288 := n6_; have HB := n7_; clear n0_ n1_ n2_ n3_ n4_ n5_ n6_ n7_; (try clear hb); (try clear hb2); (try clear hk); (try clear hi)))
                            have n0_ := Aside0.mk (Kd.R_drew HO_7.out)
                            have n1_ := Aside0.mk (Kd.R_drew HO_9.out)
                            have n2_ := Aside0.mk (Kd.R_drew HO_21.out)
                            have n3_ := Aside0.mk (Kd.R_drew HO287.out)
                            have n4_ := Aside0.mk (blk_drew BK263.out)
                            have n5_ := Aside0.mk (blk_drew BK274.out)
                            have n6_ := Aside0.mk (blk_drew BK288.out)
                            have n7_ := Aside0.mk (below_drew1 HB.out)
                            clear HO_7
                            clear HO_9
                            clear HO_21
                            clear HO287
                            clear BK263
                            clear BK274
                            clear BK288
                            clear HB
                            have HO_7 := n0_
                            have HO_9 := n1_
                            have HO_21 := n2_
                            have HO287 := n3_
                            have BK263 := n4_
                            have BK274 := n5_
                            have BK288 := n6_
                            have HB := n7_
                            clear n0_ n1_ n2_ n3_ n4_ n5_ n6_ n7_
                            refine start_ (n := 6) (S := fun w' => w'.cell? ⟨gb288, 0, none⟩ = some (.int .i64 t282) ∧ w'.cell? ⟨gb288, 1, none⟩ = some (.int .i64 t283) ∧ w'.cell? ⟨gb288, 2, none⟩ = some (.int .i64 t284)) (ds := []) #[false, false, false, false, false, false] (by kernel_rfl) rfl rfl ⟨(blk_cell BK288.out 0).trans rfl, (blk_cell BK288.out 1).trans rfl, (blk_cell BK288.out 2).trans rfl⟩ (fun hHeld => ?_)
                            generalize w64.drew = w65 at HO_7 HO_9 HO_21 HO287 BK263 BK274 BK288 HB hHeld ⊢
                            refine pure_ (i := 0) (N := some 65) (v := ?_) (a' := ?_) #[true, false, false, false, false, false] rfl rfl (by kernel_rfl) (fun _ _ _ h => h) (Or.inl ⟨by rfl, ?_⟩) ?_ ?_
                            rotate_left
                            · intro w'
                              go_simp
                              with_reducible rfl
                            rotate_left
                            · simp only [Act.put, List.setIfInBounds_toArray, List.set_cons_zero, List.set_cons_succ, i64_w, i32_w]
                              rfl
                            refine pure_ (i := 1) (N := some 66) (v := ?_) (a' := ?_) #[true, true, false, false, false, false] rfl rfl (by kernel_rfl) (fun _ _ _ h => h) (Or.inl ⟨by rfl, ?_⟩) ?_ ?_
                            rotate_left
                            · intro w'
                              go_simp
                              with_reducible rfl
                            rotate_left
                            · simp only [Act.put, List.setIfInBounds_toArray, List.set_cons_zero, List.set_cons_succ, i64_w, i32_w]
                              rfl
                            refine take_ (i := 3) (N := some 68) (v := ?_) (a' := ?_) #[true, true, false, true, false, false] rfl rfl (by kernel_rfl) (fun _ _ _ h => h) (Or.inl ⟨by rfl, ?_⟩) hHeld ?_ ?_
                            rotate_left
                            · rintro w' ⟨s0, s1, s2⟩
                              go_simp
                              with_reducible rfl
                            rotate_left
                            · simp only [Act.put, List.setIfInBounds_toArray, List.set_cons_zero, List.set_cons_succ, i64_w, i32_w]
                              rfl
                            refine one_ (i := 2) (N := some 67) #[true, true, true, true, false, false] rfl rfl (by kernel_rfl) (by decide) (fun K hK => ?_)
                            refine Kd.R_append_rows_step (Kd.int .i32) (w0 := w) w.heap.size (by rfl) (.tmp 65) (.tmp 66) 22 21 (.int .i32 0) 4 rfl Try.underlying22 info21 rfl (by decide) (by omega) u9 x9_1 t285 _ _ _ (fun k_ => some k_ ≠ (v258 : Value).ownBlock ∧ some k_ ≠ (.slice Ao62 t285.length co62 : Value).ownBlock) (fun _ => False) rfl rfl ?aO ?aR (fun _ _ h => h) (fun _ h => h.elim) ?aF ?aB ?aS ?aL ?_
                            (case aR => repeat (first | exact (Kd.R_reads' HO287.out).2.2 | (with_reducible refine Kd.C_alloc ?_ _) | (with_reducible refine Kd.C_drewN ?_ _) | (with_reducible refine Kd.C_drew ?_)))
                            (case aB => exact (by repeat (first | (with_reducible first | exact HB.out | apply below_alloc | apply pw_below_drewN | apply below_drew1 | refine below_set ?_ GE263.out | refine below_set ?_ GE274.out | refine below_set ?_ GE288.out) | exact HB.out)))
                            (case aF => exact (fun k_ hk => ⟨Kd.fresh' (Kd.R_lt (by (with_reducible repeat (first | apply Kd.R_alloc | apply Kd.R_drewN | apply Kd.R_drew)); exact HO_7.out)) k_ hk, Kd.fresh' (Kd.R_lt (by (with_reducible repeat (first | apply Kd.R_alloc | apply Kd.R_drewN | apply Kd.R_drew)); exact HO287.out)) k_ hk⟩))
                            (case aO => exact (by (with_reducible repeat (first | apply Kd.R_alloc | apply Kd.R_drewN | apply Kd.R_drew)); exact HO_9.out))
                            (case aS => exact (below_size (by repeat (first | (with_reducible first | exact HB.out | apply below_alloc | apply pw_below_drewN | apply below_drew1 | refine below_set ?_ GE263.out | refine below_set ?_ GE274.out | refine below_set ?_ GE288.out) | exact HB.out))))
                            (case aL => have := LMc54.out; omega)
                            intro v294 w66 ho hb hg hat
                            rw [← Ny293.out] at ho
                            have n0_ := Aside0.mk (Kd.R_after (ok := (fun k_ => some k_ ≠ (.slice Ao62 t285.length co62 : Value).ownBlock)) (by (with_reducible repeat (first | apply Kd.R_alloc | apply Kd.R_drewN | apply Kd.R_drew)); exact Kd.R_mono HO_7.out (fun _ hk => ⟨hk.2, hk.1⟩)) hg hat)
                            have n1_ := Aside0.mk (Kd.R_over' (by (with_reducible repeat (first | apply Kd.R_alloc | apply Kd.R_drewN | apply Kd.R_drew)); exact HO_21.out) (Kd.R_typed (by (with_reducible repeat (first | apply Kd.R_alloc | apply Kd.R_drewN | apply Kd.R_drew)); exact HO_9.out)) (by decide) hg)
                            have n2_ := Aside0.mk (blk_grown (g := gb263) (o := .cells #[.int .i64 t260, .int .i64 t261, .int .i64 t262] 24 (0, 0)) (by (with_reducible repeat (first | refine blk_drewN ?_ _ | refine blk_drew ?_ | refine blk_alloc ?_ _)); exact BK263.out) hg (Kd.R_ne HO_9.out BK263.out (by decide)))
                            have n3_ := Aside0.mk (blk_grown (g := gb274) (o := .cells #[.int .i64 x275000_1, .int .i64 x275001_1, .int .i64 x275002_1] 24 (0, 0)) (by (with_reducible repeat (first | refine blk_drewN ?_ _ | refine blk_drew ?_ | refine blk_alloc ?_ _)); exact BK274.out) hg (Kd.R_ne HO_9.out BK274.out (by decide)))
                            have n4_ := Aside0.mk (Kd.R_after (ok := (fun k_ => some k_ ≠ (v258 : Value).ownBlock)) (by (with_reducible repeat (first | apply Kd.R_alloc | apply Kd.R_drewN | apply Kd.R_drew)); exact Kd.R_mono HO287.out (fun _ hk => ⟨hk.1.2, hk.2⟩)) hg hat)
                            have n5_ := Aside0.mk (blk_grown (g := gb288) (o := .cells #[.int .i64 t282, .int .i64 t283, .int .i64 t284] 24 (0, 0)) (by (with_reducible repeat (first | refine blk_drewN ?_ _ | refine blk_drew ?_ | refine blk_alloc ?_ _)); exact BK288.out) hg (Kd.R_ne HO_9.out BK288.out (by decide)))
                            have n6_ := Aside0.mk (hb)
                            have n7_ := Aside0.mk (ho)
                            clear HO_7
                            clear HO_21
                            clear BK263
                            clear BK274
                            clear HO287
                            clear BK288
                            clear HB
                            clear HO_9
                            have HO_7 := n0_
                            have HO_21 := n1_
                            have BK263 := n2_
                            have BK274 := n3_
                            have HO287 := n4_
                            have BK288 := n5_
                            have HB := n6_
                            have HO295 := n7_
                            clear n0_ n1_ n2_ n3_ n4_ n5_ n6_ n7_
                            clear ho hb hg hat
                            refine hK.out _ _ ⟨(blk_cell BK288.out 0).trans rfl, (blk_cell BK288.out 1).trans rfl, (blk_cell BK288.out 2).trans rfl⟩ (fun hHeld => ?_)
                            clear hK K
                            refine norm_ (a' := ?_) ?_ ?_
                            rotate_left
                            · show Act.put _ (some 67) _ = _
                              simp only [Act.put, List.setIfInBounds_toArray, List.set_cons_zero, List.set_cons_succ, i64_w, i32_w]
                              rfl
                            refine pure_ (i := 4) (N := some 9) (v := ?_) (a' := ?_) #[true, true, true, true, true, false] rfl rfl (by kernel_rfl) (fun _ _ _ h => h) (Or.inl ⟨by rfl, ?_⟩) ?_ ?_
                            rotate_left
                            · intro w'
                              go_simp
                              with_reducible rfl
                            rotate_left
                            · simp only [Act.put, List.setIfInBounds_toArray, List.set_cons_zero, List.set_cons_succ, i64_w, i32_w]
                              rfl
                            refine one_ (i := 5) (N := none) #[true, true, true, true, true, true] rfl rfl (by kernel_rfl) (by decide) (fun K hK => ?_)
                            have hs67 : w66.cell? ⟨gb274, 0, none⟩ = some (.int .i64 x275000_1) := (blk_cell BK274.out 0).trans rfl
                            have hfs67 := blk_frozen BK274.out 0
                            have hns67_0 := NB263_274.out
                            have hns67_2 := NB288_274.out
                            have hms67_0 := NB274_263.out
                            have hms67_2 := NB274_288.out
                            have hs68 : w66.cell? ⟨gb274, 1, none⟩ = some (.int .i64 x275001_1) := (blk_cell BK274.out 1).trans rfl
                            have hfs68 := blk_frozen BK274.out 1
                            have hns68_0 := NB263_274.out
                            have hns68_2 := NB288_274.out
                            have hms68_0 := NB274_263.out
                            have hms68_2 := NB274_288.out
                            have hs69 : w66.cell? ⟨gb274, 2, none⟩ = some (.int .i64 x275002_1) := (blk_cell BK274.out 2).trans rfl
                            have hfs69 := blk_frozen BK274.out 2
                            have hns69_0 := NB263_274.out
                            have hns69_2 := NB288_274.out
                            have hms69_0 := NB274_263.out
                            have hms69_2 := NB274_288.out
                            refine skip_ (w1 := ?_) (by rfl) rfl ?_ ?_
                            rotate_left
                            · go_simp
                              rfl
                            refine hK.out _ _ ⟨((cell_far (p := ⟨gb274, _, none⟩) NB288_274.out _).trans (((cell_far (p := ⟨gb274, _, none⟩) NB288_274.out _).trans (((cell_far (p := ⟨gb274, _, none⟩) NB288_274.out _).trans (hHeld.1)))))), ((cell_far (p := ⟨gb274, _, none⟩) NB288_274.out _).trans (((cell_far (p := ⟨gb274, _, none⟩) NB288_274.out _).trans (((cell_far (p := ⟨gb274, _, none⟩) NB288_274.out _).trans (hHeld.2.1)))))), ((cell_far (p := ⟨gb274, _, none⟩) NB288_274.out _).trans (((cell_far (p := ⟨gb274, _, none⟩) NB288_274.out _).trans (((cell_far (p := ⟨gb274, _, none⟩) NB288_274.out _).trans (hHeld.2.2))))))⟩ (fun hHeld => ?_)
                            clear hK K
                            refine done_ (by kernel_rfl) ?_
                            try go_wp2
                            go_roundg k1
                            case measure => have := HK1.out; omega
                            case rel => exact ⟨(y293), (wrap64 (x42_1 + 1)), (t282), (t283), (t284), (by first | rfl | (simp; done) | (simp [*]; done)), H', ⟨by have := HK1.out; omega⟩, ⟨by (with_reducible repeat (first | apply Kd.R_alloc | apply Kd.R_drewN | apply Kd.R_drew)); exact Kd.R_mono (Kd.R_far (p := ⟨gb274, 2, none⟩) (Kd.R_far (p := ⟨gb274, 1, none⟩) (Kd.R_far (p := ⟨gb274, 0, none⟩) (Kd.R_types HO_7.out BK274.out (by decide)) (fun _ hk => hk.2) (.int .i64 t282)) (fun _ hk => hk.2) (.int .i64 t283)) (fun _ hk => hk.2) (.int .i64 t284)) (fun _ hk => hk.1.2)⟩, ⟨by (with_reducible repeat (first | apply Kd.R_alloc | apply Kd.R_drewN | apply Kd.R_drew)); exact Kd.R_mono (Kd.R_far (p := ⟨gb274, 2, none⟩) (Kd.R_far (p := ⟨gb274, 1, none⟩) (Kd.R_far (p := ⟨gb274, 0, none⟩) (Kd.R_types HO295.out BK274.out (by decide)) (fun _ hk => hk.2) (.int .i64 t282)) (fun _ hk => hk.2) (.int .i64 t283)) (fun _ hk => hk.2) (.int .i64 t284)) (fun _ hk => hk.1.1)⟩, ⟨by (with_reducible repeat (first | apply Kd.R_alloc | apply Kd.R_drewN | apply Kd.R_drew)); exact Kd.R_mono (Kd.R_far (p := ⟨gb274, 2, none⟩) (Kd.R_far (p := ⟨gb274, 1, none⟩) (Kd.R_far (p := ⟨gb274, 0, none⟩) (Kd.R_types HO_21.out BK274.out (by decide)) (fun _ hk => hk.2) (.int .i64 t282)) (fun _ hk => hk.2) (.int .i64 t283)) (fun _ hk => hk.2) (.int .i64 t284)) (fun _ hk => trivial)⟩, ⟨by (with_reducible repeat (first | refine blk_drewN ?_ _ | refine blk_drew ?_ | refine blk_alloc ?_ _)); refine blk_far ?_ NB263_274.out _; (with_reducible repeat (first | refine blk_drewN ?_ _ | refine blk_drew ?_ | refine blk_alloc ?_ _)); refine blk_far ?_ NB263_274.out _; (with_reducible repeat (first | refine blk_drewN ?_ _ | refine blk_drew ?_ | refine blk_alloc ?_ _)); refine blk_far ?_ NB263_274.out _; (with_reducible repeat (first | refine blk_drewN ?_ _ | refine blk_drew ?_ | refine blk_alloc ?_ _)); exact BK263.out⟩, ⟨by (with_reducible repeat (first | refine blk_drewN ?_ _ | refine blk_drew ?_ | refine blk_alloc ?_ _)); refine blk_put (cs := #[.int .i64 t282, .int .i64 t283, .int .i64 x275002_1]) ?_ 2 _ rfl; (with_reducible repeat (first | refine blk_drewN ?_ _ | refine blk_drew ?_ | refine blk_alloc ?_ _)); refine blk_put (cs := #[.int .i64 t282, .int .i64 x275001_1, .int .i64 x275002_1]) ?_ 1 _ rfl; (with_reducible repeat (first | refine blk_drewN ?_ _ | refine blk_drew ?_ | refine blk_alloc ?_ _)); refine blk_put (cs := #[.int .i64 x275000_1, .int .i64 x275001_1, .int .i64 x275002_1]) ?_ 0 _ rfl; (with_reducible repeat (first | refine blk_drewN ?_ _ | refine blk_drew ?_ | refine blk_alloc ?_ _)); exact BK274.out⟩, ⟨by repeat (first | (with_reducible first | exact HB.out | apply below_alloc | apply pw_below_drewN | apply below_drew1 | refine below_set ?_ GE263.out | refine below_set ?_ GE274.out | refine below_set ?_ GE288.out) | exact HB.out)⟩⟩
                          · rw [if_neg c54] at H
                            exact absurd H (by simp)
                    · rw [if_neg c32] at H
                      exact absurd H (by simp)
                  · rw [if_neg c31] at H
                    exact absurd H (by simp)
                · rw [if_neg c30] at H
                  have c30b0 : decide (x42_1 < (y275.length : Int)) = false := decide_eq_false c30
                  clear c30
                  replace H := Option.bind_eq_some_iff.mp H
                  obtain ⟨t279, A700, H⟩ := H
                  replace H : (if t279 = true then (if (x275000_1 == t260 && (x275001_1 == t261 && (x275002_1 == t262))) = true then ((linguistlaw1_UtfRuns.f k1).bind fun t280 => (some t280)) else (none)) else (none)) = some r := H
                  have A70 := Aside0.mk A700
                  clear A700
                  by_cases c71 : t279 = true
                  · subst c71
                    have H1 : (if (x275000_1 == t260 && (x275001_1 == t261 && (x275002_1 == t262))) = true then ((linguistlaw1_UtfRuns.f k1).bind fun t280 => (some t280)) else (none)) = some r := by rw [if_pos rfl] at H; exact H
                    clear H
                    have H := H1
                    clear H1
                    by_cases c72 : (x275000_1 == t260 && (x275001_1 == t261 && (x275002_1 == t262))) = true
                    · rw [if_pos c72] at H
                      have c72b0 : (x275000_1 == t260 && (x275001_1 == t261 && (x275002_1 == t262))) = true := c72
                      (try (have c72b1 : decide (x275000_1 = t260 && (x275001_1 == t261 && (x275002_1 == t262))) = true := by simpa using c72))
                      (try (have c72b2 : (x275000_1 == t260 && (x275001_1 == t261 && (x275002_1 == t262))) = true := by simpa using c72))
                      clear c72
                      replace H := Option.bind_eq_some_iff.mp H
                      obtain ⟨t280, A730, H⟩ := H
                      replace H : (some t280) = some r := H
                      have A73 := Aside0.mk A730
                      clear A730
                      obtain rfl := Option.some.inj H
                      obtain ⟨Ao74, co74, eo74⟩ := Kd.R_slice HO_9.out
                      subst eo74
                      obtain ⟨Ao75, co75, eo75⟩ := Kd.R_slice HO_7.out
                      subst eo75
                      go_wp2_with (first | ((with_reducible refine gate_callee (f := 10) rfl ?_); refine goesL_ (some 72) rfl rfl Try.func10 (by kernel_rfl) rfl #[.slice Ao74 x9_1.length co74, .slice Ao75 t257.length co75] rfl (by (try simp only [List.map_toArray, List.map_cons, List.map_nil]); first | done | rfl | (simp only [List.length_drop, List.length_take]; rfl) | (simp only [List.length_drop, List.length_take]; rw [Nat.min_eq_left (by first | assumption | omega)]; rfl)) ?_; (with_reducible refine (linguistbook_Same_rune.calls k1 _ _ x9_1 _ _ t257 true _ ?side1 ?side2 ?side3 ?side4 A70.out).mono ?_); (case side1 => repeat (first | exact (Kd.R_reads' HO_9.out).2.2 | (with_reducible refine Kd.C_alloc ?_ _) | (with_reducible refine Kd.C_drewN ?_ _) | (with_reducible refine Kd.C_drew ?_))); (case side2 => exact (Kd.R_reads' HO_9.out).2.1); (case side3 => repeat (first | exact (Kd.R_reads' HO_7.out).2.2 | (with_reducible refine Kd.C_alloc ?_ _) | (with_reducible refine Kd.C_drewN ?_ _) | (with_reducible refine Kd.C_drew ?_))); (case side4 => exact (Kd.R_reads' HO_7.out).2.1); rintro e w' ⟨rfl, ⟨nd, rfl⟩⟩; refine ⟨_, rfl, ?_⟩; have hnb76 := NB274_263.out; have hnc76 := NB263_274.out; have hcz77_0 : wr.cell? ⟨gb274, 0, none⟩ = some (.int .i64 x275000_1) := (blk_cell BK274.out 0).trans rfl; have hcz77_1 : wr.cell? ⟨gb274, 1, none⟩ = some (.int .i64 x275001_1) := (blk_cell BK274.out 1).trans rfl; have hcz77_2 : wr.cell? ⟨gb274, 2, none⟩ = some (.int .i64 x275002_1) := (blk_cell BK274.out 2).trans rfl; have hfz77_0 := blk_frozen BK274.out 0; have hfz77_1 := blk_frozen BK274.out 1; have hfz77_2 := blk_frozen BK274.out 2; have hcz78_0 : wr.cell? ⟨gb263, 0, none⟩ = some (.int .i64 t260) := (blk_cell BK263.out 0).trans rfl; have hcz78_1 : wr.cell? ⟨gb263, 1, none⟩ = some (.int .i64 t261) := (blk_cell BK263.out 1).trans rfl; have hcz78_2 : wr.cell? ⟨gb263, 2, none⟩ = some (.int .i64 t262) := (blk_cell BK263.out 2).trans rfl; have hfz78_0 := blk_frozen BK263.out 0; have hfz78_1 := blk_frozen BK263.out 1; have hfz78_2 := blk_frozen BK263.out 2) | (go_at_call 3; (with_reducible refine (linguistlaw1_UtfRuns.calls k1  t280 _ A73.out).mono ?_); rintro e w79 ⟨rfl, hb⟩; have n0_ := Aside0.mk (Kd.R_below (by (with_reducible repeat (first | apply Kd.R_alloc | apply Kd.R_drewN | apply Kd.R_drew)); exact HO_7.out) hb); have n1_ := Aside0.mk (Kd.R_below (by (with_reducible repeat (first | apply Kd.R_alloc | apply Kd.R_drewN | apply Kd.R_drew)); exact HO_9.out) hb); have n2_ := Aside0.mk (Kd.R_below (by (with_reducible repeat (first | apply Kd.R_alloc | apply Kd.R_drewN | apply Kd.R_drew)); exact HO_21.out) hb); have n3_ := Aside0.mk (blk_below (g := gb263) (o := .cells #[.int .i64 t260, .int .i64 t261, .int .i64 t262] 24 (0, 0)) (by (with_reducible repeat (first | refine blk_drewN ?_ _ | refine blk_drew ?_ | refine blk_alloc ?_ _)); exact BK263.out) hb); have n4_ := Aside0.mk (blk_below (g := gb274) (o := .cells #[.int .i64 x275000_1, .int .i64 x275001_1, .int .i64 x275002_1] 24 (0, 0)) (by (with_reducible repeat (first | refine blk_drewN ?_ _ | refine blk_drew ?_ | refine blk_alloc ?_ _)); exact BK274.out) hb); have n5_ := Aside0.mk (below_step (by repeat (first | (with_reducible first | exact HB.out | apply below_alloc | apply pw_below_drewN | apply below_drew1 | refine below_set ?_ GE263.out | refine below_set ?_ GE274.out) | exact HB.out)) hb); clear HO_7; clear HO_9; clear HO_21; clear BK263; clear BK274; clear HB; have HO_7 := n0_; have HO_9 := n1_; have HO_21 := n2_; have BK263 := n3_; have BK274 := n4_; have HB := n5_; clear n0_ n1_ n2_ n3_ n4_ n5_; (try clear hb); (try clear hb2); (try clear hk); (try clear hi)))
                      go_ret
                      exact ⟨by first | rfl | (simp [errW_none, errW_some] <;> rfl) | (simp only [← hji3]; first | rfl | (simp [errW_none, errW_some] <;> rfl)) | (simp [*, errW_none, errW_some] <;> rfl), by repeat (first | (with_reducible first | exact HB.out | apply below_alloc | apply pw_below_drewN | apply below_drew1 | refine below_set ?_ GE263.out | refine below_set ?_ GE274.out) | exact HB.out)⟩
                    · rw [if_neg c72] at H
                      exact absurd H (by simp)
                  · replace c71 := Bool.eq_false_iff.mpr c71
                    subst c71
                    have H1 : (none) = some r := by rw [if_neg (show ¬ (false = true) by decide)] at H; exact H
                    clear H
                    have H := H1
                    clear H1
                    exact absurd H (by simp)
          · rw [if_neg c10] at H
            exact absurd H (by simp)
        · rw [if_neg c9] at H
          exact absurd H (by simp)
      · rw [if_neg c6] at H
        exact absurd H (by simp)
    · rw [if_neg c5] at H
      exact absurd H (by simp)
  · rw [if_neg c4] at H
    exact absurd H (by simp)

/-- THE ONE PURE STATEMENT of linguistlaw1_UtfCuts. -/
def linguistlaw1_UtfCuts.Pure : Prop := ∀ (l0 : List Int) (a1 : Int), l0.length ≤ 9223372036854775807 → l0.length * 1 ≤ 140737488351232 → (∀ x ∈ l0, (Lit.int .u8 x).wf = true) → (Lit.int .i64 a1).wf = true → ∃ k, linguistlaw1_UtfCuts.f k l0 a1 = some true
theorem linguistlaw1_UtfCuts.walk (P : linguistlaw1_UtfCuts.Pure) (A0 : Option Addr) (c0 : Nat) (l0 : List Int) (a1 : Int) (w : World) (v0_0 : l0.length ≤ 9223372036854775807) (v0_1 : l0.length * 1 ≤ 140737488351232) (v0_2 : (∀ x ∈ l0, (Lit.int .u8 x).wf = true)) (w1 : (Lit.int .i64 a1).wf = true) (hr0 : Kd.C (Kd.int .u8) w A0 l0.length l0) (hc0 : l0.length ≤ c0) :
    Calls Try.prog 6 #[.slice A0 l0.length c0, .int .i64 a1] w fun e w' => e = .returned (.bool true) ∧ Below w.heap.size w w' := by
  obtain ⟨k, h⟩ := P l0 a1 v0_0 v0_1 v0_2 w1
  refine (linguistlaw1_UtfCuts.calls k A0 c0 l0 a1 true w hr0 hc0 h).mono ?_
  rintro e w' ⟨rfl, hd⟩
  exact ⟨rfl, hd⟩

end Go.Proofs.Ytnammlamdhpnpaa.GUtfCuts
