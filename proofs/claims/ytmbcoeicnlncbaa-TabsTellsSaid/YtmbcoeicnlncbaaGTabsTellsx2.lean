-- Written by a program of this session (out of the kit's printer); Lean checks it.
import Derived.Test.YtmbcoeicnlncbaaGTabsTellsx0
import Derived.Test.YtmbcoeicnlncbaaGTabsTellsx1
namespace Go.Proofs.Ytmbcoeicnlncbaa.GTabsTells
open Go.RowKit Go.Proofs.YtmbcoeicnlncbaaW.PrintWords Go.Proofs.YtmbcoeicnlncbaaW.PrintLast Go.Proofs.YtmbcoeicnlncbaaW.PrintMore
attribute [local go_sem] max2_int min2_int max_two min_two max_three min_three max_four min_four   -- for this text's walks alone
set_option linter.unusedVariables false
set_option linter.unusedSimpArgs false

/-! ### linguistbook_Roomy_int: function 15 -/
def linguistbook_Roomy_int.l0 : Nat → Int → List Int → Int → Option (List Int)
  | 0, _, _, _ => none
  | k + 1, x1, x5, x6 => if x6 < (x5.length : Int) then (if 0 ≤ x6 then (linguistbook_Roomy_int.l0 k x1 (x5.set (x6 : Int).toNat x1) (wrap64 (x6 + 1))) else (none)) else (some x5)
def linguistbook_Roomy_int.f (k : Nat) (l0 : List Int) (a1 : Int) : Option (List Int) := if 0 ≤ (wrap64 ((l0.length : Int) + 80)) then (if (wrap64 ((l0.length : Int) + 80) : Int).toNat ≤ 35184372088832 then ((some (List.replicate (wrap64 ((l0.length : Int) + 80) : Int).toNat 0 : List Int)).bind fun y126 => (if 0 < (y126.length : Int) then (linguistbook_Roomy_int.l0 k a1 (cpy y126 0 y126.length l0) (l0.length : Int)) else (none))) else (none)) else (none)
theorem linguistbook_Roomy_int.mono_l : ∀ k, (∀ y0 y1 y2, LeO (linguistbook_Roomy_int.l0 k y0 y1 y2) (linguistbook_Roomy_int.l0 (k + 1) y0 y1 y2))
  | 0 => fun _ _ _ r h => by simp [linguistbook_Roomy_int.l0] at h
  | k + 1 => by
    have ih0 := linguistbook_Roomy_int.mono_l k
    · intro y0 y1 y2
      unfold linguistbook_Roomy_int.l0
      repeat' first
      | (with_reducible exact ih0 _ _ _)
      | (with_reducible exact LeO.refl _)
      | (with_reducible exact LeO.none _)
      | (with_reducible refine LeO.ite ?_ ?_)
      | (with_reducible refine LeO.bind ?_ (fun _ => ?_))
      | exact ih0 _ _ _
      | exact LeO.none _
      | refine LeO.ite ?_ ?_
      | refine LeO.bind ?_ (fun _ => ?_)
theorem linguistbook_Roomy_int.mono : ∀ a0 a1 k, LeO (linguistbook_Roomy_int.f k a0 a1) (linguistbook_Roomy_int.f (k + 1) a0 a1) := by
  intro a0 a1 k
  have ih0 := linguistbook_Roomy_int.mono_l k
  unfold linguistbook_Roomy_int.f
  repeat' first
      | (with_reducible exact ih0 _ _ _)
      | (with_reducible exact LeO.refl _)
      | (with_reducible exact LeO.none _)
      | (with_reducible refine LeO.ite ?_ ?_)
      | (with_reducible refine LeO.bind ?_ (fun _ => ?_))
      | exact ih0 _ _ _
      | exact LeO.none _
      | refine LeO.ite ?_ ?_
      | refine LeO.bind ?_ (fun _ => ?_)
set_option maxHeartbeats 8000000 in
set_option maxRecDepth 100000 in
theorem linguistbook_Roomy_int.calls (k : Nat) (A0 : Option Addr) (c0 : Nat) (l0 : List Int) (a1 : Int) (r : List Int) (w : World) (hr0 : Kd.C (Kd.int .i64) w A0 l0.length l0) (hc0 : l0.length ≤ c0) (h : linguistbook_Roomy_int.f k l0 a1 = some r) :
    Calls Try.prog 15 #[.slice A0 l0.length c0, .int .i64 a1] w fun e w' => ∃ v0_ : Value, e = .returned (v0_) ∧ Kd.R (Kd.int .i64) 3 w' w.heap.size (fun _ => True) v0_ r ∧ Below w.heap.size w w' := by
  have HR0 := Aside0.mk hr0
  have HC0 := Aside0.mk hc0
  clear hr0 hc0
  have HB := Aside0.mk (Below.refl w.heap.size w)
  have H : (if 0 ≤ (wrap64 ((l0.length : Int) + 80)) then (if (wrap64 ((l0.length : Int) + 80) : Int).toNat ≤ 35184372088832 then ((some (List.replicate (wrap64 ((l0.length : Int) + 80) : Int).toNat 0 : List Int)).bind fun y126 => (if 0 < (y126.length : Int) then (linguistbook_Roomy_int.l0 k a1 (cpy y126 0 y126.length l0) (l0.length : Int)) else (none))) else (none)) else (none)) = some r := h
  clear h
  obtain ⟨ji3, hji3⟩ : ∃ j_ : Int, (wrap64 ((l0.length : Int) + 80)) = j_ := ⟨_, rfl⟩
  replace H : (if 0 ≤ (ji3) then (if (ji3 : Int).toNat ≤ 35184372088832 then ((some (List.replicate (ji3 : Int).toNat 0 : List Int)).bind fun y126 => (if 0 < (y126.length : Int) then (linguistbook_Roomy_int.l0 k a1 (cpy y126 0 y126.length l0) (l0.length : Int)) else (none))) else (none)) else (none)) = some r := by first | (rw [hji3] at H; exact H) | (simp only [hji3] at H ⊢; exact H)
  have hji3w : (IntKind.i64.wrap ((l0.length : Int) + 80)) = ji3 := (i64_w _).trans hji3
  by_cases c4 : 0 ≤ (ji3)
  · rw [if_pos c4] at H
    have c4b0 := eq_true c4
    have c4b1 : decide (0 ≤ (ji3)) = true := decide_eq_true c4
    clear c4
    by_cases c5 : (ji3 : Int).toNat ≤ 35184372088832
    · rw [if_pos c5] at H
      have c5b0 := eq_true c5
      have c5b1 : decide ((ji3 : Int).toNat ≤ 35184372088832) = true := decide_eq_true c5
      clear c5
      obtain ⟨y126, hy126⟩ : ∃ y_ : List Int, y_ = (List.replicate (ji3 : Int).toNat 0) := ⟨_, rfl⟩
      replace H : (if 0 < (y126.length : Int) then (linguistbook_Roomy_int.l0 k a1 (cpy y126 0 y126.length l0) (l0.length : Int)) else (none)) = some r := by first | (rw [hy126]; with_reducible exact H) | (have H2_ := (Option.bind_some _ _).symm.trans H; rw [hy126]; with_reducible exact H2_) | (have H2_ := (Option.bind_some _ _).symm.trans H; with_reducible exact H2_) | with_reducible exact H | (rw [hy126]; exact H) | exact H
      have Ny126 := Aside0.mk hy126
      clear hy126
      by_cases c6 : 0 < (y126.length : Int)
      · rw [if_pos c6] at H
        have c6b0 : decide (0 < (y126.length : Int)) = true := decide_eq_true c6
        have c6b1 : decide (0 < y126.length) = true := decide_eq_true (by omega)
        clear c6
        obtain ⟨y129, hy129⟩ : ∃ y_ : List Int, y_ = (cpy y126 0 y126.length l0) := ⟨_, rfl⟩
        replace H : (linguistbook_Roomy_int.l0 k a1 y129 (l0.length : Int)) = some r := by first | (rw [hy129]; with_reducible exact H) | (have H2_ := (Option.bind_some _ _).symm.trans H; rw [hy129]; with_reducible exact H2_) | (have H2_ := (Option.bind_some _ _).symm.trans H; with_reducible exact H2_) | with_reducible exact H | (rw [hy129]; exact H) | exact H
        have Ny129 := Aside0.mk hy129
        clear hy129
        have H' := Aside0.mk H
        clear H
        go_enter Try.func15, Try.ntmps15
        go_wp2_with (first | ((with_reducible refine gate_dst (N := 10) rfl ?_); refine Kd.R_make (Kd.int .i64) _ 3 rfl (N := 10) rfl 25 _ _ rfl ji3 rfl rfl Try.underlying25 (.int .i64 0) 8 info3 rfl (by decide) (by omega) 0 (ok := fun _ => True) (okp := fun _ => True) rfl (fun _ hk => hk) trivial (of_decide_eq_true (by first | (with_reducible assumption) | assumption)) (Nat.le_trans (Nat.mul_le_mul_right _ (of_decide_eq_true (by first | (with_reducible assumption) | assumption) : ji3.toNat ≤ 35184372088832)) (by omega)) (Below.refl _ _) (Nat.le_refl _) ?_; intro v127 w8 ho9 hb hg_ hnew_; clear hg_ hnew_; (first | rw [← Ny126.out] at ho9 | (simp only [Int.reduceToNat] at ho9; rw [← Ny126.out] at ho9)); have n0_ := Aside0.mk (Kd.R_lower ho9 (below_size (by repeat (first | (with_reducible first | exact HB.out | apply below_alloc | apply pw_below_drewN | apply below_drew1) | exact HB.out)))); have n1_ := Aside0.mk (below_step (by repeat (first | (with_reducible first | exact HB.out | apply below_alloc | apply pw_below_drewN | apply below_drew1) | exact HB.out)) hb); clear HB; have HO128 := n0_; have HB := n1_; clear n0_ n1_; clear hb ho9; have p7 : 0 ≤ (0 : Int) := (by omega); have q7 : (0 : Int) < ((y126.length : Int) : Int) := of_decide_eq_true (by first | (with_reducible assumption) | assumption); have qi7 : (0 < y126.length) = True := eq_true (by omega); obtain ⟨go7, co7, eo7, gb7, gl7, cl7, HG7⟩ := Kd.R_form HO128.out (by omega); (first | cases eo7 | (injection eo7 with ea_ en_ ec_; (first | subst ea_ | (injection ea_ with ea_; subst ea_)); subst ec_; clear en_)); have GB7 := Aside0.mk gb7; have GG7 := Aside0.mk HG7; clear gb7 gl7 HG7; obtain ⟨hx7_0, hf7_0⟩ := Kd.R_celln 0 HO128.out (0 : Int) p7 q7; (try rw [show ((0 : Int)).toNat = 0 from rfl] at hx7_0); (try simp only [Nat.reduceMul, Nat.zero_mul, Nat.zero_add, Nat.reduceAdd] at hx7_0); (try rw [show ((0 : Int)).toNat = 0 from rfl] at hf7_0); (try simp only [Nat.reduceMul, Nat.zero_mul, Nat.zero_add, Nat.reduceAdd] at hf7_0); replace p7 := eq_true p7; replace q7 := eq_true q7; obtain ⟨i010, hi010, _, hsz10, _⟩ := info_parts info3; obtain ⟨W110, hrun10, HP10⟩ := Kd.R_copyg (W := w8) (d := (Kd.int .i64)) (o := 0) (m := y126.length) (dCap := co7) (sCap := c0) (A := A0) (xs := y126) (ys := l0) (by (with_reducible repeat (first | apply Kd.R_alloc | apply Kd.R_drewN | apply Kd.R_drew)); exact HO128.out) (fun h => h) (fun h => h) (by repeat (first | exact (Kd.C_below HR0.out HB.out) | (with_reducible refine Kd.C_alloc ?_ _) | (with_reducible refine Kd.C_drewN ?_ _) | (with_reducible refine Kd.C_drew ?_))) (by have e_ := (Kd.R_reads' HO128.out).1; omega) (P := Try.prog) 25 25 3 Try.underlying25 (by rw [hi010]; exact congrArg some hsz10); clear hi010 hsz10; (try simp only [Nat.zero_mul, show ((Kd.int .i64)).sz = 1 from rfl, Nat.mul_one] at hrun10)) | ((with_reducible refine gate_builtin (b := .copy) (xs := #[.tmp 11, .tmp 12]) rfl ?_); refine copy_event rfl (s := .tmp 11) (x := .tmp 12) (t := 25) (t2 := 25) rfl ?hs ?hx hrun10 ?_; (case hs => first | rfl | (go_simp; done)); (case hx => first | rfl | (go_simp; done)); intro w11 hw; have hg : w8.grownBy w11 (some go7) := (by rw [hw]; exact HP10.2); have hp_ : Kd.R (Kd.int .i64) 3 w11 w.heap.size (fun _ => True) (.slice (some ⟨go7, 0, none⟩) y126.length co7) y129 := (by rw [hw, Ny129.out]; exact HP10.1); clear HP10 hrun10; have n0_ := Aside0.mk (hp_); have n1_ := Aside0.mk ((Below.grown (by repeat (first | (with_reducible first | exact HB.out | apply below_alloc | apply pw_below_drewN | apply below_drew1) | exact HB.out)) hg ((below_size (by repeat (first | (with_reducible first | exact HB.out | apply below_alloc | apply pw_below_drewN | apply below_drew1) | exact HB.out)))) (fun k_ e_ => by injection e_ with e_; rw [← e_]; exact GB7.out) : Below w.heap.size w w11)); clear HO128; clear HB; have HO128 := n0_; have HB := n1_; clear n0_ n1_; clear hg hw hp_))
        go_loopg [6] k (fun kq v6 w' => ∃ (x5_1 : List Int) (x6_1 : Int), v6 = .int .i64 x6_1 ∧ Aside0 (linguistbook_Roomy_int.l0 kq a1 x5_1 x6_1 = some r) ∧ Aside0 (kq ≤ k) ∧ Aside0 (Kd.R (Kd.int .i64) 3 w' w.heap.size (fun _ => True) (.slice (some ⟨go7, 0, none⟩) y126.length co7) x5_1) ∧ Aside0 (Below w.heap.size w w'))
        case atStart => exact ⟨(y129), ((l0.length : Int)), (by first | rfl | (simp; done) | (simp [*]; done)), H', ⟨Nat.le_refl _⟩, ⟨by (with_reducible repeat (first | apply Kd.R_alloc | apply Kd.R_drewN | apply Kd.R_drew)); exact HO128.out⟩, ⟨by repeat (first | (with_reducible first | exact HB.out | apply below_alloc | apply pw_below_drewN | apply below_drew1) | exact HB.out)⟩⟩
        case round =>
          clear H'
          try clear c1
          try clear p2
          try clear c4
          try clear c4b0
          try clear c4b1
          try clear c5
          try clear c5b0
          try clear c5b1
          try clear c6
          try clear c6b0
          try clear c6b1
          try clear p6
          try clear p7
          try clear q7
          try clear hx7
          try clear qi7
          try clear hf7
          try clear hx7_0
          try clear p7
          try clear q7
          obtain ⟨x5_1, x6_1, rfl, HA, HK1, HO_5, HB⟩ := hrel
          have hl5_1 := (Kd.R_reads' HO_5.out).1
          rw [hl5_1] at HO_5
          (try simp only [hl5_1])
          cases gk with
          | zero => exact absurd HA.out (by simp [linguistbook_Roomy_int.l0])
          | succ k1 =>
            have H := HA.out
            clear HA
            simp only [linguistbook_Roomy_int.l0] at H
            by_cases c12 : x6_1 < (x5_1.length : Int)
            · rw [if_pos c12] at H
              have c12b0 : decide (x6_1 < (x5_1.length : Int)) = true := decide_eq_true c12
              clear c12
              by_cases c13 : 0 ≤ x6_1
              · rw [if_pos c13] at H
                have c13b0 : decide (0 ≤ x6_1) = true := decide_eq_true c13
                clear c13
                obtain ⟨y130, hy130⟩ : ∃ y_ : List Int, y_ = (x5_1.set (x6_1 : Int).toNat a1) := ⟨_, rfl⟩
                replace H : (linguistbook_Roomy_int.l0 k1 a1 y130 (wrap64 (x6_1 + 1))) = some r := by first | (rw [hy130]; with_reducible exact H) | (have H2_ := (Option.bind_some _ _).symm.trans H; rw [hy130]; with_reducible exact H2_) | (have H2_ := (Option.bind_some _ _).symm.trans H; with_reducible exact H2_) | with_reducible exact H | (rw [hy130]; exact H) | exact H
                have Ny130 := Aside0.mk hy130
                clear hy130
                have H' := Aside0.mk H
                clear H
                have p14 : 0 ≤ (x6_1 : Int) := of_decide_eq_true (by first | (with_reducible assumption) | assumption)
                have q14 : (x6_1 : Int) < ((x5_1.length : Int) : Int) := of_decide_eq_true (by first | (with_reducible assumption) | assumption)
                obtain ⟨hx14_0, hf14_0⟩ := Kd.R_celln 0 HO_5.out (x6_1 : Int) p14 q14
                replace p14 := eq_true p14
                replace q14 := eq_true q14
                have HP15 := Kd.R_putg HO_5.out (x6_1 : Int) a1
                go_wp2_with (first | ((with_reducible refine gate_store (t := 3) (p := 25) rfl ?_); refine store_event (t := 3) (p := 25) (v := ?vo_w16) (w1 := (wr.setCell ⟨go7, (x6_1 : Int).toNat, none⟩ (.int .i64 a1))) ?hg ?ho ?hn ?hr ?_; (case ho => rfl); (case hg => rfl); (case hn => rfl); (case hr => first | (go_simp; done) | (go_simp; rfl)); intro w16 hw; have hg : wr.grownBy w16 (some go7) := (by rw [hw]; exact HP15.2); have hp_ : Kd.R (Kd.int .i64) 3 w16 w.heap.size (fun _ => True) (.slice (some ⟨go7, 0, none⟩) x5_1.length co7) y130 := (by rw [hw, Ny130.out]; exact HP15.1); clear HP15; have n0_ := Aside0.mk (hp_); have n1_ := Aside0.mk ((by rw [hw]; exact below_set (HB.out) GB7.out : Below w.heap.size w w16)); clear HO_5; clear HB; have HO_5 := n0_; have HB := n1_; clear n0_ n1_; clear hg hw hp_))
                (try simp only [← hl5_1])
                go_roundg k1
                case measure => have := HK1.out; omega
                case rel => exact ⟨(y130), (wrap64 (x6_1 + 1)), (by first | rfl | (simp; done) | (simp [*]; done)), H', ⟨by have := HK1.out; omega⟩, ⟨by (try simp only [hl5_1]); (with_reducible repeat (first | apply Kd.R_alloc | apply Kd.R_drewN | apply Kd.R_drew)); exact HO_5.out⟩, ⟨by repeat (first | (with_reducible first | exact HB.out | apply below_alloc | apply pw_below_drewN | apply below_drew1) | exact HB.out)⟩⟩
              · rw [if_neg c13] at H
                exact absurd H (by simp)
            · rw [if_neg c12] at H
              have c12b0 : decide (x6_1 < (x5_1.length : Int)) = false := decide_eq_false c12
              clear c12
              obtain rfl := Option.some.inj H
              go_wp2
              go_ret
              exact ⟨_, by first | rfl | (simp [errW_none, errW_some] <;> rfl) | (simp only [← hji3]; first | rfl | (simp [errW_none, errW_some] <;> rfl)) | (simp [*, errW_none, errW_some] <;> rfl), by (with_reducible repeat (first | apply Kd.R_alloc | apply Kd.R_drewN | apply Kd.R_drew)); exact HO_5.out, by repeat (first | (with_reducible first | exact HB.out | apply below_alloc | apply pw_below_drewN | apply below_drew1) | exact HB.out)⟩
      · rw [if_neg c6] at H
        exact absurd H (by simp)
    · rw [if_neg c5] at H
      exact absurd H (by simp)
  · rw [if_neg c4] at H
    exact absurd H (by simp)

/-! ### tabs_Drop: function 16 -/
def tabs_Drop.l0 : Nat → Int → List Int → Int → Int → Option (Int)
  | 0, _, _, _, _ => none
  | k + 1, x0, x7, x8, x9 => if x9 < x8 then (if 0 ≤ x9 then (if x9 < (x7.length : Int) then ((tabs_bit.f (rd x7 x9)).bind fun t132 => (tabs_Drop.l0 k (Go.bits .andNot .u64 x0 t132) x7 x8 (wrap64 (x9 + 1)))) else (none)) else (none)) else (some x0)
def tabs_Drop.f (k : Nat) (a0 : Int) (l1 : List Int) : Option (Int) := tabs_Drop.l0 k a0 l1 (l1.length : Int) 0
theorem tabs_Drop.mono_l : ∀ k, (∀ y0 y1 y2 y3, LeO (tabs_Drop.l0 k y0 y1 y2 y3) (tabs_Drop.l0 (k + 1) y0 y1 y2 y3))
  | 0 => fun _ _ _ _ r h => by simp [tabs_Drop.l0] at h
  | k + 1 => by
    have ih0 := tabs_Drop.mono_l k
    · intro y0 y1 y2 y3
      unfold tabs_Drop.l0
      repeat' first
      | (with_reducible exact ih0 _ _ _ _)
      | (with_reducible exact LeO.refl _)
      | (with_reducible exact LeO.none _)
      | (with_reducible refine LeO.ite ?_ ?_)
      | (with_reducible refine LeO.bind ?_ (fun _ => ?_))
      | exact ih0 _ _ _ _
      | exact LeO.none _
      | refine LeO.ite ?_ ?_
      | refine LeO.bind ?_ (fun _ => ?_)
theorem tabs_Drop.mono : ∀ a0 a1 k, LeO (tabs_Drop.f k a0 a1) (tabs_Drop.f (k + 1) a0 a1) := by
  intro a0 a1 k
  have ih0 := tabs_Drop.mono_l k
  unfold tabs_Drop.f
  repeat' first
      | (with_reducible exact ih0 _ _ _ _)
      | (with_reducible exact LeO.refl _)
      | (with_reducible exact LeO.none _)
      | (with_reducible refine LeO.ite ?_ ?_)
      | (with_reducible refine LeO.bind ?_ (fun _ => ?_))
      | exact ih0 _ _ _ _
      | exact LeO.none _
      | refine LeO.ite ?_ ?_
      | refine LeO.bind ?_ (fun _ => ?_)
set_option maxHeartbeats 8000000 in
set_option maxRecDepth 100000 in
theorem tabs_Drop.calls (k : Nat) (a0 : Int) (A1 : Option Addr) (c1 : Nat) (l1 : List Int) (r : Int) (w : World) (hr1 : Kd.C (Kd.int .i64) w A1 l1.length l1) (hc1 : l1.length ≤ c1) (h : tabs_Drop.f k a0 l1 = some r) :
    Calls Try.prog 16 #[.int .u64 a0, .slice A1 l1.length c1] w fun e w' => e = .returned (.int .u64 r) ∧ Drawn0 w w' := by
  have HR1 := Aside0.mk hr1
  have HC1 := Aside0.mk hc1
  clear hr1 hc1
  have H : (tabs_Drop.l0 k a0 l1 (l1.length : Int) 0) = some r := h
  clear h
  have H' := Aside0.mk H
  clear H
  go_enter Try.func16, Try.ntmps16
  go_wp2
  go_loopg [0, 9] k (fun kq v0 v9 w' => ∃ (x0_1 : Int) (x9_1 : Int), v0 = .int .u64 x0_1 ∧ v9 = .int .i64 x9_1 ∧ Aside0 (tabs_Drop.l0 kq x0_1 l1 (l1.length : Int) x9_1 = some r) ∧ Aside0 (kq ≤ k) ∧ Drawn0 w w')
  case atStart => exact ⟨(a0), (0), (by first | rfl | (simp; done) | (simp [*]; done)), (by first | rfl | (simp; done) | (simp [*]; done)), H', ⟨Nat.le_refl _⟩, by repeat (first | exact Drawn0.refl _ | apply Drawn0.step)⟩
  case round =>
    clear H'
    try clear c1
    try clear p2
    obtain ⟨x0_1, x9_1, rfl, rfl, HA, HK1, ⟨m1, rfl⟩⟩ := hrel
    cases gk with
    | zero => exact absurd HA.out (by simp [tabs_Drop.l0])
    | succ k1 =>
      have H := HA.out
      clear HA
      simp only [tabs_Drop.l0] at H
      by_cases c3 : x9_1 < (l1.length : Int)
      · rw [if_pos c3] at H
        have c3b0 : decide (x9_1 < (l1.length : Int)) = true := decide_eq_true c3
        clear c3
        by_cases c4 : 0 ≤ x9_1
        · rw [if_pos c4] at H
          have c4b0 : decide (0 ≤ x9_1) = true := decide_eq_true c4
          clear c4
          by_cases c5 : x9_1 < (l1.length : Int)
          · rw [if_pos c5] at H
            have c5b0 : decide (x9_1 < (l1.length : Int)) = true := decide_eq_true c5
            clear c5
            replace H := Option.bind_eq_some_iff.mp H
            obtain ⟨t132, A60, H⟩ := H
            replace H : (tabs_Drop.l0 k1 (Go.bits .andNot .u64 x0_1 t132) l1 (l1.length : Int) (wrap64 (x9_1 + 1))) = some r := H
            have A6 := Aside0.mk A60
            clear A60
            have H' := Aside0.mk H
            clear H
            have p131 : 0 ≤ (x9_1 : Int) := of_decide_eq_true (by first | (with_reducible assumption) | assumption)
            have q131 : x9_1 < (l1.length : Int) := of_decide_eq_true (by first | (with_reducible assumption) | assumption)
            obtain ⟨ad131, e131, hx131_0⟩ := Kd.at_int HR1.out x9_1 p131 q131
            cases e131
            replace p131 := eq_true p131
            replace q131 := eq_true q131
            go_wp2_with (first | ((with_reducible refine gate_callee (f := 20) rfl ?_); refine goesL_ (some 15) rfl rfl Try.func20 (by kernel_rfl) rfl #[.int .i64 (rd l1 x9_1)] rfl (by (try simp only [List.map_toArray, List.map_cons, List.map_nil]); first | done | rfl | (simp only [List.length_drop, List.length_take]; rfl) | (simp only [List.length_drop, List.length_take]; rw [Nat.min_eq_left (by first | assumption | omega)]; rfl)) ?_; (with_reducible refine (tabs_bit.calls (rd l1 x9_1) t132 _ A6.out).mono ?_); rintro e w' ⟨rfl, ⟨nd, rfl⟩⟩; refine ⟨_, rfl, ?_⟩))
            go_roundg k1
            case measure => have := HK1.out; omega
            case rel => exact ⟨(Go.bits .andNot .u64 x0_1 t132), (wrap64 (x9_1 + 1)), (by first | rfl | (simp; done) | (simp [*]; done)), (by first | rfl | (simp; done) | (simp [*]; done)), H', ⟨by have := HK1.out; omega⟩, by repeat (first | exact Drawn0.refl _ | apply Drawn0.step)⟩
          · rw [if_neg c5] at H
            exact absurd H (by simp)
        · rw [if_neg c4] at H
          exact absurd H (by simp)
      · rw [if_neg c3] at H
        have c3b0 : decide (x9_1 < (l1.length : Int)) = false := decide_eq_false c3
        clear c3
        obtain rfl := Option.some.inj H
        go_wp2
        go_ret
        exact ⟨by first | rfl | (simp; done) | (simp [*]; done), by repeat (first | exact Drawn0.refl _ | apply Drawn0.step)⟩

/-! ### linguistbook_Intact_int: function 17 -/
mutual
def linguistbook_Intact_int.j0 : Nat → List Int → List Int → Int → Bool → Option (Bool)
  | 0, _, _, _, _ => none
  | k + 1, x0, x1, x2, x22 => if x22 = true then (some false) else (linguistbook_Intact_int.l0 k x0 x2 (x1.length : Int))
def linguistbook_Intact_int.l0 : Nat → List Int → Int → Int → Option (Bool)
  | 0, _, _, _ => none
  | k + 1, x0, x2, x7 => if x7 < (x0.length : Int) then (if 0 ≤ x7 then (if (rd x0 x7) = x2 then (linguistbook_Intact_int.l0 k x0 x2 (wrap64 (x7 + 1))) else (some false)) else (none)) else (some true)
end
def linguistbook_Intact_int.f (k : Nat) (l0 : List Int) (l1 : List Int) (a2 : Int) : Option (Bool) := if (l0.length : Int) = (wrap64 ((l1.length : Int) + 80)) then (if 0 ≤ (l1.length : Int) then (if (l1.length : Int) ≤ (l0.length : Int) then ((linguistbook_Same_int.f k (l0.take ((l1.length : Int) : Int).toNat) l1).bind fun t134 => (linguistbook_Intact_int.j0 k l0 l1 a2 (!t134))) else (none)) else (none)) else (linguistbook_Intact_int.j0 k l0 l1 a2 true)
theorem linguistbook_Intact_int.mono_l : ∀ k, (∀ y0 y1 y2 y3, LeO (linguistbook_Intact_int.j0 k y0 y1 y2 y3) (linguistbook_Intact_int.j0 (k + 1) y0 y1 y2 y3)) ∧ (∀ y0 y1 y2, LeO (linguistbook_Intact_int.l0 k y0 y1 y2) (linguistbook_Intact_int.l0 (k + 1) y0 y1 y2))
  | 0 => ⟨fun _ _ _ _ r h => by simp [linguistbook_Intact_int.j0] at h, fun _ _ _ r h => by simp [linguistbook_Intact_int.l0] at h⟩
  | k + 1 => by
    obtain ⟨ih0, ih1⟩ := linguistbook_Intact_int.mono_l k
    refine ⟨?_, ?_⟩
    · intro y0 y1 y2 y3
      unfold linguistbook_Intact_int.j0
      repeat' first
      | (with_reducible exact ih0 _ _ _ _)
      | (with_reducible exact ih1 _ _ _)
      | (with_reducible exact linguistbook_Same_int.mono _ _ _)
      | (with_reducible exact LeO.refl _)
      | (with_reducible exact LeO.none _)
      | (with_reducible refine LeO.ite ?_ ?_)
      | (with_reducible refine LeO.bind ?_ (fun _ => ?_))
      | exact ih0 _ _ _ _
      | exact ih1 _ _ _
      | exact linguistbook_Same_int.mono _ _ _
      | exact LeO.none _
      | refine LeO.ite ?_ ?_
      | refine LeO.bind ?_ (fun _ => ?_)
    · intro y0 y1 y2
      unfold linguistbook_Intact_int.l0
      repeat' first
      | (with_reducible exact ih0 _ _ _ _)
      | (with_reducible exact ih1 _ _ _)
      | (with_reducible exact linguistbook_Same_int.mono _ _ _)
      | (with_reducible exact LeO.refl _)
      | (with_reducible exact LeO.none _)
      | (with_reducible refine LeO.ite ?_ ?_)
      | (with_reducible refine LeO.bind ?_ (fun _ => ?_))
      | exact ih0 _ _ _ _
      | exact ih1 _ _ _
      | exact linguistbook_Same_int.mono _ _ _
      | exact LeO.none _
      | refine LeO.ite ?_ ?_
      | refine LeO.bind ?_ (fun _ => ?_)
theorem linguistbook_Intact_int.mono : ∀ a0 a1 a2 k, LeO (linguistbook_Intact_int.f k a0 a1 a2) (linguistbook_Intact_int.f (k + 1) a0 a1 a2) := by
  intro a0 a1 a2 k
  obtain ⟨ih0, ih1⟩ := linguistbook_Intact_int.mono_l k
  unfold linguistbook_Intact_int.f
  repeat' first
      | (with_reducible exact ih0 _ _ _ _)
      | (with_reducible exact ih1 _ _ _)
      | (with_reducible exact linguistbook_Same_int.mono _ _ _)
      | (with_reducible exact LeO.refl _)
      | (with_reducible exact LeO.none _)
      | (with_reducible refine LeO.ite ?_ ?_)
      | (with_reducible refine LeO.bind ?_ (fun _ => ?_))
      | exact ih0 _ _ _ _
      | exact ih1 _ _ _
      | exact linguistbook_Same_int.mono _ _ _
      | exact LeO.none _
      | refine LeO.ite ?_ ?_
      | refine LeO.bind ?_ (fun _ => ?_)
set_option maxHeartbeats 8000000 in
set_option maxRecDepth 100000 in
theorem linguistbook_Intact_int.calls (k : Nat) (A0 : Option Addr) (c0 : Nat) (l0 : List Int) (A1 : Option Addr) (c1 : Nat) (l1 : List Int) (a2 : Int) (r : Bool) (w : World) (hr0 : Kd.C (Kd.int .i64) w A0 l0.length l0) (hc0 : l0.length ≤ c0) (hr1 : Kd.C (Kd.int .i64) w A1 l1.length l1) (hc1 : l1.length ≤ c1) (h : linguistbook_Intact_int.f k l0 l1 a2 = some r) :
    Calls Try.prog 17 #[.slice A0 l0.length c0, .slice A1 l1.length c1, .int .i64 a2] w fun e w' => e = .returned (.bool r) ∧ Drawn0 w w' := by
  have HR0 := Aside0.mk hr0
  have HC0 := Aside0.mk hc0
  clear hr0 hc0
  have HR1 := Aside0.mk hr1
  have HC1 := Aside0.mk hc1
  clear hr1 hc1
  have H : (if (l0.length : Int) = (wrap64 ((l1.length : Int) + 80)) then (if 0 ≤ (l1.length : Int) then (if (l1.length : Int) ≤ (l0.length : Int) then ((linguistbook_Same_int.f k (l0.take ((l1.length : Int) : Int).toNat) l1).bind fun t134 => (linguistbook_Intact_int.j0 k l0 l1 a2 (!t134))) else (none)) else (none)) else (linguistbook_Intact_int.j0 k l0 l1 a2 true)) = some r := h
  clear h
  have HC4 := Aside0.mk H
  clear H
  go_enter Try.func17, Try.ntmps17
  go_upto_region 1 with (fail)
  go_cut [22] (fun v22 wc => ∃ (kq : Nat) (x22_3 : Bool), v22 = .bool x22_3 ∧ Aside0 (linguistbook_Intact_int.j0 kq l0 l1 a2 x22_3 = some r) ∧ Aside0 (kq ≤ k) ∧ Drawn0 w wc)
  case first =>
    have H := HC4.out
    clear HC4
    by_cases c5 : (l0.length : Int) = (wrap64 ((l1.length : Int) + 80))
    · rw [if_pos c5] at H
      have c5b0 : ((l0.length : Int) == (wrap64 ((l1.length : Int) + 80))) = true := beq_iff_eq.mpr c5
      have c5b1 : ((l0.length : Int) != (wrap64 ((l1.length : Int) + 80))) = false := bne_eq_false_iff_eq.mpr c5
      clear c5
      (first | rw [c5b0] | (simp only [i64_w, i32_w]; rw [c5b0]) | skip)
      by_cases c6 : 0 ≤ (l1.length : Int)
      · rw [if_pos c6] at H
        have c6b0 := eq_true c6
        have c6b1 : decide (0 ≤ (l1.length : Int)) = true := decide_eq_true c6
        clear c6
        by_cases c7 : (l1.length : Int) ≤ (l0.length : Int)
        · rw [if_pos c7] at H
          have c7b0 := eq_true c7
          have c7b1 : decide ((l1.length : Int) ≤ (l0.length : Int)) = true := decide_eq_true c7
          clear c7
          replace H := Option.bind_eq_some_iff.mp H
          obtain ⟨t134, A80, H⟩ := H
          replace H : (linguistbook_Intact_int.j0 k l0 l1 a2 (!t134)) = some r := H
          have A8 := Aside0.mk A80
          clear A80
          have H' := Aside0.mk H
          clear H
          obtain ⟨i09, hi09, _, hsz9, _⟩ := info_parts info3
          obtain ⟨hcut9, hA9, hC9⟩ := print_take_of (P := Try.prog) (Value.int .i64) 0 25 3 .i64 Try.underlying25 hi09 hsz9 A0 c0 l0 (l1.length : Int) (of_decide_eq_true (by first | (with_reducible assumption) | assumption)) (of_decide_eq_true (by first | (with_reducible assumption) | assumption)) HC0.out
          have HR133 := Aside0.mk (Kd.C_of_reads (h1 := fun _ => rfl) (hA9 _ (Kd.reads_of_C HR0.out)))
          have HC133 := Aside0.mk hC9
          clear hA9 hC9 hi09 hsz9
          go_wp2_with (first | (go_at_call 9; refine calls_of_args (args' := #[.slice A0 (l0.take ((l1.length : Int) : Int).toNat).length c0, .slice A1 l1.length c1]) (by first | rfl | (simp only [List.length_take, List.length_drop, Int.toNat_natCast]; done) | (simp only [List.length_take, List.length_drop, Int.toNat_natCast]; rfl)) ?_; (with_reducible refine (linguistbook_Same_int.calls k _ _ (l0.take ((l1.length : Int) : Int).toNat) _ _ l1 t134 _ ?side1 ?side2 ?side3 ?side4 A8.out).mono ?_); (case side1 => repeat (first | exact HR133.out | (with_reducible refine Kd.C_alloc ?_ _) | (with_reducible refine Kd.C_drewN ?_ _) | (with_reducible refine Kd.C_drew ?_))); (case side2 => exact HC133.out); (case side3 => repeat (first | exact HR1.out | (with_reducible refine Kd.C_alloc ?_ _) | (with_reducible refine Kd.C_drewN ?_ _) | (with_reducible refine Kd.C_drew ?_))); (case side4 => exact HC1.out); rintro e w' ⟨rfl, ⟨nd, rfl⟩⟩))
          go_meet
          case rel => exact ⟨_, (!t134), (by first | rfl | (simp; done) | (simp [*]; done)), H', ⟨by first | omega | exact Nat.le_refl _⟩, by repeat (first | exact Drawn0.refl _ | apply Drawn0.step)⟩
        · rw [if_neg c7] at H
          exact absurd H (by simp)
      · rw [if_neg c6] at H
        exact absurd H (by simp)
    · rw [if_neg c5] at H
      have c5b0 : ((l0.length : Int) == (wrap64 ((l1.length : Int) + 80))) = false := beq_eq_false_iff_ne.mpr c5
      have c5b1 : ((l0.length : Int) != (wrap64 ((l1.length : Int) + 80))) = true := bne_iff_ne.mpr c5
      (first | rw [c5b0] | (simp only [i64_w, i32_w]; rw [c5b0]) | skip)
      have H' := Aside0.mk H
      clear H
      go_wp2
      go_meet
      case rel => exact ⟨_, (true), (by first | rfl | (simp; done) | (simp [*]; done)), H', ⟨by first | omega | exact Nat.le_refl _⟩, by repeat (first | exact Drawn0.refl _ | apply Drawn0.step)⟩
  case rest =>
    clear HC4
    try clear c1
    try clear p2
    try clear c5
    try clear c5b0
    try clear c5b1
    try clear c6
    try clear c6b0
    try clear c6b1
    try clear p6
    try clear c7
    try clear c7b0
    try clear c7b1
    obtain ⟨kq, x22_3, rfl, HA, HJ3, ⟨mc3, rfl⟩⟩ := hcut
    cases kq with
    | zero => exact absurd HA.out (by simp [linguistbook_Intact_int.j0])
    | succ kj3 =>
      have H := HA.out
      clear HA
      simp only [linguistbook_Intact_int.j0] at H
      by_cases c10 : x22_3 = true
      · subst c10
        have H1 : (some false) = some r := by rw [if_pos rfl] at H; exact H
        clear H
        have H := H1
        clear H1
        obtain rfl := Option.some.inj H
        go_wp2
        go_ret
        exact ⟨by first | rfl | (simp; done) | (simp [*]; done), by repeat (first | exact Drawn0.refl _ | apply Drawn0.step)⟩
      · replace c10 := Bool.eq_false_iff.mpr c10
        subst c10
        have H1 : (linguistbook_Intact_int.l0 kj3 l0 a2 (l1.length : Int)) = some r := by rw [if_neg (show ¬ (false = true) by decide)] at H; exact H
        clear H
        have H := H1
        clear H1
        have H' := Aside0.mk H
        clear H
        go_wp2
        go_loopg [7] kj3 (fun kq v7 w' => ∃ (x7_2 : Int), v7 = .int .i64 x7_2 ∧ Aside0 (linguistbook_Intact_int.l0 kq l0 a2 x7_2 = some r) ∧ Aside0 (kq ≤ kj3) ∧ Drawn0 w w')
        case atStart => exact ⟨((l1.length : Int)), (by first | rfl | (simp; done) | (simp [*]; done)), H', ⟨Nat.le_refl _⟩, by repeat (first | exact Drawn0.refl _ | apply Drawn0.step)⟩
        case round =>
          clear H'
          try clear c1
          try clear p2
          try clear c3
          try clear c5
          try clear c5b0
          try clear c5b1
          try clear c6
          try clear c6b0
          try clear c6b1
          try clear p6
          try clear c7
          try clear c7b0
          try clear c7b1
          try clear c10
          try clear p2
          try clear p6
          obtain ⟨x7_2, rfl, HA, HK2, ⟨m2, rfl⟩⟩ := hrel
          cases gk with
          | zero => exact absurd HA.out (by simp [linguistbook_Intact_int.l0])
          | succ k2 =>
            have H := HA.out
            clear HA
            simp only [linguistbook_Intact_int.l0] at H
            by_cases c11 : x7_2 < (l0.length : Int)
            · rw [if_pos c11] at H
              have c11b0 : decide (x7_2 < (l0.length : Int)) = true := decide_eq_true c11
              clear c11
              by_cases c12 : 0 ≤ x7_2
              · rw [if_pos c12] at H
                have c12b0 : decide (0 ≤ x7_2) = true := decide_eq_true c12
                clear c12
                by_cases c13 : (rd l0 x7_2) = a2
                · rw [if_pos c13] at H
                  have c13b0 : ((rd l0 x7_2) == a2) = true := beq_iff_eq.mpr c13
                  have c13b1 : ((rd l0 x7_2) != a2) = false := bne_eq_false_iff_eq.mpr c13
                  clear c13
                  have H' := Aside0.mk H
                  clear H
                  have p135 : 0 ≤ (x7_2 : Int) := of_decide_eq_true (by first | (with_reducible assumption) | assumption)
                  have q135 : x7_2 < (l0.length : Int) := of_decide_eq_true (by first | (with_reducible assumption) | assumption)
                  obtain ⟨ad135, e135, hx135_0⟩ := Kd.at_int HR0.out x7_2 p135 q135
                  cases e135
                  replace p135 := eq_true p135
                  replace q135 := eq_true q135
                  go_wp2
                  go_roundg k2
                  case measure => have := HJ3.out; have := HK2.out; omega
                  case rel => exact ⟨(wrap64 (x7_2 + 1)), (by first | rfl | (simp; done) | (simp [*]; done)), H', ⟨by have := HJ3.out; have := HK2.out; omega⟩, by repeat (first | exact Drawn0.refl _ | apply Drawn0.step)⟩
                · rw [if_neg c13] at H
                  have c13b0 : ((rd l0 x7_2) == a2) = false := beq_eq_false_iff_ne.mpr c13
                  have c13b1 : ((rd l0 x7_2) != a2) = true := bne_iff_ne.mpr c13
                  obtain rfl := Option.some.inj H
                  have p135 : 0 ≤ (x7_2 : Int) := of_decide_eq_true (by first | (with_reducible assumption) | assumption)
                  have q135 : x7_2 < (l0.length : Int) := of_decide_eq_true (by first | (with_reducible assumption) | assumption)
                  obtain ⟨ad135, e135, hx135_0⟩ := Kd.at_int HR0.out x7_2 p135 q135
                  cases e135
                  replace p135 := eq_true p135
                  replace q135 := eq_true q135
                  go_wp2
                  go_ret
                  exact ⟨by first | rfl | (simp; done) | (simp [*]; done), by repeat (first | exact Drawn0.refl _ | apply Drawn0.step)⟩
              · rw [if_neg c12] at H
                exact absurd H (by simp)
            · rw [if_neg c11] at H
              have c11b0 : decide (x7_2 < (l0.length : Int)) = false := decide_eq_false c11
              clear c11
              obtain rfl := Option.some.inj H
              go_wp2
              go_ret
              exact ⟨by first | rfl | (simp; done) | (simp [*]; done), by repeat (first | exact Drawn0.refl _ | apply Drawn0.step)⟩

/-! ### linguistref7_NextTab: function 18 -/
def linguistref7_NextTab.l0 : Nat → Int → Int → Int → Option (Int)
  | 0, _, _, _ => none
  | k + 1, x0, x2, x7 => if x7 < x2 then (if 0 ≤ (IntKind.u64.wrap (x7)) then (if (Go.bits .and .u64 (shr .u64 x0 (IntKind.u64.wrap (x7))) 1) = 1 then (some x7) else (linguistref7_NextTab.l0 k x0 x2 (wrap64 (x7 + 1)))) else (none)) else (some (wrap64 (x2 - 1)))
def linguistref7_NextTab.f (k : Nat) (a0 : Int) (a1 : Int) (a2 : Int) : Option (Int) := linguistref7_NextTab.l0 k a0 a2 (wrap64 (a1 + 1))
theorem linguistref7_NextTab.mono_l : ∀ k, (∀ y0 y1 y2, LeO (linguistref7_NextTab.l0 k y0 y1 y2) (linguistref7_NextTab.l0 (k + 1) y0 y1 y2))
  | 0 => fun _ _ _ r h => by simp [linguistref7_NextTab.l0] at h
  | k + 1 => by
    have ih0 := linguistref7_NextTab.mono_l k
    · intro y0 y1 y2
      unfold linguistref7_NextTab.l0
      repeat' first
      | (with_reducible exact ih0 _ _ _)
      | (with_reducible exact LeO.refl _)
      | (with_reducible exact LeO.none _)
      | (with_reducible refine LeO.ite ?_ ?_)
      | (with_reducible refine LeO.bind ?_ (fun _ => ?_))
      | exact ih0 _ _ _
      | exact LeO.none _
      | refine LeO.ite ?_ ?_
      | refine LeO.bind ?_ (fun _ => ?_)
theorem linguistref7_NextTab.mono : ∀ a0 a1 a2 k, LeO (linguistref7_NextTab.f k a0 a1 a2) (linguistref7_NextTab.f (k + 1) a0 a1 a2) := by
  intro a0 a1 a2 k
  have ih0 := linguistref7_NextTab.mono_l k
  unfold linguistref7_NextTab.f
  repeat' first
      | (with_reducible exact ih0 _ _ _)
      | (with_reducible exact LeO.refl _)
      | (with_reducible exact LeO.none _)
      | (with_reducible refine LeO.ite ?_ ?_)
      | (with_reducible refine LeO.bind ?_ (fun _ => ?_))
      | exact ih0 _ _ _
      | exact LeO.none _
      | refine LeO.ite ?_ ?_
      | refine LeO.bind ?_ (fun _ => ?_)
set_option maxHeartbeats 8000000 in
set_option maxRecDepth 100000 in
theorem linguistref7_NextTab.calls (k : Nat) (a0 : Int) (a1 : Int) (a2 : Int) (r : Int) (w : World) (h : linguistref7_NextTab.f k a0 a1 a2 = some r) :
    Calls Try.prog 18 #[.int .u64 a0, .int .i64 a1, .int .i64 a2] w fun e w' => e = .returned (.int .i64 r) ∧ Drawn0 w w' := by
  have H : (linguistref7_NextTab.l0 k a0 a2 (wrap64 (a1 + 1))) = some r := h
  clear h
  have H' := Aside0.mk H
  clear H
  go_enter Try.func18, Try.ntmps18
  go_wp2
  go_loopg [7] k (fun kq v7 w' => ∃ (x7_1 : Int), v7 = .int .i64 x7_1 ∧ Aside0 (linguistref7_NextTab.l0 kq a0 a2 x7_1 = some r) ∧ Aside0 (kq ≤ k) ∧ Drawn0 w w')
  case atStart => exact ⟨(wrap64 (a1 + 1)), (by first | rfl | (simp; done) | (simp [*]; done)), H', ⟨Nat.le_refl _⟩, by repeat (first | exact Drawn0.refl _ | apply Drawn0.step)⟩
  case round =>
    clear H'
    try clear c1
    try clear p2
    obtain ⟨x7_1, rfl, HA, HK1, ⟨m1, rfl⟩⟩ := hrel
    cases gk with
    | zero => exact absurd HA.out (by simp [linguistref7_NextTab.l0])
    | succ k1 =>
      have H := HA.out
      clear HA
      simp only [linguistref7_NextTab.l0] at H
      by_cases c4 : x7_1 < a2
      · rw [if_pos c4] at H
        have c4b0 : decide (x7_1 < a2) = true := decide_eq_true c4
        clear c4
        obtain ⟨ji5, hji5⟩ : ∃ j_ : Int, (IntKind.u64.wrap (x7_1)) = j_ := ⟨_, rfl⟩
        replace H : (if 0 ≤ (ji5) then (if (Go.bits .and .u64 (shr .u64 a0 (ji5)) 1) = 1 then (some x7_1) else (linguistref7_NextTab.l0 k1 a0 a2 (wrap64 (x7_1 + 1)))) else (none)) = some r := by first | (rw [hji5] at H; exact H) | (simp only [hji5] at H ⊢; exact H)
        by_cases c6 : 0 ≤ (ji5)
        · rw [if_pos c6] at H
          have c6b0 := eq_true c6
          have c6b1 : decide (0 ≤ (ji5)) = true := decide_eq_true c6
          clear c6
          obtain ⟨ji7, hji7⟩ : ∃ j_ : Int, (shr .u64 a0 (ji5)) = j_ := ⟨_, rfl⟩
          replace H : (if (Go.bits .and .u64 (ji7) 1) = 1 then (some x7_1) else (linguistref7_NextTab.l0 k1 a0 a2 (wrap64 (x7_1 + 1)))) = some r := by first | (rw [hji7] at H; exact H) | (simp only [hji7] at H ⊢; exact H)
          have hji7_ : (a0 / 2 ^ min (ji5).toNat 64) = ji7 := hji7
          have hji7z : (ji5) ≤ 64 → (a0 / 2 ^ (ji5).toNat) = ji7 := shr_small hji7
          by_cases c8 : (Go.bits .and .u64 (ji7) 1) = 1
          · rw [if_pos c8] at H
            have c8b0 : ((Go.bits .and .u64 (ji7) 1) == 1) = true := beq_iff_eq.mpr c8
            have c8b1 : ((Go.bits .and .u64 (ji7) 1) != 1) = false := bne_eq_false_iff_eq.mpr c8
            clear c8
            obtain rfl := Option.some.inj H
            go_wp2
            go_ret
            exact ⟨by first | rfl | (simp; done) | (simp only [← hji5, ← hji7] <;> (first | rfl | simp)) | (simp [*]; done), by repeat (first | exact Drawn0.refl _ | apply Drawn0.step)⟩
          · rw [if_neg c8] at H
            have c8b0 : ((Go.bits .and .u64 (ji7) 1) == 1) = false := beq_eq_false_iff_ne.mpr c8
            have c8b1 : ((Go.bits .and .u64 (ji7) 1) != 1) = true := bne_iff_ne.mpr c8
            have H' := Aside0.mk H
            clear H
            go_wp2
            go_roundg k1
            case measure => have := HK1.out; omega
            case rel => exact ⟨(wrap64 (x7_1 + 1)), (by first | rfl | (simp; done) | (simp [*]; done)), H', ⟨by have := HK1.out; omega⟩, by repeat (first | exact Drawn0.refl _ | apply Drawn0.step)⟩
        · rw [if_neg c6] at H
          exact absurd H (by simp)
      · rw [if_neg c4] at H
        have c4b0 : decide (x7_1 < a2) = false := decide_eq_false c4
        clear c4
        obtain rfl := Option.some.inj H
        go_wp2
        go_ret
        exact ⟨by first | rfl | (simp; done) | (simp [*]; done), by repeat (first | exact Drawn0.refl _ | apply Drawn0.step)⟩

/-! ### linguistref7_Tabs: function 19 -/
def linguistref7_Tabs.l0 : Nat → Int → Int → Int → Option (Int)
  | 0, _, _, _ => none
  | k + 1, x0, x3, x4 => if x4 < x0 then (if 0 ≤ (IntKind.u64.wrap (x4)) then (linguistref7_Tabs.l0 k x0 (Go.bits .or .u64 x3 (shl .u64 1 (IntKind.u64.wrap (x4)))) (wrap64 (x4 + 8))) else (none)) else (some x3)
def linguistref7_Tabs.f (k : Nat) (a0 : Int) : Option (Int) := linguistref7_Tabs.l0 k a0 0 8
theorem linguistref7_Tabs.mono_l : ∀ k, (∀ y0 y1 y2, LeO (linguistref7_Tabs.l0 k y0 y1 y2) (linguistref7_Tabs.l0 (k + 1) y0 y1 y2))
  | 0 => fun _ _ _ r h => by simp [linguistref7_Tabs.l0] at h
  | k + 1 => by
    have ih0 := linguistref7_Tabs.mono_l k
    · intro y0 y1 y2
      unfold linguistref7_Tabs.l0
      repeat' first
      | (with_reducible exact ih0 _ _ _)
      | (with_reducible exact LeO.refl _)
      | (with_reducible exact LeO.none _)
      | (with_reducible refine LeO.ite ?_ ?_)
      | (with_reducible refine LeO.bind ?_ (fun _ => ?_))
      | exact ih0 _ _ _
      | exact LeO.none _
      | refine LeO.ite ?_ ?_
      | refine LeO.bind ?_ (fun _ => ?_)
theorem linguistref7_Tabs.mono : ∀ a0 k, LeO (linguistref7_Tabs.f k a0) (linguistref7_Tabs.f (k + 1) a0) := by
  intro a0 k
  have ih0 := linguistref7_Tabs.mono_l k
  unfold linguistref7_Tabs.f
  repeat' first
      | (with_reducible exact ih0 _ _ _)
      | (with_reducible exact LeO.refl _)
      | (with_reducible exact LeO.none _)
      | (with_reducible refine LeO.ite ?_ ?_)
      | (with_reducible refine LeO.bind ?_ (fun _ => ?_))
      | exact ih0 _ _ _
      | exact LeO.none _
      | refine LeO.ite ?_ ?_
      | refine LeO.bind ?_ (fun _ => ?_)
set_option maxHeartbeats 8000000 in
set_option maxRecDepth 100000 in
theorem linguistref7_Tabs.calls (k : Nat) (a0 : Int) (r : Int) (w : World) (h : linguistref7_Tabs.f k a0 = some r) :
    Calls Try.prog 19 #[.int .i64 a0] w fun e w' => e = .returned (.int .u64 r) ∧ Drawn0 w w' := by
  have H : (linguistref7_Tabs.l0 k a0 0 8) = some r := h
  clear h
  have H' := Aside0.mk H
  clear H
  go_enter Try.func19, Try.ntmps19
  go_wp2
  go_loopg [3, 4] k (fun kq v3 v4 w' => ∃ (x3_1 : Int) (x4_1 : Int), v3 = .int .u64 x3_1 ∧ v4 = .int .i64 x4_1 ∧ Aside0 (linguistref7_Tabs.l0 kq a0 x3_1 x4_1 = some r) ∧ Aside0 (kq ≤ k) ∧ Drawn0 w w')
  case atStart => exact ⟨(0), (8), (by first | rfl | (simp; done) | (simp [*]; done)), (by first | rfl | (simp; done) | (simp [*]; done)), H', ⟨Nat.le_refl _⟩, by repeat (first | exact Drawn0.refl _ | apply Drawn0.step)⟩
  case round =>
    clear H'
    try clear c1
    obtain ⟨x3_1, x4_1, rfl, rfl, HA, HK1, ⟨m1, rfl⟩⟩ := hrel
    cases gk with
    | zero => exact absurd HA.out (by simp [linguistref7_Tabs.l0])
    | succ k1 =>
      have H := HA.out
      clear HA
      simp only [linguistref7_Tabs.l0] at H
      by_cases c2 : x4_1 < a0
      · rw [if_pos c2] at H
        have c2b0 : decide (x4_1 < a0) = true := decide_eq_true c2
        clear c2
        obtain ⟨ji3, hji3⟩ : ∃ j_ : Int, (IntKind.u64.wrap (x4_1)) = j_ := ⟨_, rfl⟩
        replace H : (if 0 ≤ (ji3) then (linguistref7_Tabs.l0 k1 a0 (Go.bits .or .u64 x3_1 (shl .u64 1 (ji3))) (wrap64 (x4_1 + 8))) else (none)) = some r := by first | (rw [hji3] at H; exact H) | (simp only [hji3] at H ⊢; exact H)
        by_cases c4 : 0 ≤ (ji3)
        · rw [if_pos c4] at H
          have c4b0 := eq_true c4
          have c4b1 : decide (0 ≤ (ji3)) = true := decide_eq_true c4
          clear c4
          obtain ⟨ji5, hji5⟩ : ∃ j_ : Int, (shl .u64 1 (ji3)) = j_ := ⟨_, rfl⟩
          replace H : (linguistref7_Tabs.l0 k1 a0 (Go.bits .or .u64 x3_1 (ji5)) (wrap64 (x4_1 + 8))) = some r := by first | (rw [hji5] at H; exact H) | (simp only [hji5] at H ⊢; exact H)
          have hji5_ : (IntKind.u64.wrap (1 * 2 ^ min (ji3).toNat 64)) = ji5 := hji5
          have hji5z : (ji3) ≤ 64 → (IntKind.u64.wrap (1 * 2 ^ (ji3).toNat)) = ji5 := shl_small hji5
          have hji5u : (IntKind.u64.wrap (2 ^ min (ji3).toNat 64)) = ji5 := by have h_ := hji5_; rw [Int.one_mul] at h_; exact h_
          have hji5v : (ji3) ≤ 64 → (IntKind.u64.wrap (2 ^ (ji3).toNat)) = ji5 := fun hle_ => by have h_ := hji5z hle_; rw [Int.one_mul] at h_; exact h_
          have H' := Aside0.mk H
          clear H
          go_wp2
          go_roundg k1
          case measure => have := HK1.out; omega
          case rel => exact ⟨(Go.bits .or .u64 x3_1 (ji5)), (wrap64 (x4_1 + 8)), (by first | rfl | (simp; done) | (simp only [← hji5] <;> (first | rfl | simp)) | (simp [*]; done)), (by first | rfl | (simp; done) | (simp [*]; done)), H', ⟨by have := HK1.out; omega⟩, by repeat (first | exact Drawn0.refl _ | apply Drawn0.step)⟩
        · rw [if_neg c4] at H
          exact absurd H (by simp)
      · rw [if_neg c2] at H
        have c2b0 : decide (x4_1 < a0) = false := decide_eq_false c2
        clear c2
        obtain rfl := Option.some.inj H
        go_wp2
        go_ret
        exact ⟨by first | rfl | (simp; done) | (simp [*]; done), by repeat (first | exact Drawn0.refl _ | apply Drawn0.step)⟩

end Go.Proofs.Ytmbcoeicnlncbaa.GTabsTells
