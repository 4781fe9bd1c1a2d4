/- Texts of this session, joined (bundle2.py): WEditRows, WEditRowsC, AbsOpen. -/
import Derived.ProofKit
import Derived.Deep.Slices
import Derived.WideShapes
import Derived.ChangeArms
import Derived.DataReads
import Derived.DataElems
import Derived.OpenShut
import Derived.Test.YtpneolkfeihkhaaBunD4
/- EditRows: what the law's own program computes is true. -/
namespace Go.Proofs.YtpneolkfeihkhaaAbs
set_option linter.unusedVariables false
set_option linter.unusedSimpArgs false
set_option maxHeartbeats 4000000
set_option maxRecDepth 100000
open Go Go.Proofs
theorem text_ne {l : List Cell} (h : rightR l) (h1 : 1 ≤ l.length) : textOf l ≠ [] := by
  cases l with
  | nil => simp at h1
  | cons x l =>
    rw [textOf_cons]
    have k : x.2.1 ≠ 2 := fun e => by
      have := (right_2 h (i := 0) (by simp) e).1
      omega
    rw [if_neg k]
    have hb := encB_pos x.1
    intro q
    have hq := (List.append_eq_nil_iff.1 q).1
    rw [hq] at hb
    simp at hb
/-- A letter's cell. -/
def cO (x : Int) : Cell := (x, 0, -1, -1, 0)
theorem kd_map (S : List Int) (i : Nat) : kd (S.map cO) i = 0 := by
  unfold kd
  rw [List.getD_eq_getElem?_getD, List.getElem?_map]
  cases S[i]? <;> rfl
theorem encB_ascii {x : Int} (h0 : 0 ≤ x) (h1 : x ≤ 127) : encB x = [x] := by
  unfold encB
  have e1 : IntKind.u32.wrap x = x := by rw [IntKind.wrap_u32]; omega
  have e2 : IntKind.u8.wrap x = x := by rw [IntKind.wrap_u8]; omega
  rw [e1, e2, decide_eq_true h1]
  rfl
theorem text_map : ∀ (S : List Int), (∀ x, x ∈ S → 0 ≤ x ∧ x ≤ 127) → textOf (S.map cO) = S
  | [], _ => rfl
  | x :: S, h => by
    rw [List.map_cons, textOf_cons, text_map S (fun y hy => h y (List.mem_cons_of_mem _ hy)), if_neg (by show ¬ (0 : Int) = 2; decide)]
    show encB x ++ S = _
    rw [encB_ascii (h x List.mem_cons_self).1 (h x List.mem_cons_self).2]; rfl
theorem row_one {w : Nat} {l : List Cell} (hl : l.length = 1 * w) : rowOf w l 0 = l := by
  unfold rowOf
  rw [Nat.zero_mul, List.drop_zero, List.take_of_length_le (by omega)]
theorem ins_map {S : List Int} {k m : Nat} (hk : k < S.length) : insG 1 S.length (S.map cO) 0 (k : Int) (m : Int) (-1, -1, 0) = (S.take k ++ List.replicate (min m (S.length - k)) 32 ++ (S.drop k).take (S.length - min m (S.length - k) - k)).map cO := by
  have hl : (S.map cO).length = 1 * S.length := by simp
  have a := insG_row hl (r := 0) (c := k) (by omega) hk (m : Int) (-1, -1, 0) (r' := 0) (by omega)
  have hi := insG_length hl ((0 : Nat) : Int) (k : Int) (m : Int) (-1, -1, 0)
  rw [row_one hi, row_one hl, if_pos rfl] at a
  have n0 := num_le S.length k (by omega) (m : Int)
  have en : num S.length k (m : Int) = min m (S.length - k) := by unfold num; omega
  rw [mend_single (ins_single (kd_map S) (by simpa using n0))] at a
  refine (show insG 1 S.length (S.map cO) 0 (k : Int) (m : Int) (-1, -1, 0) = _ from a).trans ?_
  rw [en]
  unfold insRow
  rw [parted_single (kd_map S)]
  simp only [List.map_append, List.map_take, List.map_drop, List.map_replicate, List.length_map]
  rfl
theorem del_map {S : List Int} {k m : Nat} (hk : k < S.length) (hkm : k + m ≤ S.length) : delG 1 S.length (S.map cO) 0 (k : Int) (m : Int) (-1, -1, 0) = (S.take k ++ S.drop (k + m) ++ List.replicate m 32).map cO := by
  have hl : (S.map cO).length = 1 * S.length := by simp
  have a := delG_row hl (r := 0) (c := k) (by omega) hk (m : Int) (-1, -1, 0) (r' := 0) (by omega)
  have hi := delG_length hl ((0 : Nat) : Int) (k : Int) (m : Int) (-1, -1, 0)
  rw [row_one hi, row_one hl, if_pos rfl] at a
  have n0 := num_le S.length k (by omega) (m : Int)
  have en : num S.length k (m : Int) = m := by unfold num; omega
  rw [mend_single (del_single (kd_map S) (by simpa using n0))] at a
  refine (show delG 1 S.length (S.map cO) 0 (k : Int) (m : Int) (-1, -1, 0) = _ from a).trans ?_
  rw [en]
  unfold delRow
  rw [parted_single (kd_map S)]
  simp only [List.map_append, List.map_take, List.map_drop, List.map_replicate, List.length_map]
  rfl
theorem fill_single {row : List Cell} (hs : ∀ i, kd row i = 0) (a n : Nat) (p : Pen) : ∀ i, kd (fillR row a n (32, 0, p)) i = 0 := fun i => by
  unfold kd
  rw [fillR_get]
  split
  · rfl
  · exact hs i
theorem wipe_map {w : Nat} {l : List Cell} (hl : l.length = 1 * w) (hs : ∀ i, kd l i = 0) (a b : Int) (p : Pen) : wipe 1 w l 0 a b p = fillR l (wipeN w a b).1 (wipeN w a b).2 (32, 0, p) := by
  have q := wipe_row hl (r := 0) (by omega) a b p (r' := 0) (by omega)
  rw [row_one (wipe_length hl _ _ _ _), row_one hl, if_pos rfl] at q
  unfold wipeX at q
  rw [mend_single (fill_single hs _ _ _)] at q
  exact q
theorem both_map {S : List Int} {k : Nat} (hk : k < S.length) : wipe 1 S.length (wipe 1 S.length (S.map cO) 0 (k : Int) (S.length : Int) (-1, -1, 0)) 0 0 ((k : Int) + 1) (-1, -1, 0) = wipe 1 S.length (S.map cO) 0 0 (S.length : Int) (-1, -1, 0) := by
  have hl : (S.map cO).length = 1 * S.length := by simp
  have e1 := wipe_map hl (kd_map S) (k : Int) (S.length : Int) (-1, -1, 0)
  have e2 := wipe_map hl (kd_map S) 0 (S.length : Int) (-1, -1, 0)
  have s1 := fill_single (kd_map S) (wipeN S.length (k : Int) (S.length : Int)).1 (wipeN S.length (k : Int) (S.length : Int)).2 (-1, -1, 0)
  have l1 : (fillR (S.map cO) (wipeN S.length (k : Int) (S.length : Int)).1 (wipeN S.length (k : Int) (S.length : Int)).2 (32, 0, -1, -1, 0)).length = 1 * S.length := by rw [fillR_length]; exact hl
  rw [e1, e2, wipe_map l1 s1]
  refine ext_getD dC (by simp only [fillR_length]) fun j hj => ?_
  simp only [fillR_length, List.length_map] at hj
  have w1 : wipeN S.length (k : Int) (S.length : Int) = (k, S.length - k) := by unfold wipeN; ext <;> simp <;> omega
  have w2 : wipeN S.length 0 (S.length : Int) = (0, S.length) := by unfold wipeN; ext <;> simp <;> omega
  have w3 : wipeN S.length 0 ((k : Int) + 1) = (0, k + 1) := by unfold wipeN; ext <;> simp <;> omega
  rw [w1, w2, w3, fillR_get, fillR_get, fillR_get]
  simp only [fillR_length, List.length_map]
  rw [if_pos (show 0 ≤ j ∧ j < 0 + S.length ∧ j < S.length by omega)]
  by_cases c : j < k + 1
  · rw [if_pos (by omega)]
  · rw [if_neg (by omega), if_pos (by omega)]
def asc (S : List Int) : Prop := ∀ x, x ∈ S → 33 ≤ x ∧ x ≤ 126
theorem rows_3 {a0 : List Int} {a1 a2 : Int} (ha : ∀ y, y ∈ a0 → 0 ≤ y ∧ y < 256) : ∀ (n i : Nat) (s : List Int), i ≤ a0.length → i ≤ 9 → 9 - i < n → s.length = i → asc s →
    ∃ s', s'.length ≤ 9 ∧ asc s' ∧ linguistlaw8_EditRows_L3 n a0 a1 a2 (Int.ofNat i) s = some (a1, a2, s') := by
  intro n
  induction n with
  | zero => intro i s h1 h2 h3; omega
  | succ n ih =>
    intro i s h1 h2 h3 h4 h5
    rw [linguistlaw8_EditRows_L3]
    by_cases hi : i < a0.length
    · by_cases h9 : i < 9
      · have hm := ha (a0.getD i 0) (by rw [List.getD_eq_getElem?_getD, List.getElem?_eq_getElem hi]; exact List.getElem_mem hi)
        have ew : IntKind.i64.wrap (a0.getD i 0) = a0.getD i 0 := w64 (by omega) (by omega)
        obtain ⟨y, hy, y0, y1⟩ := within_eq (a0.getD i 0) 33 126 (by omega) (by omega) (by omega) (by omega) (by omega)
        have eu : IntKind.u8.wrap y = y := by rw [IntKind.wrap_u8]; omega
        have e1 : decide (Int.ofNat i < 9) = true := decide_eq_true (by show (i : Int) < 9; omega)
        rw [ofNat_lt, decide_eq_true hi, e1, toNat_ofNat', ew, hy]
        simp only [cond_true, optK_s, Bool.and_true, eu]
        rw [show decide ((0 : Int) ≤ Int.ofNat i) = true by simp, Nat.ble_eq_true_of_le (by simp; omega)]
        simp only [cond_true, Bool.and_self]
        rw [wrap_succ (by omega)]
        exact ih (i + 1) _ (by omega) (by omega) (by omega) (by simp [h4]) (fun x hx => by
          rcases List.mem_append.1 hx with q | q
          · exact h5 x q
          · rw [List.mem_singleton.1 q]; exact ⟨y0, y1⟩)
      · have e1 : decide (Int.ofNat i < 9) = false := decide_eq_false (by show ¬ (i : Int) < 9; omega)
        rw [ofNat_lt, decide_eq_true hi, e1]
        exact ⟨s, by omega, h5, rfl⟩
    · rw [ofNat_lt, decide_eq_false hi]
      exact ⟨s, by omega, h5, rfl⟩
theorem rows_11 {a0 a1 : Int} {S : List Int} (h1 : 1 ≤ S.length) (h9 : S.length ≤ 9) (hS : asc S) : ∀ (n i : Nat), i ≤ S.length → S.length - i < n →
    linguistlaw8_EditRows_L11 n a0 a1 (Int.ofNat S.length) (Int.ofNat i) S (-1) (-1) 0 1 (Int.ofNat S.length) ((S.take i ++ List.replicate (S.length - i) 32).map cO) = some (a0, a1, S, -1, -1, 0, 1, Int.ofNat S.length, S.map cO) := by
  intro n
  induction n with
  | zero => intro i h1 h2; omega
  | succ n ih =>
    intro i q1 q2
    rw [linguistlaw8_EditRows_L11]
    by_cases hi : i < S.length
    · have hm := hS S[i] (List.getElem_mem hi)
      have hg : S.getD i 0 = S[i] := by rw [List.getD_eq_getElem?_getD, List.getElem?_eq_getElem hi]; rfl
      have e32 : IntKind.i32.wrap S[i] = S[i] := w32 (by omega) (by omega)
      have hw1 : widthP S[i] = 1 := width_ascii (by omega) (by omega)
      rw [ofNat_lt, decide_eq_true hi, show decide ((0 : Int) ≤ Int.ofNat i) = true by simp, toNat_ofNat', hg, e32]
      simp only [cond_true, Bool.and_self]
      have hl : ((S.take i ++ List.replicate (S.length - i) 32).map cO).length = 1 * S.length := by simp; omega
      rw [put_eq (R := 1) (C := Int.ofNat S.length) (h := 1) (w := S.length) rfl rfl (by omega) (by omega) hl (by omega) (by show -1000 ≤ (i : Int) ∧ (i : Int) ≤ 1000; omega)]
      simp only [optK_s]
      rw [wrap_succ (by omega)]
      have step := ih (i + 1) (by omega) (by omega)
      have e : put 1 S.length ((S.take i ++ List.replicate (S.length - i) 32).map cO) 0 (Int.ofNat i) S[i] (-1, -1, 0) = (S.take (i + 1) ++ List.replicate (S.length - (i + 1)) 32).map cO := by
        unfold put
        have hc : ¬ (widthP S[i] = 0 ∨ ¬ ((0 : Int) ≤ 0 ∧ (0 : Int) < ((1 : Nat) : Int) ∧ 0 ≤ Int.ofNat i ∧ Int.ofNat i < (S.length : Int)) ∨ (S.length : Int) < Int.ofNat i + widthP S[i]) := by
          rw [hw1]
          show ¬ ((1 : Int) = 0 ∨ ¬ ((0 : Int) ≤ 0 ∧ (0 : Int) < ((1 : Nat) : Int) ∧ 0 ≤ (i : Int) ∧ (i : Int) < (S.length : Int)) ∨ (S.length : Int) < (i : Int) + 1)
          omega
        rw [if_neg hc]
        have q := inRow_same hl (r := 0) (by omega) (f := fun row => mend (putRow row (Int.ofNat i).toNat S[i] (-1, -1, 0))) (by rw [mend_length, putRow_length, rowOf_length hl (by omega)])
        rw [row_one hl] at q
        have hl2 : (inRow S.length ((S.take i ++ List.replicate (S.length - i) 32).map cO) 0 fun row => mend (putRow row (Int.ofNat i).toNat S[i] (-1, -1, 0))).length = 1 * S.length := inRow_length hl (by omega) (by rw [mend_length, putRow_length, rowOf_length hl (by omega)])
        rw [row_one hl2] at q
        rw [show (0 : Int).toNat = 0 from rfl, q, toNat_ofNat']
        unfold putRow
        rw [if_neg (by rw [hw1]; decide)]
        have hk : ∀ j, kd (((S.take i ++ List.replicate (S.length - i) 32).map cO).set i (S[i], 0, -1, -1, 0)) j = 0 := fun j => by
          unfold kd
          rw [getD_set]
          split
          · rfl
          · exact kd_map _ j
        rw [mend_single hk]
        rw [show ((S[i], 0, -1, -1, 0) : Cell) = cO S[i] from rfl, ← List.map_set]
        congr 1
        rw [List.set_append_right _ _ (by simp; omega)]
        have hz : i - (S.take i).length = 0 := by simp; omega
        rw [hz, show S.length - i = (S.length - (i + 1)) + 1 by omega, List.replicate_succ, List.set_cons_zero, List.take_succ_eq_append_getElem hi, List.append_assoc]
        rfl
      rw [e]
      exact step
    · have e : i = S.length := by omega
      subst e
      rw [ofNat_lt, decide_eq_false hi]
      simp
theorem rows_18 {a0 a1 p0 p1 p2 R C : Int} {S : List Int} {g : List Cell} {m : Nat} (hm : m ≤ 9) : ∀ (n i : Nat), i ≤ m → m - i < n →
    linguistlaw8_EditRows_L18 n a0 a1 (Int.ofNat m) (Int.ofNat i) S p0 p1 p2 R C g (List.replicate i 32) = some (a0, a1, S, p0, p1, p2, R, C, g, List.replicate m 32) := by
  intro n
  induction n with
  | zero => intro i h1 h2; omega
  | succ n ih =>
    intro i q1 q2
    rw [linguistlaw8_EditRows_L18]
    by_cases hi : i < m
    · rw [ofNat_lt, decide_eq_true hi, Nat.ble_eq_true_of_le (by simp; omega), wrap_succ (by omega)]
      simp only [cond_true, Bool.and_self]
      have := ih (i + 1) (by omega) (by omega)
      rw [List.replicate_succ'] at this
      exact this
    · have e : i = m := by omega
      subst e
      rw [ofNat_lt, decide_eq_false hi]
      rfl
theorem in_take {S : List Int} {k m : Nat} (hk : k < S.length) : List.take S.length (S.take k ++ List.replicate m 32 ++ List.take (S.length - k) (S.drop k)) = S.take k ++ List.replicate (min m (S.length - k)) 32 ++ (S.drop k).take (S.length - min m (S.length - k) - k) := by
  rw [List.take_of_length_le (l := S.drop k) (by simp), List.append_assoc, List.append_assoc, List.take_append, List.take_of_length_le (l := S.take k) (by rw [List.length_take]; omega), List.take_append]
  have e1 : S.length - (S.take k).length = S.length - k := by simp; omega
  rw [e1, List.take_replicate, List.length_replicate, Nat.min_comm m]
  congr 2
  congr 1
  omega
theorem out_take {S : List Int} {k m : Nat} (hk : k < S.length) (hkm : k + m ≤ S.length) : List.take S.length (S.take k ++ List.take (S.length - (k + m)) (S.drop (k + m)) ++ List.replicate m 32) = S.take k ++ S.drop (k + m) ++ List.replicate m 32 := by
  rw [List.take_of_length_le (l := S.drop (k + m)) (by simp), List.take_of_length_le (by simp; omega)]
theorem editRows_true (x0 : List Int) (x1 x2 : Int) (h0 : ∀ y, y ∈ x0 → 0 ≤ y ∧ y < 256) (h1 : in64 x1) (h2 : in64 x2) : linguistlaw8_EditRows_F x0 x1 x2 = some true := by
  unfold linguistlaw8_EditRows_F
  simp only [hide_eq linguistlaw8_EditRows_L3]
  obtain ⟨S, s9, hS, e⟩ := rows_3 (a1 := x1) (a2 := x2) h0 (linguistlaw8_EditRows_fu3 x0 x1 x2 0 []) 0 [] (Nat.zero_le _) (by omega) (Nat.lt_of_lt_of_le (show 9 - 0 < 5000 by omega) (Nat.le_add_left 5000 _)) rfl (fun x hx => by cases hx)
  rw [show Int.ofNat 0 = (0 : Int) from rfl] at e
  rw [e]
  simp only [optK_s]
  by_cases hz : S.length = 0
  · rw [show (Int.ofNat S.length == 0) = true by rw [hz]; rfl]; rfl
  · have hp : 1 ≤ S.length := by omega
    rw [show (Int.ofNat S.length == 0) = false from beq_eq_false_iff_ne.2 (fun q => by have : (S.length : Int) = 0 := q; omega)]
    simp only [cond_false]
    rw [new_eq (R := 1) (C := Int.ofNat S.length) (h := 1) (w := S.length) rfl rfl (by omega) (by omega) hp (by omega)]
    simp only [optK_s, hide_eq linguistlaw8_EditRows_L11]
    have L := rows_11 (a0 := x1) (a1 := x2) hp s9 hS (linguistlaw8_EditRows_fu11 x1 x2 (Int.ofNat S.length) 0 S (-1) (-1) 0 1 (Int.ofNat S.length) (List.replicate (1 * S.length) (32, 0, -1, -1, 0))) 0 (Nat.zero_le _) (Nat.lt_of_lt_of_le (show S.length - 0 < 5000 by omega) (Nat.le_add_left 5000 _))
    rw [show List.map cO (S.take 0 ++ List.replicate (S.length - 0) (32 : Int)) = List.replicate (1 * S.length) ((32, 0, -1, -1, 0) : Cell) by simp [cO], show Int.ofNat 0 = (0 : Int) from rfl] at L
    rw [L]
    simp only [optK_s]
    have ew : IntKind.i64.wrap (Int.ofNat S.length - 1) = (S.length : Int) - 1 := w64 (by show _ ≤ (S.length : Int) - 1; omega) (by show (S.length : Int) - 1 < _; omega)
    obtain ⟨k, hk, k0, k1⟩ := within_eq x1 0 ((S.length : Int) - 1) h1.1 h1.2 (by omega) (by omega) (by omega)
    obtain ⟨m, hm, m0, m1⟩ := within_eq x2 0 ((S.length : Int) - 1) h2.1 h2.2 (by omega) (by omega) (by omega)
    obtain ⟨k, rfl⟩ : ∃ n : Nat, k = Int.ofNat n := ⟨k.toNat, by show k = ((k.toNat : Nat) : Int); omega⟩
    obtain ⟨m, rfl⟩ : ∃ n : Nat, m = Int.ofNat n := ⟨m.toNat, by show m = ((m.toNat : Nat) : Int); omega⟩
    have k1' : (k : Int) ≤ (S.length : Int) - 1 := k1
    have m1' : (m : Int) ≤ (S.length : Int) - 1 := m1
    have hkl : k < S.length := by omega
    rw [ew, hk, hm]
    simp only [optK_s, hide_eq linguistlaw8_EditRows_L18]
    have L2 := rows_18 (a0 := Int.ofNat k) (a1 := Int.ofNat m) (p0 := -1) (p1 := -1) (p2 := 0) (R := 1) (C := Int.ofNat S.length) (S := S) (g := S.map cO) (m := m) (by omega) (linguistlaw8_EditRows_fu18 (Int.ofNat k) (Int.ofNat m) (Int.ofNat m) 0 S (-1) (-1) 0 1 (Int.ofNat S.length) (S.map cO) []) 0 (Nat.zero_le _) (Nat.lt_of_lt_of_le (show m - 0 < 5000 by omega) (Nat.le_add_left 5000 _))
    rw [show Int.ofNat 0 = (0 : Int) from rfl, List.replicate_zero] at L2
    rw [L2]
    have eX : (if Int.ofNat S.length < IntKind.i64.wrap (Int.ofNat k + Int.ofNat m) then Int.ofNat S.length else IntKind.i64.wrap (Int.ofNat k + Int.ofNat m)) = Int.ofNat (min (k + m) S.length) := by
      rw [show IntKind.i64.wrap (Int.ofNat k + Int.ofNat m) = ((k + m : Nat) : Int) from w64 (by show _ ≤ (k : Int) + m; omega) (by show (k : Int) + m < _; omega)]
      show (if (S.length : Int) < ((k + m : Nat) : Int) then (S.length : Int) else ((k + m : Nat) : Int)) = ((min (k + m) S.length : Nat) : Int)
      split <;> omega
    have eG : decide (IntKind.i64.wrap (Int.ofNat k + Int.ofNat m) > Int.ofNat S.length) = decide (S.length < k + m) := by
      rw [show IntKind.i64.wrap (Int.ofNat k + Int.ofNat m) = ((k + m : Nat) : Int) from w64 (by show _ ≤ (k : Int) + m; omega) (by show (k : Int) + m < _; omega)]
      exact decide_eq_decide.2 (by show (S.length : Int) < ((k + m : Nat) : Int) ↔ _; omega)
    simp only [optK_s, eX, eG, getD_some', Option.getD_none, toNat_ofNat', Nat.sub_zero, List.drop_zero]
    have b1 : bnds none (some (Int.ofNat k)) S.length = true := by simp [bnds]; omega
    have b2 : bnds (some (Int.ofNat k)) none S.length = true := by simp [bnds]; omega
    have b3 : bnds (some (Int.ofNat (min (k + m) S.length))) none S.length = true := by simp [bnds]; omega
    have b4 : ∀ l : List Int, S.length ≤ l.length → bnds none (some (Int.ofNat S.length)) l.length = true := fun l hl => by simp [bnds]; omega
    have bl : ∀ n : Nat, n ≤ 1000 → n.ble 274877906944 = true := fun n hn => Nat.ble_eq_true_of_le (by omega)
    rw [b1, b2, b3, b4 _ (by simp; omega), b4 _ (by simp; omega)]
    rw [bl _ (by simp; omega), bl _ (by simp; omega), bl _ (by simp; omega), bl _ (by simp; omega), bl _ (by simp; omega)]
    simp only [cond_true, Bool.and_self]
    have hl : (S.map cO).length = 1 * S.length := by simp
    have N := fun c what => line_eq (R := 1) (C := Int.ofNat S.length) (h := 1) (w := S.length) rfl rfl (by omega) hp (by omega) hl 0 c what (-1) (-1) 0
    have wl : ∀ a b : Int, (wipe 1 S.length (S.map cO) 0 a b (-1, -1, 0)).length = 1 * S.length := fun a b => wipe_length hl _ _ _ _
    have in1 : (0 : Int) ≤ 0 ∧ (0 : Int) < ((1 : Nat) : Int) ∧ 0 ≤ Int.ofNat k ∧ Int.ofNat k < (S.length : Int) := ⟨by omega, by omega, by show (0 : Int) ≤ (k : Int); omega, by show (k : Int) < _; omega⟩
    have g0 : ∀ l, lineG 1 S.length l 0 (Int.ofNat k) 0 (-1, -1, 0) = wipe 1 S.length l 0 (k : Int) (S.length : Int) (-1, -1, 0) := fun l => by unfold lineG; rw [if_pos in1, if_pos rfl]; rfl
    have g1 : ∀ l, lineG 1 S.length l 0 (Int.ofNat k) 1 (-1, -1, 0) = wipe 1 S.length l 0 0 ((k : Int) + 1) (-1, -1, 0) := fun l => by unfold lineG; rw [if_pos in1, if_neg (by decide), if_pos rfl]; rfl
    have g2 : ∀ l, lineG 1 S.length l 0 (Int.ofNat k) 2 (-1, -1, 0) = wipe 1 S.length l 0 0 (S.length : Int) (-1, -1, 0) := fun l => by unfold lineG; rw [if_pos in1, if_neg (by decide), if_neg (by decide), if_pos rfl]
    have g3 : ∀ l, lineG 1 S.length l 0 (Int.ofNat k) 3 (-1, -1, 0) = l := fun l => by unfold lineG; rw [if_pos in1, if_neg (by decide), if_neg (by decide), if_neg (by decide)]
    have SR : ∀ l' : List Cell, l'.length = 1 * S.length → hide grid_Same_F 1 (Int.ofNat S.length) l' 1 (Int.ofNat S.length) l' = some true := fun l' q => by
      rw [same_eq _ _ _ _ _ _ (by omega)]; simp
    have T : ∀ U : List Int, U.length = S.length → (∀ x, x ∈ U → 0 ≤ x ∧ x ≤ 127) → hide grid_Text_F 1 (Int.ofNat S.length) (U.map cO) 0 = some U := fun U hU hx => by
      have hul : (U.map cO).length = 1 * S.length := by simp [hU]
      have hr : rowOf S.length (U.map cO) 0 = U.map cO := row_one hul
      have ne : textOf (rowOf S.length (U.map cO) 0) ≠ [] := by
        rw [hr]; exact text_ne (right_singles (single_mem (kd_map U))) (by simp; omega)
      have := text_eq (R := 1) (C := Int.ofNat S.length) (h := 1) (w := S.length) rfl rfl (by omega) hp (by omega) hul (r := 0) (by omega) ne
      rw [show ((U.map cO).drop (0 * S.length)).take S.length = rowOf S.length (U.map cO) 0 from rfl, hr, text_map U hx] at this
      exact this
    have hS' : ∀ x, x ∈ S → 0 ≤ x ∧ x ≤ 127 := fun x hx => by have := hS x hx; omega
    have er : eraseG 1 S.length (S.map cO) 0 (Int.ofNat k) 0 (-1, -1, 0) = wipe 1 S.length (S.map cO) 0 (k : Int) (S.length : Int) (-1, -1, 0) := by
      unfold eraseG
      rw [if_pos ⟨in1.1, in1.2.1, in1.2.2.1, in1.2.2.2, by omega, by omega⟩, eraseTo, if_neg (by omega), eraseTo, g0]
    have tail : (optK (hide edit_Line_F 1 (Int.ofNat S.length) (S.map cO) 0 (Int.ofNat k) 2 (-1) (-1) 0) fun y14 => optK (hide grid_Same_F 1 (Int.ofNat S.length) (wipe 1 S.length (wipe 1 S.length (S.map cO) 0 (k : Int) (S.length : Int) (-1, -1, 0)) 0 0 ((k : Int) + 1) (-1, -1, 0)) y14.1 y14.2.1 y14.2.2) fun y15 => (bif y15 then (optK (hide edit_Line_F 1 (Int.ofNat S.length) (S.map cO) 0 (Int.ofNat k) 3 (-1) (-1) 0) fun y16 => optK (hide grid_Same_F y16.1 y16.2.1 y16.2.2 1 (Int.ofNat S.length) (S.map cO)) fun y17 => (bif y17 then (optK (hide edit_Erase_F 1 (Int.ofNat S.length) (S.map cO) 0 (Int.ofNat k) 0 (-1) (-1) 0) fun y18 => optK (hide grid_Same_F y18.1 y18.2.1 y18.2.2 1 (Int.ofNat S.length) (wipe 1 S.length (S.map cO) 0 (k : Int) (S.length : Int) (-1, -1, 0))) fun y20 => (bif y20 then some true else some false)) else some false)) else some false)) = some true := by
      rw [N, N, both_map hkl, g2, g3]
      simp only [optK_s]
      rw [SR _ (wl _ _)]
      simp only [optK_s, cond_true]
      rw [SR _ hl]
      simp only [optK_s, cond_true]
      rw [erase_eq (R := 1) (C := Int.ofNat S.length) (h := 1) (w := S.length) rfl rfl (by omega) hp (by omega) hl, er]
      simp only [optK_s]
      rw [SR _ (wl _ _)]
      rfl
    rw [N, g0]
    simp only [optK_s]
    rw [line_eq (R := 1) (C := Int.ofNat S.length) (h := 1) (w := S.length) rfl rfl (by omega) hp (by omega) (wl _ _), g1]
    simp only [optK_s]
    rw [insert_eq (R := 1) (C := Int.ofNat S.length) (h := 1) (w := S.length) rfl rfl (by omega) hp (by omega) hl, show insG 1 S.length (S.map cO) 0 (Int.ofNat k) (Int.ofNat m) (-1, -1, 0) = _ from ins_map hkl]
    simp only [optK_s]
    rw [T _ (by simp; omega) (fun x hx => by
      rcases List.mem_append.1 hx with q | q
      · rcases List.mem_append.1 q with q | q
        · exact hS' x (List.mem_of_mem_take q)
        · rw [(List.mem_replicate.1 q).2]; omega
      · exact hS' x (List.mem_of_mem_drop (List.mem_of_mem_take q))), in_take hkl]
    simp only [optK_s, beq_self_eq_true, cond_true]
    by_cases c : S.length < k + m
    · rw [decide_eq_true c]
      simp only [cond_true]
      exact tail
    · rw [decide_eq_false c]
      simp only [cond_false]
      have hkm : k + m ≤ S.length := by omega
      rw [delete_eq (R := 1) (C := Int.ofNat S.length) (h := 1) (w := S.length) rfl rfl (by omega) hp (by omega) hl, show delG 1 S.length (S.map cO) 0 (Int.ofNat k) (Int.ofNat m) (-1, -1, 0) = _ from del_map hkl hkm]
      simp only [optK_s]
      rw [T _ (by simp; omega) (fun x hx => by
        rcases List.mem_append.1 hx with q | q
        · rcases List.mem_append.1 q with q | q
          · exact hS' x (List.mem_of_mem_take q)
          · exact hS' x (List.mem_of_mem_drop q)
        · rw [(List.mem_replicate.1 q).2]; omega), show min (k + m) S.length = k + m by omega, out_take hkl hkm]
      simp only [optK_s, beq_self_eq_true, cond_true]
      exact tail
end Go.Proofs.YtpneolkfeihkhaaAbs

/- EditRows, called. -/
namespace Go.Proofs.YtpneolkfeihkhaaAbs
set_option linter.unusedVariables false
set_option maxRecDepth 100000
open Go Go.Proofs Go.RowKit
theorem editRows_run (x0 : List (Int)) (x1 : Int) (x2 : Int) (w0 : (List.length (α := Int) x0 ≤ 9223372036854775807 ∧ ∀ y : Int, List.Mem y x0 → ((Lit.int .u8 y).wf = true))) (w1 : (Lit.int .i64 x1).wf = true) (w2 : (Lit.int .i64 x2).wf = true) :
    acall (R := Bool) (envL linguistlaw8_EditRows_su linguistlaw8_EditRows_ll3 cs0 (fun _ _ => false)) 1000 5 [.list (.one (.int .u8)) x0 false, .int .i64 x1, .int .i64 x2] [] (resK .bool true (fun b => some b)) = some true := by
  have h := linguistlaw8_EditRows_run x0 x1 x2 (fun b => some b)
  rw [editRows_true x0 x1 x2 (fun y hy => wf_inu8 (w0.2 y hy)) (wf_in64 w1) (wf_in64 w2)] at h
  exact h
end Go.Proofs.YtpneolkfeihkhaaAbs

/- Whatever reads as data is what the interpreter takes: rows of letters as arguments. -/
namespace Go.Proofs.YtpneolkfeihkhaaAbs
set_option linter.unusedVariables false
open Go Go.Proofs Go.RowKit Go.ChangeShapes Go.WideShapes Go.Deep
abbrev gd (w : World) : Nat → Prop := fun B => B < w.heap.size
def OpC (P : Program) (w : World) (c : CTy) (t : TypeId) (WF : c.den → Prop) : Prop :=
  ∀ {H : Type} {enc : TypeId × Value → H} {spare : Nat → Bool} {held : Bool} {fuel : Nat} {cs : List Value} {x : DataW H × List MemPlace}, DataW.trod enc P w 0 spare held fuel t cs = some x → ∃ (a : c.den) (v : Value), cs = [v] ∧ c.rep w (gd w) a v ∧ WF a
def OpR (P : Program) (w : World) (r : Row) (t : TypeId) (WF : r.den → Prop) : Prop :=
  ∀ {H : Type} {enc : TypeId × Value → H} {spare : Nat → Bool} {held : Bool} {fuel : Nat} {cs : List Value} {x : DataW H × List MemPlace}, DataW.trod enc P w 0 spare held fuel t cs = some x → ∃ a : r.den, r.rep w (gd w) a cs ∧ WF a
section
variable {P : Program} {w : World} {t e : TypeId}
theorem OpC.int {k : IntKind} (ht : P.underlying t = some (.int k)) : OpC P w (.int k) t (fun a => (Lit.int k a).wf = true) := by
  intro H enc spare held fuel cs x h
  obtain ⟨a, rfl, _, hw⟩ := DataW.trod_int ht h
  refine ⟨a, _, rfl, ⟨rfl, ?_⟩, hw⟩
  cases k <;> first | rfl | (simp [Lit.wf, IntKind.min, IntKind.max, IntKind.bits, IntKind.signed] at hw; simp [u8ok, kindEq]; omega)
theorem OpC.bool (ht : P.underlying t = some .bool) : OpC P w .bool t (fun _ => True) := by
  intro H enc spare held fuel cs x h
  obtain ⟨a, rfl, _⟩ := DataW.trod_bool ht h
  exact ⟨a, _, rfl, rfl, trivial⟩
theorem OpC.str (ht : P.underlying t = some .string) : OpC P w .str t (fun s => ∃ b : ByteArray, bytesOf b = s ∧ b.size ≤ 9223372036854775807) := by
  intro H enc spare held fuel cs x h
  obtain ⟨a, rfl, _, hl⟩ := DataW.trod_string ht h
  refine ⟨bytesOf a, _, rfl, ⟨a, rfl, rfl⟩, a, rfl, ?_⟩
  unfold maxLen at hl
  omega
theorem cells_eq {a : Addr} {n : Nat} {cs : List Value} {c : Array Value} (h : w.cells? 0 a n = some cs) (hb : ∃ e fr, w.heap[a.block]? = some (.cells c e fr)) (hs : a.spot = none) : cs = (c.toList.drop a.off).take n := by
  obtain ⟨_, hl, hc⟩ := World.cells?_some h
  obtain ⟨e, fr, hb⟩ := hb
  apply List.ext_getElem?
  intro i
  by_cases hi : i < n
  · have h1 : w.cell? (a.add i) = c[a.off + i]? := by
      unfold World.cell? Addr.add
      by_cases h0 : i = 0
      · subst h0; simp [hb, hs]
      · simp [h0, hb]
    rw [← hc i hi, h1, List.getElem?_take_of_lt hi, List.getElem?_drop, Array.getElem?_toList]
  · rw [List.getElem?_eq_none (by omega), List.getElem?_eq_none (by simp; omega)]
theorem rows_lie {r : Row} {WF : r.den → Prop} {a : Addr} {len : Nat} (hr : 0 < r.size) (hp : 0 < len) (hx : ∀ i, i < len → ∃ (b : r.den) (cs : List Value), w.cells? 0 (a.add (i * r.size)) r.size = some cs ∧ r.rep w (gd w) b cs ∧ WF b) :
    a.spot = none ∧ a.block < w.heap.size ∧ ∃ l : List r.den, l.length = len ∧ (∀ x ∈ l, WF x) ∧ ∃ vs, RepAll (fun x cs => r.rep w (gd w) x cs) l vs ∧ Lies w a.block a.off vs := by
  obtain ⟨b0, cs0, h0, _, _⟩ := hx 0 hp
  obtain ⟨_, hl0, hc0⟩ := World.cells?_some h0
  have h00 := hc0 0 hr
  have hlt : 0 < cs0.length := by omega
  rw [List.getElem?_eq_getElem hlt] at h00
  have hbk : (∃ c e fr, w.heap[a.block]? = some (.cells c e fr)) ∧ a.spot = none := by
    have hz : (a.add (0 * r.size)).add 0 = a := by simp [Addr.add]
    rw [hz] at h00
    unfold World.cell? at h00
    split at h00
    · rename_i c e fr hb
      refine ⟨⟨c, e, fr, hb⟩, ?_⟩
      split at h00
      · cases h00
      · rename_i hn; simpa using hn
    · cases h00
  obtain ⟨⟨c, e, fr, hb⟩, hs⟩ := hbk
  have hbl : a.block < w.heap.size := (Array.getElem?_eq_some_iff.1 hb).1
  refine ⟨hs, hbl, ?_⟩
  have key : ∀ k, k ≤ len → ∃ l : List r.den, l.length = k ∧ (∀ x ∈ l, WF x) ∧ RepAll (fun x cs => r.rep w (gd w) x cs) l ((c.toList.drop a.off).take (k * r.size)) := by
    intro k
    induction k with
    | zero => intro _; exact ⟨[], rfl, (fun x hx => by cases hx), by simp [RepAll]⟩
    | succ k ih =>
      intro hk
      obtain ⟨l, hl, hw, hR⟩ := ih (by omega)
      obtain ⟨b, cs, h1, h2, h3⟩ := hx k (by omega)
      have hcs : cs = ((c.toList.drop a.off).drop (k * r.size)).take r.size := by
        have := cells_eq (c := c) h1 ⟨e, fr, by unfold Addr.add; split <;> exact hb⟩ (by unfold Addr.add; split <;> first | exact hs | rfl)
        rw [this, List.drop_drop]
        congr 2
        unfold Addr.add; split <;> simp_all
      refine ⟨l ++ [b], by simp [hl], ?_, ?_⟩
      · intro x hx'
        rcases List.mem_append.1 hx' with h | h
        · exact hw x h
        · rw [List.mem_singleton] at h; subst h; exact h3
      · have : (k + 1) * r.size = k * r.size + r.size := by rw [Nat.add_mul, Nat.one_mul]
        rw [this, List.take_add, ← hcs]
        exact RepAll.append hR ⟨cs, [], by simp, h2, rfl⟩
  obtain ⟨l, hl, hw, hR⟩ := key len (Nat.le_refl _)
  exact ⟨l, hl, hw, _, hR, c, e, fr, _, hb, (List.take_append_drop (len * r.size) _).symm⟩
theorem OpC.slice {r : Row} {WF : r.den → Prop} (ht : P.underlying t = some (.slice e)) (hr : 0 < r.size) (hc : P.cellsOf e = r.size) (he : OpR P w r e WF) : OpC P w (.slice r) t (fun l => List.length (α := r.den) l ≤ 9223372036854775807 ∧ ∀ x : r.den, List.Mem x l → WF x) := by
  intro H enc spare held fuel cs x h
  rcases open_slice ht h with ⟨rfl, _⟩ | ⟨a, len, cap, m, n, D, Pl, rfl, _, hl, hm, hmm, _, hx⟩
  · exact ⟨([] : List r.den), _, rfl, ⟨none, 0, 0, rfl, rfl, Nat.le_refl _, fun _ => rfl, Or.inl rfl⟩, by simp, fun x hx => by cases hx⟩
  · have hmle : len ≤ m := by rw [hmm]; split <;> omega
    have hmax : len ≤ 9223372036854775807 := by unfold maxLen at hm; omega
    by_cases hp : 0 < len
    · obtain ⟨hs, hb, l, hll, hw, vs, hR, hL⟩ := rows_lie (w := w) (a := a) (len := len) (WF := WF) hr hp (fun i hi => by
        obtain ⟨c, h1, h2⟩ := hx i (by omega)
        obtain ⟨b, h3, h4⟩ := he h2
        rw [hc] at h1
        exact ⟨b, c, h1, h3, h4⟩)
      refine ⟨l, _, rfl, ⟨some a, len, cap, rfl, hll.symm, hl, (fun k => by cases k), Or.inr ⟨a.block, a.off, vs, ?_, hb, hR, hL⟩⟩, by rw [hll]; exact hmax, hw⟩
      obtain ⟨B, o, s⟩ := a
      simp only at hs
      rw [hs]
    · have h0 : len = 0 := by omega
      subst h0
      exact ⟨([] : List r.den), _, rfl, ⟨some a, 0, cap, rfl, rfl, hl, (fun k => by cases k), Or.inl rfl⟩, by simp, fun x hx => by cases hx⟩
theorem OpR.one {c : CTy} {WF : c.den → Prop} (h : OpC P w c t WF) : OpR P w (.one c) t WF := by
  intro H enc spare held fuel cs x k
  obtain ⟨a, v, rfl, h1, h2⟩ := h k
  exact ⟨a, ⟨v, rfl, h1⟩, h2⟩
/-- A struct's field, out of the whole's reading. -/
theorem trod_field {H : Type} {enc : TypeId × Value → H} {spare : Nat → Bool} {held : Bool} {fuel : Nat} {cs : List Value} {x : DataW H × List MemPlace} {fs : Array Field} (ht : P.underlying t = some (.struct fs)) (h : DataW.trod enc P w 0 spare held fuel t cs = some x) :
    cs.length = P.cellsOf t ∧ ∃ n, ∀ (i : Nat) (f : Field), fs[i]? = some f → ∃ y, DataW.trod enc P w 0 spare held n f.type ((cs.drop f.offset).take (P.cellsOf f.type)) = some y := by
  obtain ⟨xs, n, _, _, hn, hl, hf⟩ := DataW.trod_struct ht h
  refine ⟨hn, n, fun i f hi => ?_⟩
  have h1 := hf i f hi
  have hlt : i < xs.length := by rw [hl]; exact (Array.getElem?_eq_some_iff.1 hi).1
  rw [List.getElem?_eq_getElem hlt] at h1
  exact ⟨_, h1⟩
end
end Go.Proofs.YtpneolkfeihkhaaAbs
