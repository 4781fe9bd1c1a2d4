/- Texts of this session, joined (bundle2.py): GM2, GM3, GM4, GM5, GM6, GM7, GM8, GM9, GM10, GM11, GN1, GN2, GN3, GN4, GN5, GC, GE1, GE2, GE3, GE4, GE5, GE6, GE7, D8, WEditPlays, WEditPlaysC. -/
import Derived.Test.YtpneolkfeihkhaaBunC4
/- Plain laws: what is put into a grid, what is there. -/
namespace Go.Proofs.YtpneolkfeihkhaaAbs
set_option linter.unusedVariables false
set_option linter.unusedSimpArgs false
open Go Go.Proofs
section
variable {α : Type}
theorem set3 {A R B : List α} (c : Nat) (y : α) (hc : c < R.length) : (A ++ R ++ B).set (A.length + c) y = A ++ R.set c y ++ B := by
  rw [List.append_assoc, List.set_append_right _ _ (by omega), Nat.add_sub_cancel_left, List.set_append_left _ _ hc, List.append_assoc]
theorem mid3 {A R B : List α} : ((A ++ R ++ B).drop A.length).take R.length = R := by simp
theorem splice3 {A R B X : List α} (h : X.length = R.length) : splice (A ++ R ++ B) A.length X = A ++ X ++ B := by
  unfold splice
  have e1 : (A ++ R ++ B).take A.length = A := by simp
  have e2 : (A ++ R ++ B).drop (A.length + X.length) = B := by
    rw [h, ← List.length_append, List.drop_left]
  rw [e1, e2]
theorem split3 (l : List α) (o w : Nat) (h : o + w ≤ l.length) : l = l.take o ++ (l.drop o).take w ++ l.drop (o + w) := by
  rw [List.append_assoc, ← List.drop_drop, List.take_append_drop, List.take_append_drop]
end
theorem bnds_ok {a b n : Nat} (h1 : a ≤ b) (h2 : b ≤ n) : bnds (some (Int.ofNat a)) (some (Int.ofNat b)) n = true := by
  simp [bnds]; omega
theorem cutList_ok {α : Type} {l : List α} {a b : Nat} (h1 : a ≤ b) : cutList l (some (Int.ofNat a)) (some (Int.ofNat b)) = (l.drop a).take (b - a) := by
  simp [cutList, List.drop_take]
theorem place_eq (R C : Int) (l : List Cell) (r c : Int) : hide grid_place_F R C l r c = some (decide (0 ≤ r ∧ r < R ∧ 0 ≤ c ∧ c < C)) := by
  rw [hide_eq]; unfold grid_place_F
  by_cases h1 : 0 ≤ r <;> by_cases h2 : r < R <;> by_cases h3 : 0 ≤ c <;> simp [h1, h2, h3]
theorem mul_bound {r w h : Nat} (hr : r < h) : r * w + w ≤ h * w := by
  have : (r + 1) * w ≤ h * w := Nat.mul_le_mul_right w hr
  rw [Nat.add_mul, Nat.one_mul] at this; exact this
theorem small_mul {h w : Nat} (h1 : h ≤ 64) (h2 : w ≤ 64) : h * w ≤ 4096 := Nat.mul_le_mul h1 h2
theorem row_lo (r w : Nat) (hr : r ≤ 64) (hw : w ≤ 64) : IntKind.i64.wrap (Int.ofNat r * Int.ofNat w) = Int.ofNat (r * w) := by
  have := small_mul hr hw
  have e : Int.ofNat r * Int.ofNat w = Int.ofNat (r * w) := by simp
  rw [e, w64 (by simp; omega) (by simp; omega)]
theorem row_hi (r w : Nat) (hr : r ≤ 63) (hw : w ≤ 64) : IntKind.i64.wrap (IntKind.i64.wrap (Int.ofNat r + 1) * Int.ofNat w) = Int.ofNat (r * w + w) := by
  rw [wrap_succ (by omega), row_lo (r + 1) w (by omega) hw, Nat.add_mul, Nat.one_mul]
theorem getD_some' {α : Type} (a d : α) : (some a).getD d = a := rfl
theorem toNat_ofNat' (n : Nat) : (Int.ofNat n).toNat = n := rfl
abbrev Pen := Int × Int × Int
def inRow (w : Nat) (l : List Cell) (r : Nat) (f : List Cell → List Cell) : List Cell := l.take (r * w) ++ f ((l.drop (r * w)).take w) ++ l.drop (r * w + w)
end Go.Proofs.YtpneolkfeihkhaaAbs

/- Plain laws: cells at places, new grids, grids held against each other, numbers brought into bounds. -/
namespace Go.Proofs.YtpneolkfeihkhaaAbs
set_option linter.unusedVariables false
set_option linter.unusedSimpArgs false
open Go Go.Proofs
def at_ (h w : Nat) (l : List Cell) (r c : Int) : Int × Int × Int × Int × Int × Bool :=
  if 0 ≤ r ∧ r < h ∧ 0 ≤ c ∧ c < w then (let x := l.getD (r.toNat * w + c.toNat) dC; (x.1, x.2.1, x.2.2.1, x.2.2.2.1, x.2.2.2.2, true)) else (0, 0, 0, 0, 0, false)
theorem at_eq {R C : Int} {h w : Nat} (hR : R = Int.ofNat h) (hC : C = Int.ofNat w) (hh : h ≤ 40) (hw : w ≤ 60) {l : List Cell} (hl : l.length = h * w) {r c : Int} :
    hide grid_At_F R C l r c = some (at_ h w l r c) := by
  rw [hide_eq]; unfold grid_At_F at_
  simp only [place_eq, optK_s]
  by_cases hp : 0 ≤ r ∧ r < R ∧ 0 ≤ c ∧ c < C
  · have hp' : 0 ≤ r ∧ r < (h : Int) ∧ 0 ≤ c ∧ c < (w : Int) := by rw [hR, hC] at hp; exact hp
    rw [decide_eq_true hp, if_pos hp']
    obtain ⟨rn, rfl⟩ : ∃ n : Nat, r = Int.ofNat n := ⟨r.toNat, by simp; omega⟩
    obtain ⟨cn, rfl⟩ : ∃ n : Nat, c = Int.ofNat n := ⟨c.toNat, by simp; omega⟩
    have hrn : rn < h := by have := hp'.2.1; simpa using this
    have hcn : cn < w := by have := hp'.2.2.2; simpa using this
    have hb := mul_bound (w := w) hrn
    subst hC
    simp only [row_lo rn w (by omega) (by omega), row_hi rn w (by omega) (by omega), toNat_ofNat', Bool.not_true, cond_false]
    rw [bnds_ok (by omega) (by omega), cutList_ok (by omega)]
    have e3 : rn * w + w - rn * w = w := by omega
    have hM : ((l.drop (rn * w)).take w).length = w := by simp; omega
    have e4 : decide ((0 : Int) ≤ Int.ofNat cn) = true := by simp
    rw [e3, hM, e4]
    simp only [ofNat_lt, hcn, decide_true, Bool.and_self, cond_true]
    have e5 : ((l.drop (rn * w)).take w).getD cn (0, 0, 0, 0, 0) = l.getD (rn * w + cn) dC := by
      simp only [List.getD_eq_getElem?_getD, List.getElem?_take, List.getElem?_drop, hcn, if_true]
    rw [e5]
  · have hp' : ¬ (0 ≤ r ∧ r < (h : Int) ∧ 0 ≤ c ∧ c < (w : Int)) := by rw [hR, hC] at hp; exact hp
    rw [decide_eq_false hp, if_neg hp']
    rfl

/-! ### repeated -/
theorem repeat_loop (b : Cell) (N : Nat) (hN : N < 4611686018427387904) : ∀ (n k : Nat) (l : List Cell), l.length = N → 1 ≤ k → k ≤ N → l.take k = List.replicate k b → N - k < n →
    slices_Repeat_api_Cell_L8 n (Int.ofNat k) l = some (List.replicate N b) := by
  intro n
  induction n with
  | zero => intro k l h1 h2 h3 h4 h5; omega
  | succ n ih =>
    intro k l h1 h2 h3 h4 h5
    rw [slices_Repeat_api_Cell_L8]
    rw [ofNat_lt, h1]
    by_cases hk : k < N
    · have b1 : bnds (some (Int.ofNat k)) none N = true := by simp [bnds]; omega
      have b2 : bnds none (some (Int.ofNat k)) N = true := by simp [bnds]; omega
      rw [decide_eq_true hk, b1, b2]
      have e0 : (none.getD (Int.ofNat N)).toNat = N := rfl
      simp only [cond_true, getD_some', toNat_ofNat', Nat.sub_zero, List.drop_zero, e0, h4, List.take_replicate, List.length_replicate]
      have hm : k.min (N - k) = min k (N - k) := rfl
      rw [hm, w64 (by simp; omega) (by simp; omega)]
      have e1 : Int.ofNat k + Int.ofNat (min k (N - k)) = Int.ofNat (k + min k (N - k)) := by simp
      rw [e1, Nat.min_comm (N - k) k]
      refine ih (k + min k (N - k)) _ ?_ (by omega) (by omega) ?_ (by omega)
      · unfold splice; simp; omega
      · unfold splice
        rw [h4, List.replicate_append_replicate, List.take_append_of_le_length (by simp), List.take_of_length_le (by simp)]
    · have : k = N := by omega
      subst this
      rw [decide_eq_false hk]
      rw [List.take_of_length_le (by omega)] at h4
      rw [h4]; rfl
theorem mul_hi_small (y : Int) (h0 : 0 ≤ y) (h1 : y ≤ 4096) : hide math_bits_Mul_F 1 y = some (0, y) := by
  rw [hide_eq]; unfold math_bits_Mul_F
  have a1 : bitsOp BinOp.and IntKind.u64 y 4294967295 = y := by
    have key : ∀ n : Nat, n ≤ 4096 → bitsOp BinOp.and IntKind.u64 (n : Int) 4294967295 = (n : Int) := by
      intro n hn
      have e1 : (BitVec.ofInt 64 (n : Int)) = BitVec.ofNat 64 n := by simp
      have e2 : (BitVec.ofNat 64 n &&& BitVec.ofNat 64 4294967295) = BitVec.ofNat 64 n := by
        apply BitVec.eq_of_toNat_eq
        simp only [BitVec.toNat_and, BitVec.toNat_ofNat]
        have : n % 2 ^ 64 = n := Nat.mod_eq_of_lt (by omega)
        rw [this, show (4294967295 % 2 ^ 64 : Nat) = 2 ^ 32 - 1 from rfl, Nat.and_two_pow_sub_one_eq_mod]
        exact Nat.mod_eq_of_lt (by omega)
      show IntKind.u64.wrap ((BitVec.ofInt 64 (n : Int) &&& BitVec.ofInt 64 4294967295).toNat : Int) = n
      have e3 : (BitVec.ofInt 64 4294967295) = BitVec.ofNat 64 4294967295 := rfl
      rw [e1, e3, e2, IntKind.wrap_u64]
      simp only [BitVec.toNat_ofNat]
      omega
    obtain ⟨n, rfl⟩ : ∃ n : Nat, y = (n : Int) := ⟨y.toNat, by omega⟩
    exact key n (by omega)
  have a2 : bitsOp BinOp.and IntKind.u64 1 4294967295 = 1 := by decide
  have a3 : (1 : Int).fdiv 4294967296 = 0 := by decide
  have a4 : y.fdiv 4294967296 = 0 := by
    rw [Int.fdiv_eq_ediv_of_nonneg _ (by omega)]; omega
  have a5 : IntKind.u64.wrap y = y := by rw [IntKind.wrap_u64]; omega
  have a6 : bitsOp BinOp.and IntKind.u64 0 4294967295 = 0 := by decide
  have a7 : IntKind.u64.wrap 0 = 0 := by decide
  have a8 : (0 : Int).fdiv 4294967296 = 0 := by decide
  simp only [a1, a2, a3, a4, a5, a6, a7, a8, Int.zero_mul, Int.mul_zero, Int.one_mul, Int.add_zero, Int.zero_add, Int.mul_one]
theorem repeat_eq (b : Cell) (n : Nat) (h1 : 1 ≤ n) (h2 : n ≤ 4096) : hide slices_Repeat_api_Cell_F [b] (Int.ofNat n) = some (List.replicate n b) := by
  rw [hide_eq]; unfold slices_Repeat_api_Cell_F
  have e0 : decide (Int.ofNat n < 0) = false := by simp
  rw [e0]
  simp only [cond_false, hide_eq]
  unfold slices_Repeat_api_Cell_J3
  have e1 : IntKind.u64.wrap (Int.ofNat [b].length) = 1 := by simp [IntKind.wrap_u64]
  have e2 : IntKind.u64.wrap (Int.ofNat n) = Int.ofNat n := by rw [IntKind.wrap_u64]; first | (simp; done) | (simp; omega) | (show (n : Int) % _ = n; omega)
  rw [e1, e2, mul_hi_small _ (by simp) (by first | (simp; done) | (simp; omega))]
  simp only [optK_s, hide_eq]
  have e3 : decide ((0 : Int) > 0) = false := by simp
  have e4 : decide (Int.ofNat n > 9223372036854775807) = false := by simp; omega
  rw [e3, e4]
  simp only [cond_false]
  unfold slices_Repeat_api_Cell_J6
  have e5 : IntKind.i64.wrap (Int.ofNat n) = Int.ofNat n := w64 (by first | (simp; done) | (simp; omega)) (by simp; omega)
  rw [e5]
  have e6 : decide ((0 : Int) ≤ Int.ofNat n) = true := by simp
  have e7 : decide (Int.ofNat n ≤ Int.ofNat n) = true := by simp
  have e8 : decide (Int.ofNat n ≤ 274877906944) = true := by simp; omega
  rw [e6, e7, e8]
  simp only [Bool.and_self, cond_true, hide_eq]
  have e9 : (rowN ((0 : Int), (0 : Int), (0 : Int), (0 : Int), (0 : Int)) (Int.ofNat n).toNat) = List.replicate n dC := rfl
  rw [e9]
  have e10 : [b].length.min (List.replicate n dC).length = 1 := by
    rw [List.length_replicate]; exact Nat.min_eq_left h1
  have e11 : splice (List.replicate n dC) 0 (List.take (List.replicate n dC).length [b]) = b :: List.replicate (n - 1) dC := by
    unfold splice
    simp only [List.length_replicate]
    have e12 : List.take n [b] = [b] := List.take_of_length_le (by simpa using h1)
    rw [e12]
    simp
  rw [e10, e11]
  have h := repeat_loop b n (by omega) (slices_Repeat_api_Cell_fu8 (Int.ofNat 1) (b :: List.replicate (n - 1) dC)) 1 (b :: List.replicate (n - 1) dC) (by simp; omega) (by omega) (by omega) (by simp) (by unfold slices_Repeat_api_Cell_fu8; simp; omega)
  rw [h]
  rfl
/-! ### held against each other -/
theorem cell_beq (a b : Cell) : (a.1 == b.1 && (a.2.1 == b.2.1 && (a.2.2.1 == b.2.2.1 && (a.2.2.2.1 == b.2.2.2.1 && (a.2.2.2.2 == b.2.2.2.2 && true))))) = decide (a = b) := by
  obtain ⟨a1, a2, a3, a4, a5⟩ := a
  obtain ⟨b1, b2, b3, b4, b5⟩ := b
  by_cases h : ((a1, a2, a3, a4, a5) : Cell) = (b1, b2, b3, b4, b5)
  · have k := h
    injection k with k1 k; injection k with k2 k; injection k with k3 k; injection k with k4 k5
    subst k1 k2 k3 k4 k5
    simp
  · rw [decide_eq_false h]
    simp only [Prod.mk.injEq] at h
    simp only [Bool.and_true, Bool.and_eq_false_iff, beq_eq_false_iff_ne, ne_eq]
    by_cases c1 : a1 = b1 <;> by_cases c2 : a2 = b2 <;> by_cases c3 : a3 = b3 <;> by_cases c4 : a4 = b4 <;> simp_all
/-! ### numbers brought into bounds -/
theorem within_eq (n lo hi : Int) (hn : -9223372036854775808 ≤ n) (hn2 : n < 9223372036854775808) (h0 : -1000000 ≤ lo) (h1 : lo ≤ hi) (h2 : hi < 4611686018427387904) :
    ∃ r, hide linguistbook_Within_F n lo hi = some r ∧ lo ≤ r ∧ r ≤ hi := by
  rw [hide_eq]; unfold linguistbook_Within_F
  rw [w64 (n := hi - lo) (by omega) (by omega), w64 (n := hi - lo + 1) (by omega) (by omega)]
  have e0 : (hi - lo + 1 == 0) = false := beq_false_of_ne (by omega)
  have b1 : n.tmod (hi - lo + 1) < hi - lo + 1 := Int.tmod_lt_of_pos _ (by omega)
  have b2 : -(hi - lo + 1) < n.tmod (hi - lo + 1) := by
    have := Int.lt_tmod_of_pos n (show 0 < hi - lo + 1 by omega); omega
  rw [e0]
  generalize n.tmod (hi - lo + 1) = m at *
  simp only [cond_false]
  by_cases hm : m < 0
  · rw [decide_eq_true hm]
    simp only [cond_true]
    rw [w64 (n := m + hi) (by omega) (by omega), w64 (n := m + hi - lo) (by omega) (by omega), w64 (n := m + hi - lo + 1) (by omega) (by omega), w64 (by omega) (by omega)]
    exact ⟨_, rfl, by omega, by omega⟩
  · rw [decide_eq_false hm]
    simp only [cond_false]
    rw [w64 (by omega) (by omega)]
    exact ⟨_, rfl, by omega, by omega⟩
end Go.Proofs.YtpneolkfeihkhaaAbs

/- Plain laws: cells wiped, grids cut to a size, pens out of numbers. -/
namespace Go.Proofs.YtpneolkfeihkhaaAbs
set_option linter.unusedVariables false
set_option linter.unusedSimpArgs false
open Go Go.Proofs
/-! ### places filled -/
def fillR {α : Type} (l : List α) (i : Nat) : Nat → α → List α
  | 0, _ => l
  | n + 1, y => fillR (l.set i y) (i + 1) n y
theorem fillR_length {α : Type} (y : α) : ∀ (n : Nat) (l : List α) (i : Nat), (fillR l i n y).length = l.length
  | 0, l, i => rfl
  | n + 1, l, i => by simp [fillR, fillR_length y n]
theorem fillR_get {α : Type} (y d : α) : ∀ (n : Nat) (l : List α) (i j : Nat), (fillR l i n y).getD j d = if i ≤ j ∧ j < i + n ∧ j < l.length then y else l.getD j d
  | 0, l, i, j => by simp [fillR]; intro h1 h2; omega
  | n + 1, l, i, j => by
    rw [fillR, fillR_get y d n]
    simp only [List.length_set]
    by_cases hj : j = i
    · subst hj
      rw [if_neg (by omega)]
      by_cases hl : j < l.length
      · rw [if_pos (by omega)]; simp [hl]
      · rw [if_neg (by omega)]; simp [List.getD_eq_getElem?_getD, hl]
    · have e : (l.set i y).getD j d = l.getD j d := by
        simp [List.getD_eq_getElem?_getD, List.getElem?_set, show ¬ i = j from fun k => hj k.symm]
      rw [e]
      by_cases h : i + 1 ≤ j ∧ j < i + 1 + n ∧ j < l.length
      · rw [if_pos h, if_pos (by omega)]
      · rw [if_neg h, if_neg (by omega)]
theorem fillR3 {α : Type} {A B : List α} (y : α) : ∀ (n c : Nat) (R : List α), c + n ≤ R.length → fillR (A ++ R ++ B) (A.length + c) n y = A ++ fillR R c n y ++ B
  | 0, c, R, h => rfl
  | n + 1, c, R, h => by
    rw [fillR, set3 c y (by omega), Nat.add_assoc, fillR3 y n (c + 1) (R.set c y) (by simp; omega)]
    rfl
def wipeN (w : Nat) (a b : Int) : Nat × Nat := ((max a 0).toNat, (min b w).toNat - (max a 0).toNat)
def wipe (h w : Nat) (l : List Cell) (r a b : Int) (p : Pen) : List Cell :=
  if 0 ≤ r ∧ r < h then inRow w l r.toNat fun row => mend (fillR row (wipeN w a b).1 (wipeN w a b).2 (32, 0, p)) else l
theorem wipe_loop {r t R C p0 p1 p2 x y : Int} {z : List Cell} {o len : Nat} (E : Int) (hE : (if C < t then C else t) = E) (hlen : E ≤ (len : Int)) (hl2 : len ≤ 4096) : ∀ (n c : Nat) (l : List Cell), E.toNat - c < n → c ≤ 4096 →
    grid_Wipe_L6 n r t o len (Int.ofNat c) R C p0 p1 p2 x y l z = some (r, R, C, x, y, fillR l (o + c) (E.toNat - c) (32, 0, p0, p1, p2), z) := by
  intro n
  induction n with
  | zero => intro c l h1 h2; omega
  | succ n ih =>
    intro c l h1 h2
    rw [grid_Wipe_L6, hE]
    by_cases hc : (Int.ofNat c) < E
    · have hc' : (c : Int) < E := hc
      have e0 : decide ((0 : Int) ≤ Int.ofNat c) = true := by simp
      have e1 : decide (Int.ofNat c < Int.ofNat len) = true := decide_eq_true (by show (c : Int) < (len : Int); omega)
      rw [decide_eq_true hc, e0, e1, blank_eq]
      simp only [cond_true, Bool.and_self, optK_s, toNat_ofNat']
      rw [wrap_succ (by omega), ih (c + 1) _ (by omega) (by omega)]
      have e2 : E.toNat - c = (E.toNat - (c + 1)) + 1 := by omega
      rw [e2, fillR]
      rfl
    · have hc' : ¬ (c : Int) < E := hc
      rw [decide_eq_false hc]
      have : E.toNat - c = 0 := by omega
      rw [this]; rfl
theorem wipe_eq {R C : Int} {h w : Nat} (hR : R = Int.ofNat h) (hC : C = Int.ofNat w) (hh : h ≤ 40) (w1 : 1 ≤ w) (hw : w ≤ 60) {l : List Cell} (hl : l.length = h * w) {r a b : Int} (ha : a ≤ 4000) (p0 p1 p2 : Int) :
    hide grid_Wipe_F R C l r a b p0 p1 p2 = some (R, C, wipe h w l r a b (p0, p1, p2)) := by
  have hsm := small_mul (show h ≤ 64 by omega) (show w ≤ 64 by omega)
  rw [hide_eq]; unfold grid_Wipe_F
  have e : (l.length.ble 274877906944) = true := Nat.ble_eq_true_of_le (by rw [hl]; omega)
  rw [e]
  simp only [cond_true, optK_s, place_eq]
  unfold wipe
  by_cases hp : 0 ≤ r ∧ r < (h : Int)
  · have hp2 : 0 ≤ r ∧ r < R ∧ (0 : Int) ≤ 0 ∧ 0 < C := by rw [hR, hC]; exact ⟨hp.1, hp.2, by omega, by show (0 : Int) < (w : Int); omega⟩
    rw [decide_eq_true hp2, if_pos hp]
    simp only [Bool.not_true, cond_false]
    obtain ⟨rn, rfl⟩ : ∃ n : Nat, r = Int.ofNat n := ⟨r.toNat, by simp; omega⟩
    have hrn : rn < h := by have := hp.2; simpa using this
    have hb := mul_bound (w := w) hrn
    subst hC
    simp only [row_lo rn w (by omega) (by omega), row_hi rn w (by omega) (by omega), getD_some', toNat_ofNat']
    rw [bnds_ok (by omega) (by omega)]
    have e3 : rn * w + w - rn * w = w := by omega
    simp only [cond_true, e3, hide_eq grid_Wipe_L6]
    have ea : (if (0 : Int) > a then 0 else a) = Int.ofNat (max a 0).toNat := by
      show _ = (((max a 0).toNat : Nat) : Int)
      split <;> omega
    have eE : (if Int.ofNat w < b then Int.ofNat w else b) = min b (w : Int) := by
      show (if (w : Int) < b then (w : Int) else b) = _
      split <;> omega
    rw [ea, wipe_loop (min b (w : Int)) eE (by omega) (by omega) _ _ _ (by unfold grid_Wipe_fu6; have : (min b (w : Int)).toNat ≤ w := (by omega); omega) (by omega)]
    simp only [optK_s, row_lo rn w (by omega) (by omega), row_hi rn w (by omega) (by omega), getD_some', toNat_ofNat', fillR_length]
    rw [bnds_ok (by omega) (by omega)]
    simp only [cond_true, e3]
    have hs := split3 l (rn * w) w (by omega)
    have hA : (l.take (rn * w)).length = rn * w := by simp; omega
    have hM : ((l.drop (rn * w)).take w).length = w := by simp; omega
    unfold inRow wipeN
    simp only [toNat_ofNat']
    generalize hAA : l.take (rn * w) = A at *
    generalize hMM : (l.drop (rn * w)).take w = M at *
    generalize hBB : l.drop (rn * w + w) = B at *
    generalize (max a 0).toNat = c at *
    subst hs
    clear hAA hMM hBB e
    rw [← hA]
    by_cases hcw : c ≤ w
    · rw [fillR3 _ _ c M (by omega)]
      generalize hX : fillR M c ((min b (w : Int)).toNat - c) (32, 0, p0, p1, p2) = X
      have hXl : X.length = w := by rw [← hX, fillR_length, hM]
      have e8 : List.take w (List.drop A.length (A ++ X ++ B)) = X := by
        have := @mid3 _ A X B
        rw [hXl] at this; exact this
      rw [e8, mend_eq _ (by omega)]
      simp only [optK_s]
      rw [List.take_of_length_le (by rw [mend_length]; omega), splice3 (by rw [mend_length])]
    · have : (min b (w : Int)).toNat - c = 0 := by omega
      rw [this]
      simp only [fillR]
      have e8 : List.take w (List.drop A.length (A ++ M ++ B)) = M := by
        have := @mid3 _ A M B
        rw [hM] at this; exact this
      rw [e8, mend_eq _ (by omega)]
      simp only [optK_s]
      rw [List.take_of_length_le (by rw [mend_length]; omega), splice3 (by rw [mend_length])]
  · have hp2 : ¬ (0 ≤ r ∧ r < R ∧ (0 : Int) ≤ 0 ∧ 0 < C) := by rw [hR]; exact fun k => hp ⟨k.1, k.2.1⟩
    rw [decide_eq_false hp2, if_neg hp]; rfl
end Go.Proofs.YtpneolkfeihkhaaAbs

/- Plain laws: texts of rows, pens out of numbers. -/
namespace Go.Proofs.YtpneolkfeihkhaaAbs
set_option linter.unusedVariables false
set_option linter.unusedSimpArgs false
open Go Go.Proofs
/-! ### texts -/
/-! ### pens -/
theorem colour_eq (n : Int) (h1 : -9223372036854775808 ≤ n) (h2 : n < 9223372036854775808) : ∃ v, hide linguistkeep_colour_F n = some v ∧ ((-1 ≤ v ∧ v ≤ 255) ∨ (16777216 ≤ v ∧ v < 33554432)) := by
  rw [hide_eq]; unfold linguistkeep_colour_F
  obtain ⟨a, ha, a1, a2⟩ := within_eq n 0 3 h1 h2 (by omega) (by omega) (by omega)
  rw [ha]
  have hd : -9223372036854775808 ≤ n.tdiv 4 ∧ n.tdiv 4 < 9223372036854775808 := by
    have : n.tmod 4 = n - 4 * n.tdiv 4 := Int.tmod_def _ _
    have b1 : n.tmod 4 < 4 := Int.tmod_lt_of_pos _ (by omega)
    have b2 : -4 < n.tmod 4 := by have := Int.lt_tmod_of_pos n (show (0 : Int) < 4 by omega); omega
    omega
  rw [w64 hd.1 hd.2]
  simp only [optK_s]
  cases c0 : a == 0 with
  | true => exact ⟨-1, rfl, .inl (by omega)⟩
  | false =>
    simp only [cond_false]
    cases c1 : a == 1 with
    | true =>
      obtain ⟨b, hb, b1, b2⟩ := within_eq (n.tdiv 4) 0 15 hd.1 hd.2 (by omega) (by omega) (by omega)
      exact ⟨b, by simp only [cond_true, hb, optK_s], .inl (by omega)⟩
    | false =>
      simp only [cond_false]
      cases c2 : a == 2 with
      | true =>
        obtain ⟨b, hb, b1, b2⟩ := within_eq (n.tdiv 4) 0 255 hd.1 hd.2 (by omega) (by omega) (by omega)
        exact ⟨b, by simp only [cond_true, hb, optK_s], .inl (by omega)⟩
      | false =>
        obtain ⟨b, hb, b1, b2⟩ := within_eq (n.tdiv 4) 0 16777215 hd.1 hd.2 (by omega) (by omega) (by omega)
        refine ⟨16777216 + b, by simp only [cond_false, hb, optK_s]; rw [w64 (by omega) (by omega)], .inr (by omega)⟩
def rightColour (v : Int) : Prop := (-1 ≤ v ∧ v ≤ 255) ∨ (16777216 ≤ v ∧ v < 33554432)
def rightPen (p : Pen) : Prop := rightColour p.1 ∧ rightColour p.2.1 ∧ 0 ≤ p.2.2 ∧ p.2.2 ≤ 255
def in64 (n : Int) : Prop := -9223372036854775808 ≤ n ∧ n < 9223372036854775808
theorem pen_eq (a b c : Int) (ha : in64 a) (hb : in64 b) (hc : in64 c) : ∃ p : Pen, hide linguistkeep_Pen_Pen_F a b c = some p ∧ rightPen p := by
  rw [hide_eq]; unfold linguistkeep_Pen_Pen_F
  obtain ⟨x, hx, x1⟩ := colour_eq a ha.1 ha.2
  obtain ⟨y, hy, y1⟩ := colour_eq b hb.1 hb.2
  obtain ⟨z, hz, z1, z2⟩ := within_eq c 0 255 hc.1 hc.2 (by omega) (by omega) (by omega)
  exact ⟨(x, y, z), by simp only [hx, hy, hz, optK_s], x1, y1, z1, z2⟩
end Go.Proofs.YtpneolkfeihkhaaAbs

/- Plain laws: grids cut to a size. -/
namespace Go.Proofs.YtpneolkfeihkhaaAbs
set_option linter.unusedVariables false
set_option linter.unusedSimpArgs false
open Go Go.Proofs
def rowOf (w : Nat) (l : List Cell) (r : Nat) : List Cell := (l.drop (r * w)).take w
theorem rowOf_length {h w : Nat} {l : List Cell} (hl : l.length = h * w) {r : Nat} (hr : r < h) : (rowOf w l r).length = w := by
  have := mul_bound (w := w) hr
  unfold rowOf; simp; omega
end Go.Proofs.YtpneolkfeihkhaaAbs

/- Plain laws: right rows. -/
namespace Go.Proofs.YtpneolkfeihkhaaAbs
set_option linter.unusedVariables false
set_option linter.unusedSimpArgs false
open Go Go.Proofs
def kd (l : List Cell) (i : Nat) : Int := (l.getD i dC).2.1
theorem half_iff (l : List Cell) (i : Nat) : halfB l i = true ↔ (kd l i = 1 ∧ (i + 1 = l.length ∨ kd l (i + 1) ≠ 2)) ∨ (kd l i = 2 ∧ (i = 0 ∨ kd l (i - 1) ≠ 1)) := by
  unfold halfB
  show (bif kd l i == 1 then (decide (i + 1 = l.length) || (kd l (i + 1) != 2)) else bif kd l i == 2 then (decide (i = 0) || (kd l (i - 1) != 1)) else false) = true ↔ _
  by_cases h1 : kd l i = 1
  · simp [h1]
  · by_cases h2 : kd l i = 2 <;> simp [h1, h2]
def rightR (l : List Cell) : Prop := ∀ i, i < l.length → halfB l i = false
theorem mend_right {l : List Cell} (h : rightR l) : mend l = l := by
  apply List.ext_getElem (mend_length l)
  intro i h1 h2
  rw [mend_get l i h2]
  unfold mendAt
  rw [h i h2]
  simp [h2]
theorem kd_mend (l : List Cell) (i : Nat) (h : i < l.length) : kd (mend l) i = if halfB l i = true then 0 else kd l i := by
  unfold kd
  rw [mend_getD l i h]
  unfold mendAt
  cases hh : halfB l i
  · simp
  · simp [blankOf]
theorem right_mend (l : List Cell) : rightR (mend l) := by
  intro i hi
  rw [mend_length] at hi
  cases hb : halfB (mend l) i
  · rfl
  · rw [half_iff, mend_length] at hb
    exfalso
    have k0 := kd_mend l i hi
    have n0 : halfB l i = true → False := by
      intro h
      rw [if_pos h] at k0
      rcases hb with ⟨h1, _⟩ | ⟨h1, _⟩ <;> omega
    rw [if_neg n0] at k0
    rw [half_iff] at n0
    rcases hb with ⟨h1, h2⟩ | ⟨h1, h2⟩
    · rw [k0] at h1
      have a1 : i + 1 ≠ l.length := fun h => n0 (Or.inl ⟨h1, Or.inl h⟩)
      have a2 : kd l (i + 1) = 2 := by
        apply Decidable.byContradiction
        intro h
        exact n0 (Or.inl ⟨h1, Or.inr h⟩)
      rcases h2 with h2 | h2
      · exact a1 h2
      · apply h2
        rw [kd_mend l (i + 1) (by omega), if_neg, a2]
        rw [half_iff]
        rintro (⟨h3, _⟩ | ⟨_, h3 | h3⟩)
        · omega
        · omega
        · exact h3 (by simpa using h1)
    · rw [k0] at h1
      have a1 : i ≠ 0 := fun h => n0 (Or.inr ⟨h1, Or.inl h⟩)
      have a2 : kd l (i - 1) = 1 := by
        apply Decidable.byContradiction
        intro h
        exact n0 (Or.inr ⟨h1, Or.inr h⟩)
      rcases h2 with h2 | h2
      · exact a1 h2
      · apply h2
        rw [kd_mend l (i - 1) (by omega), if_neg, a2]
        rw [half_iff]
        have e : i - 1 + 1 = i := by omega
        rw [e]
        rintro (⟨_, h3 | h3⟩ | ⟨h3, _⟩)
        · omega
        · exact h3 h1
        · omega
theorem right_singles {l : List Cell} (h : ∀ x ∈ l, x.2.1 = 0) : rightR l := by
  intro i hi
  cases hb : halfB l i
  · rfl
  · rw [half_iff] at hb
    have : kd l i = 0 := by unfold kd; rw [List.getD_eq_getElem?_getD, List.getElem?_eq_getElem hi]; exact h _ (List.getElem_mem hi)
    omega
end Go.Proofs.YtpneolkfeihkhaaAbs

/- Plain laws: the document's width of a rune. -/
namespace Go.Proofs.YtpneolkfeihkhaaAbs
set_option linter.unusedVariables false
set_option linter.unusedSimpArgs false
open Go Go.Proofs
end Go.Proofs.YtpneolkfeihkhaaAbs

/- Plain laws: what put leaves as it was. -/
namespace Go.Proofs.YtpneolkfeihkhaaAbs
set_option linter.unusedVariables false
set_option linter.unusedSimpArgs false
open Go Go.Proofs
end Go.Proofs.YtpneolkfeihkhaaAbs

/- Plain laws: right grids, row by row. -/
namespace Go.Proofs.YtpneolkfeihkhaaAbs
set_option linter.unusedVariables false
set_option linter.unusedSimpArgs false
open Go Go.Proofs
theorem rowOf_getD {w : Nat} {l : List Cell} {r i : Nat} (hi : i < w) : (rowOf w l r).getD i dC = l.getD (r * w + i) dC := by
  unfold rowOf
  simp [List.getD_eq_getElem?_getD, List.getElem?_take_of_lt hi, List.getElem?_drop]
section
variable {h w : Nat} {l : List Cell} {r : Nat} {f : List Cell → List Cell}
theorem inRow_length (hl : l.length = h * w) (hr : r < h) (hf : (f (rowOf w l r)).length = w) : (inRow w l r f).length = h * w := by
  have := mul_bound (w := w) hr
  unfold inRow
  have hf' : (f ((l.drop (r * w)).take w)).length = w := hf
  simp only [List.length_append, List.length_take, List.length_drop, hf']
  omega
theorem inRow_same (hl : l.length = h * w) (hr : r < h) (hf : (f (rowOf w l r)).length = w) : rowOf w (inRow w l r f) r = f (rowOf w l r) := by
  have hb := mul_bound (w := w) hr
  have hA : (l.take (r * w)).length = r * w := by simp; omega
  show ((l.take (r * w) ++ f (rowOf w l r) ++ l.drop (r * w + w)).drop (r * w)).take w = _
  rw [List.append_assoc, List.drop_append_of_le_length (by omega), List.drop_of_length_le (by omega), List.nil_append, List.take_append_of_le_length (by omega), List.take_of_length_le (by omega)]
theorem inRow_other (hl : l.length = h * w) (hr : r < h) (hf : (f (rowOf w l r)).length = w) {r' : Nat} (hr' : r' < h) (hne : r' ≠ r) : rowOf w (inRow w l r f) r' = rowOf w l r' := by
  have hb := mul_bound (w := w) hr
  have hb' := mul_bound (w := w) hr'
  have hA : (l.take (r * w)).length = r * w := by simp; omega
  show ((l.take (r * w) ++ f (rowOf w l r) ++ l.drop (r * w + w)).drop (r' * w)).take w = (l.drop (r' * w)).take w
  by_cases hlt : r' < r
  · have hb2 := mul_bound (w := w) hlt
    rw [List.append_assoc, List.drop_append_of_le_length (by omega), List.take_append_of_le_length (by rw [List.length_drop]; omega), List.drop_take, List.take_take]
    congr 1
    omega
  · have hb2 := mul_bound (w := w) (show r < r' by omega)
    have hX : (l.take (r * w) ++ f (rowOf w l r)).length = r * w + w := by rw [List.length_append, hA, hf]
    rw [List.drop_append, List.drop_of_length_le (by omega), List.nil_append, List.drop_drop, hX]
    congr 2
    omega
end
def RG (h w : Nat) (l : List Cell) : Prop := l.length = h * w ∧ ∀ r, r < h → rightR (rowOf w l r)
theorem RG.inRow {h w : Nat} {l : List Cell} {r : Nat} {f : List Cell → List Cell} (k : RG h w l) (hr : r < h) (hf : (f (rowOf w l r)).length = w) (hR : rightR (f (rowOf w l r))) : RG h w (inRow w l r f) := by
  refine ⟨inRow_length k.1 hr hf, fun r' hr' => ?_⟩
  by_cases e : r' = r
  · subst e; rw [inRow_same k.1 hr hf]; exact hR
  · rw [inRow_other k.1 hr hf hr' e]; exact k.2 r' hr'
theorem RG.wipe {h w : Nat} {l : List Cell} (k : RG h w l) (r a b : Int) (p : Pen) : RG h w (wipe h w l r a b p) := by
  unfold Go.Proofs.YtpneolkfeihkhaaAbs.wipe
  split
  · rename_i hn
    have hr : r.toNat < h := by omega
    exact k.inRow hr (by rw [mend_length, fillR_length, rowOf_length k.1 hr]) (right_mend _)
  · exact k
/-- Rows tell a grid. -/
theorem rows_ext {h w : Nat} {l m : List Cell} (hl : l.length = h * w) (hm : m.length = h * w) (e : ∀ r, r < h → rowOf w l r = rowOf w m r) : l = m := by
  apply List.ext_getElem (by omega)
  intro i h1 h2
  have hw : 0 < w := by
    rcases Nat.eq_zero_or_pos w with h0 | h0
    · subst h0; simp at hl; omega
    · exact h0
  have hr : i / w < h := by rw [Nat.div_lt_iff_lt_mul hw]; omega
  have hi : i % w < w := Nat.mod_lt _ hw
  have hd : i / w * w + i % w = i := by rw [Nat.mul_comm]; exact Nat.div_add_mod i w
  have a := rowOf_getD (l := l) (r := i / w) hi
  have b := rowOf_getD (l := m) (r := i / w) hi
  rw [e _ hr, b, hd] at a
  simpa [List.getD_eq_getElem?_getD, h1, h2] using a.symm
end Go.Proofs.YtpneolkfeihkhaaAbs

/- Plain laws: wiped, resized there and back. -/
namespace Go.Proofs.YtpneolkfeihkhaaAbs
set_option linter.unusedVariables false
set_option linter.unusedSimpArgs false
open Go Go.Proofs
end Go.Proofs.YtpneolkfeihkhaaAbs

/- Plain laws: rows whose cells may be. -/
namespace Go.Proofs.YtpneolkfeihkhaaAbs
set_option linter.unusedVariables false
set_option linter.unusedSimpArgs false
open Go Go.Proofs
theorem getD_set {α : Type} (l : List α) (i j : Nat) (y d : α) : (l.set i y).getD j d = if i = j ∧ j < l.length then y else l.getD j d := by
  by_cases h : i = j
  · subst h
    by_cases hl : i < l.length
    · simp [hl]
    · simp [List.getD_eq_getElem?_getD, hl]
  · rw [if_neg (fun k => h k.1)]
    simp [List.getD_eq_getElem?_getD, List.getElem?_set_ne h]
theorem getD_append_l {α : Type} {a b : List α} {i : Nat} (d : α) (h : i < a.length) : (a ++ b).getD i d = a.getD i d := by
  simp [List.getD_eq_getElem?_getD, List.getElem?_append_left h]
theorem getD_append_r {α : Type} {a b : List α} {i : Nat} (d : α) (h : a.length ≤ i) : (a ++ b).getD i d = b.getD (i - a.length) d := by
  simp [List.getD_eq_getElem?_getD, List.getElem?_append_right h]
theorem getD_take {α : Type} {a : List α} {i n : Nat} (d : α) (h : i < n) : (a.take n).getD i d = a.getD i d := by
  simp [List.getD_eq_getElem?_getD, List.getElem?_take_of_lt h]
theorem getD_drop {α : Type} {a : List α} {i n : Nat} (d : α) : (a.drop n).getD i d = a.getD (n + i) d := by
  simp [List.getD_eq_getElem?_getD, List.getElem?_drop]
theorem getD_rep {α : Type} {i n : Nat} (y d : α) (h : i < n) : (List.replicate n y).getD i d = y := by
  simp [List.getD_eq_getElem?_getD, List.getElem?_replicate, h]
theorem ext_getD {α : Type} {a b : List α} (d : α) (hl : a.length = b.length) (h : ∀ i, i < a.length → a.getD i d = b.getD i d) : a = b := by
  apply List.ext_getElem hl
  intro i h1 h2
  have := h i h1
  simpa [List.getD_eq_getElem?_getD, h1, h2] using this
def cellS (x : Cell) : Prop := rightPen x.2.2 ∧ ((x.2.1 = 0 ∧ widthP x.1 = 1) ∨ (x.2.1 = 1 ∧ widthP x.1 = 2) ∨ (x.2.1 = 2 ∧ x.1 = 0))
def lk (x y : Cell) : Prop := x.2.1 = 1 → y.2.1 = 2 → y.2.2 = x.2.2
def Semi (l : List Cell) : Prop := ∀ i, i < l.length → cellS (l.getD i dC) ∧ (i + 1 < l.length → lk (l.getD i dC) (l.getD (i + 1) dC))
theorem cellS_single {x : Int} {p : Pen} (hw : widthP x = 1) (hp : rightPen p) : cellS (x, 0, p) := ⟨hp, .inl ⟨rfl, hw⟩⟩
theorem width_blank : widthP 32 = 1 := by decide
theorem cellS_blank {p : Pen} (hp : rightPen p) : cellS (32, 0, p) := cellS_single width_blank hp
/-- Single cells may stand in place of others. -/
theorem semi_mix {l m : List Cell} (hl : m.length = l.length) (h : Semi l) (hm : ∀ i, i < m.length → m.getD i dC = l.getD i dC ∨ (cellS (m.getD i dC) ∧ (m.getD i dC).2.1 = 0)) : Semi m := by
  intro i hi
  have a := hm i hi
  refine ⟨?_, fun hi1 => ?_⟩
  · rcases a with a | a
    · rw [a]; exact (h i (by omega)).1
    · exact a.1
  · have b := hm (i + 1) hi1
    intro k1 k2
    rcases a with a | a
    · rcases b with b | b
      · rw [a] at k1 ⊢; rw [b] at k2 ⊢
        exact (h i (by omega)).2 (by omega) k1 k2
      · rw [b.2] at k2; cases k2
    · rw [a.2] at k1; cases k1
theorem semi_mend {l : List Cell} (h : Semi l) : Semi (mend l) := by
  refine semi_mix (mend_length l) h fun i hi => ?_
  rw [mend_length] at hi
  rw [mend_getD l i hi]
  unfold mendAt
  cases halfB l i
  · exact .inl rfl
  · exact .inr ⟨cellS_blank (h i hi).1.1, rfl⟩
theorem semi_fill {l : List Cell} (h : Semi l) (i n : Nat) {p : Pen} (hp : rightPen p) : Semi (fillR l i n (32, 0, p)) := by
  refine semi_mix (by rw [fillR_length]) h fun j hj => ?_
  rw [fillR_get]
  split
  · exact .inr ⟨cellS_blank hp, rfl⟩
  · exact .inl rfl
theorem semi_take {l : List Cell} (h : Semi l) (n : Nat) : Semi (l.take n) := by
  intro i hi
  rw [List.length_take] at hi
  rw [getD_take _ (by omega)]
  refine ⟨(h i (by omega)).1, fun hi1 => ?_⟩
  rw [List.length_take] at hi1
  rw [getD_take _ (by omega)]
  exact (h i (by omega)).2 (by omega)
theorem semi_drop {l : List Cell} (h : Semi l) (n : Nat) : Semi (l.drop n) := by
  intro i hi
  rw [List.length_drop] at hi
  rw [getD_drop]
  refine ⟨(h (n + i) (by omega)).1, fun hi1 => ?_⟩
  rw [List.length_drop] at hi1
  rw [getD_drop]
  exact (h (n + i) (by omega)).2 (by omega)
theorem semi_append {a b : List Cell} (ha : Semi a) (hb : Semi b) (hj : 1 ≤ a.length → 1 ≤ b.length → lk (a.getD (a.length - 1) dC) (b.getD 0 dC)) : Semi (a ++ b) := by
  intro i hi
  rw [List.length_append] at hi
  by_cases h1 : i < a.length
  · rw [getD_append_l _ h1]
    refine ⟨(ha i h1).1, fun hi1 => ?_⟩
    rw [List.length_append] at hi1
    by_cases h2 : i + 1 < a.length
    · rw [getD_append_l _ h2]; exact (ha i h1).2 h2
    · have e : a.length = i + 1 := by omega
      rw [getD_append_r _ (by omega), e, Nat.sub_self]
      have := hj (by omega) (by omega)
      rw [e] at this
      exact this
  · rw [getD_append_r _ (by omega)]
    refine ⟨(hb _ (by omega)).1, fun hi1 => ?_⟩
    rw [List.length_append] at hi1
    rw [getD_append_r _ (by omega), show i + 1 - a.length = i - a.length + 1 by omega]
    exact (hb _ (by omega)).2 (by omega)
theorem semi_rep (n : Nat) {p : Pen} (hp : rightPen p) : Semi (List.replicate n ((32, 0, p) : Cell)) := by
  intro i hi
  rw [List.length_replicate] at hi
  rw [getD_rep _ _ hi]
  exact ⟨cellS_blank hp, fun _ k => by cases k⟩
theorem semi_append_rep {a : List Cell} (ha : Semi a) (n : Nat) {p : Pen} (hp : rightPen p) : Semi (a ++ List.replicate n ((32, 0, p) : Cell)) := by
  refine semi_append ha (semi_rep n hp) fun _ h2 _ k => ?_
  rw [List.length_replicate] at h2
  rw [getD_rep _ _ h2] at k; cases k
/-! ### grids that may be -/
def GG (h w : Nat) (l : List Cell) : Prop := RG h w l ∧ ∀ r, r < h → Semi (rowOf w l r)
theorem GG.inRow {h w : Nat} {l : List Cell} {r : Nat} {f : List Cell → List Cell} (k : GG h w l) (hr : r < h) (hf : (f (rowOf w l r)).length = w) (hR : rightR (f (rowOf w l r))) (hS : Semi (f (rowOf w l r))) : GG h w (inRow w l r f) := by
  refine ⟨k.1.inRow hr hf hR, fun r' hr' => ?_⟩
  by_cases e : r' = r
  · subst e; rw [inRow_same k.1.1 hr hf]; exact hS
  · rw [inRow_other k.1.1 hr hf hr' e]; exact k.2 r' hr'
theorem GG.wipe {h w : Nat} {l : List Cell} (k : GG h w l) (r a b : Int) {p : Pen} (hp : rightPen p) : GG h w (wipe h w l r a b p) := by
  unfold Go.Proofs.YtpneolkfeihkhaaAbs.wipe
  split
  · rename_i hn
    have hr : r.toNat < h := by omega
    exact k.inRow hr (by rw [mend_length, fillR_length, rowOf_length k.1.1 hr]) (right_mend _) (semi_mend (semi_fill (k.2 _ hr) _ _ hp))
  · exact k
end Go.Proofs.YtpneolkfeihkhaaAbs

/- Plain laws: grids held right; grids made of numbers. -/
namespace Go.Proofs.YtpneolkfeihkhaaAbs
set_option linter.unusedVariables false
set_option linter.unusedSimpArgs false
open Go Go.Proofs
theorem color_eq {v : Int} (h : rightColour v) : hide cell_color_F v = some true := by
  rw [hide_eq]; unfold cell_color_F
  unfold rightColour at h
  by_cases h1 : v ≥ -1
  · by_cases h2 : v ≤ 255
    · simp [h1, h2]
    · have a1 : v ≥ 16777216 := by omega
      have a2 : v < 33554432 := by omega
      simp [h1, h2, a1, a2]
  · omega
theorem cellRight_eq {a b c : Int} (h : rightPen (a, b, c)) : hide cell_Right_F a b c = some true := by
  rw [hide_eq]; unfold cell_Right_F
  obtain ⟨h1, h2, h3, h4⟩ := h
  have h3' : (0 : Int) ≤ c := h3
  have h4' : c ≤ 255 := h4
  rw [color_eq h1, color_eq h2]
  simp [optK_s, h3', h4']
theorem may_eq {l : List Cell} (hl : l.length < 4611686018427387904) (hS : Semi l) (hR : rightR l) {i : Nat} (hi : i < l.length) : hide grid_may_F l (Int.ofNat i) = some true := by
  rw [hide_eq]; unfold grid_may_F
  have e0 : decide ((0 : Int) ≤ Int.ofNat i) = true := by simp
  rw [ofNat_lt, e0, toNat_ofNat', width_eq, half_eq l i hl hi, hR i hi]
  obtain ⟨⟨p1, p2⟩, p3⟩ := hS i hi
  have hh := hR i hi
  rw [show ((0 : Int), (0 : Int), (0 : Int), (0 : Int), (0 : Int)) = dC from rfl]
  have hn : kd l i = 1 → i + 1 < l.length ∧ kd l (i + 1) = 2 := by
    intro k
    have : ¬ halfB l i = true := by rw [hh]; simp
    rw [half_iff] at this
    refine ⟨?_, ?_⟩
    · rcases Nat.lt_or_ge (i + 1) l.length with h | h
      · exact h
      · exact absurd (.inl ⟨k, .inl (by omega)⟩) this
    · exact Decidable.byContradiction fun h => this (.inl ⟨k, .inr h⟩)
  unfold kd at hn
  have hp : hide cell_Right_F (l.getD i dC).2.2.1 (l.getD i dC).2.2.2.1 (l.getD i dC).2.2.2.2 = some true := cellRight_eq p1
  rw [hp]
  simp only [hi, decide_true, cond_true, Bool.and_self, optK_s]
  rcases p2 with ⟨k1, k2⟩ | ⟨k1, k2⟩ | ⟨k1, k2⟩
  · rw [k1, k2]; rfl
  · obtain ⟨n1, n2⟩ := hn k1
    have e1 := p3 n1 k1 n2
    have e2 : decide ((0 : Int) ≤ Int.ofNat (i + 1)) = true := decide_eq_true (by show (0 : Int) ≤ ((i + 1 : Nat) : Int); omega)
    rw [k1, k2, wrap_succ (by omega), ofNat_lt, e2, toNat_ofNat', e1]
    simp [n1]
  · rw [k1, k2]; rfl
theorem wrap_nat {q : Nat} (h : q < 4611686018427387904) : IntKind.i64.wrap (Int.ofNat q) = Int.ofNat q := w64 (by show _ ≤ (q : Int); omega) (by show (q : Int) < _; omega)
theorem right_loop {h w : Nat} {l : List Cell} (k : GG h w l) (hh : h ≤ 40) (w1 : 1 ≤ w) (hw : w ≤ 60) : ∀ (n i : Nat), i ≤ h * w → h * w - i < n →
    grid_Right_L4 n (Int.ofNat (h * w)) (Int.ofNat i) (Int.ofNat h) (Int.ofNat w) l = some (.inr ()) := by
  have hsm := small_mul (show h ≤ 64 by omega) (show w ≤ 64 by omega)
  intro n
  induction n with
  | zero => intro i h1 h2; omega
  | succ n ih =>
    intro i h1 h2
    rw [grid_Right_L4, ofNat_lt]
    by_cases hi : i < h * w
    · have hr : i / w < h := by rw [Nat.div_lt_iff_lt_mul (by omega)]; omega
      have hc : i % w < w := Nat.mod_lt _ (by omega)
      have e1 : (Int.ofNat i).tdiv (Int.ofNat w) = Int.ofNat (i / w) := rfl
      have e2 : (Int.ofNat i).tmod (Int.ofNat w) = Int.ofNat (i % w) := rfl
      have e3 : (Int.ofNat w == 0) = false := beq_false_of_ne (by show (w : Int) ≠ 0; omega)
      have e4 : IntKind.i64.wrap (Int.ofNat (i / w)) = Int.ofNat (i / w) := wrap_nat (by omega)
      have hb := mul_bound (w := w) hr
      have hl := k.1.1
      have hM := rowOf_length hl hr
      rw [e1, e2, e3, e4, row_lo (i / w) w (by omega) (by omega), row_hi (i / w) w (by omega) (by omega), bnds_ok (by omega) (by omega), cutList_ok (by omega)]
      have e5 : i / w * w + w - i / w * w = w := by omega
      rw [e5, show (l.drop (i / w * w)).take w = rowOf w l (i / w) from rfl, may_eq (by omega) (k.2 _ hr) (k.1.2 _ hr) (by omega), wrap_succ (by omega), ih (i + 1) (by omega) (by omega)]
      simp [hi, optK_s]
    · rw [decide_eq_false hi]; rfl
theorem gridRight_eq {R C : Int} {h w : Nat} (hR : R = Int.ofNat h) (hC : C = Int.ofNat w) (h1 : 1 ≤ h) (hh : h ≤ 40) (w1 : 1 ≤ w) (hw : w ≤ 60) {l : List Cell} (k : GG h w l) : hide grid_Right_F R C l = some true := by
  subst hR hC
  rw [hide_eq]; unfold grid_Right_F
  have e1 : decide (Int.ofNat h < 1) = false := decide_eq_false (by show ¬ (h : Int) < 1; omega)
  have e2 : decide (Int.ofNat h > 40) = false := decide_eq_false (by show ¬ (h : Int) > 40; omega)
  have e3 : decide (Int.ofNat w < 1) = false := decide_eq_false (by show ¬ (w : Int) < 1; omega)
  have e4 : decide (Int.ofNat w > 60) = false := decide_eq_false (by show ¬ (w : Int) > 60; omega)
  have hl := right_loop k hh w1 hw (grid_Right_fu4 (Int.ofNat (h * w)) (Int.ofNat 0) (Int.ofNat h) (Int.ofNat w) l) 0 (by omega) (by unfold grid_Right_fu4; have : (Int.ofNat (h * w)).natAbs = h * w := rfl; omega)
  have z : Int.ofNat 0 = 0 := rfl
  rw [z] at hl
  rw [e1, e2, e3, e4, k.1.1, row_lo h w (by omega) (by omega), hide_eq grid_Right_L4, hl]
  simp [optK_s, sumK]

/-! ### books -/
theorem bookSame_loop (a b : List Cell) (hl : a.length = b.length) (hb : a.length < 4611686018427387904) : ∀ (n i : Nat), i ≤ a.length → a.length - i < n →
    linguistbook_Same_api_Cell_L4 n a b (Int.ofNat i) = some (if a.drop i = b.drop i then .inr () else .inl false) := by
  intro n
  induction n with
  | zero => intro i h1 h2; omega
  | succ n ih =>
    intro i h1 h2
    rw [linguistbook_Same_api_Cell_L4]
    by_cases hi : i < a.length
    · have e0 : decide ((0 : Int) ≤ Int.ofNat i) = true := by simp
      rw [ofNat_lt, ofNat_lt, e0, toNat_ofNat', cell_beq, wrap_succ (by omega), ih (i + 1) (by omega) (by omega)]
      have e2 : a.getD i dC = a[i] := by simp [hi]
      have e3 : b.getD i dC = b[i]'(by omega) := by simp [show i < b.length by omega]
      have hi2 : i < b.length := by omega
      simp only [hi, hi2, decide_true, Bool.and_self, cond_true, e2, e3]
      have hc : (a.drop i = b.drop i) ↔ (a[i] = b[i] ∧ a.drop (i + 1) = b.drop (i + 1)) := by
        rw [List.drop_eq_getElem_cons hi, List.drop_eq_getElem_cons hi2]
        exact ⟨fun k => by injection k with k1 k2; exact ⟨k1, k2⟩, fun k => by rw [k.1, k.2]⟩
      by_cases he : a[i] = b[i]
      · rw [decide_eq_true he]
        by_cases hd : a.drop (i + 1) = b.drop (i + 1)
        · rw [if_pos hd, if_pos (hc.2 ⟨he, hd⟩)]; rfl
        · rw [if_neg hd, if_neg (fun k => hd (hc.1 k).2)]; rfl
      · rw [decide_eq_false he, if_neg (fun k => he (hc.1 k).1)]; rfl
    · have : i = a.length := by omega
      subst this
      have e : decide (Int.ofNat a.length < Int.ofNat a.length) = false := by simp
      rw [e, List.drop_length, hl, List.drop_length]
      rfl
theorem bookSame_eq (a b : List Cell) (hb : a.length < 4611686018427387904) : hide linguistbook_Same_api_Cell_F a b = some (decide (a = b)) := by
  rw [hide_eq]; unfold linguistbook_Same_api_Cell_F
  by_cases hl : a.length = b.length
  · have : (Int.ofNat a.length != Int.ofNat b.length) = false := by rw [hl]; simp
    rw [this]
    simp only [cond_false, hide_eq]
    have h := bookSame_loop a b hl hb (linguistbook_Same_api_Cell_fu4 a b (Int.ofNat 0)) 0 (by omega) (by unfold linguistbook_Same_api_Cell_fu4; omega)
    rw [show (0 : Int) = Int.ofNat 0 from rfl, h]
    simp only [List.drop_zero, optK_s]
    by_cases he : a = b
    · simp [he, sumK]
    · simp [he, sumK]
  · have : (Int.ofNat a.length != Int.ofNat b.length) = true := by
      rw [bne_iff_ne]; intro k; exact hl (Int.ofNat.inj k)
    rw [this, decide_eq_false (fun k => hl (by rw [k]))]
    rfl

/-! ### grids out of numbers -/
def flatG (w : Nat) (l : List Cell) : Prop := ∀ j, j < l.length → cellS (l.getD j dC) ∧ (kd l j = 1 → j + 1 < l.length ∧ (j + 1) % w ≠ 0 ∧ kd l (j + 1) = 2 ∧ (l.getD (j + 1) dC).2.2 = (l.getD j dC).2.2) ∧ (kd l j = 2 → j % w ≠ 0 ∧ kd l (j - 1) = 1)
theorem flat_nil (w : Nat) : flatG w [] := fun j h => by simp at h
theorem flat_one {w : Nat} {l : List Cell} (h : flatG w l) {x : Int} {p : Pen} (hw : widthP x = 1) (hp : rightPen p) : flatG w (l ++ [(x, 0, p)]) := by
  intro j hj
  rw [List.length_append, List.length_singleton] at hj
  unfold kd
  by_cases h1 : j < l.length
  · rw [getD_append_l _ h1]
    obtain ⟨a, b, c⟩ := h j h1
    refine ⟨a, fun k => ?_, fun k => ?_⟩
    · obtain ⟨b1, b2, b3, b4⟩ := b k
      rw [getD_append_l _ b1]
      exact ⟨by simp; omega, b2, b3, b4⟩
    · rw [getD_append_l _ (by omega)]; exact c k
  · have e : j = l.length := by omega
    subst e
    rw [getD_append_r _ (by omega), Nat.sub_self]
    exact ⟨cellS_single hw hp, fun k => (by cases k), fun k => (by cases k)⟩
theorem flat_two {w : Nat} {l : List Cell} (h : flatG w l) {x : Int} {p : Pen} (hw : widthP x = 2) (hp : rightPen p) (hm : (l.length + 1) % w ≠ 0) : flatG w (l ++ [(x, 1, p), (0, 2, p)]) := by
  intro j hj
  rw [List.length_append, List.length_cons, List.length_singleton] at hj
  unfold kd
  have hlen : (l ++ [((x, 1, p) : Cell), (0, 2, p)]).length = l.length + 2 := by simp
  rw [hlen]
  have g0 : (l ++ [((x, 1, p) : Cell), (0, 2, p)]).getD l.length dC = (x, 1, p) := by rw [getD_append_r _ (by omega), Nat.sub_self]; rfl
  have g1 : (l ++ [((x, 1, p) : Cell), (0, 2, p)]).getD (l.length + 1) dC = (0, 2, p) := by rw [getD_append_r _ (by omega), Nat.add_sub_cancel_left]; rfl
  by_cases h1 : j < l.length
  · rw [getD_append_l _ h1]
    obtain ⟨a, b, c⟩ := h j h1
    refine ⟨a, fun k => ?_, fun k => ?_⟩
    · obtain ⟨b1, b2, b3, b4⟩ := b k
      rw [getD_append_l _ b1]
      exact ⟨by omega, b2, b3, b4⟩
    · rw [getD_append_l _ (by omega)]; exact c k
  · by_cases h2 : j = l.length
    · subst h2
      rw [g0, g1]
      exact ⟨⟨hp, .inr (.inl ⟨rfl, hw⟩)⟩, fun _ => ⟨by omega, hm, rfl, rfl⟩, fun k => by cases k⟩
    · have h3 : j = l.length + 1 := by omega
      subst h3
      rw [g1]
      refine ⟨⟨hp, .inr (.inr ⟨rfl, rfl⟩)⟩, fun k => (by cases k), fun _ => ⟨hm, ?_⟩⟩
      rw [Nat.add_sub_cancel, g0]
theorem flat_GG {h w : Nat} {l : List Cell} (k : flatG w l) (hl : l.length = h * w) : GG h w l := by
  have key : ∀ r, r < h → ∀ i, i < w → r * w + i < l.length := fun r hr i hi => by
    have := mul_bound (w := w) hr; omega
  refine ⟨⟨hl, fun r hr i hi => ?_⟩, fun r hr i hi => ?_⟩
  · rw [rowOf_length hl hr] at hi
    cases hb : halfB (rowOf w l r) i
    · rfl
    · exfalso
      rw [half_iff, rowOf_length hl hr] at hb
      obtain ⟨_, b, c⟩ := k (r * w + i) (key r hr i hi)
      unfold kd at hb b c
      rw [rowOf_getD hi] at hb
      rcases hb with ⟨h1, h2⟩ | ⟨h1, h2⟩
      · obtain ⟨b1, b2, b3, _⟩ := b h1
        rcases h2 with h2 | h2
        · apply b2
          rw [Nat.add_assoc, h2, Nat.mul_comm, ← Nat.mul_succ, Nat.mul_mod_right]
        · by_cases h3 : i + 1 < w
          · rw [rowOf_getD h3] at h2; exact h2 b3
          · apply b2
            have : i + 1 = w := by omega
            rw [Nat.add_assoc, this, Nat.mul_comm, ← Nat.mul_succ, Nat.mul_mod_right]
      · obtain ⟨c1, c2⟩ := c h1
        rcases h2 with h2 | h2
        · apply c1; rw [h2, Nat.add_zero, Nat.mul_mod_left]
        · have h0 : i ≠ 0 := fun h0 => by apply c1; rw [h0, Nat.add_zero, Nat.mul_mod_left]
          rw [rowOf_getD (by omega)] at h2
          apply h2
          rw [show r * w + (i - 1) = r * w + i - 1 by omega]; exact c2
  · rw [rowOf_length hl hr] at hi
    rw [rowOf_length hl hr, rowOf_getD hi]
    obtain ⟨a, b, _⟩ := k (r * w + i) (key r hr i hi)
    refine ⟨a, fun h1 h2 _ => ?_⟩
    rw [rowOf_getD h1]
    exact (b h2).2.2.2
theorem pick_eq (l : List Int) (hl : ∀ y, y ∈ l → in64 y) (i : Nat) : ∃ v, hide linguistkeep_pick_F l (Int.ofNat i) = some v ∧ in64 v := by
  rw [hide_eq]; unfold linguistkeep_pick_F
  cases hn : l with
  | nil => exact ⟨0, rfl, by unfold in64; omega⟩
  | cons x t =>
    rw [← hn]
    have hpos : 0 < l.length := by rw [hn]; simp
    have e1 : (Int.ofNat l.length == 0) = false := beq_false_of_ne (by show (l.length : Int) ≠ 0; omega)
    have e2 : (Int.ofNat i).tmod (Int.ofNat l.length) = Int.ofNat (i % l.length) := rfl
    have hm := Nat.mod_lt i hpos
    have e3 : decide ((0 : Int) ≤ Int.ofNat (i % l.length)) = true := decide_eq_true (by show (0 : Int) ≤ ((i % l.length : Nat) : Int); omega)
    rw [e1, e2, ofNat_lt, e3, decide_eq_true hm, toNat_ofNat']
    refine ⟨_, rfl, hl _ ?_⟩
    rw [List.getD_eq_getElem?_getD, List.getElem?_eq_getElem hm]
    exact List.getElem_mem hm
theorem wide_20k {n : Int} (h0 : 0 ≤ n) (h1 : n ≤ 8) : widthP (19968 + n) = 2 := by
  unfold widthP
  have a : narrowP (19968 + n) = false := by
    unfold narrowP
    simp only [Bool.or_eq_false_iff, decide_eq_false_iff_not]
    omega
  have b : wideP (19968 + n) = true := by
    unfold wideP
    have : decide (11904 ≤ 19968 + n ∧ 19968 + n ≤ 42191) = true := decide_eq_true (by omega)
    rw [this]; simp
  rw [a, b]; rfl
theorem wide_no {x : Int} (h : x < 4352) : wideP x = false := by
  unfold wideP
  simp only [Bool.or_eq_false_iff, decide_eq_false_iff_not]
  omega
theorem width_ascii {x : Int} (h0 : 32 ≤ x) (h1 : x ≤ 126) : widthP x = 1 := by
  unfold widthP
  have a : narrowP x = false := by
    unfold narrowP
    simp only [Bool.or_eq_false_iff, decide_eq_false_iff_not]
    omega
  rw [a, wide_no (by omega)]; rfl
theorem tdiv_in64 {v : Int} (h : in64 v) : in64 (v.tdiv 16) ∧ in64 (v.tdiv 64) := by
  unfold in64 at *
  have a1 : v.tmod 16 = v - 16 * v.tdiv 16 := Int.tmod_def _ _
  have a2 : v.tmod 16 < 16 := Int.tmod_lt_of_pos _ (by omega)
  have a3 : -16 < v.tmod 16 := by have := Int.lt_tmod_of_pos v (show (0 : Int) < 16 by omega); omega
  have b1 : v.tmod 64 = v - 64 * v.tdiv 64 := Int.tmod_def _ _
  have b2 : v.tmod 64 < 64 := Int.tmod_lt_of_pos _ (by omega)
  have b3 : -64 < v.tmod 64 := by have := Int.lt_tmod_of_pos v (show (0 : Int) < 64 by omega); omega
  omega
theorem keepGrid_loop {x2 x3 a3 a4 a7 a8 : Int} {rs ps : List Int} {h w : Nat} (hh : h ≤ 5) (w1 : 1 ≤ w) (hw : w ≤ 9) (hr : ∀ y, y ∈ rs → in64 y) (hp : ∀ y, y ∈ ps → in64 y) {a9 a10 : Int} {z : List Cell} : ∀ (n i : Nat) (l : List Cell), l.length = i → i ≤ h * w → flatG w l → h * w - i < n →
    ∃ m : List Cell, m.length = h * w ∧ flatG w m ∧ linguistkeep_Grid_Grid_L4 n (Int.ofNat h) (Int.ofNat w) (Int.ofNat i) a3 a4 rs ps a7 a8 a9 a10 z l = some (a7, a8, a9, a10, z, m) := by
  have hsm : h * w ≤ 45 := Nat.mul_le_mul hh hw
  intro n
  induction n with
  | zero => intro i l h0 h1 h2 h3; omega
  | succ n ih =>
    intro i l h0 h1 h2 h3
    rw [linguistkeep_Grid_Grid_L4, row_lo h w (by omega) (by omega), ofNat_lt]
    by_cases hi : i < h * w
    · rw [decide_eq_true hi]
      obtain ⟨y, hy, y1⟩ := pick_eq rs hr i
      have e1 : IntKind.i64.wrap ((Int.ofNat i).tdiv 3) = Int.ofNat (i / 3) := by
        have : (Int.ofNat i).tdiv 3 = Int.ofNat (i / 3) := rfl
        rw [this]; exact w64 (by show _ ≤ ((i / 3 : Nat) : Int); omega) (by show ((i / 3 : Nat) : Int) < _; omega)
      obtain ⟨v, hv, v1⟩ := pick_eq ps hp (i / 3)
      obtain ⟨d1, d2⟩ := tdiv_in64 v1
      obtain ⟨p, hpp, p1⟩ := pen_eq v (v.tdiv 16) (v.tdiv 64) v1 d1 d2
      obtain ⟨b, hb, b1, b2⟩ := within_eq y 0 9 y1.1 y1.2 (by omega) (by omega) (by omega)
      rw [hy, e1, hv]
      simp only [cond_true, optK_s]
      rw [w64 d1.1 d1.2, w64 d2.1 d2.2, hpp]
      have single : widthP (IntKind.i32.wrap (IntKind.i64.wrap (97 + b))) = 1 := by
        rw [w64 (by omega) (by omega), w32 (by omega) (by omega)]; exact width_ascii (by omega) (by omega)
      have l1 : (l.length + 1).ble 274877906944 = true := Nat.ble_eq_true_of_le (by omega)
      have l2 : (l.length + 2).ble 274877906944 = true := Nat.ble_eq_true_of_le (by omega)
      rw [wrap_succ (by omega), hb]
      have S1 := ih (i + 1) (l ++ [(IntKind.i32.wrap (IntKind.i64.wrap (97 + b)), 0, p.1, p.2.1, p.2.2)]) (by simp; omega) (by omega) (flat_one h2 single p1) (by omega)
      have ew : (Int.ofNat w == 0) = false := beq_false_of_ne (by show (w : Int) ≠ 0; omega)
      have em : (Int.ofNat (i + 1)).tmod (Int.ofNat w) = Int.ofNat ((i + 1) % w) := rfl
      rw [ew, em]
      simp only [optK_s, List.length_cons, List.length_nil, Nat.zero_add, Nat.reduceAdd, l1, l2, Bool.and_self, cond_true, cond_false]
      cases h5 : (y.tmod 5 == 4) with
      | false => exact S1
      | true =>
        by_cases hm : (i + 1) % w = 0
        · have : (Int.ofNat ((i + 1) % w) != 0) = false := by rw [hm]; rfl
          rw [this]; exact S1
        · have : (Int.ofNat ((i + 1) % w) != 0) = true := by rw [bne_iff_ne]; intro k; exact hm (Int.ofNat.inj k)
          rw [this]
          have h5' := eq_of_beq h5
          have hy0 : 0 ≤ y := by
            rcases Int.lt_or_le y 0 with hneg | hpos
            · exfalso
              have q1 : (-(-y)).tmod 5 = -((-y).tmod 5) := Int.neg_tmod (-y) 5
              have q2 : 0 ≤ (-y).tmod 5 := Int.tmod_nonneg 5 (by omega)
              rw [Int.neg_neg] at q1
              omega
            · exact hpos
          have n0 : 0 ≤ y.tmod 9 := Int.tmod_nonneg 9 hy0
          have n1 : y.tmod 9 < 9 := Int.tmod_lt_of_pos y (by omega)
          have dbl : widthP (IntKind.i32.wrap (IntKind.i64.wrap (19968 + y.tmod 9))) = 2 := by
            rw [w64 (by omega) (by omega), w32 (by omega) (by omega)]; exact wide_20k n0 (by omega)
          have hi1 : i + 1 < h * w := by
            rcases Nat.lt_or_ge (i + 1) (h * w) with a | a
            · exact a
            · exfalso; apply hm; rw [show i + 1 = h * w by omega, Nat.mul_mod_left]
          rw [wrap_succ (by omega)]
          exact ih (i + 1 + 1) (l ++ [(IntKind.i32.wrap (IntKind.i64.wrap (19968 + y.tmod 9)), 1, p.1, p.2.1, p.2.2), (0, 2, p.1, p.2.1, p.2.2)]) (by simp; omega) (by omega) (flat_two (p := p) h2 dbl p1 (by rw [h0]; exact hm)) (by omega)
    · have e : i = h * w := by omega
      rw [decide_eq_false hi]
      exact ⟨l, by omega, h2, rfl⟩
theorem keepGrid_eq {x0 x1 : Int} {rs ps : List Int} (h0 : in64 x0) (h1 : in64 x1) (hr : ∀ y, y ∈ rs → in64 y) (hp : ∀ y, y ∈ ps → in64 y) :
    ∃ (h w : Nat) (l : List Cell), 1 ≤ h ∧ h ≤ 5 ∧ 1 ≤ w ∧ w ≤ 9 ∧ GG h w l ∧ hide linguistkeep_Grid_Grid_F x0 x1 rs ps = some (Int.ofNat h, Int.ofNat w, l) := by
  rw [hide_eq]; unfold linguistkeep_Grid_Grid_F
  obtain ⟨a, ha, a1, a2⟩ := within_eq x0 1 5 h0.1 h0.2 (by omega) (by omega) (by omega)
  obtain ⟨b, hb, b1, b2⟩ := within_eq x1 1 9 h1.1 h1.2 (by omega) (by omega) (by omega)
  obtain ⟨h, rfl⟩ : ∃ h : Nat, a = Int.ofNat h := ⟨a.toNat, by show a = ((a.toNat : Nat) : Int); omega⟩
  obtain ⟨w, rfl⟩ : ∃ w : Nat, b = Int.ofNat w := ⟨b.toNat, by show b = ((b.toNat : Nat) : Int); omega⟩
  have a1' : (1 : Int) ≤ (h : Int) := a1
  have a2' : (h : Int) ≤ 5 := a2
  have b1' : (1 : Int) ≤ (w : Int) := b1
  have b2' : (w : Int) ≤ 9 := b2
  have hsm : h * w ≤ 45 := Nat.mul_le_mul (show h ≤ 5 by omega) (show w ≤ 9 by omega)
  obtain ⟨m, m1, m2, m3⟩ := keepGrid_loop (x2 := 0) (x3 := 0) (a3 := x0) (a4 := x1) (a7 := 0) (a8 := 0) (h := h) (w := w) (by omega) (by omega) (by omega) hr hp (a9 := Int.ofNat h) (a10 := Int.ofNat w) (z := []) (linguistkeep_Grid_Grid_fu4 (Int.ofNat h) (Int.ofNat w) 0 x0 x1 rs ps 0 0 (Int.ofNat h) (Int.ofNat w) [] []) 0 [] rfl (by omega) (flat_nil w) (by
    unfold linguistkeep_Grid_Grid_fu4
    have e1 : (Int.ofNat h).natAbs = h := rfl
    have e2 : (Int.ofNat w).natAbs = w := rfl
    rw [e1, e2]
    have : h * w ≤ 5 * w := Nat.mul_le_mul_right w (by omega)
    omega)
  rw [ha, hb]
  simp only [optK_s, hide_eq linguistkeep_Grid_Grid_L4]
  rw [show (0 : Int) = Int.ofNat 0 from rfl] at *
  rw [m3]
  exact ⟨h, w, m, by omega, by omega, by omega, by omega, flat_GG m2 m1, rfl⟩
end Go.Proofs.YtpneolkfeihkhaaAbs

/- Plain laws: the document's own grids: made, mended, set, wiped. -/
namespace Go.Proofs.YtpneolkfeihkhaaAbs
set_option linter.unusedVariables false
set_option linter.unusedSimpArgs false
open Go Go.Proofs
theorem refNew_loop {a5 a6 a7 a8 p0 p1 p2 : Int} {a9 : List Cell} {N : Nat} (hN : N ≤ 4096) : ∀ (n i : Nat), i ≤ N → N - i < n →
    linguistref7_New_L3 n (Int.ofNat N) (Int.ofNat i) p0 p1 p2 a5 a6 a7 a8 a9 (List.replicate i (32, 0, p0, p1, p2)) = some (a5, a6, a7, a8, a9, List.replicate N (32, 0, p0, p1, p2)) := by
  intro n
  induction n with
  | zero => intro i h1 h2; omega
  | succ n ih =>
    intro i h1 h2
    rw [linguistref7_New_L3, ofNat_lt]
    by_cases hi : i < N
    · have l1 : (i + 1).ble 274877906944 = true := Nat.ble_eq_true_of_le (by omega)
      rw [decide_eq_true hi, wrap_succ (by omega)]
      simp only [List.length_replicate, List.length_cons, List.length_nil, Nat.zero_add, l1, Bool.and_self, cond_true]
      have := ih (i + 1) (by omega) (by omega)
      rw [List.replicate_succ'] at this
      exact this
    · have : i = N := by omega
      subst this
      rw [decide_eq_false hi]; rfl
theorem refNew_eq {h w : Nat} (hh : h ≤ 60) (hw : w ≤ 60) (p0 p1 p2 : Int) : hide linguistref7_New_F (Int.ofNat h) (Int.ofNat w) p0 p1 p2 = some (Int.ofNat h, Int.ofNat w, List.replicate (h * w) (32, 0, p0, p1, p2)) := by
  have hsm := small_mul (show h ≤ 64 by omega) (show w ≤ 64 by omega)
  rw [hide_eq]; unfold linguistref7_New_F
  rw [row_lo h w (by omega) (by omega), hide_eq]
  have := refNew_loop (a5 := 0) (a6 := 0) (a7 := Int.ofNat h) (a8 := Int.ofNat w) (p0 := p0) (p1 := p1) (p2 := p2) (a9 := []) hsm (linguistref7_New_fu3 (Int.ofNat (h * w)) 0 p0 p1 p2 0 0 (Int.ofNat h) (Int.ofNat w) [] []) 0 (by omega) (by unfold linguistref7_New_fu3; have : (Int.ofNat (h * w)).natAbs = h * w := rfl; omega)
  rw [show (0 : Int) = Int.ofNat 0 from rfl] at *
  rw [List.replicate_zero] at this
  rw [this]; rfl
theorem refMend_step (n : Nat) (l acc : List Cell) (i : Nat) (hl : l.length ≤ 4096) (ha : acc.length = l.length) (hi : i < l.length) :
    linguistref7_Mend_L3 (n + 1) l l (Int.ofNat l.length) (Int.ofNat i) acc = linguistref7_Mend_L3 n l l (Int.ofNat l.length) (Int.ofNat (i + 1)) (bif halfB l i then acc.set i (blankOf (l.getD i dC)) else acc) := by
  rw [linguistref7_Mend_L3]
  have e0 : decide ((0 : Int) ≤ Int.ofNat i) = true := by simp
  have e1 : (Int.ofNat i).toNat = i := rfl
  have e2 : (Int.ofNat (i + 1)).toNat = i + 1 := rfl
  have e3 : decide ((0 : Int) ≤ Int.ofNat (i + 1)) = true := decide_eq_true (by show (0 : Int) ≤ ((i + 1 : Nat) : Int); omega)
  rw [wrap_succ (by omega)]
  simp only [ofNat_lt, e0, e1, e2, e3, ha, hi, decide_true, Bool.and_self, cond_true]
  rw [show ((0 : Int), (0 : Int), (0 : Int), (0 : Int), (0 : Int)) = dC from rfl]
  have eB : ((32 : Int), (0 : Int), (l.getD i dC).2.2.1, (l.getD i dC).2.2.2.1, (l.getD i dC).2.2.2.2) = blankOf (l.getD i dC) := rfl
  rw [eB]
  unfold halfB
  by_cases k1 : (l.getD i dC).2.1 = 1
  · have q1 : ((l.getD i dC).2.1 == 1) = true := by rw [k1]; rfl
    have q2 : ((l.getD i dC).2.1 == 2) = false := by rw [k1]; rfl
    simp only [q1, q2, cond_true, cond_false]
    by_cases h2 : i + 1 = l.length
    · have : (Int.ofNat (i + 1) == Int.ofNat l.length) = true := by rw [h2]; simp
      have t2 : decide (i + 1 = l.length) = true := decide_eq_true h2
      simp only [this, t2, cond_true, Bool.true_or]
    · have h3 : (Int.ofNat (i + 1) == Int.ofNat l.length) = false := beq_false_of_ne fun k => h2 (Int.ofNat.inj k)
      have h4 : i + 1 < l.length := by omega
      simp only [h3, h4, h2, cond_true, cond_false, decide_true, decide_false, Bool.false_or]
      cases (l.getD (i + 1) dC).2.1 != 2 <;> rfl
  · have q1 : ((l.getD i dC).2.1 == 1) = false := beq_false_of_ne k1
    simp only [q1, cond_false]
    by_cases k2 : (l.getD i dC).2.1 = 2
    · have q2 : ((l.getD i dC).2.1 == 2) = true := by rw [k2]; rfl
      simp only [q2, cond_true]
      by_cases h3 : i = 0
      · subst h3; rfl
      · have h4 : (Int.ofNat i == (0 : Int)) = false := beq_false_of_ne fun k => h3 (Int.ofNat.inj k)
        have e4 : IntKind.i64.wrap (Int.ofNat i - 1) = Int.ofNat (i - 1) := by
          rw [w64 (by simp; omega) (by simp; omega)]; simp; omega
        have e5 : decide ((0 : Int) ≤ Int.ofNat (i - 1)) = true := by simp
        have h5 : i - 1 < l.length := by omega
        rw [h4, e4]
        simp only [toNat_ofNat', ofNat_lt, e5, h5, h3, cond_true, cond_false, decide_true, decide_false, Bool.and_self, Bool.false_or]
        cases (l.getD (i - 1) dC).2.1 != 1 <;> rfl
    · have q2 : ((l.getD i dC).2.1 == 2) = false := beq_false_of_ne k2
      simp only [q2, cond_false]
theorem refMend_loop (l : List Cell) (hl : l.length ≤ 4096) : ∀ (n i : Nat), i ≤ l.length → l.length - i < n →
    linguistref7_Mend_L3 n l l (Int.ofNat l.length) (Int.ofNat i) ((mend l).take i ++ l.drop i) = some (mend l) := by
  intro n
  induction n with
  | zero => intro i h1 h2; omega
  | succ n ih =>
    intro i h1 h2
    by_cases hi : i < l.length
    · rw [refMend_step n l _ i hl (by simp [mend_length]; omega) hi]
      have e4 := mend_get l i hi
      unfold mendAt at e4
      have e2 : l.getD i dC = l[i] := by simp [hi]
      cases hh : halfB l i with
      | true =>
        rw [hh] at e4
        simp only [cond_true] at e4 ⊢
        rw [take_set_drop (mend l) l i _ hi (mend_length l) e4]
        exact ih (i + 1) (by omega) (by omega)
      | false =>
        rw [hh] at e4
        simp only [cond_false] at e4 ⊢
        rw [take_keep_drop (mend l) l i hi (mend_length l) (by rw [e4, e2])]
        exact ih (i + 1) (by omega) (by omega)
    · have : i = l.length := by omega
      subst this
      rw [linguistref7_Mend_L3]
      have e : decide (Int.ofNat l.length < Int.ofNat l.length) = false := by simp
      rw [e, List.drop_length, List.append_nil, List.take_of_length_le (by rw [mend_length]; exact Nat.le_refl _)]
      rfl
theorem refMend_eq (l : List Cell) (hl : l.length ≤ 4096) : hide linguistref7_Mend_F l = some (mend l) := by
  rw [hide_eq]; unfold linguistref7_Mend_F
  have e : (l.length.ble 274877906944) = true := Nat.ble_eq_true_of_le (by omega)
  rw [e]
  simp only [hide_eq, cond_true, Bool.and_self]
  have := refMend_loop l hl (linguistref7_Mend_fu3 l l (Int.ofNat l.length) (Int.ofNat 0) l) 0 (by omega) (by unfold linguistref7_Mend_fu3; omega)
  simp only [List.take_zero, List.drop_zero, List.nil_append] at this
  rw [show (0 : Int) = Int.ofNat 0 from rfl, this]
  rfl
theorem refSet_loop {R a6 a7 : Int} {a9 A M B row : List Cell} {r w : Nat} (hA : A.length = r * w) (hrow : row.length = w) (hM : M.length = w) (hr : r ≤ 60) (hw : w ≤ 60) : ∀ (n i : Nat), i ≤ w → w - i < n →
    linguistref7_set_L3 n (Int.ofNat r) row (Int.ofNat w) (Int.ofNat i) R (Int.ofNat w) a6 a7 (A ++ (row.take i ++ M.drop i) ++ B) a9 = some (R, Int.ofNat w, a6, a7, A ++ row ++ B, a9) := by
  have hsm := small_mul (show r ≤ 64 by omega) (show w ≤ 64 by omega)
  intro n
  induction n with
  | zero => intro i h1 h2; omega
  | succ n ih =>
    intro i h1 h2
    rw [linguistref7_set_L3, ofNat_lt]
    by_cases hi : i < w
    · have e0 : decide ((0 : Int) ≤ Int.ofNat i) = true := by simp
      have e1 : (Int.ofNat i).toNat = i := rfl
      have e2 : IntKind.i64.wrap (Int.ofNat (r * w) + Int.ofNat i) = Int.ofNat (r * w + i) := w64 (by show _ ≤ ((r * w : Nat) : Int) + (i : Int); omega) (by show ((r * w : Nat) : Int) + (i : Int) < _; omega)
      have e3 : decide ((0 : Int) ≤ Int.ofNat (r * w + i)) = true := decide_eq_true (by show (0 : Int) ≤ ((r * w + i : Nat) : Int); omega)
      have e4 : (Int.ofNat (r * w + i)).toNat = A.length + i := by rw [hA]; rfl
      have hl : (A ++ (row.take i ++ M.drop i) ++ B).length = r * w + w + B.length := by simp; omega
      have e5 : r * w + i < r * w + w + B.length := by omega
      rw [decide_eq_true hi, row_lo r w (by omega) (by omega), e2, e4, hl]
      simp only [ofNat_lt, e0, e1, e3, e5, hrow, hi, decide_true, Bool.and_self, cond_true]
      have e6 : row[i]'(by omega) = ((row.getD i dC).1, (row.getD i dC).2.1, (row.getD i dC).2.2.1, (row.getD i dC).2.2.2.1, (row.getD i dC).2.2.2.2) := by
        have : row.getD i dC = row[i]'(by omega) := by simp [show i < row.length by omega]
        rw [this]
      rw [set3 i _ (by simp; omega), take_set_drop row M i _ (by omega) (by omega) e6, wrap_succ (by omega)]
      exact ih (i + 1) (by omega) (by omega)
    · have : i = w := by omega
      subst this
      rw [decide_eq_false hi, List.take_of_length_le (by omega), List.drop_of_length_le (by omega), List.append_nil]
      rfl
theorem refSet_eq {R C : Int} {h w : Nat} (hR : R = Int.ofNat h) (hC : C = Int.ofNat w) (hh : h ≤ 60) (hw : w ≤ 60) {l : List Cell} (hl : l.length = h * w) {r : Nat} (hr : r < h) {row : List Cell} (hrow : row.length = w) :
    hide linguistref7_set_F R C l (Int.ofNat r) row = some (R, C, inRow w l r fun _ => row) := by
  have hsm := small_mul (show h ≤ 64 by omega) (show w ≤ 64 by omega)
  have hb := mul_bound (w := w) hr
  subst hC
  rw [hide_eq]; unfold linguistref7_set_F
  have e : (l.length.ble 274877906944) = true := Nat.ble_eq_true_of_le (by omega)
  rw [e]
  simp only [hide_eq, cond_true, Bool.and_self]
  have hs := split3 l (r * w) w (by omega)
  have hA : (l.take (r * w)).length = r * w := by simp; omega
  have hM : ((l.drop (r * w)).take w).length = w := by simp; omega
  have k := refSet_loop (R := R) (a6 := 0) (a7 := 0) (a9 := []) (B := l.drop (r * w + w)) hA hrow hM (by omega) hw (linguistref7_set_fu3 (Int.ofNat r) row (Int.ofNat w) 0 R (Int.ofNat w) 0 0 l []) 0 (by omega) (by unfold linguistref7_set_fu3; have : (Int.ofNat w).natAbs = w := rfl; omega)
  rw [List.take_zero, List.drop_zero, List.nil_append, ← hs] at k
  rw [hrow]
  rw [show (0 : Int) = Int.ofNat 0 from rfl] at *
  rw [k]; rfl
theorem refWipe_loop {r R C p0 p1 p2 x y : Int} {l z : List Cell} {w : Nat} {E : Int} (hE : E ≤ w) (hw : w ≤ 4096) : ∀ (n c : Nat) (row : List Cell), row.length = w → E.toNat - c < n → c ≤ 4096 →
    linguistref7_Wipe_L6 n r E (Int.ofNat c) R C l p0 p1 p2 x y row z = some (r, R, C, l, x, y, fillR row c (E.toNat - c) (32, 0, p0, p1, p2), z) := by
  intro n
  induction n with
  | zero => intro c l h0 h1 h2; omega
  | succ n ih =>
    intro c l h0 h1 h2
    rw [linguistref7_Wipe_L6]
    by_cases hc : (Int.ofNat c) < E
    · have hc' : (c : Int) < E := hc
      have e0 : decide ((0 : Int) ≤ Int.ofNat c) = true := by simp
      have e1 : decide (Int.ofNat c < Int.ofNat l.length) = true := decide_eq_true (by show (c : Int) < (l.length : Int); omega)
      rw [decide_eq_true hc, e0, e1]
      simp only [cond_true, Bool.and_self, optK_s, toNat_ofNat']
      rw [wrap_succ (by omega), ih (c + 1) _ (by simp; omega) (by omega) (by omega)]
      have e2 : E.toNat - c = (E.toNat - (c + 1)) + 1 := by omega
      rw [e2, fillR]
    · have hc' : ¬ (c : Int) < E := hc
      rw [decide_eq_false hc]
      have : E.toNat - c = 0 := by omega
      rw [this]; rfl
theorem refWipe_eq {R C : Int} {h w : Nat} (hR : R = Int.ofNat h) (hC : C = Int.ofNat w) (hh : h ≤ 40) (w1 : 1 ≤ w) (hw : w ≤ 60) {l : List Cell} (hl : l.length = h * w) {r a b : Int} (ha : a ≤ 4000) (p0 p1 p2 : Int) :
    hide linguistref7_Wipe_F R C l r a b p0 p1 p2 = some (R, C, wipe h w l r a b (p0, p1, p2)) := by
  have hsm := small_mul (show h ≤ 64 by omega) (show w ≤ 64 by omega)
  rw [hide_eq]; unfold linguistref7_Wipe_F wipe
  by_cases hp : 0 ≤ r ∧ r < (h : Int)
  · have c1 : decide (r < 0) = false := decide_eq_false (by omega)
    have c2 : decide (r ≥ R) = false := decide_eq_false (by rw [hR]; show ¬ (r ≥ (h : Int)); omega)
    obtain ⟨rn, rfl⟩ : ∃ n : Nat, r = Int.ofNat n := ⟨r.toNat, by simp; omega⟩
    have hrn : rn < h := by have := hp.2; simpa using this
    have hb := mul_bound (w := w) hrn
    subst hC
    rw [c1, c2, if_pos hp, row_lo rn w (by omega) (by omega), row_hi rn w (by omega) (by omega), bnds_ok (by omega) (by omega), cutList_ok (by omega)]
    have e3 : rn * w + w - rn * w = w := by omega
    have hM : ((l.drop (rn * w)).take w).length = w := by simp; omega
    have e : (w.ble 274877906944) = true := Nat.ble_eq_true_of_le (by omega)
    have ea : (if (0 : Int) > a then 0 else a) = Int.ofNat (max a 0).toNat := by
      show _ = (((max a 0).toNat : Nat) : Int)
      split <;> omega
    have eE : (if Int.ofNat w < b then Int.ofNat w else b) = min b (w : Int) := by
      show (if (w : Int) < b then (w : Int) else b) = _
      split <;> omega
    rw [e3, hM, e, ea, eE]
    simp only [hide_eq linguistref7_Wipe_L6, cond_true, cond_false, Bool.and_self]
    rw [refWipe_loop (w := w) (by omega) (by omega) _ _ _ hM (by unfold linguistref7_Wipe_fu6; have : (min b (w : Int)).toNat ≤ w := (by omega); omega) (by omega)]
    simp only [optK_s]
    rw [refMend_eq _ (by rw [fillR_length]; omega)]
    simp only [optK_s]
    rw [refSet_eq hR rfl (by omega) hw hl hrn (by rw [mend_length, fillR_length]; exact hM)]
    rfl
  · rw [if_neg hp]
    by_cases c1 : r < 0
    · rw [decide_eq_true c1]; rfl
    · have c2 : decide (r ≥ R) = true := decide_eq_true (by rw [hR]; show r ≥ (h : Int); omega)
      rw [c2]; cases decide (r < 0) <;> rfl
end Go.Proofs.YtpneolkfeihkhaaAbs

/- Plain laws: the document's own grids: what is put, cut to a size. -/
namespace Go.Proofs.YtpneolkfeihkhaaAbs
set_option linter.unusedVariables false
set_option linter.unusedSimpArgs false
open Go Go.Proofs
theorem right_1 {l : List Cell} (h : rightR l) {i : Nat} (hi : i < l.length) (k : kd l i = 1) : i + 1 < l.length ∧ kd l (i + 1) = 2 := by
  have : ¬ halfB l i = true := by rw [h i hi]; simp
  rw [half_iff] at this
  refine ⟨?_, Decidable.byContradiction fun q => this (.inl ⟨k, .inr q⟩)⟩
  rcases Nat.lt_or_ge (i + 1) l.length with a | a
  · exact a
  · exact absurd (.inl ⟨k, .inl (by omega)⟩) this
end Go.Proofs.YtpneolkfeihkhaaAbs

/- Plain laws: the document's own put and resize, called. -/
namespace Go.Proofs.YtpneolkfeihkhaaAbs
set_option linter.unusedVariables false
set_option linter.unusedSimpArgs false
open Go Go.Proofs
theorem inRow_congr {w : Nat} {l : List Cell} {r : Nat} {f g : List Cell → List Cell} (e : f (rowOf w l r) = g (rowOf w l r)) : inRow w l r f = inRow w l r g := by
  show l.take (r * w) ++ f (rowOf w l r) ++ _ = l.take (r * w) ++ g (rowOf w l r) ++ _
  rw [e]
end Go.Proofs.YtpneolkfeihkhaaAbs

/- What is known of letters. -/
namespace Go.Proofs.YtpneolkfeihkhaaAbs
set_option linter.unusedVariables false
open Go Go.Proofs Go.RowKit
theorem isTrue_res : (isTrue : AV → Heap → Option Bool) = resK .bool true (fun b => some b) := by
  funext v h
  cases v <;> rfl
theorem law_res {P : Program} {E : Env} (hE : EnvOk P E) {n f : Nat} {args : List AV} {us : List Value} (e : acall (R := Bool) E n f args [] (resK .bool true (fun b => some b)) = some true) (W : World)
    (q : RelL ⟨W, fun _ => none, fun B => B < W.heap.size⟩ [] false args us) : Calls P f us.toArray W fun e W' => e = .returned (.bool true) ∧ Below W.heap.size W W' :=
  law_rows hE (by rw [isTrue_res]; exact e) W q
theorem wf_in64 {x : Int} (h : (Lit.int .i64 x).wf = true) : in64 x := by
  simp [Lit.wf, IntKind.min, IntKind.max, IntKind.bits, IntKind.signed] at h
  unfold in64; omega
theorem wf_list64 {l : List Int} (h : List.length (α := Int) l ≤ 9223372036854775807 ∧ ∀ y : Int, List.Mem y l → ((Lit.int .i64 y).wf = true)) : ∀ y, y ∈ l → in64 y := fun y hy => wf_in64 (h.2 y hy)
end Go.Proofs.YtpneolkfeihkhaaAbs

/- Plain laws: rows of a grid shifted. -/
namespace Go.Proofs.YtpneolkfeihkhaaAbs
set_option linter.unusedVariables false
set_option linter.unusedSimpArgs false
open Go Go.Proofs
theorem rowOf_append_l {w r : Nat} {A B : List Cell} (h : r * w + w ≤ A.length) : rowOf w (A ++ B) r = rowOf w A r := by
  unfold rowOf
  rw [List.drop_append_of_le_length (by omega), List.take_append_of_le_length (by rw [List.length_drop]; omega)]
theorem rowOf_append_r {w r : Nat} {A B : List Cell} (h : A.length = r * w) : rowOf w (A ++ B) r = B.take w := by
  unfold rowOf
  rw [← h, List.drop_left]
def mapRows (h : Nat) (f : Nat → List Cell) : List Cell := (List.range h).flatMap f
theorem mapRows_succ (h : Nat) (f : Nat → List Cell) : mapRows (h + 1) f = mapRows h f ++ f h := by
  unfold mapRows; rw [List.range_succ, List.flatMap_append]; simp
theorem mapRows_length {w : Nat} {f : Nat → List Cell} : ∀ {h : Nat}, (∀ r, r < h → (f r).length = w) → (mapRows h f).length = h * w
  | 0, _ => by simp [mapRows]
  | h + 1, hf => by
    rw [mapRows_succ, List.length_append, mapRows_length (fun r hr => hf r (by omega)), hf h (by omega), Nat.add_mul, Nat.one_mul]
theorem mapRows_row {w : Nat} {f : Nat → List Cell} : ∀ {h : Nat}, (∀ r, r < h → (f r).length = w) → ∀ r, r < h → rowOf w (mapRows h f) r = f r
  | 0, _, r, hr => by omega
  | h + 1, hf, r, hr => by
    have hl := mapRows_length (h := h) (fun r hr => hf r (by omega))
    rw [mapRows_succ]
    by_cases hrh : r < h
    · have hb := mul_bound (w := w) hrh
      rw [rowOf_append_l (by omega)]
      exact mapRows_row (fun r hr => hf r (by omega)) r hrh
    · have : r = h := by omega
      subst this
      rw [rowOf_append_r hl, List.take_of_length_le (by rw [hf r (by omega)]; exact Nat.le_refl _)]
/-- A row of a grid of which rows are shifted. -/
def shX (w : Nat) (l : List Cell) (t b : Nat) (sh : Int) (p : Pen) (r : Nat) : List Cell :=
  if (t : Int) ≤ r + sh ∧ r + sh ≤ b then rowOf w l (r + sh).toNat else List.replicate w (32, 0, p)
def shRow (w : Nat) (l : List Cell) (t b : Nat) (sh : Int) (p : Pen) (r : Nat) : List Cell :=
  if t ≤ r ∧ r ≤ b then shX w l t b sh p r else rowOf w l r
def shiftG (h w : Nat) (l : List Cell) (top bot sh : Int) (p : Pen) : List Cell :=
  if top < 0 ∨ (h : Int) ≤ bot ∨ bot < top then l else mapRows h (shRow w l top.toNat bot.toNat sh p)
section
variable {h w : Nat} {l : List Cell} {t b : Nat} {sh : Int} {p : Pen}
theorem shX_length (hl : l.length = h * w) (hb : b < h) (r : Nat) : (shX w l t b sh p r).length = w := by
  unfold shX
  split
  · exact rowOf_length hl (by omega)
  · simp
theorem shRow_length (hl : l.length = h * w) (hb : b < h) {r : Nat} (hr : r < h) : (shRow w l t b sh p r).length = w := by
  unfold shRow
  split
  · exact shX_length hl hb r
  · exact rowOf_length hl hr
end
theorem shiftG_length {h w : Nat} {l : List Cell} (hl : l.length = h * w) (top bot sh : Int) (p : Pen) : (shiftG h w l top bot sh p).length = h * w := by
  unfold shiftG
  split
  · exact hl
  · exact mapRows_length fun r hr => shRow_length hl (by omega) hr
theorem shiftG_row {h w : Nat} {l : List Cell} (hl : l.length = h * w) {top bot sh : Int} {p : Pen} (hc : ¬ (top < 0 ∨ (h : Int) ≤ bot ∨ bot < top)) {r : Nat} (hr : r < h) : rowOf w (shiftG h w l top bot sh p) r = shRow w l top.toNat bot.toNat sh p r := by
  unfold shiftG
  rw [if_neg hc]
  exact mapRows_row (fun r hr => shRow_length hl (by omega) hr) r hr
theorem GG.shift {h w : Nat} {l : List Cell} (k : GG h w l) (top bot sh : Int) {p : Pen} (hp : rightPen p) : GG h w (shiftG h w l top bot sh p) := by
  by_cases hc : top < 0 ∨ (h : Int) ≤ bot ∨ bot < top
  · unfold shiftG; rw [if_pos hc]; exact k
  · have key : ∀ r, r < h → rightR (shRow w l top.toNat bot.toNat sh p r) ∧ Semi (shRow w l top.toNat bot.toNat sh p r) := fun r hr => by
      unfold shRow shX
      split
      · split
        · exact ⟨k.1.2 _ (by omega), k.2 _ (by omega)⟩
        · exact ⟨right_singles fun x hx => by rw [(List.mem_replicate.1 hx).2], semi_rep w hp⟩
      · exact ⟨k.1.2 _ hr, k.2 _ hr⟩
    exact ⟨⟨shiftG_length k.1.1 _ _ _ _, fun r hr => by rw [shiftG_row k.1.1 hc hr]; exact (key r hr).1⟩, fun r hr => by rw [shiftG_row k.1.1 hc hr]; exact (key r hr).2⟩
/-- So far shifted. -/
def ShTo (h w : Nat) (l : List Cell) (t b : Nat) (sh : Int) (p : Pen) (k : Nat) (out : List Cell) : Prop :=
  out.length = h * w ∧ ∀ r, r < h → rowOf w out r = if t ≤ r ∧ r < k then shX w l t b sh p r else rowOf w l r
theorem ShTo.start {h w : Nat} {l : List Cell} {t b : Nat} {sh : Int} {p : Pen} (hl : l.length = h * w) : ShTo h w l t b sh p t l := ⟨hl, fun r hr => by rw [if_neg (by omega)]⟩
theorem ShTo.step {h w : Nat} {l : List Cell} {t b : Nat} {sh : Int} {p : Pen} {k : Nat} {out : List Cell} (hl : l.length = h * w) (hb : b < h) (ht : t ≤ k) (hk : k ≤ b) (S : ShTo h w l t b sh p k out) : ShTo h w l t b sh p (k + 1) (inRow w out k fun _ => shX w l t b sh p k) := by
  have hX := shX_length (t := t) (sh := sh) (p := p) hl hb k
  refine ⟨inRow_length S.1 (by omega) hX, fun r hr => ?_⟩
  by_cases e : r = k
  · subst e
    rw [inRow_same S.1 hr hX, if_pos (by omega)]
  · rw [inRow_other S.1 (by omega) hX hr e, S.2 r hr]
    by_cases c : t ≤ r ∧ r < k
    · rw [if_pos c, if_pos (by omega)]
    · rw [if_neg c, if_neg (by omega)]
theorem ShTo.fin {h w : Nat} {l : List Cell} {top bot : Int} {sh : Int} {p : Pen} {out : List Cell} (hl : l.length = h * w) (hc : ¬ (top < 0 ∨ (h : Int) ≤ bot ∨ bot < top)) (S : ShTo h w l top.toNat bot.toNat sh p (bot.toNat + 1) out) : out = shiftG h w l top bot sh p := by
  refine rows_ext S.1 (shiftG_length hl _ _ _ _) fun r hr => ?_
  rw [S.2 r hr, shiftG_row hl hc hr]
  unfold shRow
  by_cases c : top.toNat ≤ r ∧ r ≤ bot.toNat
  · rw [if_pos c, if_pos (by omega)]
  · rw [if_neg c, if_neg (by omega)]
theorem blanks_eq {w : Nat} (w1 : 1 ≤ w) (hw : w ≤ 60) (p0 p1 p2 : Int) : hide edit_blanks_F (Int.ofNat w) p0 p1 p2 = some (List.replicate w (32, 0, p0, p1, p2)) := by
  rw [hide_eq]; unfold edit_blanks_F
  rw [blank_eq]
  simp only [optK_s]
  rw [repeat_eq _ _ w1 (by omega)]
  rfl
theorem shiftJ {R R' C' top bot sh p0 p1 p2 z0 z1 : Int} {h w r : Nat} {l out X z : List Cell} (hX : X.length = w) (ho : out.length = h * w) (hr : r < h) (hh : h ≤ 40) (hw : w ≤ 60) :
    edit_shift_J11 top bot sh (Int.ofNat r) X R (Int.ofNat w) l p0 p1 p2 z0 z1 R' C' z out = some (top, bot, sh, Int.ofNat r, R, Int.ofNat w, l, p0, p1, p2, z0, z1, R', C', z, inRow w out r fun _ => X) := by
  have hsm := small_mul (show h ≤ 64 by omega) (show w ≤ 64 by omega)
  have hb := mul_bound (w := w) hr
  unfold edit_shift_J11
  rw [row_lo r w (by omega) (by omega)]
  have b1 : bnds (some (Int.ofNat (r * w))) none out.length = true := by simp [bnds]; omega
  rw [b1]
  simp only [cond_true, getD_some', toNat_ofNat']
  have e0 : (none.getD (Int.ofNat out.length)).toNat = out.length := rfl
  rw [e0, List.take_of_length_le (by omega)]
  unfold splice inRow
  rw [hX]
theorem shift_loop {R R' C' p0 p1 p2 z0 z1 : Int} {h w : Nat} {l z : List Cell} {t b : Nat} {sh : Int} (hl : l.length = h * w) (hb : b < h) (hh : h ≤ 40) (w1 : 1 ≤ w) (hw : w ≤ 60) (hs : -100 ≤ sh ∧ sh ≤ 100) : ∀ (n k : Nat) (out : List Cell), t ≤ k → k ≤ b + 1 → b + 1 - k < n → ShTo h w l t b sh (p0, p1, p2) k out →
    ∃ out', ShTo h w l t b sh (p0, p1, p2) (b + 1) out' ∧ edit_shift_L5 n (Int.ofNat t) (Int.ofNat b) sh (Int.ofNat k) R (Int.ofNat w) l p0 p1 p2 z0 z1 R' C' z out = some (z0, z1, R', C', z, out') := by
  have hsm := small_mul (show h ≤ 64 by omega) (show w ≤ 64 by omega)
  intro n
  induction n with
  | zero => intro k out h1 h2 h3; omega
  | succ n ih =>
    intro k out h1 h2 h3 S
    rw [edit_shift_L5]
    by_cases hk : k ≤ b
    · have e1 : decide (Int.ofNat k ≤ Int.ofNat b) = true := decide_eq_true (by show (k : Int) ≤ (b : Int); omega)
      have e2 : IntKind.i64.wrap (Int.ofNat k + sh) = (k : Int) + sh := w64 (by show _ ≤ (k : Int) + sh; omega) (by show (k : Int) + sh < _; omega)
      rw [e1, blanks_eq w1 hw, e2]
      simp only [cond_true, optK_s, hide_eq edit_shift_J11]
      have next := fun (X : List Cell) (hX : X = shX w l t b sh (p0, p1, p2) k) => ih (k + 1) (inRow w out k fun _ => X) (by omega) (by omega) (by omega) (by rw [hX]; exact S.step hl hb h1 hk)
      by_cases c : (t : Int) ≤ k + sh ∧ (k : Int) + sh ≤ b
      · have d1 : decide ((k : Int) + sh ≥ Int.ofNat t) = true := decide_eq_true c.1
        have d2 : decide ((k : Int) + sh ≤ Int.ofNat b) = true := decide_eq_true c.2
        obtain ⟨q, hq⟩ : ∃ q : Nat, (k : Int) + sh = Int.ofNat q := ⟨((k : Int) + sh).toNat, by show _ = ((((k : Int) + sh).toNat : Nat) : Int); omega⟩
        have hqh : q < h := by have : (k : Int) + sh = (q : Int) := hq; omega
        have hqb := mul_bound (w := w) hqh
        have hX : rowOf w l q = shX w l t b sh (p0, p1, p2) k := by
          unfold shX; rw [if_pos c, hq]; rfl
        rw [d1, d2, hq, row_lo q w (by omega) (by omega), row_hi q w (by omega) (by omega), bnds_ok (by omega) (by omega), cutList_ok (by omega), show q * w + w - q * w = w by omega, show (l.drop (q * w)).take w = rowOf w l q from rfl]
        simp only [cond_true, Bool.and_self]
        rw [shiftJ (rowOf_length hl hqh) S.1 (by omega) hh hw]
        simp only [optK_s]
        rw [wrap_succ (by omega)]
        exact next _ hX
      · have hX : List.replicate w ((32, 0, p0, p1, p2) : Cell) = shX w l t b sh (p0, p1, p2) k := by
          unfold shX; rw [if_neg c]
        have fin : optK (edit_shift_J11 (Int.ofNat t) (Int.ofNat b) sh (Int.ofNat k) (List.replicate w (32, 0, p0, p1, p2)) R (Int.ofNat w) l p0 p1 p2 z0 z1 R' C' z out) = optK (some (Int.ofNat t, Int.ofNat b, sh, Int.ofNat k, R, Int.ofNat w, l, p0, p1, p2, z0, z1, R', C', z, inRow w out k fun _ => List.replicate w (32, 0, p0, p1, p2))) (R := Int × Int × Int × Int × List Cell × List Cell) := by
          rw [shiftJ (by simp) S.1 (by omega) hh hw]
        by_cases d1 : (k : Int) + sh ≥ Int.ofNat t
        · have d2 : ¬ (k : Int) + sh ≤ Int.ofNat b := fun d2 => c ⟨d1, d2⟩
          rw [decide_eq_true d1, decide_eq_false d2]
          simp only [cond_true, cond_false]
          rw [fin]
          simp only [optK_s]
          rw [wrap_succ (by omega)]
          exact next _ hX
        · rw [decide_eq_false d1]
          simp only [cond_false]
          rw [fin]
          simp only [optK_s]
          rw [wrap_succ (by omega)]
          exact next _ hX
    · have e : k = b + 1 := by omega
      have e1 : decide (Int.ofNat k ≤ Int.ofNat b) = false := decide_eq_false (by show ¬ (k : Int) ≤ (b : Int); omega)
      rw [e1]
      subst e
      exact ⟨out, S, rfl⟩
theorem shift_eq {R C : Int} {h w : Nat} (hR : R = Int.ofNat h) (hC : C = Int.ofNat w) (hh : h ≤ 40) (w1 : 1 ≤ w) (hw : w ≤ 60) {l : List Cell} (hl : l.length = h * w) (top bot sh : Int) (hs : -100 ≤ sh ∧ sh ≤ 100) (p0 p1 p2 : Int) :
    hide edit_shift_F R C l top bot sh p0 p1 p2 = some (R, C, shiftG h w l top bot sh (p0, p1, p2)) := by
  have hsm := small_mul (show h ≤ 64 by omega) (show w ≤ 64 by omega)
  rw [hide_eq]; unfold edit_shift_F
  rw [Nat.ble_eq_true_of_le (by omega)]
  simp only [cond_true]
  by_cases hc : top < 0 ∨ (h : Int) ≤ bot ∨ bot < top
  · have e : shiftG h w l top bot sh (p0, p1, p2) = l := by unfold shiftG; rw [if_pos hc]
    rw [e]
    by_cases c1 : top < 0
    · rw [decide_eq_true c1]; rfl
    · rw [decide_eq_false c1]
      by_cases c2 : bot ≥ R
      · rw [decide_eq_true c2]; rfl
      · have c3 : top > bot := by rw [hR] at c2; have : ¬ bot ≥ (h : Int) := c2; omega
        rw [decide_eq_false c2, decide_eq_true c3]; rfl
  · have c1 : ¬ top < 0 := fun a => hc (.inl a)
    have c2 : ¬ bot ≥ R := fun a => hc (.inr (.inl (by rw [hR] at a; exact a)))
    have c3 : ¬ top > bot := fun a => hc (.inr (.inr a))
    have hbh : bot < (h : Int) := by rw [hR] at c2; have : ¬ bot ≥ (h : Int) := c2; omega
    rw [decide_eq_false c1, decide_eq_false c2, decide_eq_false c3]
    simp only [cond_false, hide_eq edit_shift_L5]
    obtain ⟨t, rfl⟩ : ∃ t : Nat, top = Int.ofNat t := ⟨top.toNat, by show top = ((top.toNat : Nat) : Int); omega⟩
    obtain ⟨b, rfl⟩ : ∃ b : Nat, bot = Int.ofNat b := ⟨bot.toNat, by show bot = ((bot.toNat : Nat) : Int); omega⟩
    have hb : b < h := by have : (b : Int) < (h : Int) := hbh; omega
    have htb : t ≤ b := by have : ¬ (t : Int) > (b : Int) := c3; omega
    subst hR hC
    obtain ⟨out, S, e⟩ := shift_loop (R := Int.ofNat h) (R' := Int.ofNat h) (C' := Int.ofNat w) (p0 := p0) (p1 := p1) (p2 := p2) (z0 := 0) (z1 := 0) (z := []) (t := t) (b := b) (sh := sh) hl hb hh w1 hw hs (edit_shift_fu5 (Int.ofNat t) (Int.ofNat b) sh (Int.ofNat t) (Int.ofNat h) (Int.ofNat w) l p0 p1 p2 0 0 (Int.ofNat h) (Int.ofNat w) [] l) t l (by omega) (by omega) (by unfold edit_shift_fu5; omega) (ShTo.start hl)
    rw [e, S.fin (top := Int.ofNat t) (bot := Int.ofNat b) hl hc]
    rfl
theorem scroll_loop {R p0 p1 p2 z0 z1 : Int} {h w : Nat} {l z : List Cell} {t b : Nat} {sh : Int} (hl : l.length = h * w) (hb : b < h) (hh : h ≤ 40) (w1 : 1 ≤ w) (hw : w ≤ 60) (hs : -100 ≤ sh ∧ sh ≤ 100) : ∀ (n k : Nat) (out : List Cell), t ≤ k → k ≤ b + 1 → b + 1 - k < n → ShTo h w l t b sh (p0, p1, p2) k out →
    ∃ out', ShTo h w l t b sh (p0, p1, p2) (b + 1) out' ∧ linguistref7_Scroll_L6 n (Int.ofNat t) (Int.ofNat b) sh (List.replicate w (32, 0, p0, p1, p2)) (Int.ofNat k) R (Int.ofNat w) l z0 z1 (Int.ofNat h) (Int.ofNat w) out z = some (z0, z1, Int.ofNat h, Int.ofNat w, out', z) := by
  have hsm := small_mul (show h ≤ 64 by omega) (show w ≤ 64 by omega)
  intro n
  induction n with
  | zero => intro k out h1 h2 h3; omega
  | succ n ih =>
    intro k out h1 h2 h3 S
    rw [linguistref7_Scroll_L6]
    by_cases hk : k ≤ b
    · have e1 : decide (Int.ofNat k ≤ Int.ofNat b) = true := decide_eq_true (by show (k : Int) ≤ (b : Int); omega)
      have e2 : IntKind.i64.wrap (Int.ofNat k + sh) = (k : Int) + sh := w64 (by show _ ≤ (k : Int) + sh; omega) (by show (k : Int) + sh < _; omega)
      rw [e1, e2]
      simp only [cond_true, optK_s]
      have next := fun (X : List Cell) (hX : X = shX w l t b sh (p0, p1, p2) k) => ih (k + 1) (inRow w out k fun _ => X) (by omega) (by omega) (by omega) (by rw [hX]; exact S.step hl hb h1 hk)
      by_cases c : (t : Int) ≤ k + sh ∧ (k : Int) + sh ≤ b
      · have d1 : decide ((k : Int) + sh < Int.ofNat t) = false := decide_eq_false (by show ¬ (k : Int) + sh < (t : Int); omega)
        have d2 : decide ((k : Int) + sh > Int.ofNat b) = false := decide_eq_false (by show ¬ (k : Int) + sh > (b : Int); omega)
        obtain ⟨q, hq⟩ : ∃ q : Nat, (k : Int) + sh = Int.ofNat q := ⟨((k : Int) + sh).toNat, by show _ = ((((k : Int) + sh).toNat : Nat) : Int); omega⟩
        have hqh : q < h := by have : (k : Int) + sh = (q : Int) := hq; omega
        have hqb := mul_bound (w := w) hqh
        have hX : rowOf w l q = shX w l t b sh (p0, p1, p2) k := by
          unfold shX; rw [if_pos c, hq]; rfl
        rw [d1, d2, hq, row_lo q w (by omega) (by omega), row_hi q w (by omega) (by omega), bnds_ok (by omega) (by omega), cutList_ok (by omega), show q * w + w - q * w = w by omega, show (l.drop (q * w)).take w = rowOf w l q from rfl]
        simp only [cond_true, cond_false, Bool.and_self]
        rw [refSet_eq rfl rfl (by omega) hw S.1 (by omega) (rowOf_length hl hqh)]
        simp only [optK_s]
        rw [wrap_succ (by omega)]
        exact next _ hX
      · have hX : List.replicate w ((32, 0, p0, p1, p2) : Cell) = shX w l t b sh (p0, p1, p2) k := by
          unfold shX; rw [if_neg c]
        by_cases d1 : (k : Int) + sh < Int.ofNat t
        · rw [decide_eq_true d1]
          simp only [cond_true]
          rw [refSet_eq rfl rfl (by omega) hw S.1 (by omega) (by simp)]
          simp only [optK_s]
          rw [wrap_succ (by omega)]
          exact next _ hX
        · have d2 : (k : Int) + sh > Int.ofNat b := by
            have a1 : ¬ (k : Int) + sh < (t : Int) := d1
            show (k : Int) + sh > (b : Int)
            omega
          rw [decide_eq_false d1, decide_eq_true d2]
          simp only [cond_true, cond_false]
          rw [refSet_eq rfl rfl (by omega) hw S.1 (by omega) (by simp)]
          simp only [optK_s]
          rw [wrap_succ (by omega)]
          exact next _ hX
    · have e : k = b + 1 := by omega
      have e1 : decide (Int.ofNat k ≤ Int.ofNat b) = false := decide_eq_false (by show ¬ (k : Int) ≤ (b : Int); omega)
      rw [e1]
      subst e
      exact ⟨out, S, rfl⟩
theorem refCopied_eq {R C : Int} {l : List Cell} (hl : l.length ≤ 4096) : hide linguistref7_copied_F R C l = some (R, C, l) := by
  rw [hide_eq]; unfold linguistref7_copied_F
  rw [Nat.ble_eq_true_of_le (by omega)]; rfl
theorem refScroll_eq {R C : Int} {h w : Nat} (hR : R = Int.ofNat h) (hC : C = Int.ofNat w) (hh : h ≤ 40) (w1 : 1 ≤ w) (hw : w ≤ 60) {l : List Cell} (hl : l.length = h * w) (top bot sh : Int) (hs : -100 ≤ sh ∧ sh ≤ 100) (p0 p1 p2 : Int) :
    hide linguistref7_Scroll_F R C l top bot sh p0 p1 p2 = some (R, C, shiftG h w l top bot sh (p0, p1, p2)) := by
  have hsm := small_mul (show h ≤ 64 by omega) (show w ≤ 64 by omega)
  rw [hide_eq]; unfold linguistref7_Scroll_F
  by_cases hc : top < 0 ∨ (h : Int) ≤ bot ∨ bot < top
  · have e : shiftG h w l top bot sh (p0, p1, p2) = l := by unfold shiftG; rw [if_pos hc]
    rw [e]
    by_cases c1 : top < 0
    · rw [decide_eq_true c1]; rfl
    · rw [decide_eq_false c1]
      by_cases c2 : bot ≥ R
      · rw [decide_eq_true c2]; rfl
      · have c3 : top > bot := by rw [hR] at c2; have : ¬ bot ≥ (h : Int) := c2; omega
        rw [decide_eq_false c2, decide_eq_true c3]; rfl
  · have c1 : ¬ top < 0 := fun a => hc (.inl a)
    have c2 : ¬ bot ≥ R := fun a => hc (.inr (.inl (by rw [hR] at a; exact a)))
    have c3 : ¬ top > bot := fun a => hc (.inr (.inr a))
    have hbh : bot < (h : Int) := by rw [hR] at c2; have : ¬ bot ≥ (h : Int) := c2; omega
    rw [decide_eq_false c1, decide_eq_false c2, decide_eq_false c3]
    simp only [cond_false, hide_eq linguistref7_Scroll_L6]
    obtain ⟨t, rfl⟩ : ∃ t : Nat, top = Int.ofNat t := ⟨top.toNat, by show top = ((top.toNat : Nat) : Int); omega⟩
    obtain ⟨b, rfl⟩ : ∃ b : Nat, bot = Int.ofNat b := ⟨bot.toNat, by show bot = ((bot.toNat : Nat) : Int); omega⟩
    have hb : b < h := by have : (b : Int) < (h : Int) := hbh; omega
    have htb : t ≤ b := by have : ¬ (t : Int) > (b : Int) := c3; omega
    subst hR hC
    have N := refNew_eq (h := 1) (w := w) (by omega) hw p0 p1 p2
    rw [Nat.one_mul] at N
    rw [refCopied_eq (by omega), show (1 : Int) = Int.ofNat 1 from rfl, N]
    simp only [optK_s]
    obtain ⟨out, S, e⟩ := scroll_loop (R := Int.ofNat h) (p0 := p0) (p1 := p1) (p2 := p2) (z0 := 0) (z1 := 0) (z := []) (t := t) (b := b) (sh := sh) hl hb hh w1 hw hs (linguistref7_Scroll_fu6 (Int.ofNat t) (Int.ofNat b) sh (List.replicate w (32, 0, p0, p1, p2)) (Int.ofNat t) (Int.ofNat h) (Int.ofNat w) l 0 0 (Int.ofNat h) (Int.ofNat w) l []) t l (by omega) (by omega) (by unfold linguistref7_Scroll_fu6; omega) (ShTo.start hl)
    rw [e, S.fin (top := Int.ofNat t) (bot := Int.ofNat b) hl hc]
    rfl
end Go.Proofs.YtpneolkfeihkhaaAbs

/- Plain laws: edit.Up, edit.Down. -/
namespace Go.Proofs.YtpneolkfeihkhaaAbs
set_option linter.unusedVariables false
set_option linter.unusedSimpArgs false
open Go Go.Proofs
def farN (n : Int) : Int := max 0 (min n 40)
theorem far_eq (n : Int) : hide edit_far_F n = some (farN n) := by
  rw [hide_eq]; unfold edit_far_F farN
  congr 1
  split <;> split <;> omega
theorem editUp_eq {R C : Int} {h w : Nat} (hR : R = Int.ofNat h) (hC : C = Int.ofNat w) (hh : h ≤ 40) (w1 : 1 ≤ w) (hw : w ≤ 60) {l : List Cell} (hl : l.length = h * w) (top bot n : Int) (p0 p1 p2 : Int) :
    hide edit_Up_F R C l top bot n p0 p1 p2 = some (R, C, shiftG h w l top bot (farN n) (p0, p1, p2)) := by
  rw [hide_eq]; unfold edit_Up_F
  rw [far_eq]
  simp only [optK_s]
  rw [shift_eq hR hC hh w1 hw hl top bot (farN n) (by unfold farN; omega)]
  rfl
theorem editDown_eq {R C : Int} {h w : Nat} (hR : R = Int.ofNat h) (hC : C = Int.ofNat w) (hh : h ≤ 40) (w1 : 1 ≤ w) (hw : w ≤ 60) {l : List Cell} (hl : l.length = h * w) (top bot n : Int) (p0 p1 p2 : Int) :
    hide edit_Down_F R C l top bot n p0 p1 p2 = some (R, C, shiftG h w l top bot (-farN n) (p0, p1, p2)) := by
  rw [hide_eq]; unfold edit_Down_F
  rw [far_eq]
  simp only [optK_s]
  have hb : 0 ≤ farN n ∧ farN n ≤ 40 := by unfold farN; omega
  rw [w64 (n := 0 - farN n) (by omega) (by omega), Int.zero_sub, shift_eq hR hC hh w1 hw hl top bot (-farN n) (by omega)]
  rfl
end Go.Proofs.YtpneolkfeihkhaaAbs

/- Plain laws: edit's Insert, Delete, Line. -/
namespace Go.Proofs.YtpneolkfeihkhaaAbs
set_option linter.unusedVariables false
set_option linter.unusedSimpArgs false
open Go Go.Proofs
theorem repeat_zero (b : Cell) : hide slices_Repeat_api_Cell_F [b] 0 = some [] := by
  rw [hide_eq]; unfold slices_Repeat_api_Cell_F
  rw [show decide ((0 : Int) < 0) = false from rfl]
  simp only [cond_false, hide_eq]
  unfold slices_Repeat_api_Cell_J3
  have e1 : IntKind.u64.wrap (Int.ofNat [b].length) = 1 := by simp [IntKind.wrap_u64]
  have e2 : IntKind.u64.wrap 0 = 0 := by rw [IntKind.wrap_u64]; rfl
  rw [e1, e2, mul_hi_small _ (by omega) (by omega)]
  simp only [optK_s, hide_eq]
  rw [show decide ((0 : Int) > 0) = false from rfl, show decide ((0 : Int) > 9223372036854775807) = false from rfl]
  simp only [cond_false]
  unfold slices_Repeat_api_Cell_J6
  rw [w64 (n := 0) (by omega) (by omega)]
  simp only [hide_eq]
  have e9 : (rowN ((0 : Int), (0 : Int), (0 : Int), (0 : Int), (0 : Int)) (Int.toNat 0)) = [] := rfl
  rw [e9]
  have e10 : (Int.ofNat ([b].length.min ([] : List Cell).length)) = 0 := rfl
  have e11 : splice ([] : List Cell) 0 (List.take ([] : List Cell).length [b]) = [] := rfl
  rw [e10, e11]
  obtain ⟨m, hm⟩ : ∃ m, slices_Repeat_api_Cell_fu8 0 [] = m + 1 := Nat.exists_eq_succ_of_ne_zero (by unfold slices_Repeat_api_Cell_fu8; omega)
  rw [hm]
  rfl
theorem blanks_any {n : Nat} (hn : n ≤ 4096) (p0 p1 p2 : Int) : hide edit_blanks_F (Int.ofNat n) p0 p1 p2 = some (List.replicate n (32, 0, p0, p1, p2)) := by
  rw [hide_eq]; unfold edit_blanks_F
  rw [blank_eq]
  simp only [optK_s]
  rcases Nat.eq_zero_or_pos n with k | k
  · subst k
    have := repeat_zero (32, 0, p0, p1, p2)
    rw [show (Int.ofNat 0) = 0 from rfl, this]; rfl
  · rw [repeat_eq _ _ k hn]; rfl
theorem turned_eq {R C : Int} {h w : Nat} (hC : C = Int.ofNat w) (hh : h ≤ 40) (hw : w ≤ 60) {l : List Cell} (hl : l.length = h * w) {r : Nat} (hr : r < h) {row : List Cell} (hrow : row.length = w) :
    hide edit_turned_F R C l (Int.ofNat r) row = some (R, C, inRow w l r fun _ => mend row) := by
  subst hC
  have hsm := small_mul (show h ≤ 64 by omega) (show w ≤ 64 by omega)
  have hb := mul_bound (w := w) hr
  rw [hide_eq]; unfold edit_turned_F
  have e : (l.length.ble 274877906944) = true := Nat.ble_eq_true_of_le (by rw [hl]; omega)
  rw [e, row_lo r w (by omega) (by omega)]
  have b1 : bnds (some (Int.ofNat (r * w))) none l.length = true := by simp [bnds]; omega
  rw [b1, mend_eq row (by omega)]
  simp only [cond_true, getD_some', toNat_ofNat', optK_s]
  have e0 : (none.getD (Int.ofNat l.length)).toNat = l.length := rfl
  rw [e0, List.take_of_length_le (by rw [mend_length]; omega)]
  unfold splice inRow
  rw [mend_length, hrow]
def parted (row : List Cell) (c : Nat) : List Cell :=
  if kd row c = 2 ∧ 0 < c then (row.set (c - 1) (blankOf (row.getD (c - 1) dC))).set c (blankOf (row.getD c dC)) else row
theorem parted_length (row : List Cell) (c : Nat) : (parted row c).length = row.length := by
  unfold parted; split <;> simp
theorem parted_eq {R C : Int} {h w : Nat} (hC : C = Int.ofNat w) (hh : h ≤ 40) (hw : w ≤ 60) {l : List Cell} (hl : l.length = h * w) {r : Nat} (hr : r < h) {c : Nat} (hc : c < w) :
    hide edit_parted_F R C l (Int.ofNat r) (Int.ofNat c) = some (parted (rowOf w l r) c) := by
  subst hC
  have hb := mul_bound (w := w) hr
  have hsm := small_mul (show h ≤ 64 by omega) (show w ≤ 64 by omega)
  rw [hide_eq]; unfold edit_parted_F
  rw [row_lo r w (by omega) (by omega), row_hi r w (by omega) (by omega), bnds_ok (by omega) (by omega), cutList_ok (by omega), show r * w + w - r * w = w by omega]
  rw [show (l.drop (r * w)).take w = rowOf w l r from rfl]
  have hrl : (rowOf w l r).length = w := rowOf_length hl hr
  generalize rowOf w l r = row at hrl ⊢
  have e : (row.length.ble 274877906944) = true := Nat.ble_eq_true_of_le (by omega)
  have e1 : (decide ((0 : Int) ≤ Int.ofNat c) && decide (Int.ofNat c < Int.ofNat row.length) && true) = true := by simp; omega
  rw [e, e1]
  simp only [cond_true, Bool.and_true, toNat_ofNat']
  unfold parted
  show (bif (kd row c == 2) then _ else _) = _
  by_cases k : kd row c = 2
  · rw [show (kd row c == 2) = true by rw [k]; rfl]
    simp only [cond_true]
    by_cases k0 : 0 < c
    · have e2 : decide (Int.ofNat c > 0) = true := by simp; omega
      have e3 : IntKind.i64.wrap (Int.ofNat c - 1) = Int.ofNat (c - 1) := by rw [w64 (by simp; omega) (by simp; omega)]; simp; omega
      have e4 : (decide ((0 : Int) ≤ Int.ofNat (c - 1)) && decide (Int.ofNat (c - 1) < Int.ofNat row.length)) = true := by simp; omega
      rw [e2, e3]
      simp only [cond_true, toNat_ofNat', List.length_set]
      have e5 : (decide ((0 : Int) ≤ Int.ofNat c) && decide (Int.ofNat c < Int.ofNat row.length)) = true := by simp; omega
      simp only [e4, e5, cond_true, blank_eq, optK_s]
      rw [if_pos ⟨k, k0⟩]
      rfl
    · have e2 : decide (Int.ofNat c > 0) = false := by simp; omega
      rw [e2, if_neg (fun q => k0 q.2)]; rfl
  · rw [show (kd row c == 2) = false by simp [k], if_neg (fun q => k q.1)]; rfl
/-- How many cells a call may move. -/
def num (w c : Nat) (n : Int) : Nat := (max 0 (min n ((w : Int) - c))).toNat
theorem num_le (w c : Nat) (hc : c ≤ w) (n : Int) : c + num w c n ≤ w := by unfold num; omega
theorem num_eq {w c : Nat} (hw : w ≤ 60) (hc : c < w) (n : Int) :
    (if (if IntKind.i64.wrap (Int.ofNat w - Int.ofNat c) < n then IntKind.i64.wrap (Int.ofNat w - Int.ofNat c) else n) > (0 : Int) then (if IntKind.i64.wrap (Int.ofNat w - Int.ofNat c) < n then IntKind.i64.wrap (Int.ofNat w - Int.ofNat c) else n) else (0 : Int)) = Int.ofNat (num w c n) := by
  have e : IntKind.i64.wrap (Int.ofNat w - Int.ofNat c) = (w : Int) - c := w64 (by show _ ≤ (w : Int) - c; omega) (by show (w : Int) - c < _; omega)
  rw [e]; unfold num
  show _ = ((max 0 (min n ((w : Int) - c))).toNat : Int)
  split <;> split <;> omega
def insRow (row : List Cell) (c n : Nat) (p : Pen) : List Cell :=
  (parted row c).take c ++ List.replicate n (32, 0, p) ++ ((parted row c).drop c).take (row.length - n - c)
def delRow (row : List Cell) (c n : Nat) (p : Pen) : List Cell :=
  (parted row c).take c ++ (parted row c).drop (c + n) ++ List.replicate n (32, 0, p)
def insG (h w : Nat) (l : List Cell) (r c n : Int) (p : Pen) : List Cell :=
  if 0 ≤ r ∧ r < h ∧ 0 ≤ c ∧ c < w then inRow w l r.toNat fun row => mend (insRow row c.toNat (num w c.toNat n) p) else l
def delG (h w : Nat) (l : List Cell) (r c n : Int) (p : Pen) : List Cell :=
  if 0 ≤ r ∧ r < h ∧ 0 ≤ c ∧ c < w then inRow w l r.toNat fun row => mend (delRow row c.toNat (num w c.toNat n) p) else l
theorem insRow_length {row : List Cell} {c n : Nat} {p : Pen} (h : c + n ≤ row.length) : (insRow row c n p).length = row.length := by
  unfold insRow; simp [parted_length]; omega
theorem delRow_length {row : List Cell} {c n : Nat} {p : Pen} (h : c + n ≤ row.length) : (delRow row c n p).length = row.length := by
  unfold delRow; simp [parted_length]; omega
theorem at_no {h w : Nat} {l : List Cell} {r c : Int} (k : ¬ (0 ≤ r ∧ r < h ∧ 0 ≤ c ∧ c < w)) : at_ h w l r c = (0, 0, 0, 0, 0, false) := if_neg k
theorem at_yes {h w : Nat} {l : List Cell} {r c : Int} (k : 0 ≤ r ∧ r < h ∧ 0 ≤ c ∧ c < w) : (at_ h w l r c).2.2.2.2.2 = true := by unfold at_; rw [if_pos k]
theorem cutTo {α : Type} (l : List α) (c : Nat) : cutList l none (some (Int.ofNat c)) = l.take c := by simp [cutList]
theorem cutFrom {α : Type} (l : List α) (c : Nat) : cutList l (some (Int.ofNat c)) none = l.drop c := by simp [cutList]
end Go.Proofs.YtpneolkfeihkhaaAbs

/- Plain laws: edit.Insert, edit.Delete, edit.Line as list functions. -/
namespace Go.Proofs.YtpneolkfeihkhaaAbs
set_option linter.unusedVariables false
set_option linter.unusedSimpArgs false
set_option maxHeartbeats 4000000
open Go Go.Proofs
theorem wrap_add {a b : Nat} (h : a + b < 4611686018427387904) : IntKind.i64.wrap (Int.ofNat a + Int.ofNat b) = Int.ofNat (a + b) := by
  rw [show Int.ofNat a + Int.ofNat b = Int.ofNat (a + b) from rfl, wrap_nat (by omega)]
theorem spl_length {A X : List Cell} {i : Nat} (h : i + X.length ≤ A.length) : (splice A i X).length = A.length := by
  unfold splice; simp; omega
theorem splice_all {A B D : List Cell} : splice (splice (splice (List.replicate (A.length + B.length + D.length) dC) 0 A) A.length B) (A.length + B.length) D = A ++ B ++ D := by
  have h1 : splice (List.replicate (A.length + B.length + D.length) dC) 0 A = A ++ List.replicate (B.length + D.length) dC := by
    unfold splice; simp [Nat.add_assoc]
  have h2 : splice (A ++ List.replicate (B.length + D.length) dC) A.length B = A ++ B ++ List.replicate D.length dC := by
    unfold splice; simp [List.drop_append]
  have h3 : splice (A ++ B ++ List.replicate D.length dC) (A.length + B.length) D = A ++ B ++ D := by
    unfold splice
    rw [show A.length + B.length = (A ++ B).length by simp, List.take_left' rfl, show (A ++ B).length + D.length = (A ++ B ++ List.replicate D.length dC).length by simp [Nat.add_assoc], List.drop_length, List.append_nil]
  rw [h1, h2, h3]
abbrev rowC : Row := .cons (.int .i32) (.cons (.int .i64) (.cons (.int .i64) (.cons (.int .i64) (.one (.int .i64)))))
theorem insert_eq {R C : Int} {h w : Nat} (hR : R = Int.ofNat h) (hC : C = Int.ofNat w) (hh : h ≤ 40) (w1 : 1 ≤ w) (hw : w ≤ 60) {l : List Cell} (hl : l.length = h * w) (r c n : Int) (p0 p1 p2 : Int) :
    hide edit_Insert_F R C l r c n p0 p1 p2 = some (R, C, insG h w l r c n (p0, p1, p2)) := by
  have hsm := small_mul (show h ≤ 64 by omega) (show w ≤ 64 by omega)
  rw [hide_eq]; unfold edit_Insert_F insG
  rw [at_eq hR hC hh hw hl]
  simp only [optK_s]
  by_cases k : 0 ≤ r ∧ r < h ∧ 0 ≤ c ∧ c < w
  · rw [at_yes k, if_pos k]
    obtain ⟨k1, k2, k3, k4⟩ := k
    obtain ⟨r, rfl⟩ : ∃ q : Nat, r = Int.ofNat q := ⟨r.toNat, (Int.toNat_of_nonneg k1).symm⟩
    obtain ⟨c, rfl⟩ : ∃ q : Nat, c = Int.ofNat q := ⟨c.toNat, (Int.toNat_of_nonneg k3).symm⟩
    have hr : r < h := by have : (r : Int) < h := k2; omega
    have hc : c < w := by have : (c : Int) < w := k4; omega
    subst hC
    simp only [Bool.not_true, cond_false]
    rw [parted_eq (R := R) rfl hh hw hl hr hc]
    simp only [optK_s, num_eq hw hc, toNat_ofNat']
    have hn := num_le w c (by omega) n
    generalize num w c n = m at hn ⊢
    rw [blanks_any (by omega)]
    simp only [optK_s, cutTo]
    have hrl : (rowOf w l r).length = w := rowOf_length hl hr
    have hpl : (parted (rowOf w l r) c).length = w := by rw [parted_length, hrl]
    have e2 : IntKind.i64.wrap (Int.ofNat w - Int.ofNat m) = Int.ofNat (w - m) := by
      rw [show Int.ofNat w - Int.ofNat m = Int.ofNat (w - m) by simp; omega, wrap_nat (by omega)]
    simp only [e2]
    rw [cutList_ok (show c ≤ w - m by omega)]
    have b1 : bnds none (some (Int.ofNat c)) (parted (rowOf w l r) c).length = true := by rw [hpl]; simp [bnds]; omega
    have b2 : bnds (some (Int.ofNat c)) (some (Int.ofNat (w - m))) (parted (rowOf w l r) c).length = true := by rw [hpl]; exact bnds_ok (by omega) (by omega)
    rw [b1, b2]
    rw [inRow_congr (f := fun row => mend (insRow row c m (p0, p1, p2))) (g := fun _ => mend (insRow (rowOf w l r) c m (p0, p1, p2))) rfl]
    unfold insRow
    rw [hrl]
    have la : ((parted (rowOf w l r) c).take c).length = c := by simp [hpl]; omega
    have lb : (List.replicate m ((32, 0, p0, p1, p2) : Cell)).length = m := by simp
    have lc : (((parted (rowOf w l r) c).drop c).take (w - m - c)).length = w - m - c := by simp [hpl]; omega
    generalize (parted (rowOf w l r) c).take c = A at la ⊢
    generalize List.replicate m ((32, 0, p0, p1, p2) : Cell) = B at lb ⊢
    generalize ((parted (rowOf w l r) c).drop c).take (w - m - c) = D at lc ⊢
    have g0 : ∀ (d : (Row.one (CTy.slice rowC)).den), @List.getD (List Cell) [A, B, D] 0 d = A := fun _ => rfl
    have g1 : ∀ (d : (Row.one (CTy.slice rowC)).den), @List.getD (List Cell) [A, B, D] 1 d = B := fun _ => rfl
    have g2 : ∀ (d : (Row.one (CTy.slice rowC)).den), @List.getD (List Cell) [A, B, D] 2 d = D := fun _ => rfl
    simp only [g0, g1, g2, cond_true, Bool.and_true]
    have s1 : IntKind.i64.wrap (0 + Int.ofNat A.length) = Int.ofNat A.length := by rw [Int.zero_add, wrap_nat (by omega)]
    have s2 : IntKind.i64.wrap (Int.ofNat A.length + Int.ofNat B.length) = Int.ofNat (A.length + B.length) := wrap_add (by omega)
    have s3 : IntKind.i64.wrap (Int.ofNat (A.length + B.length) + Int.ofNat D.length) = Int.ofNat (A.length + B.length + D.length) := wrap_add (by omega)
    have s4 : IntKind.i64.wrap (Int.ofNat (A.length + B.length + D.length) - 0) = Int.ofNat (A.length + B.length + D.length) := by rw [Int.sub_zero, wrap_nat (by omega)]
    have n1 : ∀ q : Nat, decide (Int.ofNat q < 0) = false := fun q => by simp
    have p1 : decide (Int.ofNat (A.length + B.length + D.length) > 0) = true := by simp; omega
    have p2 : decide ((0 : Int) < Int.ofNat (A.length + B.length + D.length)) = true := by simp; omega
    have p3 : decide (Int.ofNat (A.length + B.length + D.length) ≤ 274877906944) = true := by simp; omega
    simp only [s1, s2, s3, s4, n1, p1, p2, p3, cond_true, cond_false, Bool.and_self, toNat_ofNat', getD_some']
    have r1 : ∀ q, rowN ((0 : Int), (0 : Int), (0 : Int), (0 : Int), (0 : Int)) q = List.replicate q dC := fun _ => rfl
    simp only [r1, show Int.toNat 0 = 0 from rfl, Nat.sub_self, Nat.add_zero, Nat.zero_add, List.drop_zero]
    have c1 : A.length.ble (List.replicate (A.length + B.length + D.length) dC).length = true := Nat.ble_eq_true_of_le (by simp; omega)
    have l1 : (splice (List.replicate (A.length + B.length + D.length) dC) 0 A).length = A.length + B.length + D.length := by rw [spl_length (by simp; omega)]; simp
    have l2 : (splice (splice (List.replicate (A.length + B.length + D.length) dC) 0 A) A.length B).length = A.length + B.length + D.length := by rw [spl_length (by rw [l1]; omega), l1]
    rw [c1, l1, l2, splice_all, Nat.ble_eq_true_of_le (show A.length + B.length ≤ A.length + B.length + D.length by omega), Nat.ble_eq_true_of_le (Nat.le_refl _)]
    rw [List.take_of_length_le (by simp; omega)]
    simp only [cond_true]
    rw [turned_eq rfl hh hw hl hr (by simp; omega)]
    rfl
  · rw [at_no k, if_neg k]
    have e : (l.length.ble 274877906944) = true := Nat.ble_eq_true_of_le (by rw [hl]; omega)
    rw [e]; rfl
theorem delete_eq {R C : Int} {h w : Nat} (hR : R = Int.ofNat h) (hC : C = Int.ofNat w) (hh : h ≤ 40) (w1 : 1 ≤ w) (hw : w ≤ 60) {l : List Cell} (hl : l.length = h * w) (r c n : Int) (p0 p1 p2 : Int) :
    hide edit_Delete_F R C l r c n p0 p1 p2 = some (R, C, delG h w l r c n (p0, p1, p2)) := by
  have hsm := small_mul (show h ≤ 64 by omega) (show w ≤ 64 by omega)
  rw [hide_eq]; unfold edit_Delete_F delG
  rw [at_eq hR hC hh hw hl]
  simp only [optK_s]
  by_cases k : 0 ≤ r ∧ r < h ∧ 0 ≤ c ∧ c < w
  · rw [at_yes k, if_pos k]
    obtain ⟨k1, k2, k3, k4⟩ := k
    obtain ⟨r, rfl⟩ : ∃ q : Nat, r = Int.ofNat q := ⟨r.toNat, (Int.toNat_of_nonneg k1).symm⟩
    obtain ⟨c, rfl⟩ : ∃ q : Nat, c = Int.ofNat q := ⟨c.toNat, (Int.toNat_of_nonneg k3).symm⟩
    have hr : r < h := by have : (r : Int) < h := k2; omega
    have hc : c < w := by have : (c : Int) < w := k4; omega
    subst hC
    simp only [Bool.not_true, cond_false]
    rw [parted_eq (R := R) rfl hh hw hl hr hc]
    simp only [optK_s, num_eq hw hc, toNat_ofNat']
    have hn := num_le w c (by omega) n
    generalize num w c n = m at hn ⊢
    simp only [optK_s, cutTo]
    have hrl : (rowOf w l r).length = w := rowOf_length hl hr
    have hpl : (parted (rowOf w l r) c).length = w := by rw [parted_length, hrl]
    have e2 : IntKind.i64.wrap (Int.ofNat c + Int.ofNat m) = Int.ofNat (c + m) := wrap_add (by omega)
    simp only [e2, cutFrom]
    have b1 : bnds none (some (Int.ofNat c)) (parted (rowOf w l r) c).length = true := by rw [hpl]; simp [bnds]; omega
    have b2 : bnds (some (Int.ofNat (c + m))) none (parted (rowOf w l r) c).length = true := by rw [hpl]; simp [bnds]; omega
    rw [b1, b2, blanks_any (by omega)]
    simp only [optK_s]
    rw [inRow_congr (f := fun row => mend (delRow row c m (p0, p1, p2))) (g := fun _ => mend (delRow (rowOf w l r) c m (p0, p1, p2))) rfl]
    unfold delRow
    have la : ((parted (rowOf w l r) c).take c).length = c := by simp [hpl]; omega
    have lb : ((parted (rowOf w l r) c).drop (c + m)).length = w - m - c := by simp [hpl]; omega
    have lc : (List.replicate m ((32, 0, p0, p1, p2) : Cell)).length = m := by simp
    generalize (parted (rowOf w l r) c).take c = A at la ⊢
    generalize (parted (rowOf w l r) c).drop (c + m) = B at lb ⊢
    generalize List.replicate m ((32, 0, p0, p1, p2) : Cell) = D at lc ⊢
    have g0 : ∀ (d : (Row.one (CTy.slice rowC)).den), @List.getD (List Cell) [A, B, D] 0 d = A := fun _ => rfl
    have g1 : ∀ (d : (Row.one (CTy.slice rowC)).den), @List.getD (List Cell) [A, B, D] 1 d = B := fun _ => rfl
    have g2 : ∀ (d : (Row.one (CTy.slice rowC)).den), @List.getD (List Cell) [A, B, D] 2 d = D := fun _ => rfl
    simp only [g0, g1, g2, cond_true, Bool.and_true]
    have s1 : IntKind.i64.wrap (0 + Int.ofNat A.length) = Int.ofNat A.length := by rw [Int.zero_add, wrap_nat (by omega)]
    have s2 : IntKind.i64.wrap (Int.ofNat A.length + Int.ofNat B.length) = Int.ofNat (A.length + B.length) := wrap_add (by omega)
    have s3 : IntKind.i64.wrap (Int.ofNat (A.length + B.length) + Int.ofNat D.length) = Int.ofNat (A.length + B.length + D.length) := wrap_add (by omega)
    have s4 : IntKind.i64.wrap (Int.ofNat (A.length + B.length + D.length) - 0) = Int.ofNat (A.length + B.length + D.length) := by rw [Int.sub_zero, wrap_nat (by omega)]
    have n1 : ∀ q : Nat, decide (Int.ofNat q < 0) = false := fun q => by simp
    have p1 : decide (Int.ofNat (A.length + B.length + D.length) > 0) = true := by simp; omega
    have p2 : decide ((0 : Int) < Int.ofNat (A.length + B.length + D.length)) = true := by simp; omega
    have p3 : decide (Int.ofNat (A.length + B.length + D.length) ≤ 274877906944) = true := by simp; omega
    simp only [s1, s2, s3, s4, n1, p1, p2, p3, cond_true, cond_false, Bool.and_self, toNat_ofNat', getD_some']
    have r1 : ∀ q, rowN ((0 : Int), (0 : Int), (0 : Int), (0 : Int), (0 : Int)) q = List.replicate q dC := fun _ => rfl
    simp only [r1, show Int.toNat 0 = 0 from rfl, Nat.sub_self, Nat.add_zero, Nat.zero_add, List.drop_zero]
    have c1 : A.length.ble (List.replicate (A.length + B.length + D.length) dC).length = true := Nat.ble_eq_true_of_le (by simp; omega)
    have l1 : (splice (List.replicate (A.length + B.length + D.length) dC) 0 A).length = A.length + B.length + D.length := by rw [spl_length (by simp; omega)]; simp
    have l2 : (splice (splice (List.replicate (A.length + B.length + D.length) dC) 0 A) A.length B).length = A.length + B.length + D.length := by rw [spl_length (by rw [l1]; omega), l1]
    rw [c1, l1, l2, splice_all, Nat.ble_eq_true_of_le (show A.length + B.length ≤ A.length + B.length + D.length by omega), Nat.ble_eq_true_of_le (Nat.le_refl _)]
    rw [List.take_of_length_le (by simp; omega)]
    simp only [cond_true]
    rw [turned_eq rfl hh hw hl hr (by simp; omega)]
    rfl
  · rw [at_no k, if_neg k]
    have e : (l.length.ble 274877906944) = true := Nat.ble_eq_true_of_le (by rw [hl]; omega)
    rw [e]; rfl
end Go.Proofs.YtpneolkfeihkhaaAbs

/- Plain laws: rows into which blanks are put, out of which cells are taken: what they are, and that they are right. -/
namespace Go.Proofs.YtpneolkfeihkhaaAbs
set_option linter.unusedVariables false
set_option linter.unusedSimpArgs false
open Go Go.Proofs
theorem semi_parted {row : List Cell} (h : Semi row) (c : Nat) : Semi (parted row c) := by
  unfold parted
  split
  · refine semi_mix (by simp) h fun i hi => ?_
    have hi' : i < row.length := by simpa using hi
    rw [getD_set, getD_set]
    split
    · rename_i e
      obtain ⟨e, _⟩ := e
      subst e
      exact .inr ⟨cellS_blank (h _ hi').1.1, rfl⟩
    · split
      · rename_i e
        obtain ⟨e, _⟩ := e
        subst e
        exact .inr ⟨cellS_blank (h _ hi').1.1, rfl⟩
      · exact .inl rfl
  · exact h
theorem kd_left {row : List Cell} (hR : rightR row) {c : Nat} (h0 : 0 < c) (hc : c < row.length) : kd (parted row c) (c - 1) ≠ 1 := by
  unfold parted
  split
  · rename_i e
    unfold kd
    rw [getD_set, if_neg (by omega), getD_set, if_pos ⟨rfl, by omega⟩]
    show (0 : Int) ≠ 1
    decide
  · rename_i e
    intro k
    have := (right_1 hR (i := c - 1) (by omega) k).2
    rw [show c - 1 + 1 = c by omega] at this
    exact e ⟨this, h0⟩
theorem semi_insRow {row : List Cell} (hS : Semi row) {c n : Nat} {p : Pen} (hp : rightPen p) : Semi (insRow row c n p) := by
  unfold insRow
  have hP := semi_parted hS c
  rcases Nat.eq_zero_or_pos n with k | k
  · subst k
    have e : (parted row c).take c ++ List.replicate 0 ((32, 0, p) : Cell) ++ ((parted row c).drop c).take (row.length - 0 - c) = parted row c := by
      rw [List.replicate_zero, List.append_nil, List.take_of_length_le (l := List.drop c (parted row c)) (by simp [parted_length]), List.take_append_drop]
    rw [e]; exact hP
  · refine semi_append (semi_append_rep (semi_take hP c) n hp) (semi_take (semi_drop hP c) _) fun h1 h2 => ?_
    intro k1
    rw [List.length_append, List.length_replicate, getD_append_r _ (by omega), getD_rep _ _ (by omega)] at k1
    exact absurd k1 (by show ¬ (0 : Int) = 1; decide)
theorem semi_delRow {row : List Cell} (hR : rightR row) (hS : Semi row) {c n : Nat} (hc : c < row.length) {p : Pen} (hp : rightPen p) : Semi (delRow row c n p) := by
  unfold delRow
  have hP := semi_parted hS c
  refine semi_append_rep (semi_append (semi_take hP c) (semi_drop hP _) fun h1 h2 => ?_) n hp
  intro k1
  have hlen : (List.take c (parted row c)).length = c := by simp [parted_length]; omega
  rw [hlen] at h1 k1
  rw [getD_take _ (by omega)] at k1
  exact absurd k1 (kd_left hR (by omega) hc)
theorem GG.ins {h w : Nat} {l : List Cell} (k : GG h w l) (r c n : Int) {p : Pen} (hp : rightPen p) : GG h w (insG h w l r c n p) := by
  unfold insG
  split
  · rename_i hn
    have hr : r.toNat < h := by omega
    have hl := rowOf_length k.1.1 hr
    have hnum := num_le w c.toNat (by omega) n
    exact k.inRow hr (by rw [mend_length, insRow_length (by omega), hl]) (right_mend _) (semi_mend (semi_insRow (k.2 _ hr) hp))
  · exact k
theorem GG.del {h w : Nat} {l : List Cell} (k : GG h w l) (r c n : Int) {p : Pen} (hp : rightPen p) : GG h w (delG h w l r c n p) := by
  unfold delG
  split
  · rename_i hn
    have hr : r.toNat < h := by omega
    have hl := rowOf_length k.1.1 hr
    have hnum := num_le w c.toNat (by omega) n
    exact k.inRow hr (by rw [mend_length, delRow_length (by omega), hl]) (right_mend _) (semi_mend (semi_delRow (k.1.2 _ hr) (k.2 _ hr) (by omega) hp))
  · exact k
theorem insRow_getD {row : List Cell} {c n : Nat} {p : Pen} {j : Nat} (hc : c + n ≤ row.length) (hj : j < row.length) :
    (insRow row c n p).getD j dC = if j < c then (parted row c).getD j dC else if j < c + n then (32, 0, p) else (parted row c).getD (j - n) dC := by
  unfold insRow
  have la : (List.take c (parted row c)).length = c := by simp [parted_length]; omega
  have hlen : (parted row c).length = row.length := parted_length ..
  by_cases h1 : j < c
  · rw [if_pos h1, List.append_assoc, getD_append_l _ (by omega), getD_take _ h1]
  · rw [if_neg h1]
    by_cases h2 : j < c + n
    · rw [if_pos h2, getD_append_l _ (by rw [List.length_append, la, List.length_replicate]; omega), getD_append_r _ (by omega), la, getD_rep _ _ (by omega)]
    · rw [if_neg h2, getD_append_r _ (by rw [List.length_append, la, List.length_replicate]; omega), List.length_append, la, List.length_replicate, getD_take _ (by omega), getD_drop, show c + (j - (c + n)) = j - n by omega]
theorem delRow_getD {row : List Cell} {c n : Nat} {p : Pen} {j : Nat} (hc : c + n ≤ row.length) (hj : j < row.length) :
    (delRow row c n p).getD j dC = if j < c then (parted row c).getD j dC else if j + n < row.length then (parted row c).getD (j + n) dC else (32, 0, p) := by
  unfold delRow
  have la : (List.take c (parted row c)).length = c := by simp [parted_length]; omega
  have hlen : (parted row c).length = row.length := parted_length ..
  have lb : (List.drop (c + n) (parted row c)).length = row.length - (c + n) := by simp [parted_length]
  by_cases h1 : j < c
  · rw [if_pos h1, List.append_assoc, getD_append_l _ (by omega), getD_take _ h1]
  · rw [if_neg h1]
    by_cases h2 : j + n < row.length
    · rw [if_pos h2, getD_append_l _ (by rw [List.length_append, la, lb]; omega), getD_append_r _ (by omega), la, getD_drop, show c + n + (j - c) = j + n by omega]
    · rw [if_neg h2, getD_append_r _ (by rw [List.length_append, la, lb]; omega), List.length_append, la, lb, getD_rep _ _ (by omega)]
/-- What the document's Shift makes of a row: so far to the right from a place on (to the left where it is less than nothing). -/
def refShRow (row : List Cell) (c : Nat) (n : Int) (p : Pen) (j : Nat) : Cell :=
  if j < c then (parted row c).getD j dC else if (c : Int) ≤ j - n ∧ (j : Int) - n < row.length then (parted row c).getD ((j : Int) - n).toNat dC else (32, 0, p)
theorem refShRow_ins {row : List Cell} {c : Nat} {n : Int} {p : Pen} (hc : c < row.length) (hn : 0 ≤ n) {j : Nat} (hj : j < row.length) : (insRow row c (num row.length c n) p).getD j dC = refShRow row c n p j := by
  have hm := num_le row.length c (by omega) n
  rw [insRow_getD hm hj]
  unfold refShRow
  by_cases h1 : j < c
  · rw [if_pos h1, if_pos h1]
  · rw [if_neg h1, if_neg h1]
    have e : num row.length c n = (max 0 (min n ((row.length : Int) - c))).toNat := rfl
    by_cases h2 : j < c + num row.length c n
    · rw [if_pos h2, if_neg (by omega)]
    · rw [if_neg h2, if_pos (by omega), show ((j : Int) - n).toNat = j - num row.length c n by omega]
theorem refShRow_del {row : List Cell} {c : Nat} {n : Int} {p : Pen} (hc : c < row.length) (hn : 0 ≤ n) {j : Nat} (hj : j < row.length) : (delRow row c (num row.length c n) p).getD j dC = refShRow row c (-n) p j := by
  have hm := num_le row.length c (by omega) n
  rw [delRow_getD hm hj]
  unfold refShRow
  by_cases h1 : j < c
  · rw [if_pos h1, if_pos h1]
  · rw [if_neg h1, if_neg h1]
    have e : num row.length c n = (max 0 (min n ((row.length : Int) - c))).toNat := rfl
    by_cases h2 : j + num row.length c n < row.length
    · rw [if_pos h2, if_pos (by omega), show ((j : Int) - -n).toNat = j + num row.length c n by omega]
    · rw [if_neg h2, if_neg (by omega)]
end Go.Proofs.YtpneolkfeihkhaaAbs

/- Plain laws: what edit does, done twice. -/
namespace Go.Proofs.YtpneolkfeihkhaaAbs
set_option linter.unusedVariables false
set_option linter.unusedSimpArgs false
open Go Go.Proofs
end Go.Proofs.YtpneolkfeihkhaaAbs

/- Plain laws: edit.Line, edit.Erase, the document's Shift. -/
namespace Go.Proofs.YtpneolkfeihkhaaAbs
set_option linter.unusedVariables false
set_option linter.unusedSimpArgs false
set_option maxHeartbeats 2000000
open Go Go.Proofs
def wipeX (w : Nat) (row : List Cell) (a b : Int) (p : Pen) : List Cell := mend (fillR row (wipeN w a b).1 (wipeN w a b).2 (32, 0, p))
theorem wipe_length {h w : Nat} {l : List Cell} (hl : l.length = h * w) (r a b : Int) (p : Pen) : (wipe h w l r a b p).length = h * w := by
  unfold wipe
  split
  · rename_i k
    exact inRow_length hl (by omega) (by rw [mend_length, fillR_length, rowOf_length hl (by omega)])
  · exact hl
theorem wipe_row {h w : Nat} {l : List Cell} (hl : l.length = h * w) {r : Nat} (hr : r < h) (a b : Int) (p : Pen) {r' : Nat} (hr' : r' < h) :
    rowOf w (wipe h w l r a b p) r' = if r' = r then wipeX w (rowOf w l r) a b p else rowOf w l r' := by
  have hrl := rowOf_length hl hr
  unfold wipe
  rw [if_pos (by omega)]
  by_cases e : r' = r
  · subst e
    rw [if_pos rfl]
    exact inRow_same hl (by omega) (by rw [mend_length, fillR_length]; exact hrl)
  · rw [if_neg e]
    exact inRow_other hl (by omega) (by rw [mend_length, fillR_length]; exact hrl) hr' e
def lineG (h w : Nat) (l : List Cell) (r c what : Int) (p : Pen) : List Cell :=
  if 0 ≤ r ∧ r < h ∧ 0 ≤ c ∧ c < w then (if what = 0 then wipe h w l r c w p else if what = 1 then wipe h w l r 0 (c + 1) p else if what = 2 then wipe h w l r 0 w p else l) else l
theorem lineG_length {h w : Nat} {l : List Cell} (hl : l.length = h * w) (r c what : Int) (p : Pen) : (lineG h w l r c what p).length = h * w := by
  unfold lineG
  split
  · split
    · exact wipe_length hl _ _ _ _
    · split
      · exact wipe_length hl _ _ _ _
      · split
        · exact wipe_length hl _ _ _ _
        · exact hl
  · exact hl
theorem GG.line {h w : Nat} {l : List Cell} (k : GG h w l) (r c what : Int) {p : Pen} (hp : rightPen p) : GG h w (lineG h w l r c what p) := by
  unfold lineG
  split
  · split
    · exact k.wipe _ _ _ hp
    · split
      · exact k.wipe _ _ _ hp
      · split
        · exact k.wipe _ _ _ hp
        · exact k
  · exact k
theorem line_eq {R C : Int} {h w : Nat} (hR : R = Int.ofNat h) (hC : C = Int.ofNat w) (hh : h ≤ 40) (w1 : 1 ≤ w) (hw : w ≤ 60) {l : List Cell} (hl : l.length = h * w) (r c what : Int) (p0 p1 p2 : Int) :
    hide edit_Line_F R C l r c what p0 p1 p2 = some (R, C, lineG h w l r c what (p0, p1, p2)) := by
  have hsm := small_mul (show h ≤ 64 by omega) (show w ≤ 64 by omega)
  have e : (l.length.ble 274877906944) = true := Nat.ble_eq_true_of_le (by rw [hl]; omega)
  rw [hide_eq]; unfold edit_Line_F lineG
  rw [at_eq hR hC hh hw hl]
  simp only [optK_s]
  by_cases k : 0 ≤ r ∧ r < h ∧ 0 ≤ c ∧ c < w
  · rw [at_yes k, if_pos k]
    obtain ⟨k1, k2, k3, k4⟩ := k
    have ew : IntKind.i64.wrap (c + 1) = c + 1 := w64 (by omega) (by omega)
    simp only [Bool.not_true, cond_false, ew]
    by_cases q0 : what = 0
    · subst q0
      rw [wipe_eq hR hC hh w1 hw hl (by omega), hC]
      rfl
    · rw [if_neg q0, show (what == 0) = false by simpa using q0]
      by_cases q1 : what = 1
      · subst q1
        rw [show ((1 : Int) == 1) = true from rfl, if_pos rfl]
        simp only [cond_true, cond_false]
        rw [wipe_eq hR hC hh w1 hw hl (by omega)]
        rfl
      · rw [if_neg q1, show (what == 1) = false by simpa using q1]
        by_cases q2 : what = 2
        · subst q2
          rw [show ((2 : Int) == 2) = true from rfl, if_pos rfl]
          simp only [cond_true, cond_false]
          rw [wipe_eq hR hC hh w1 hw hl (by omega), hC]
          rfl
        · rw [if_neg q2, show (what == 2) = false by simpa using q2, e]
          rfl
  · rw [at_no k, if_neg k, e]; rfl
/-- So many rows are done. -/
def eraseTo (h w : Nat) (l : List Cell) (r what : Int) (p : Pen) : Nat → List Cell
  | 0 => l
  | k + 1 => if ((k : Int) > r ∧ what ≠ 1) ∨ ((k : Int) < r ∧ what ≠ 0) then wipe h w (eraseTo h w l r what p k) k 0 w p else eraseTo h w l r what p k
theorem eraseTo_length {h w : Nat} {l : List Cell} (hl : l.length = h * w) (r what : Int) (p : Pen) : ∀ k, (eraseTo h w l r what p k).length = h * w
  | 0 => hl
  | k + 1 => by
    rw [eraseTo]
    split
    · exact wipe_length (eraseTo_length hl r what p k) _ _ _ _
    · exact eraseTo_length hl r what p k
theorem GG.eraseTo {h w : Nat} {l : List Cell} (g : GG h w l) (r what : Int) {p : Pen} (hp : rightPen p) : ∀ k, GG h w (Go.Proofs.YtpneolkfeihkhaaAbs.eraseTo h w l r what p k)
  | 0 => g
  | k + 1 => by
    rw [Go.Proofs.YtpneolkfeihkhaaAbs.eraseTo]
    split
    · exact (GG.eraseTo g r what hp k).wipe _ _ _ hp
    · exact GG.eraseTo g r what hp k
theorem eraseTo_row {h w : Nat} {l : List Cell} (hl : l.length = h * w) (r what : Int) (p : Pen) : ∀ k, k ≤ h → ∀ y, y < h → rowOf w (eraseTo h w l r what p k) y = if y < k ∧ (((y : Int) > r ∧ what ≠ 1) ∨ ((y : Int) < r ∧ what ≠ 0)) then wipeX w (rowOf w l y) 0 w p else rowOf w l y
  | 0, _, y, hy => by rw [if_neg (by omega)]; rfl
  | k + 1, hk, y, hy => by
    have ih := eraseTo_row hl r what p k (by omega)
    rw [eraseTo]
    by_cases c : ((k : Int) > r ∧ what ≠ 1) ∨ ((k : Int) < r ∧ what ≠ 0)
    · rw [if_pos c, wipe_row (eraseTo_length hl r what p k) (by omega) _ _ _ hy]
      by_cases e : y = k
      · subst e
        rw [if_pos rfl, ih y hy, if_neg (fun q => by omega), if_pos ⟨by omega, c⟩]
      · rw [if_neg e, ih y hy]
        by_cases c2 : y < k ∧ (((y : Int) > r ∧ what ≠ 1) ∨ ((y : Int) < r ∧ what ≠ 0))
        · rw [if_pos c2, if_pos ⟨by omega, c2.2⟩]
        · rw [if_neg c2, if_neg (fun q => c2 ⟨by omega, q.2⟩)]
    · rw [if_neg c, ih y hy]
      by_cases c2 : y < k ∧ (((y : Int) > r ∧ what ≠ 1) ∨ ((y : Int) < r ∧ what ≠ 0))
      · rw [if_pos c2, if_pos ⟨by omega, c2.2⟩]
      · rw [if_neg c2, if_neg (fun q => c2 ⟨by
          have : y ≠ k := fun e => c (by rw [← e]; exact q.2)
          omega, q.2⟩)]
theorem erase_loop {r what p0 p1 p2 z0 z1 : Int} {h w : Nat} {l0 l z : List Cell} (hl : l.length = h * w) (hh : h ≤ 40) (w1 : 1 ≤ w) (hw : w ≤ 60) : ∀ (n k : Nat), k ≤ h → h - k < n →
    edit_Erase_L6 n r what (Int.ofNat h) (Int.ofNat k) (Int.ofNat h) (Int.ofNat w) l0 p0 p1 p2 z0 z1 (Int.ofNat h) (Int.ofNat w) (eraseTo h w l r what (p0, p1, p2) k) z = some (z0, z1, Int.ofNat h, Int.ofNat w, eraseTo h w l r what (p0, p1, p2) h, z) := by
  intro n
  induction n with
  | zero => intro k h1 h2; omega
  | succ n ih =>
    intro k h1 h2
    rw [edit_Erase_L6]
    by_cases hk : k < h
    · have e0 : decide (Int.ofNat k < Int.ofNat h) = true := decide_eq_true (by show (k : Int) < (h : Int); omega)
      have step := ih (k + 1) (by omega) (by omega)
      rw [e0, wrap_succ (by omega)]
      simp only [cond_true]
      rw [wipe_eq rfl rfl hh w1 hw (eraseTo_length hl r what _ k) (show (0 : Int) ≤ 4000 by omega)]
      simp only [optK_s]
      rw [eraseTo] at step
      by_cases a1 : (k : Int) > r
      · have a2 : ¬ (k : Int) < r := by omega
        rw [show decide (Int.ofNat k > r) = true from decide_eq_true a1, show decide (Int.ofNat k < r) = false from decide_eq_false a2]
        simp only [cond_true, cond_false]
        by_cases q1 : what = 1
        · rw [if_neg (by omega)] at step
          rw [show (what != 1) = false by simp [q1]]
          exact step
        · rw [if_pos (by omega)] at step
          rw [show (what != 1) = true by simp [q1]]
          exact step
      · rw [show decide (Int.ofNat k > r) = false from decide_eq_false a1]
        simp only [cond_false]
        by_cases a2 : (k : Int) < r
        · rw [show decide (Int.ofNat k < r) = true from decide_eq_true a2]
          simp only [cond_true]
          by_cases q1 : what = 0
          · rw [if_neg (by omega)] at step
            rw [show (what != 0) = false by simp [q1]]
            exact step
          · rw [if_pos (by omega)] at step
            rw [show (what != 0) = true by simp [q1]]
            exact step
        · rw [if_neg (by omega)] at step
          rw [show decide (Int.ofNat k < r) = false from decide_eq_false a2]
          exact step
    · have e : k = h := by omega
      subst e
      rw [show decide (Int.ofNat k < Int.ofNat k) = false from decide_eq_false (by show ¬ (k : Int) < (k : Int); omega)]
      rfl
def eraseG (h w : Nat) (l : List Cell) (r c what : Int) (p : Pen) : List Cell :=
  if 0 ≤ r ∧ r < h ∧ 0 ≤ c ∧ c < w ∧ 0 ≤ what ∧ what ≤ 2 then eraseTo h w (lineG h w l r c what p) r what p h else l
theorem GG.erase {h w : Nat} {l : List Cell} (k : GG h w l) (r c what : Int) {p : Pen} (hp : rightPen p) : GG h w (eraseG h w l r c what p) := by
  unfold eraseG
  split
  · exact (k.line _ _ _ hp).eraseTo _ _ hp _
  · exact k
theorem erase_eq {R C : Int} {h w : Nat} (hR : R = Int.ofNat h) (hC : C = Int.ofNat w) (hh : h ≤ 40) (w1 : 1 ≤ w) (hw : w ≤ 60) {l : List Cell} (hl : l.length = h * w) (r c what : Int) (p0 p1 p2 : Int) :
    hide edit_Erase_F R C l r c what p0 p1 p2 = some (R, C, eraseG h w l r c what (p0, p1, p2)) := by
  have hsm := small_mul (show h ≤ 64 by omega) (show w ≤ 64 by omega)
  have e : (l.length.ble 274877906944) = true := Nat.ble_eq_true_of_le (by rw [hl]; omega)
  rw [hide_eq]; unfold edit_Erase_F eraseG
  rw [at_eq hR hC hh hw hl]
  simp only [optK_s]
  by_cases k : 0 ≤ r ∧ r < h ∧ 0 ≤ c ∧ c < w
  · rw [at_yes k]
    simp only [Bool.not_true, cond_false]
    by_cases q0 : what < 0
    · rw [if_neg (by omega), decide_eq_true q0, e]; rfl
    · rw [decide_eq_false q0]
      simp only [cond_false]
      by_cases q2 : what > 2
      · rw [if_neg (by omega), decide_eq_true q2, e]; rfl
      · rw [if_pos (by omega), decide_eq_false q2]
        simp only [cond_false]
        rw [line_eq hR hC hh w1 hw hl]
        simp only [optK_s, hide_eq edit_Erase_L6]
        subst hR hC
        have L := erase_loop (r := r) (what := what) (p0 := p0) (p1 := p1) (p2 := p2) (z0 := 0) (z1 := 0) (l0 := l) (z := []) (lineG_length hl r c what (p0, p1, p2)) hh w1 hw (edit_Erase_fu6 r what (Int.ofNat h) 0 (Int.ofNat h) (Int.ofNat w) l p0 p1 p2 0 0 (Int.ofNat h) (Int.ofNat w) (lineG h w l r c what (p0, p1, p2)) []) 0 (Nat.zero_le _) (Nat.lt_of_lt_of_le (show h - 0 < 5000 by omega) (Nat.le_add_left 5000 _))
        rw [show Int.ofNat 0 = (0 : Int) from rfl, show eraseTo h w (lineG h w l r c what (p0, p1, p2)) r what (p0, p1, p2) 0 = lineG h w l r c what (p0, p1, p2) from rfl] at L
        rw [L]
        rfl
  · rw [at_no k, if_neg (fun q => k ⟨q.1, q.2.1, q.2.2.1, q.2.2.2.1⟩), e]; rfl
/-- The document's Shift. -/
theorem refSh_loop {r R p0 p1 p2 z0 z1 : Int} {w c : Nat} {sh : Int} {l head z : List Cell} (hh : head.length = w) (hw : w ≤ 60) (hs : -100 ≤ sh ∧ sh ≤ 100) {X : Nat → Cell}
    (hX : ∀ j, j < w → X j = if j < c then head.getD j dC else if (c : Int) ≤ j - sh ∧ (j : Int) - sh < w then head.getD ((j : Int) - sh).toNat dC else (32, 0, p0, p1, p2)) : ∀ (n k : Nat) (row : List Cell), c ≤ k → k ≤ w → w - k < n → row.length = w → (∀ j, j < k → row.getD j dC = X j) →
    ∃ row', row'.length = w ∧ (∀ j, j < w → row'.getD j dC = X j) ∧ linguistref7_Shift_L9 n r (Int.ofNat c) sh (Int.ofNat k) R (Int.ofNat w) l p0 p1 p2 z0 z1 head row z = some (r, R, Int.ofNat w, l, z0, z1, row', z) := by
  intro n
  induction n with
  | zero => intro k row h0 h1 h2; omega
  | succ n ih =>
    intro k row h0 h1 h2 h3 h4
    rw [linguistref7_Shift_L9]
    by_cases hk : k < w
    · have e0 : decide (Int.ofNat k < Int.ofNat w) = true := decide_eq_true (by show (k : Int) < (w : Int); omega)
      have e1 : ∀ m : List Cell, m.length = w → (decide ((0 : Int) ≤ Int.ofNat k) && decide (Int.ofNat k < Int.ofNat m.length) && true) = true := fun m hm => by rw [hm, e0]; simp
      have es : IntKind.i64.wrap (Int.ofNat k - sh) = (k : Int) - sh := w64 (by show _ ≤ (k : Int) - sh; omega) (by show (k : Int) - sh < _; omega)
      rw [e0, e1 row h3, es, e1 _ (by rw [List.length_set]; exact h3), wrap_succ (by omega), toNat_ofNat']
      simp only [cond_true]
      have hXk := hX k hk
      rw [if_neg (by omega)] at hXk
      have next : ∀ y : Cell, y = X k → ∃ row', row'.length = w ∧ (∀ j, j < w → row'.getD j dC = X j) ∧ linguistref7_Shift_L9 n r (Int.ofNat c) sh (Int.ofNat (k + 1)) R (Int.ofNat w) l p0 p1 p2 z0 z1 head (row.set k y) z = some (r, R, Int.ofNat w, l, z0, z1, row', z) := fun y hy =>
        ih (k + 1) (row.set k y) (by omega) (by omega) (by omega) (by rw [List.length_set]; exact h3) (fun j hj => by
          rw [getD_set]
          by_cases e : k = j
          · subst e; rw [if_pos ⟨rfl, by omega⟩]; exact hy
          · rw [if_neg (fun q => e q.1)]; exact h4 j (by omega))
      by_cases a1 : (c : Int) ≤ (k : Int) - sh
      · rw [show decide ((k : Int) - sh ≥ Int.ofNat c) = true from decide_eq_true a1]
        simp only [cond_true]
        by_cases a2 : (k : Int) - sh < w
        · rw [if_pos ⟨a1, a2⟩] at hXk
          rw [show decide ((k : Int) - sh < Int.ofNat w) = true from decide_eq_true a2]
          have e2 : (decide ((0 : Int) ≤ (k : Int) - sh) && decide ((k : Int) - sh < Int.ofNat head.length) && true) = true := by
            rw [hh, show decide ((k : Int) - sh < Int.ofNat w) = true from decide_eq_true a2]; simp; omega
          rw [e2]
          simp only [cond_true, List.set_set]
          exact next _ hXk.symm
        · rw [if_neg (by omega)] at hXk
          rw [show decide ((k : Int) - sh < Int.ofNat w) = false from decide_eq_false a2]
          exact next _ hXk.symm
      · rw [if_neg (by omega)] at hXk
        rw [show decide ((k : Int) - sh ≥ Int.ofNat c) = false from decide_eq_false a1]
        exact next _ hXk.symm
    · have e : k = w := by omega
      subst e
      rw [show decide (Int.ofNat k < Int.ofNat k) = false from decide_eq_false (by show ¬ (k : Int) < (k : Int); omega)]
      exact ⟨row, h3, h4, rfl⟩
theorem refSh_J {R z0 z1 p0 p1 p2 : Int} {h w r c : Nat} {sh : Int} {l row z : List Cell} (hR : R = Int.ofNat h) (hh : h ≤ 40) (hw : w ≤ 60) (hl : l.length = h * w) (hr : r < h) (hc : c < w) (hrow : row = rowOf w l r) (hs : -100 ≤ sh ∧ sh ≤ 100) :
    hide linguistref7_Shift_J7 (Int.ofNat r) (Int.ofNat c) sh R (Int.ofNat w) l p0 p1 p2 z0 z1 (parted row c) z = some (R, Int.ofNat w, if 0 ≤ sh then insG h w l r c sh (p0, p1, p2) else delG h w l r c (-sh) (p0, p1, p2)) := by
  have hsm := small_mul (show h ≤ 64 by omega) (show w ≤ 64 by omega)
  have hrl : row.length = w := by rw [hrow]; exact rowOf_length hl hr
  have hpl : (parted row c).length = w := by rw [parted_length]; exact hrl
  rw [hide_eq]; unfold linguistref7_Shift_J7
  rw [Nat.ble_eq_true_of_le (by omega)]
  simp only [Bool.and_self, cond_true, hide_eq linguistref7_Shift_L9]
  obtain ⟨row', q1, q2, q3⟩ := refSh_loop (r := Int.ofNat r) (R := R) (z0 := z0) (z1 := z1) (l := l) (z := z) (p0 := p0) (p1 := p1) (p2 := p2) hpl hw hs (X := refShRow row c sh (p0, p1, p2)) (fun j hj => by unfold refShRow; rw [hrl])
    (linguistref7_Shift_fu9 (Int.ofNat r) (Int.ofNat c) sh (Int.ofNat c) R (Int.ofNat w) l p0 p1 p2 z0 z1 (parted row c) (parted row c) z) c (parted row c) (Nat.le_refl _) (by omega) (Nat.lt_of_lt_of_le (show w - c < 5000 by omega) (Nat.le_add_left 5000 _)) hpl (fun j hj => by unfold refShRow; rw [if_pos hj])
  rw [q3]
  simp only [optK_s]
  rw [refMend_eq _ (by omega)]
  simp only [optK_s]
  rw [refSet_eq hR rfl (by omega) hw hl hr (by rw [mend_length]; exact q1)]
  simp only [optK_s]
  have hn := fun n => num_le w c (by omega) n
  by_cases c0 : 0 ≤ sh
  · rw [if_pos c0]
    have e : row' = insRow row c (num w c sh) (p0, p1, p2) := by
      have hm := hn sh
      refine ext_getD dC (by rw [insRow_length (by omega)]; omega) fun j hj => ?_
      rw [q2 j (by omega), ← refShRow_ins (by omega) c0 (by omega), hrl]
    unfold insG
    rw [if_pos (by omega), e]
    refine congrArg some (congrArg _ (congrArg _ (inRow_congr ?_)))
    show mend _ = mend _
    rw [hrow]
    rfl
  · rw [if_neg c0]
    have e : row' = delRow row c (num w c (-sh)) (p0, p1, p2) := by
      have hm := hn (-sh)
      refine ext_getD dC (by rw [delRow_length (by omega)]; omega) fun j hj => ?_
      have := refShRow_del (p := (p0, p1, p2)) (row := row) (c := c) (n := -sh) (by omega) (by omega) (j := j) (by omega)
      rw [Int.neg_neg, hrl] at this
      rw [q2 j (by omega), this]
    unfold delG
    rw [if_pos (by omega), e]
    refine congrArg some (congrArg _ (congrArg _ (inRow_congr ?_)))
    show mend _ = mend _
    rw [hrow]
    rfl
theorem refShift_eq {R C : Int} {h w : Nat} (hR : R = Int.ofNat h) (hC : C = Int.ofNat w) (hh : h ≤ 40) (w1 : 1 ≤ w) (hw : w ≤ 60) {l : List Cell} (hl : l.length = h * w) (r c sh : Int) (hs : -100 ≤ sh ∧ sh ≤ 100) (p0 p1 p2 : Int) :
    hide linguistref7_Shift_F R C l r c sh p0 p1 p2 = some (R, C, if 0 ≤ sh then insG h w l r c sh (p0, p1, p2) else delG h w l r c (-sh) (p0, p1, p2)) := by
  have hsm := small_mul (show h ≤ 64 by omega) (show w ≤ 64 by omega)
  rw [hide_eq]; unfold linguistref7_Shift_F
  by_cases k : 0 ≤ r ∧ r < h ∧ 0 ≤ c ∧ c < w
  · obtain ⟨k1, k2, k3, k4⟩ := k
    obtain ⟨r, rfl⟩ : ∃ q : Nat, r = Int.ofNat q := ⟨r.toNat, (Int.toNat_of_nonneg k1).symm⟩
    obtain ⟨c, rfl⟩ : ∃ q : Nat, c = Int.ofNat q := ⟨c.toNat, (Int.toNat_of_nonneg k3).symm⟩
    have hr : r < h := by have : (r : Int) < h := k2; omega
    have hc : c < w := by have : (c : Int) < w := k4; omega
    subst hC
    have hb := mul_bound (w := w) hr
    have d1 : decide (Int.ofNat r < 0) = false := by simp
    have d2 : decide (Int.ofNat r ≥ R) = false := decide_eq_false (by rw [hR]; show ¬ (h : Int) ≤ (r : Int); omega)
    have d3 : decide (Int.ofNat c < 0) = false := by simp
    have d4 : decide (Int.ofNat c ≥ Int.ofNat w) = false := decide_eq_false (by show ¬ (w : Int) ≤ (c : Int); omega)
    rw [d1, d2, d3, d4, row_lo r w (by omega) (by omega), row_hi r w (by omega) (by omega), bnds_ok (by omega) (by omega), cutList_ok (by omega), show r * w + w - r * w = w by omega, show (l.drop (r * w)).take w = rowOf w l r from rfl]
    have hrl : (rowOf w l r).length = w := rowOf_length hl hr
    have J := fun z => refSh_J (R := R) (z0 := 0) (z1 := 0) (p0 := p0) (p1 := p1) (p2 := p2) (z := z) hR hh hw hl hr hc rfl hs
    generalize hrow : rowOf w l r = row at hrl J ⊢
    have e : (row.length.ble 274877906944) = true := Nat.ble_eq_true_of_le (by omega)
    have e1 : (decide ((0 : Int) ≤ Int.ofNat c) && decide (Int.ofNat c < Int.ofNat row.length) && true) = true := by simp; omega
    rw [e, e1]
    simp only [cond_true, cond_false, Bool.and_true, toNat_ofNat']
    unfold parted at J
    show (bif (kd row c == 2) then _ else _) = _
    by_cases q : kd row c = 2
    · rw [show (kd row c == 2) = true by rw [q]; rfl]
      simp only [cond_true]
      by_cases k0 : 0 < c
      · have e2 : decide (Int.ofNat c > 0) = true := by simp; omega
        have e3 : IntKind.i64.wrap (Int.ofNat c - 1) = Int.ofNat (c - 1) := by rw [w64 (by simp; omega) (by simp; omega)]; simp; omega
        have e4 : (decide ((0 : Int) ≤ Int.ofNat (c - 1)) && decide (Int.ofNat (c - 1) < Int.ofNat row.length)) = true := by simp; omega
        rw [e2, e3]
        simp only [cond_true, toNat_ofNat', List.length_set]
        have e5 : (decide ((0 : Int) ≤ Int.ofNat c) && decide (Int.ofNat c < Int.ofNat row.length)) = true := by simp; omega
        simp only [e4, e5, cond_true]
        rw [if_pos ⟨q, k0⟩] at J
        exact congrArg (fun q => optK q fun y6 => some (y6.1, y6.2.1, y6.2.2)) (J [])
      · have e2 : decide (Int.ofNat c > 0) = false := by simp; omega
        rw [if_neg (fun q => k0 q.2)] at J
        rw [e2, cond_false, J]; rfl
    · rw [if_neg (fun q' => q q'.1)] at J
      rw [show (kd row c == 2) = false by simp [q], cond_false, J]; rfl
  · have e : (if 0 ≤ sh then insG h w l r c sh (p0, p1, p2) else delG h w l r c (-sh) (p0, p1, p2)) = l := by
      unfold insG delG
      rw [if_neg k, if_neg k]; split <;> rfl
    rw [e]
    by_cases c1 : r < 0
    · rw [decide_eq_true c1]; rfl
    · rw [decide_eq_false c1]
      by_cases c2 : r ≥ R
      · rw [decide_eq_true c2]; rfl
      · rw [decide_eq_false c2]
        by_cases c3 : c < 0
        · rw [decide_eq_true c3]; rfl
        · have c4 : c ≥ C := by
            rw [hC]; show (w : Int) ≤ c
            rw [hR] at c2
            have : ¬ (h : Int) ≤ r := c2
            omega
          rw [decide_eq_false c3, decide_eq_true c4]; rfl
end Go.Proofs.YtpneolkfeihkhaaAbs

-- Written by a program of this session (dec.py); Lean checks it.
namespace Go.Proofs.YtpneolkfeihkhaaAbs
open Go Go.Proofs
set_option linter.unusedVariables false
set_option maxHeartbeats 2000000
set_option maxRecDepth 100000
noncomputable def linguistlaw8_EditPlays_su : SumT := (16, sumH linguistkeep_Grid_Grid_A linguistkeep_Grid_Grid_B true linguistkeep_Grid_Grid_G) :: (17, sumH linguistkeep_Pen_Pen_A linguistkeep_Pen_Pen_B true linguistkeep_Pen_Pen_G) :: (19, sumH linguistbook_Within_A linguistbook_Within_B true linguistbook_Within_G) :: (13, sumH edit_Insert_A edit_Insert_B false edit_Insert_G) :: (24, sumH linguistref7_Shift_A linguistref7_Shift_B false linguistref7_Shift_G) :: (15, sumH edit_Delete_A edit_Delete_B false edit_Delete_G) :: (11, sumH edit_Up_A edit_Up_B false edit_Up_G) :: (25, sumH linguistref7_Scroll_A linguistref7_Scroll_B false linguistref7_Scroll_G) :: (20, sumH edit_Down_A edit_Down_B false edit_Down_G) :: (23, sumH edit_Erase_A edit_Erase_B false edit_Erase_G) :: (26, sumH linguistref7_Wipe_A linguistref7_Wipe_B false linguistref7_Wipe_G) :: (21, sumH edit_Line_A edit_Line_B false edit_Line_G) :: (27, sumH linguistbook_Same_api_Cell_A linguistbook_Same_api_Cell_B true linguistbook_Same_api_Cell_G) :: (28, sumH grid_Right_A grid_Right_B true grid_Right_G) :: (3, sumH linguistlaw8_EditRuns_A linguistlaw8_EditRuns_B true linguistlaw8_EditRuns_G) :: sums0
theorem linguistlaw8_EditPlays_su_ok : AllSum Try.prog linguistlaw8_EditPlays_su := ⟨sumH_ok rfl rfl linguistkeep_Grid_Grid_known, ⟨sumH_ok rfl rfl linguistkeep_Pen_Pen_known, ⟨sumH_ok rfl rfl linguistbook_Within_known, ⟨sumH_ok rfl rfl edit_Insert_known, ⟨sumH_ok rfl rfl linguistref7_Shift_known, ⟨sumH_ok rfl rfl edit_Delete_known, ⟨sumH_ok rfl rfl edit_Up_known, ⟨sumH_ok rfl rfl linguistref7_Scroll_known, ⟨sumH_ok rfl rfl edit_Down_known, ⟨sumH_ok rfl rfl edit_Erase_known, ⟨sumH_ok rfl rfl linguistref7_Wipe_known, ⟨sumH_ok rfl rfl edit_Line_known, ⟨sumH_ok rfl rfl linguistbook_Same_api_Cell_known, ⟨sumH_ok rfl rfl grid_Right_known, ⟨sumH_ok rfl rfl linguistlaw8_EditRuns_known, sums0_ok⟩⟩⟩⟩⟩⟩⟩⟩⟩⟩⟩⟩⟩⟩⟩
noncomputable def linguistlaw8_EditPlays_b38 : Code := ((Try.f6.body.map fun b => tailsAt b 38).getD []).headD .skip
theorem linguistlaw8_EditPlays_b38_is : (Try.f6.body.map fun b => tailsAt b 38) = some [linguistlaw8_EditPlays_b38] := by kernel_rfl
noncomputable def linguistlaw8_EditPlays_t38 : SkSt := ⟨(.gap 1 (.cons (.list (.cons (.int .i64) (.cons (.int .i64) (.cons (.int .i64) (.cons (.int .i64) (.cons (.int .i64) (.cons (.int .i64) (.one (.int .i64))))))))) (.gap 3 (.cst (.ptr 0 0) (.cons (.int .i64) (.gap 1 (.cst (.ptr 1 0) (.gap 264 .nil)))))))), (.var 27 (.cons (.int .i64) (.cons (.int .i64) (.cons (.list (.cons (.int .i32) (.cons (.int .i64) (.cons (.int .i64) (.cons (.int .i64) (.one (.int .i64))))))) .nil))) (.var 27 (.cons (.int .i64) (.cons (.int .i64) (.cons (.list (.cons (.int .i32) (.cons (.int .i64) (.cons (.int .i64) (.cons (.int .i64) (.one (.int .i64))))))) .nil))) .nil))⟩
noncomputable def linguistlaw8_EditPlays_y38_0 : SkSt := ⟨(.gap 4 (.cons .bool (.gap 268 .nil))), .nil⟩
noncomputable def linguistlaw8_EditPlays_y38_1 : SkSt := ⟨(.gap 1 (.cons (.list (.cons (.int .i64) (.cons (.int .i64) (.cons (.int .i64) (.cons (.int .i64) (.cons (.int .i64) (.cons (.int .i64) (.one (.int .i64))))))))) (.gap 3 (.cst (.ptr 0 0) (.cons (.int .i64) (.gap 266 .nil)))))), (.var 27 (.cons (.int .i64) (.cons (.int .i64) (.cons (.list (.cons (.int .i32) (.cons (.int .i64) (.cons (.int .i64) (.cons (.int .i64) (.one (.int .i64))))))) .nil))) .nil)⟩
noncomputable def linguistlaw8_EditPlays_ys38 : List (Ex × SkSt) := [(.ret, linguistlaw8_EditPlays_y38_0), (.normal, linguistlaw8_EditPlays_y38_1)]
noncomputable def linguistlaw8_EditPlays_J38 (a0 : List (Int × Int × Int × Int × Int × Int × Int)) (a1 : Int) (a2 : Int) (a3 : Int) (a4 : List (Int × Int × Int × Int × Int)) (a5 : Int) (a6 : Int) (a7 : List (Int × Int × Int × Int × Int)) : Option (((Bool) ⊕ ((List (Int × Int × Int × Int × Int × Int × Int)) × Int × Int × Int × (List (Int × Int × Int × Int × Int))))) := (bif (a2 != a5) then (some (.inl (false))) else (bif (a3 != a6) then (some (.inl (false))) else (optK ((hide linguistbook_Same_api_Cell_F a4 a7)) fun y9 => (bif (!y9) then (some (.inl (false))) else (optK ((hide grid_Right_F a2 a3 a4)) fun y10 => (bif (!y10) then (some (.inl (false))) else (some (.inr (a0, a1, a2, a3, a4)))))))))
noncomputable def linguistlaw8_EditPlays_k38 {R : Type} (K : Ex → St → Option R) (o : Option (((Bool) ⊕ ((List (Int × Int × Int × Int × Int × Int × Int)) × Int × Int × Int × (List (Int × Int × Int × Int × Int)))))) : Option R := optK o fun y => sumK y (fun y => K (.ret) (linguistlaw8_EditPlays_y38_0.enc ((y, ()), ()))) (fun y => K (.normal) (linguistlaw8_EditPlays_y38_1.enc ((y.1, (y.2.1, ())), ((y.2.2.1, (y.2.2.2.1, (y.2.2.2.2, ()))), ()))))
theorem linguistlaw8_EditPlays_j38 {R : Type} (K : Ex → St → Option R) (a0 : List (Int × Int × Int × Int × Int × Int × Int)) (a1 : Int) (a2 : Int) (a3 : Int) (a4 : List (Int × Int × Int × Int × Int)) (a5 : Int) (a6 : Int) (a7 : List (Int × Int × Int × Int × Int)) : exec (envL linguistlaw8_EditPlays_su ll0 cs0 (fun _ _ => false)) 6 (acall (envL linguistlaw8_EditPlays_su ll0 cs0 (fun _ _ => false)) 1000) 0 linguistlaw8_EditPlays_b38 (linguistlaw8_EditPlays_t38.enc ((a0, (a1, ())), ((a2, (a3, (a4, ()))), ((a5, (a6, (a7, ()))), ())))) (exitK linguistlaw8_EditPlays_ys38 0 K) = linguistlaw8_EditPlays_k38 K (linguistlaw8_EditPlays_J38 a0 a1 a2 a3 a4 a5 a6 a7) := by
    unfold linguistlaw8_EditPlays_J38
    exact Eq.trans (by kernel_rfl) (cond_push (linguistlaw8_EditPlays_k38 K) _ rfl (cond_push (linguistlaw8_EditPlays_k38 K) _ rfl (optK_push (linguistlaw8_EditPlays_k38 K) rfl _ fun y9 => (cond_push (linguistlaw8_EditPlays_k38 K) _ rfl (optK_push (linguistlaw8_EditPlays_k38 K) rfl _ fun y10 => (cond_push (linguistlaw8_EditPlays_k38 K) _ rfl rfl))))))
noncomputable def linguistlaw8_EditPlays_D38 : GoL linguistlaw8_EditPlays_t38 := fun R (x : ((List (Int × Int × Int × Int × Int × Int × Int) × (Int × Unit)) × ((Int × (Int × (List (Int × Int × Int × Int × Int) × Unit))) × ((Int × (Int × (List (Int × Int × Int × Int × Int) × Unit))) × Unit)))) K => linguistlaw8_EditPlays_k38 K (hide linguistlaw8_EditPlays_J38 x.1.1 x.1.2.1 x.2.1.1 x.2.1.2.1 x.2.1.2.2.1 x.2.2.1.1 x.2.2.1.2.1 x.2.2.1.2.2.1)
theorem linguistlaw8_EditPlays_C38 : CutOk Try.prog 6 38 (loopH linguistlaw8_EditPlays_t38 0 linguistlaw8_EditPlays_D38) := cut_known (envL_ok linguistlaw8_EditPlays_su_ok ll0_ok cs0_ok) (N := 1000) Try.func6 rfl linguistlaw8_EditPlays_b38_is (xs := linguistlaw8_EditPlays_ys38) fun R (x : ((List (Int × Int × Int × Int × Int × Int × Int) × (Int × Unit)) × ((Int × (Int × (List (Int × Int × Int × Int × Int) × Unit))) × ((Int × (Int × (List (Int × Int × Int × Int × Int) × Unit))) × Unit)))) K => by
  show linguistlaw8_EditPlays_k38 K (hide linguistlaw8_EditPlays_J38 x.1.1 x.1.2.1 x.2.1.1 x.2.1.2.1 x.2.1.2.2.1 x.2.2.1.1 x.2.2.1.2.1 x.2.2.1.2.2.1) = _
  rw [hide_eq]
  exact (linguistlaw8_EditPlays_j38 K x.1.1 x.1.2.1 x.2.1.1 x.2.1.2.1 x.2.1.2.2.1 x.2.2.1.1 x.2.2.1.2.1 x.2.2.1.2.2.1).symm
noncomputable def linguistlaw8_EditPlays_d38 : LoopF := loopH linguistlaw8_EditPlays_t38 0 linguistlaw8_EditPlays_D38
noncomputable def linguistlaw8_EditPlays_cs1 : LoopT := ((6, 38), linguistlaw8_EditPlays_d38) :: cs0
theorem linguistlaw8_EditPlays_cs1_ok : AllCut Try.prog linguistlaw8_EditPlays_cs1 := ⟨linguistlaw8_EditPlays_C38, cs0_ok⟩
noncomputable def linguistlaw8_EditPlays_b33 : Code := ((Try.f6.body.map fun b => tailsAt b 33).getD []).headD .skip
theorem linguistlaw8_EditPlays_b33_is : (Try.f6.body.map fun b => tailsAt b 33) = some [linguistlaw8_EditPlays_b33] := by kernel_rfl
noncomputable def linguistlaw8_EditPlays_t33 : SkSt := ⟨(.gap 1 (.cons (.list (.cons (.int .i64) (.cons (.int .i64) (.cons (.int .i64) (.cons (.int .i64) (.cons (.int .i64) (.cons (.int .i64) (.one (.int .i64))))))))) (.gap 3 (.cst (.ptr 0 0) (.cons (.int .i64) (.gap 1 (.cst (.ptr 1 0) (.cst (.ptr 2 0) (.cons (.int .i64) (.cons (.int .i64) (.cons (.int .i64) (.cons .bool (.gap 2 (.cons (.int .i64) (.cons (.int .i64) (.cons (.int .i64) (.gap 254 .nil))))))))))))))))), (.var 27 (.cons (.int .i64) (.cons (.int .i64) (.cons (.list (.cons (.int .i32) (.cons (.int .i64) (.cons (.int .i64) (.cons (.int .i64) (.one (.int .i64))))))) .nil))) (.var 27 (.cons (.int .i64) (.cons (.int .i64) (.cons (.list (.cons (.int .i32) (.cons (.int .i64) (.cons (.int .i64) (.cons (.int .i64) (.one (.int .i64))))))) .nil))) (.var 23 (.cons (.int .i64) (.cons (.int .i64) (.cons (.int .i64) .nil))) .nil)))⟩
noncomputable def linguistlaw8_EditPlays_y33_0 : SkSt := ⟨(.gap 1 (.cons (.list (.cons (.int .i64) (.cons (.int .i64) (.cons (.int .i64) (.cons (.int .i64) (.cons (.int .i64) (.cons (.int .i64) (.one (.int .i64))))))))) (.gap 3 (.cst (.ptr 0 0) (.cons (.int .i64) (.gap 1 (.cst (.ptr 1 0) (.cst (.ptr 2 0) (.cons (.int .i64) (.cons (.int .i64) (.cons (.int .i64) (.cons .bool (.gap 2 (.cons (.int .i64) (.gap 256 .nil))))))))))))))), (.var 27 (.cons (.int .i64) (.cons (.int .i64) (.cons (.list (.cons (.int .i32) (.cons (.int .i64) (.cons (.int .i64) (.cons (.int .i64) (.one (.int .i64))))))) .nil))) (.var 27 (.cons (.int .i64) (.cons (.int .i64) (.cons (.list (.cons (.int .i32) (.cons (.int .i64) (.cons (.int .i64) (.cons (.int .i64) (.one (.int .i64))))))) .nil))) (.var 23 (.cons (.int .i64) (.cons (.int .i64) (.cons (.int .i64) .nil))) .nil)))⟩
noncomputable def linguistlaw8_EditPlays_ys33 : List (Ex × SkSt) := [(.normal, linguistlaw8_EditPlays_y33_0)]
noncomputable def linguistlaw8_EditPlays_J33 (a0 : List (Int × Int × Int × Int × Int × Int × Int)) (a1 : Int) (a2 : Int) (a3 : Int) (a4 : Int) (a5 : Bool) (a6 : Int) (a7 : Int) (a8 : Int) (a9 : Int) (a10 : Int) (a11 : List (Int × Int × Int × Int × Int)) (a12 : Int) (a13 : Int) (a14 : List (Int × Int × Int × Int × Int)) (a15 : Int) (a16 : Int) (a17 : Int) : Option ((List (Int × Int × Int × Int × Int × Int × Int)) × Int × Int × Int × Int × Bool × Int × Int × Int × (List (Int × Int × Int × Int × Int)) × Int × Int × (List (Int × Int × Int × Int × Int)) × Int × Int × Int) := (optK ((hide linguistref7_Wipe_F a12 a13 a14 a6 a7 a8 a15 a16 a17)) fun y25 => (some (a0, a1, a2, a3, a4, a5, a6, a9, a10, a11, (y25.1), (y25.2.1), (y25.2.2), a15, a16, a17)))
noncomputable def linguistlaw8_EditPlays_k33 {R : Type} (K : Ex → St → Option R) (o : Option ((List (Int × Int × Int × Int × Int × Int × Int)) × Int × Int × Int × Int × Bool × Int × Int × Int × (List (Int × Int × Int × Int × Int)) × Int × Int × (List (Int × Int × Int × Int × Int)) × Int × Int × Int)) : Option R := optK o fun y => K (.normal) (linguistlaw8_EditPlays_y33_0.enc ((y.1, (y.2.1, (y.2.2.1, (y.2.2.2.1, (y.2.2.2.2.1, (y.2.2.2.2.2.1, (y.2.2.2.2.2.2.1, ()))))))), ((y.2.2.2.2.2.2.2.1, (y.2.2.2.2.2.2.2.2.1, (y.2.2.2.2.2.2.2.2.2.1, ()))), ((y.2.2.2.2.2.2.2.2.2.2.1, (y.2.2.2.2.2.2.2.2.2.2.2.1, (y.2.2.2.2.2.2.2.2.2.2.2.2.1, ()))), ((y.2.2.2.2.2.2.2.2.2.2.2.2.2.1, (y.2.2.2.2.2.2.2.2.2.2.2.2.2.2.1, (y.2.2.2.2.2.2.2.2.2.2.2.2.2.2.2, ()))), ())))))
theorem linguistlaw8_EditPlays_j33 {R : Type} (K : Ex → St → Option R) (a0 : List (Int × Int × Int × Int × Int × Int × Int)) (a1 : Int) (a2 : Int) (a3 : Int) (a4 : Int) (a5 : Bool) (a6 : Int) (a7 : Int) (a8 : Int) (a9 : Int) (a10 : Int) (a11 : List (Int × Int × Int × Int × Int)) (a12 : Int) (a13 : Int) (a14 : List (Int × Int × Int × Int × Int)) (a15 : Int) (a16 : Int) (a17 : Int) : exec (envL linguistlaw8_EditPlays_su ll0 linguistlaw8_EditPlays_cs1 (fun _ _ => false)) 6 (acall (envL linguistlaw8_EditPlays_su ll0 linguistlaw8_EditPlays_cs1 (fun _ _ => false)) 1000) 0 linguistlaw8_EditPlays_b33 (linguistlaw8_EditPlays_t33.enc ((a0, (a1, (a2, (a3, (a4, (a5, (a6, (a7, (a8, ()))))))))), ((a9, (a10, (a11, ()))), ((a12, (a13, (a14, ()))), ((a15, (a16, (a17, ()))), ()))))) (exitK linguistlaw8_EditPlays_ys33 0 K) = linguistlaw8_EditPlays_k33 K (linguistlaw8_EditPlays_J33 a0 a1 a2 a3 a4 a5 a6 a7 a8 a9 a10 a11 a12 a13 a14 a15 a16 a17) := by
    unfold linguistlaw8_EditPlays_J33
    exact Eq.trans (by kernel_rfl) (optK_push (linguistlaw8_EditPlays_k33 K) rfl _ fun y25 => rfl)
noncomputable def linguistlaw8_EditPlays_D33 : GoL linguistlaw8_EditPlays_t33 := fun R (x : ((List (Int × Int × Int × Int × Int × Int × Int) × (Int × (Int × (Int × (Int × (Bool × (Int × (Int × (Int × Unit))))))))) × ((Int × (Int × (List (Int × Int × Int × Int × Int) × Unit))) × ((Int × (Int × (List (Int × Int × Int × Int × Int) × Unit))) × ((Int × (Int × (Int × Unit))) × Unit))))) K => linguistlaw8_EditPlays_k33 K (hide linguistlaw8_EditPlays_J33 x.1.1 x.1.2.1 x.1.2.2.1 x.1.2.2.2.1 x.1.2.2.2.2.1 x.1.2.2.2.2.2.1 x.1.2.2.2.2.2.2.1 x.1.2.2.2.2.2.2.2.1 x.1.2.2.2.2.2.2.2.2.1 x.2.1.1 x.2.1.2.1 x.2.1.2.2.1 x.2.2.1.1 x.2.2.1.2.1 x.2.2.1.2.2.1 x.2.2.2.1.1 x.2.2.2.1.2.1 x.2.2.2.1.2.2.1)
theorem linguistlaw8_EditPlays_C33 : CutOk Try.prog 6 33 (loopH linguistlaw8_EditPlays_t33 0 linguistlaw8_EditPlays_D33) := cut_known (envL_ok linguistlaw8_EditPlays_su_ok ll0_ok linguistlaw8_EditPlays_cs1_ok) (N := 1000) Try.func6 rfl linguistlaw8_EditPlays_b33_is (xs := linguistlaw8_EditPlays_ys33) fun R (x : ((List (Int × Int × Int × Int × Int × Int × Int) × (Int × (Int × (Int × (Int × (Bool × (Int × (Int × (Int × Unit))))))))) × ((Int × (Int × (List (Int × Int × Int × Int × Int) × Unit))) × ((Int × (Int × (List (Int × Int × Int × Int × Int) × Unit))) × ((Int × (Int × (Int × Unit))) × Unit))))) K => by
  show linguistlaw8_EditPlays_k33 K (hide linguistlaw8_EditPlays_J33 x.1.1 x.1.2.1 x.1.2.2.1 x.1.2.2.2.1 x.1.2.2.2.2.1 x.1.2.2.2.2.2.1 x.1.2.2.2.2.2.2.1 x.1.2.2.2.2.2.2.2.1 x.1.2.2.2.2.2.2.2.2.1 x.2.1.1 x.2.1.2.1 x.2.1.2.2.1 x.2.2.1.1 x.2.2.1.2.1 x.2.2.1.2.2.1 x.2.2.2.1.1 x.2.2.2.1.2.1 x.2.2.2.1.2.2.1) = _
  rw [hide_eq]
  exact (linguistlaw8_EditPlays_j33 K x.1.1 x.1.2.1 x.1.2.2.1 x.1.2.2.2.1 x.1.2.2.2.2.1 x.1.2.2.2.2.2.1 x.1.2.2.2.2.2.2.1 x.1.2.2.2.2.2.2.2.1 x.1.2.2.2.2.2.2.2.2.1 x.2.1.1 x.2.1.2.1 x.2.1.2.2.1 x.2.2.1.1 x.2.2.1.2.1 x.2.2.1.2.2.1 x.2.2.2.1.1 x.2.2.2.1.2.1 x.2.2.2.1.2.2.1).symm
noncomputable def linguistlaw8_EditPlays_d33 : LoopF := loopH linguistlaw8_EditPlays_t33 0 linguistlaw8_EditPlays_D33
noncomputable def linguistlaw8_EditPlays_cs2 : LoopT := ((6, 33), linguistlaw8_EditPlays_d33) :: linguistlaw8_EditPlays_cs1
theorem linguistlaw8_EditPlays_cs2_ok : AllCut Try.prog linguistlaw8_EditPlays_cs2 := ⟨linguistlaw8_EditPlays_C33, linguistlaw8_EditPlays_cs1_ok⟩
noncomputable def linguistlaw8_EditPlays_c24 : Code := ((Try.f6.body.map fun b => loopsAt b 24).getD []).headD .skip
theorem linguistlaw8_EditPlays_c24_is : (Try.f6.body.map fun b => loopsAt b 24) = some [linguistlaw8_EditPlays_c24] := by kernel_rfl
noncomputable def linguistlaw8_EditPlays_s24 : SkSt := ⟨(.gap 1 (.cons (.list (.cons (.int .i64) (.cons (.int .i64) (.cons (.int .i64) (.cons (.int .i64) (.cons (.int .i64) (.cons (.int .i64) (.one (.int .i64))))))))) (.gap 3 (.cst (.ptr 0 0) (.cons (.int .i64) (.gap 1 (.cst (.ptr 1 0) (.cst (.ptr 2 0) (.cons (.int .i64) (.cons (.int .i64) (.cons (.int .i64) (.cons .bool (.gap 2 (.cons (.int .i64) (.gap 256 .nil))))))))))))))), (.var 27 (.cons (.int .i64) (.cons (.int .i64) (.cons (.list (.cons (.int .i32) (.cons (.int .i64) (.cons (.int .i64) (.cons (.int .i64) (.one (.int .i64))))))) .nil))) (.var 27 (.cons (.int .i64) (.cons (.int .i64) (.cons (.list (.cons (.int .i32) (.cons (.int .i64) (.cons (.int .i64) (.cons (.int .i64) (.one (.int .i64))))))) .nil))) (.var 23 (.cons (.int .i64) (.cons (.int .i64) (.cons (.int .i64) .nil))) .nil)))⟩
noncomputable def linguistlaw8_EditPlays_x24_0 : SkSt := ⟨(.gap 1 (.cons (.list (.cons (.int .i64) (.cons (.int .i64) (.cons (.int .i64) (.cons (.int .i64) (.cons (.int .i64) (.cons (.int .i64) (.one (.int .i64))))))))) (.gap 3 (.cst (.ptr 0 0) (.cons (.int .i64) (.gap 1 (.cst (.ptr 1 0) (.gap 264 .nil)))))))), (.var 27 (.cons (.int .i64) (.cons (.int .i64) (.cons (.list (.cons (.int .i32) (.cons (.int .i64) (.cons (.int .i64) (.cons (.int .i64) (.one (.int .i64))))))) .nil))) (.var 27 (.cons (.int .i64) (.cons (.int .i64) (.cons (.list (.cons (.int .i32) (.cons (.int .i64) (.cons (.int .i64) (.cons (.int .i64) (.one (.int .i64))))))) .nil))) .nil))⟩
noncomputable def linguistlaw8_EditPlays_xs24 : List (Ex × SkSt) := [(.exit 3, linguistlaw8_EditPlays_x24_0)]
noncomputable def linguistlaw8_EditPlays_L24 : Nat → List (Int × Int × Int × Int × Int × Int × Int) → Int → Int → Int → Int → Bool → Int → Int → Int → List (Int × Int × Int × Int × Int) → Int → Int → List (Int × Int × Int × Int × Int) → Int → Int → Int → Option ((List (Int × Int × Int × Int × Int × Int × Int)) × Int × Int × Int × (List (Int × Int × Int × Int × Int)) × Int × Int × (List (Int × Int × Int × Int × Int)))
  | 0, _, _, _, _, _, _, _, _, _, _, _, _, _, _, _, _ => none
  | n + 1, a0, a1, a2, a3, a4, a5, a6, a7, a8, a9, a10, a11, a12, a13, a14, a15 => (bif (decide (a6 < a10)) then (bif a5 then (bif (decide (a4.tmod (4 : Int) < (3 : Int))) then (bif (a4.tmod (4 : Int) == (0 : Int)) then (bif (decide (a6 < a2)) then (optK (hide linguistlaw8_EditPlays_J33 a0 a1 a2 a3 a4 a5 a6 (0 : Int) (0 : Int) a7 a8 a9 a10 a11 a12 a13 a14 a15) fun y57 => (linguistlaw8_EditPlays_L24 n (y57.1) (y57.2.1) (y57.2.2.1) (y57.2.2.2.1) (y57.2.2.2.2.1) (y57.2.2.2.2.2.1) (IntKind.i64.wrap (y57.2.2.2.2.2.2.1 + (1 : Int))) (y57.2.2.2.2.2.2.2.1) (y57.2.2.2.2.2.2.2.2.1) (y57.2.2.2.2.2.2.2.2.2.1) (y57.2.2.2.2.2.2.2.2.2.2.1) (y57.2.2.2.2.2.2.2.2.2.2.2.1) (y57.2.2.2.2.2.2.2.2.2.2.2.2.1) (y57.2.2.2.2.2.2.2.2.2.2.2.2.2.1) (y57.2.2.2.2.2.2.2.2.2.2.2.2.2.2.1) (y57.2.2.2.2.2.2.2.2.2.2.2.2.2.2.2))) else (bif (a4.tmod (4 : Int) == (1 : Int)) then (bif (decide (a6 > a2)) then (optK (hide linguistlaw8_EditPlays_J33 a0 a1 a2 a3 a4 a5 a6 (0 : Int) (0 : Int) a7 a8 a9 a10 a11 a12 a13 a14 a15) fun y58 => (linguistlaw8_EditPlays_L24 n (y58.1) (y58.2.1) (y58.2.2.1) (y58.2.2.2.1) (y58.2.2.2.2.1) (y58.2.2.2.2.2.1) (IntKind.i64.wrap (y58.2.2.2.2.2.2.1 + (1 : Int))) (y58.2.2.2.2.2.2.2.1) (y58.2.2.2.2.2.2.2.2.1) (y58.2.2.2.2.2.2.2.2.2.1) (y58.2.2.2.2.2.2.2.2.2.2.1) (y58.2.2.2.2.2.2.2.2.2.2.2.1) (y58.2.2.2.2.2.2.2.2.2.2.2.2.1) (y58.2.2.2.2.2.2.2.2.2.2.2.2.2.1) (y58.2.2.2.2.2.2.2.2.2.2.2.2.2.2.1) (y58.2.2.2.2.2.2.2.2.2.2.2.2.2.2.2))) else (bif (a4.tmod (4 : Int) == (0 : Int)) then (bif (a6 == a2) then (optK (hide linguistlaw8_EditPlays_J33 a0 a1 a2 a3 a4 a5 a6 a3 a11 a7 a8 a9 a10 a11 a12 a13 a14 a15) fun y59 => (linguistlaw8_EditPlays_L24 n (y59.1) (y59.2.1) (y59.2.2.1) (y59.2.2.2.1) (y59.2.2.2.2.1) (y59.2.2.2.2.2.1) (IntKind.i64.wrap (y59.2.2.2.2.2.2.1 + (1 : Int))) (y59.2.2.2.2.2.2.2.1) (y59.2.2.2.2.2.2.2.2.1) (y59.2.2.2.2.2.2.2.2.2.1) (y59.2.2.2.2.2.2.2.2.2.2.1) (y59.2.2.2.2.2.2.2.2.2.2.2.1) (y59.2.2.2.2.2.2.2.2.2.2.2.2.1) (y59.2.2.2.2.2.2.2.2.2.2.2.2.2.1) (y59.2.2.2.2.2.2.2.2.2.2.2.2.2.2.1) (y59.2.2.2.2.2.2.2.2.2.2.2.2.2.2.2))) else (bif (a4.tmod (4 : Int) == (1 : Int)) then (bif (a6 == a2) then (optK (hide linguistlaw8_EditPlays_J33 a0 a1 a2 a3 a4 a5 a6 (0 : Int) (IntKind.i64.wrap (a3 + (1 : Int))) a7 a8 a9 a10 a11 a12 a13 a14 a15) fun y60 => (linguistlaw8_EditPlays_L24 n (y60.1) (y60.2.1) (y60.2.2.1) (y60.2.2.2.1) (y60.2.2.2.2.1) (y60.2.2.2.2.2.1) (IntKind.i64.wrap (y60.2.2.2.2.2.2.1 + (1 : Int))) (y60.2.2.2.2.2.2.2.1) (y60.2.2.2.2.2.2.2.2.1) (y60.2.2.2.2.2.2.2.2.2.1) (y60.2.2.2.2.2.2.2.2.2.2.1) (y60.2.2.2.2.2.2.2.2.2.2.2.1) (y60.2.2.2.2.2.2.2.2.2.2.2.2.1) (y60.2.2.2.2.2.2.2.2.2.2.2.2.2.1) (y60.2.2.2.2.2.2.2.2.2.2.2.2.2.2.1) (y60.2.2.2.2.2.2.2.2.2.2.2.2.2.2.2))) else (optK (hide linguistlaw8_EditPlays_J33 a0 a1 a2 a3 a4 a5 a6 (0 : Int) a11 a7 a8 a9 a10 a11 a12 a13 a14 a15) fun y61 => (linguistlaw8_EditPlays_L24 n (y61.1) (y61.2.1) (y61.2.2.1) (y61.2.2.2.1) (y61.2.2.2.2.1) (y61.2.2.2.2.2.1) (IntKind.i64.wrap (y61.2.2.2.2.2.2.1 + (1 : Int))) (y61.2.2.2.2.2.2.2.1) (y61.2.2.2.2.2.2.2.2.1) (y61.2.2.2.2.2.2.2.2.2.1) (y61.2.2.2.2.2.2.2.2.2.2.1) (y61.2.2.2.2.2.2.2.2.2.2.2.1) (y61.2.2.2.2.2.2.2.2.2.2.2.2.1) (y61.2.2.2.2.2.2.2.2.2.2.2.2.2.1) (y61.2.2.2.2.2.2.2.2.2.2.2.2.2.2.1) (y61.2.2.2.2.2.2.2.2.2.2.2.2.2.2.2)))) else (optK (hide linguistlaw8_EditPlays_J33 a0 a1 a2 a3 a4 a5 a6 (0 : Int) a11 a7 a8 a9 a10 a11 a12 a13 a14 a15) fun y62 => (linguistlaw8_EditPlays_L24 n (y62.1) (y62.2.1) (y62.2.2.1) (y62.2.2.2.1) (y62.2.2.2.2.1) (y62.2.2.2.2.2.1) (IntKind.i64.wrap (y62.2.2.2.2.2.2.1 + (1 : Int))) (y62.2.2.2.2.2.2.2.1) (y62.2.2.2.2.2.2.2.2.1) (y62.2.2.2.2.2.2.2.2.2.1) (y62.2.2.2.2.2.2.2.2.2.2.1) (y62.2.2.2.2.2.2.2.2.2.2.2.1) (y62.2.2.2.2.2.2.2.2.2.2.2.2.1) (y62.2.2.2.2.2.2.2.2.2.2.2.2.2.1) (y62.2.2.2.2.2.2.2.2.2.2.2.2.2.2.1) (y62.2.2.2.2.2.2.2.2.2.2.2.2.2.2.2))))) else (bif (a4.tmod (4 : Int) == (1 : Int)) then (bif (a6 == a2) then (optK (hide linguistlaw8_EditPlays_J33 a0 a1 a2 a3 a4 a5 a6 (0 : Int) (IntKind.i64.wrap (a3 + (1 : Int))) a7 a8 a9 a10 a11 a12 a13 a14 a15) fun y63 => (linguistlaw8_EditPlays_L24 n (y63.1) (y63.2.1) (y63.2.2.1) (y63.2.2.2.1) (y63.2.2.2.2.1) (y63.2.2.2.2.2.1) (IntKind.i64.wrap (y63.2.2.2.2.2.2.1 + (1 : Int))) (y63.2.2.2.2.2.2.2.1) (y63.2.2.2.2.2.2.2.2.1) (y63.2.2.2.2.2.2.2.2.2.1) (y63.2.2.2.2.2.2.2.2.2.2.1) (y63.2.2.2.2.2.2.2.2.2.2.2.1) (y63.2.2.2.2.2.2.2.2.2.2.2.2.1) (y63.2.2.2.2.2.2.2.2.2.2.2.2.2.1) (y63.2.2.2.2.2.2.2.2.2.2.2.2.2.2.1) (y63.2.2.2.2.2.2.2.2.2.2.2.2.2.2.2))) else (optK (hide linguistlaw8_EditPlays_J33 a0 a1 a2 a3 a4 a5 a6 (0 : Int) a11 a7 a8 a9 a10 a11 a12 a13 a14 a15) fun y64 => (linguistlaw8_EditPlays_L24 n (y64.1) (y64.2.1) (y64.2.2.1) (y64.2.2.2.1) (y64.2.2.2.2.1) (y64.2.2.2.2.2.1) (IntKind.i64.wrap (y64.2.2.2.2.2.2.1 + (1 : Int))) (y64.2.2.2.2.2.2.2.1) (y64.2.2.2.2.2.2.2.2.1) (y64.2.2.2.2.2.2.2.2.2.1) (y64.2.2.2.2.2.2.2.2.2.2.1) (y64.2.2.2.2.2.2.2.2.2.2.2.1) (y64.2.2.2.2.2.2.2.2.2.2.2.2.1) (y64.2.2.2.2.2.2.2.2.2.2.2.2.2.1) (y64.2.2.2.2.2.2.2.2.2.2.2.2.2.2.1) (y64.2.2.2.2.2.2.2.2.2.2.2.2.2.2.2)))) else (optK (hide linguistlaw8_EditPlays_J33 a0 a1 a2 a3 a4 a5 a6 (0 : Int) a11 a7 a8 a9 a10 a11 a12 a13 a14 a15) fun y65 => (linguistlaw8_EditPlays_L24 n (y65.1) (y65.2.1) (y65.2.2.1) (y65.2.2.2.1) (y65.2.2.2.2.1) (y65.2.2.2.2.2.1) (IntKind.i64.wrap (y65.2.2.2.2.2.2.1 + (1 : Int))) (y65.2.2.2.2.2.2.2.1) (y65.2.2.2.2.2.2.2.2.1) (y65.2.2.2.2.2.2.2.2.2.1) (y65.2.2.2.2.2.2.2.2.2.2.1) (y65.2.2.2.2.2.2.2.2.2.2.2.1) (y65.2.2.2.2.2.2.2.2.2.2.2.2.1) (y65.2.2.2.2.2.2.2.2.2.2.2.2.2.1) (y65.2.2.2.2.2.2.2.2.2.2.2.2.2.2.1) (y65.2.2.2.2.2.2.2.2.2.2.2.2.2.2.2)))))) else (bif (a4.tmod (4 : Int) == (0 : Int)) then (bif (a6 == a2) then (optK (hide linguistlaw8_EditPlays_J33 a0 a1 a2 a3 a4 a5 a6 a3 a11 a7 a8 a9 a10 a11 a12 a13 a14 a15) fun y66 => (linguistlaw8_EditPlays_L24 n (y66.1) (y66.2.1) (y66.2.2.1) (y66.2.2.2.1) (y66.2.2.2.2.1) (y66.2.2.2.2.2.1) (IntKind.i64.wrap (y66.2.2.2.2.2.2.1 + (1 : Int))) (y66.2.2.2.2.2.2.2.1) (y66.2.2.2.2.2.2.2.2.1) (y66.2.2.2.2.2.2.2.2.2.1) (y66.2.2.2.2.2.2.2.2.2.2.1) (y66.2.2.2.2.2.2.2.2.2.2.2.1) (y66.2.2.2.2.2.2.2.2.2.2.2.2.1) (y66.2.2.2.2.2.2.2.2.2.2.2.2.2.1) (y66.2.2.2.2.2.2.2.2.2.2.2.2.2.2.1) (y66.2.2.2.2.2.2.2.2.2.2.2.2.2.2.2))) else (bif (a4.tmod (4 : Int) == (1 : Int)) then (bif (a6 == a2) then (optK (hide linguistlaw8_EditPlays_J33 a0 a1 a2 a3 a4 a5 a6 (0 : Int) (IntKind.i64.wrap (a3 + (1 : Int))) a7 a8 a9 a10 a11 a12 a13 a14 a15) fun y67 => (linguistlaw8_EditPlays_L24 n (y67.1) (y67.2.1) (y67.2.2.1) (y67.2.2.2.1) (y67.2.2.2.2.1) (y67.2.2.2.2.2.1) (IntKind.i64.wrap (y67.2.2.2.2.2.2.1 + (1 : Int))) (y67.2.2.2.2.2.2.2.1) (y67.2.2.2.2.2.2.2.2.1) (y67.2.2.2.2.2.2.2.2.2.1) (y67.2.2.2.2.2.2.2.2.2.2.1) (y67.2.2.2.2.2.2.2.2.2.2.2.1) (y67.2.2.2.2.2.2.2.2.2.2.2.2.1) (y67.2.2.2.2.2.2.2.2.2.2.2.2.2.1) (y67.2.2.2.2.2.2.2.2.2.2.2.2.2.2.1) (y67.2.2.2.2.2.2.2.2.2.2.2.2.2.2.2))) else (optK (hide linguistlaw8_EditPlays_J33 a0 a1 a2 a3 a4 a5 a6 (0 : Int) a11 a7 a8 a9 a10 a11 a12 a13 a14 a15) fun y68 => (linguistlaw8_EditPlays_L24 n (y68.1) (y68.2.1) (y68.2.2.1) (y68.2.2.2.1) (y68.2.2.2.2.1) (y68.2.2.2.2.2.1) (IntKind.i64.wrap (y68.2.2.2.2.2.2.1 + (1 : Int))) (y68.2.2.2.2.2.2.2.1) (y68.2.2.2.2.2.2.2.2.1) (y68.2.2.2.2.2.2.2.2.2.1) (y68.2.2.2.2.2.2.2.2.2.2.1) (y68.2.2.2.2.2.2.2.2.2.2.2.1) (y68.2.2.2.2.2.2.2.2.2.2.2.2.1) (y68.2.2.2.2.2.2.2.2.2.2.2.2.2.1) (y68.2.2.2.2.2.2.2.2.2.2.2.2.2.2.1) (y68.2.2.2.2.2.2.2.2.2.2.2.2.2.2.2)))) else (optK (hide linguistlaw8_EditPlays_J33 a0 a1 a2 a3 a4 a5 a6 (0 : Int) a11 a7 a8 a9 a10 a11 a12 a13 a14 a15) fun y69 => (linguistlaw8_EditPlays_L24 n (y69.1) (y69.2.1) (y69.2.2.1) (y69.2.2.2.1) (y69.2.2.2.2.1) (y69.2.2.2.2.2.1) (IntKind.i64.wrap (y69.2.2.2.2.2.2.1 + (1 : Int))) (y69.2.2.2.2.2.2.2.1) (y69.2.2.2.2.2.2.2.2.1) (y69.2.2.2.2.2.2.2.2.2.1) (y69.2.2.2.2.2.2.2.2.2.2.1) (y69.2.2.2.2.2.2.2.2.2.2.2.1) (y69.2.2.2.2.2.2.2.2.2.2.2.2.1) (y69.2.2.2.2.2.2.2.2.2.2.2.2.2.1) (y69.2.2.2.2.2.2.2.2.2.2.2.2.2.2.1) (y69.2.2.2.2.2.2.2.2.2.2.2.2.2.2.2))))) else (bif (a4.tmod (4 : Int) == (1 : Int)) then (bif (a6 == a2) then (optK (hide linguistlaw8_EditPlays_J33 a0 a1 a2 a3 a4 a5 a6 (0 : Int) (IntKind.i64.wrap (a3 + (1 : Int))) a7 a8 a9 a10 a11 a12 a13 a14 a15) fun y70 => (linguistlaw8_EditPlays_L24 n (y70.1) (y70.2.1) (y70.2.2.1) (y70.2.2.2.1) (y70.2.2.2.2.1) (y70.2.2.2.2.2.1) (IntKind.i64.wrap (y70.2.2.2.2.2.2.1 + (1 : Int))) (y70.2.2.2.2.2.2.2.1) (y70.2.2.2.2.2.2.2.2.1) (y70.2.2.2.2.2.2.2.2.2.1) (y70.2.2.2.2.2.2.2.2.2.2.1) (y70.2.2.2.2.2.2.2.2.2.2.2.1) (y70.2.2.2.2.2.2.2.2.2.2.2.2.1) (y70.2.2.2.2.2.2.2.2.2.2.2.2.2.1) (y70.2.2.2.2.2.2.2.2.2.2.2.2.2.2.1) (y70.2.2.2.2.2.2.2.2.2.2.2.2.2.2.2))) else (optK (hide linguistlaw8_EditPlays_J33 a0 a1 a2 a3 a4 a5 a6 (0 : Int) a11 a7 a8 a9 a10 a11 a12 a13 a14 a15) fun y71 => (linguistlaw8_EditPlays_L24 n (y71.1) (y71.2.1) (y71.2.2.1) (y71.2.2.2.1) (y71.2.2.2.2.1) (y71.2.2.2.2.2.1) (IntKind.i64.wrap (y71.2.2.2.2.2.2.1 + (1 : Int))) (y71.2.2.2.2.2.2.2.1) (y71.2.2.2.2.2.2.2.2.1) (y71.2.2.2.2.2.2.2.2.2.1) (y71.2.2.2.2.2.2.2.2.2.2.1) (y71.2.2.2.2.2.2.2.2.2.2.2.1) (y71.2.2.2.2.2.2.2.2.2.2.2.2.1) (y71.2.2.2.2.2.2.2.2.2.2.2.2.2.1) (y71.2.2.2.2.2.2.2.2.2.2.2.2.2.2.1) (y71.2.2.2.2.2.2.2.2.2.2.2.2.2.2.2)))) else (optK (hide linguistlaw8_EditPlays_J33 a0 a1 a2 a3 a4 a5 a6 (0 : Int) a11 a7 a8 a9 a10 a11 a12 a13 a14 a15) fun y72 => (linguistlaw8_EditPlays_L24 n (y72.1) (y72.2.1) (y72.2.2.1) (y72.2.2.2.1) (y72.2.2.2.2.1) (y72.2.2.2.2.2.1) (IntKind.i64.wrap (y72.2.2.2.2.2.2.1 + (1 : Int))) (y72.2.2.2.2.2.2.2.1) (y72.2.2.2.2.2.2.2.2.1) (y72.2.2.2.2.2.2.2.2.2.1) (y72.2.2.2.2.2.2.2.2.2.2.1) (y72.2.2.2.2.2.2.2.2.2.2.2.1) (y72.2.2.2.2.2.2.2.2.2.2.2.2.1) (y72.2.2.2.2.2.2.2.2.2.2.2.2.2.1) (y72.2.2.2.2.2.2.2.2.2.2.2.2.2.2.1) (y72.2.2.2.2.2.2.2.2.2.2.2.2.2.2.2))))))) else (bif (a4.tmod (4 : Int) == (1 : Int)) then (bif (decide (a6 > a2)) then (optK (hide linguistlaw8_EditPlays_J33 a0 a1 a2 a3 a4 a5 a6 (0 : Int) (0 : Int) a7 a8 a9 a10 a11 a12 a13 a14 a15) fun y73 => (linguistlaw8_EditPlays_L24 n (y73.1) (y73.2.1) (y73.2.2.1) (y73.2.2.2.1) (y73.2.2.2.2.1) (y73.2.2.2.2.2.1) (IntKind.i64.wrap (y73.2.2.2.2.2.2.1 + (1 : Int))) (y73.2.2.2.2.2.2.2.1) (y73.2.2.2.2.2.2.2.2.1) (y73.2.2.2.2.2.2.2.2.2.1) (y73.2.2.2.2.2.2.2.2.2.2.1) (y73.2.2.2.2.2.2.2.2.2.2.2.1) (y73.2.2.2.2.2.2.2.2.2.2.2.2.1) (y73.2.2.2.2.2.2.2.2.2.2.2.2.2.1) (y73.2.2.2.2.2.2.2.2.2.2.2.2.2.2.1) (y73.2.2.2.2.2.2.2.2.2.2.2.2.2.2.2))) else (bif (a4.tmod (4 : Int) == (0 : Int)) then (bif (a6 == a2) then (optK (hide linguistlaw8_EditPlays_J33 a0 a1 a2 a3 a4 a5 a6 a3 a11 a7 a8 a9 a10 a11 a12 a13 a14 a15) fun y74 => (linguistlaw8_EditPlays_L24 n (y74.1) (y74.2.1) (y74.2.2.1) (y74.2.2.2.1) (y74.2.2.2.2.1) (y74.2.2.2.2.2.1) (IntKind.i64.wrap (y74.2.2.2.2.2.2.1 + (1 : Int))) (y74.2.2.2.2.2.2.2.1) (y74.2.2.2.2.2.2.2.2.1) (y74.2.2.2.2.2.2.2.2.2.1) (y74.2.2.2.2.2.2.2.2.2.2.1) (y74.2.2.2.2.2.2.2.2.2.2.2.1) (y74.2.2.2.2.2.2.2.2.2.2.2.2.1) (y74.2.2.2.2.2.2.2.2.2.2.2.2.2.1) (y74.2.2.2.2.2.2.2.2.2.2.2.2.2.2.1) (y74.2.2.2.2.2.2.2.2.2.2.2.2.2.2.2))) else (bif (a4.tmod (4 : Int) == (1 : Int)) then (bif (a6 == a2) then (optK (hide linguistlaw8_EditPlays_J33 a0 a1 a2 a3 a4 a5 a6 (0 : Int) (IntKind.i64.wrap (a3 + (1 : Int))) a7 a8 a9 a10 a11 a12 a13 a14 a15) fun y75 => (linguistlaw8_EditPlays_L24 n (y75.1) (y75.2.1) (y75.2.2.1) (y75.2.2.2.1) (y75.2.2.2.2.1) (y75.2.2.2.2.2.1) (IntKind.i64.wrap (y75.2.2.2.2.2.2.1 + (1 : Int))) (y75.2.2.2.2.2.2.2.1) (y75.2.2.2.2.2.2.2.2.1) (y75.2.2.2.2.2.2.2.2.2.1) (y75.2.2.2.2.2.2.2.2.2.2.1) (y75.2.2.2.2.2.2.2.2.2.2.2.1) (y75.2.2.2.2.2.2.2.2.2.2.2.2.1) (y75.2.2.2.2.2.2.2.2.2.2.2.2.2.1) (y75.2.2.2.2.2.2.2.2.2.2.2.2.2.2.1) (y75.2.2.2.2.2.2.2.2.2.2.2.2.2.2.2))) else (optK (hide linguistlaw8_EditPlays_J33 a0 a1 a2 a3 a4 a5 a6 (0 : Int) a11 a7 a8 a9 a10 a11 a12 a13 a14 a15) fun y76 => (linguistlaw8_EditPlays_L24 n (y76.1) (y76.2.1) (y76.2.2.1) (y76.2.2.2.1) (y76.2.2.2.2.1) (y76.2.2.2.2.2.1) (IntKind.i64.wrap (y76.2.2.2.2.2.2.1 + (1 : Int))) (y76.2.2.2.2.2.2.2.1) (y76.2.2.2.2.2.2.2.2.1) (y76.2.2.2.2.2.2.2.2.2.1) (y76.2.2.2.2.2.2.2.2.2.2.1) (y76.2.2.2.2.2.2.2.2.2.2.2.1) (y76.2.2.2.2.2.2.2.2.2.2.2.2.1) (y76.2.2.2.2.2.2.2.2.2.2.2.2.2.1) (y76.2.2.2.2.2.2.2.2.2.2.2.2.2.2.1) (y76.2.2.2.2.2.2.2.2.2.2.2.2.2.2.2)))) else (optK (hide linguistlaw8_EditPlays_J33 a0 a1 a2 a3 a4 a5 a6 (0 : Int) a11 a7 a8 a9 a10 a11 a12 a13 a14 a15) fun y77 => (linguistlaw8_EditPlays_L24 n (y77.1) (y77.2.1) (y77.2.2.1) (y77.2.2.2.1) (y77.2.2.2.2.1) (y77.2.2.2.2.2.1) (IntKind.i64.wrap (y77.2.2.2.2.2.2.1 + (1 : Int))) (y77.2.2.2.2.2.2.2.1) (y77.2.2.2.2.2.2.2.2.1) (y77.2.2.2.2.2.2.2.2.2.1) (y77.2.2.2.2.2.2.2.2.2.2.1) (y77.2.2.2.2.2.2.2.2.2.2.2.1) (y77.2.2.2.2.2.2.2.2.2.2.2.2.1) (y77.2.2.2.2.2.2.2.2.2.2.2.2.2.1) (y77.2.2.2.2.2.2.2.2.2.2.2.2.2.2.1) (y77.2.2.2.2.2.2.2.2.2.2.2.2.2.2.2))))) else (bif (a4.tmod (4 : Int) == (1 : Int)) then (bif (a6 == a2) then (optK (hide linguistlaw8_EditPlays_J33 a0 a1 a2 a3 a4 a5 a6 (0 : Int) (IntKind.i64.wrap (a3 + (1 : Int))) a7 a8 a9 a10 a11 a12 a13 a14 a15) fun y78 => (linguistlaw8_EditPlays_L24 n (y78.1) (y78.2.1) (y78.2.2.1) (y78.2.2.2.1) (y78.2.2.2.2.1) (y78.2.2.2.2.2.1) (IntKind.i64.wrap (y78.2.2.2.2.2.2.1 + (1 : Int))) (y78.2.2.2.2.2.2.2.1) (y78.2.2.2.2.2.2.2.2.1) (y78.2.2.2.2.2.2.2.2.2.1) (y78.2.2.2.2.2.2.2.2.2.2.1) (y78.2.2.2.2.2.2.2.2.2.2.2.1) (y78.2.2.2.2.2.2.2.2.2.2.2.2.1) (y78.2.2.2.2.2.2.2.2.2.2.2.2.2.1) (y78.2.2.2.2.2.2.2.2.2.2.2.2.2.2.1) (y78.2.2.2.2.2.2.2.2.2.2.2.2.2.2.2))) else (optK (hide linguistlaw8_EditPlays_J33 a0 a1 a2 a3 a4 a5 a6 (0 : Int) a11 a7 a8 a9 a10 a11 a12 a13 a14 a15) fun y79 => (linguistlaw8_EditPlays_L24 n (y79.1) (y79.2.1) (y79.2.2.1) (y79.2.2.2.1) (y79.2.2.2.2.1) (y79.2.2.2.2.2.1) (IntKind.i64.wrap (y79.2.2.2.2.2.2.1 + (1 : Int))) (y79.2.2.2.2.2.2.2.1) (y79.2.2.2.2.2.2.2.2.1) (y79.2.2.2.2.2.2.2.2.2.1) (y79.2.2.2.2.2.2.2.2.2.2.1) (y79.2.2.2.2.2.2.2.2.2.2.2.1) (y79.2.2.2.2.2.2.2.2.2.2.2.2.1) (y79.2.2.2.2.2.2.2.2.2.2.2.2.2.1) (y79.2.2.2.2.2.2.2.2.2.2.2.2.2.2.1) (y79.2.2.2.2.2.2.2.2.2.2.2.2.2.2.2)))) else (optK (hide linguistlaw8_EditPlays_J33 a0 a1 a2 a3 a4 a5 a6 (0 : Int) a11 a7 a8 a9 a10 a11 a12 a13 a14 a15) fun y80 => (linguistlaw8_EditPlays_L24 n (y80.1) (y80.2.1) (y80.2.2.1) (y80.2.2.2.1) (y80.2.2.2.2.1) (y80.2.2.2.2.2.1) (IntKind.i64.wrap (y80.2.2.2.2.2.2.1 + (1 : Int))) (y80.2.2.2.2.2.2.2.1) (y80.2.2.2.2.2.2.2.2.1) (y80.2.2.2.2.2.2.2.2.2.1) (y80.2.2.2.2.2.2.2.2.2.2.1) (y80.2.2.2.2.2.2.2.2.2.2.2.1) (y80.2.2.2.2.2.2.2.2.2.2.2.2.1) (y80.2.2.2.2.2.2.2.2.2.2.2.2.2.1) (y80.2.2.2.2.2.2.2.2.2.2.2.2.2.2.1) (y80.2.2.2.2.2.2.2.2.2.2.2.2.2.2.2)))))) else (bif (a4.tmod (4 : Int) == (0 : Int)) then (bif (a6 == a2) then (optK (hide linguistlaw8_EditPlays_J33 a0 a1 a2 a3 a4 a5 a6 a3 a11 a7 a8 a9 a10 a11 a12 a13 a14 a15) fun y81 => (linguistlaw8_EditPlays_L24 n (y81.1) (y81.2.1) (y81.2.2.1) (y81.2.2.2.1) (y81.2.2.2.2.1) (y81.2.2.2.2.2.1) (IntKind.i64.wrap (y81.2.2.2.2.2.2.1 + (1 : Int))) (y81.2.2.2.2.2.2.2.1) (y81.2.2.2.2.2.2.2.2.1) (y81.2.2.2.2.2.2.2.2.2.1) (y81.2.2.2.2.2.2.2.2.2.2.1) (y81.2.2.2.2.2.2.2.2.2.2.2.1) (y81.2.2.2.2.2.2.2.2.2.2.2.2.1) (y81.2.2.2.2.2.2.2.2.2.2.2.2.2.1) (y81.2.2.2.2.2.2.2.2.2.2.2.2.2.2.1) (y81.2.2.2.2.2.2.2.2.2.2.2.2.2.2.2))) else (bif (a4.tmod (4 : Int) == (1 : Int)) then (bif (a6 == a2) then (optK (hide linguistlaw8_EditPlays_J33 a0 a1 a2 a3 a4 a5 a6 (0 : Int) (IntKind.i64.wrap (a3 + (1 : Int))) a7 a8 a9 a10 a11 a12 a13 a14 a15) fun y82 => (linguistlaw8_EditPlays_L24 n (y82.1) (y82.2.1) (y82.2.2.1) (y82.2.2.2.1) (y82.2.2.2.2.1) (y82.2.2.2.2.2.1) (IntKind.i64.wrap (y82.2.2.2.2.2.2.1 + (1 : Int))) (y82.2.2.2.2.2.2.2.1) (y82.2.2.2.2.2.2.2.2.1) (y82.2.2.2.2.2.2.2.2.2.1) (y82.2.2.2.2.2.2.2.2.2.2.1) (y82.2.2.2.2.2.2.2.2.2.2.2.1) (y82.2.2.2.2.2.2.2.2.2.2.2.2.1) (y82.2.2.2.2.2.2.2.2.2.2.2.2.2.1) (y82.2.2.2.2.2.2.2.2.2.2.2.2.2.2.1) (y82.2.2.2.2.2.2.2.2.2.2.2.2.2.2.2))) else (optK (hide linguistlaw8_EditPlays_J33 a0 a1 a2 a3 a4 a5 a6 (0 : Int) a11 a7 a8 a9 a10 a11 a12 a13 a14 a15) fun y83 => (linguistlaw8_EditPlays_L24 n (y83.1) (y83.2.1) (y83.2.2.1) (y83.2.2.2.1) (y83.2.2.2.2.1) (y83.2.2.2.2.2.1) (IntKind.i64.wrap (y83.2.2.2.2.2.2.1 + (1 : Int))) (y83.2.2.2.2.2.2.2.1) (y83.2.2.2.2.2.2.2.2.1) (y83.2.2.2.2.2.2.2.2.2.1) (y83.2.2.2.2.2.2.2.2.2.2.1) (y83.2.2.2.2.2.2.2.2.2.2.2.1) (y83.2.2.2.2.2.2.2.2.2.2.2.2.1) (y83.2.2.2.2.2.2.2.2.2.2.2.2.2.1) (y83.2.2.2.2.2.2.2.2.2.2.2.2.2.2.1) (y83.2.2.2.2.2.2.2.2.2.2.2.2.2.2.2)))) else (optK (hide linguistlaw8_EditPlays_J33 a0 a1 a2 a3 a4 a5 a6 (0 : Int) a11 a7 a8 a9 a10 a11 a12 a13 a14 a15) fun y84 => (linguistlaw8_EditPlays_L24 n (y84.1) (y84.2.1) (y84.2.2.1) (y84.2.2.2.1) (y84.2.2.2.2.1) (y84.2.2.2.2.2.1) (IntKind.i64.wrap (y84.2.2.2.2.2.2.1 + (1 : Int))) (y84.2.2.2.2.2.2.2.1) (y84.2.2.2.2.2.2.2.2.1) (y84.2.2.2.2.2.2.2.2.2.1) (y84.2.2.2.2.2.2.2.2.2.2.1) (y84.2.2.2.2.2.2.2.2.2.2.2.1) (y84.2.2.2.2.2.2.2.2.2.2.2.2.1) (y84.2.2.2.2.2.2.2.2.2.2.2.2.2.1) (y84.2.2.2.2.2.2.2.2.2.2.2.2.2.2.1) (y84.2.2.2.2.2.2.2.2.2.2.2.2.2.2.2))))) else (bif (a4.tmod (4 : Int) == (1 : Int)) then (bif (a6 == a2) then (optK (hide linguistlaw8_EditPlays_J33 a0 a1 a2 a3 a4 a5 a6 (0 : Int) (IntKind.i64.wrap (a3 + (1 : Int))) a7 a8 a9 a10 a11 a12 a13 a14 a15) fun y85 => (linguistlaw8_EditPlays_L24 n (y85.1) (y85.2.1) (y85.2.2.1) (y85.2.2.2.1) (y85.2.2.2.2.1) (y85.2.2.2.2.2.1) (IntKind.i64.wrap (y85.2.2.2.2.2.2.1 + (1 : Int))) (y85.2.2.2.2.2.2.2.1) (y85.2.2.2.2.2.2.2.2.1) (y85.2.2.2.2.2.2.2.2.2.1) (y85.2.2.2.2.2.2.2.2.2.2.1) (y85.2.2.2.2.2.2.2.2.2.2.2.1) (y85.2.2.2.2.2.2.2.2.2.2.2.2.1) (y85.2.2.2.2.2.2.2.2.2.2.2.2.2.1) (y85.2.2.2.2.2.2.2.2.2.2.2.2.2.2.1) (y85.2.2.2.2.2.2.2.2.2.2.2.2.2.2.2))) else (optK (hide linguistlaw8_EditPlays_J33 a0 a1 a2 a3 a4 a5 a6 (0 : Int) a11 a7 a8 a9 a10 a11 a12 a13 a14 a15) fun y86 => (linguistlaw8_EditPlays_L24 n (y86.1) (y86.2.1) (y86.2.2.1) (y86.2.2.2.1) (y86.2.2.2.2.1) (y86.2.2.2.2.2.1) (IntKind.i64.wrap (y86.2.2.2.2.2.2.1 + (1 : Int))) (y86.2.2.2.2.2.2.2.1) (y86.2.2.2.2.2.2.2.2.1) (y86.2.2.2.2.2.2.2.2.2.1) (y86.2.2.2.2.2.2.2.2.2.2.1) (y86.2.2.2.2.2.2.2.2.2.2.2.1) (y86.2.2.2.2.2.2.2.2.2.2.2.2.1) (y86.2.2.2.2.2.2.2.2.2.2.2.2.2.1) (y86.2.2.2.2.2.2.2.2.2.2.2.2.2.2.1) (y86.2.2.2.2.2.2.2.2.2.2.2.2.2.2.2)))) else (optK (hide linguistlaw8_EditPlays_J33 a0 a1 a2 a3 a4 a5 a6 (0 : Int) a11 a7 a8 a9 a10 a11 a12 a13 a14 a15) fun y87 => (linguistlaw8_EditPlays_L24 n (y87.1) (y87.2.1) (y87.2.2.1) (y87.2.2.2.1) (y87.2.2.2.2.1) (y87.2.2.2.2.2.1) (IntKind.i64.wrap (y87.2.2.2.2.2.2.1 + (1 : Int))) (y87.2.2.2.2.2.2.2.1) (y87.2.2.2.2.2.2.2.2.1) (y87.2.2.2.2.2.2.2.2.2.1) (y87.2.2.2.2.2.2.2.2.2.2.1) (y87.2.2.2.2.2.2.2.2.2.2.2.1) (y87.2.2.2.2.2.2.2.2.2.2.2.2.1) (y87.2.2.2.2.2.2.2.2.2.2.2.2.2.1) (y87.2.2.2.2.2.2.2.2.2.2.2.2.2.2.1) (y87.2.2.2.2.2.2.2.2.2.2.2.2.2.2.2))))))) else (some (a0, a1, a7, a8, a9, a10, a11, a12))) else (some (a0, a1, a7, a8, a9, a10, a11, a12))) else (some (a0, a1, a7, a8, a9, a10, a11, a12)))
noncomputable def linguistlaw8_EditPlays_I24 {R : Type} (K : Ex → St → Option R) : Nat → St → Option R := iterN (exec (envL linguistlaw8_EditPlays_su ll0 linguistlaw8_EditPlays_cs2 (fun _ _ => false)) 6 (acall (envL linguistlaw8_EditPlays_su ll0 linguistlaw8_EditPlays_cs2 (fun _ _ => false)) 1000) 0 linguistlaw8_EditPlays_c24) (normTo linguistlaw8_EditPlays_s24 0) (exitK linguistlaw8_EditPlays_xs24 0 K)
noncomputable def linguistlaw8_EditPlays_m24 {R : Type} (K : Ex → St → Option R) (o : Option ((List (Int × Int × Int × Int × Int × Int × Int)) × Int × Int × Int × (List (Int × Int × Int × Int × Int)) × Int × Int × (List (Int × Int × Int × Int × Int)))) : Option R := optK o fun y => K (.exit 3) (linguistlaw8_EditPlays_x24_0.enc ((y.1, (y.2.1, ())), ((y.2.2.1, (y.2.2.2.1, (y.2.2.2.2.1, ()))), ((y.2.2.2.2.2.1, (y.2.2.2.2.2.2.1, (y.2.2.2.2.2.2.2, ()))), ()))))
theorem linguistlaw8_EditPlays_l24 {R : Type} (K : Ex → St → Option R) : ∀ (n : Nat), ∀ (a0 : List (Int × Int × Int × Int × Int × Int × Int)) (a1 : Int) (a2 : Int) (a3 : Int) (a4 : Int) (a5 : Bool) (a6 : Int) (a7 : Int) (a8 : Int) (a9 : List (Int × Int × Int × Int × Int)) (a10 : Int) (a11 : Int) (a12 : List (Int × Int × Int × Int × Int)) (a13 : Int) (a14 : Int) (a15 : Int), linguistlaw8_EditPlays_I24 K n (linguistlaw8_EditPlays_s24.enc ((a0, (a1, (a2, (a3, (a4, (a5, (a6, ()))))))), ((a7, (a8, (a9, ()))), ((a10, (a11, (a12, ()))), ((a13, (a14, (a15, ()))), ()))))) = linguistlaw8_EditPlays_m24 K (linguistlaw8_EditPlays_L24 n a0 a1 a2 a3 a4 a5 a6 a7 a8 a9 a10 a11 a12 a13 a14 a15) := by
  intro n
  induction n with
  | zero => intros; rfl
  | succ n ih =>
    intro a0 a1 a2 a3 a4 a5 a6 a7 a8 a9 a10 a11 a12 a13 a14 a15
    rw [linguistlaw8_EditPlays_L24]
    exact Eq.trans (by kernel_rfl) (cond_push (linguistlaw8_EditPlays_m24 K) _ (cond_push (linguistlaw8_EditPlays_m24 K) _ (cond_push (linguistlaw8_EditPlays_m24 K) _ (cond_push (linguistlaw8_EditPlays_m24 K) _ (cond_push (linguistlaw8_EditPlays_m24 K) _ (optK_push (linguistlaw8_EditPlays_m24 K) rfl _ fun y57 => (ih (y57.1) (y57.2.1) (y57.2.2.1) (y57.2.2.2.1) (y57.2.2.2.2.1) (y57.2.2.2.2.2.1) (IntKind.i64.wrap (y57.2.2.2.2.2.2.1 + (1 : Int))) (y57.2.2.2.2.2.2.2.1) (y57.2.2.2.2.2.2.2.2.1) (y57.2.2.2.2.2.2.2.2.2.1) (y57.2.2.2.2.2.2.2.2.2.2.1) (y57.2.2.2.2.2.2.2.2.2.2.2.1) (y57.2.2.2.2.2.2.2.2.2.2.2.2.1) (y57.2.2.2.2.2.2.2.2.2.2.2.2.2.1) (y57.2.2.2.2.2.2.2.2.2.2.2.2.2.2.1) (y57.2.2.2.2.2.2.2.2.2.2.2.2.2.2.2))) (cond_push (linguistlaw8_EditPlays_m24 K) _ (cond_push (linguistlaw8_EditPlays_m24 K) _ (optK_push (linguistlaw8_EditPlays_m24 K) rfl _ fun y58 => (ih (y58.1) (y58.2.1) (y58.2.2.1) (y58.2.2.2.1) (y58.2.2.2.2.1) (y58.2.2.2.2.2.1) (IntKind.i64.wrap (y58.2.2.2.2.2.2.1 + (1 : Int))) (y58.2.2.2.2.2.2.2.1) (y58.2.2.2.2.2.2.2.2.1) (y58.2.2.2.2.2.2.2.2.2.1) (y58.2.2.2.2.2.2.2.2.2.2.1) (y58.2.2.2.2.2.2.2.2.2.2.2.1) (y58.2.2.2.2.2.2.2.2.2.2.2.2.1) (y58.2.2.2.2.2.2.2.2.2.2.2.2.2.1) (y58.2.2.2.2.2.2.2.2.2.2.2.2.2.2.1) (y58.2.2.2.2.2.2.2.2.2.2.2.2.2.2.2))) (cond_push (linguistlaw8_EditPlays_m24 K) _ (cond_push (linguistlaw8_EditPlays_m24 K) _ (optK_push (linguistlaw8_EditPlays_m24 K) rfl _ fun y59 => (ih (y59.1) (y59.2.1) (y59.2.2.1) (y59.2.2.2.1) (y59.2.2.2.2.1) (y59.2.2.2.2.2.1) (IntKind.i64.wrap (y59.2.2.2.2.2.2.1 + (1 : Int))) (y59.2.2.2.2.2.2.2.1) (y59.2.2.2.2.2.2.2.2.1) (y59.2.2.2.2.2.2.2.2.2.1) (y59.2.2.2.2.2.2.2.2.2.2.1) (y59.2.2.2.2.2.2.2.2.2.2.2.1) (y59.2.2.2.2.2.2.2.2.2.2.2.2.1) (y59.2.2.2.2.2.2.2.2.2.2.2.2.2.1) (y59.2.2.2.2.2.2.2.2.2.2.2.2.2.2.1) (y59.2.2.2.2.2.2.2.2.2.2.2.2.2.2.2))) (cond_push (linguistlaw8_EditPlays_m24 K) _ (cond_push (linguistlaw8_EditPlays_m24 K) _ (optK_push (linguistlaw8_EditPlays_m24 K) rfl _ fun y60 => (ih (y60.1) (y60.2.1) (y60.2.2.1) (y60.2.2.2.1) (y60.2.2.2.2.1) (y60.2.2.2.2.2.1) (IntKind.i64.wrap (y60.2.2.2.2.2.2.1 + (1 : Int))) (y60.2.2.2.2.2.2.2.1) (y60.2.2.2.2.2.2.2.2.1) (y60.2.2.2.2.2.2.2.2.2.1) (y60.2.2.2.2.2.2.2.2.2.2.1) (y60.2.2.2.2.2.2.2.2.2.2.2.1) (y60.2.2.2.2.2.2.2.2.2.2.2.2.1) (y60.2.2.2.2.2.2.2.2.2.2.2.2.2.1) (y60.2.2.2.2.2.2.2.2.2.2.2.2.2.2.1) (y60.2.2.2.2.2.2.2.2.2.2.2.2.2.2.2))) (optK_push (linguistlaw8_EditPlays_m24 K) rfl _ fun y61 => (ih (y61.1) (y61.2.1) (y61.2.2.1) (y61.2.2.2.1) (y61.2.2.2.2.1) (y61.2.2.2.2.2.1) (IntKind.i64.wrap (y61.2.2.2.2.2.2.1 + (1 : Int))) (y61.2.2.2.2.2.2.2.1) (y61.2.2.2.2.2.2.2.2.1) (y61.2.2.2.2.2.2.2.2.2.1) (y61.2.2.2.2.2.2.2.2.2.2.1) (y61.2.2.2.2.2.2.2.2.2.2.2.1) (y61.2.2.2.2.2.2.2.2.2.2.2.2.1) (y61.2.2.2.2.2.2.2.2.2.2.2.2.2.1) (y61.2.2.2.2.2.2.2.2.2.2.2.2.2.2.1) (y61.2.2.2.2.2.2.2.2.2.2.2.2.2.2.2)))) (optK_push (linguistlaw8_EditPlays_m24 K) rfl _ fun y62 => (ih (y62.1) (y62.2.1) (y62.2.2.1) (y62.2.2.2.1) (y62.2.2.2.2.1) (y62.2.2.2.2.2.1) (IntKind.i64.wrap (y62.2.2.2.2.2.2.1 + (1 : Int))) (y62.2.2.2.2.2.2.2.1) (y62.2.2.2.2.2.2.2.2.1) (y62.2.2.2.2.2.2.2.2.2.1) (y62.2.2.2.2.2.2.2.2.2.2.1) (y62.2.2.2.2.2.2.2.2.2.2.2.1) (y62.2.2.2.2.2.2.2.2.2.2.2.2.1) (y62.2.2.2.2.2.2.2.2.2.2.2.2.2.1) (y62.2.2.2.2.2.2.2.2.2.2.2.2.2.2.1) (y62.2.2.2.2.2.2.2.2.2.2.2.2.2.2.2))))) (cond_push (linguistlaw8_EditPlays_m24 K) _ (cond_push (linguistlaw8_EditPlays_m24 K) _ (optK_push (linguistlaw8_EditPlays_m24 K) rfl _ fun y63 => (ih (y63.1) (y63.2.1) (y63.2.2.1) (y63.2.2.2.1) (y63.2.2.2.2.1) (y63.2.2.2.2.2.1) (IntKind.i64.wrap (y63.2.2.2.2.2.2.1 + (1 : Int))) (y63.2.2.2.2.2.2.2.1) (y63.2.2.2.2.2.2.2.2.1) (y63.2.2.2.2.2.2.2.2.2.1) (y63.2.2.2.2.2.2.2.2.2.2.1) (y63.2.2.2.2.2.2.2.2.2.2.2.1) (y63.2.2.2.2.2.2.2.2.2.2.2.2.1) (y63.2.2.2.2.2.2.2.2.2.2.2.2.2.1) (y63.2.2.2.2.2.2.2.2.2.2.2.2.2.2.1) (y63.2.2.2.2.2.2.2.2.2.2.2.2.2.2.2))) (optK_push (linguistlaw8_EditPlays_m24 K) rfl _ fun y64 => (ih (y64.1) (y64.2.1) (y64.2.2.1) (y64.2.2.2.1) (y64.2.2.2.2.1) (y64.2.2.2.2.2.1) (IntKind.i64.wrap (y64.2.2.2.2.2.2.1 + (1 : Int))) (y64.2.2.2.2.2.2.2.1) (y64.2.2.2.2.2.2.2.2.1) (y64.2.2.2.2.2.2.2.2.2.1) (y64.2.2.2.2.2.2.2.2.2.2.1) (y64.2.2.2.2.2.2.2.2.2.2.2.1) (y64.2.2.2.2.2.2.2.2.2.2.2.2.1) (y64.2.2.2.2.2.2.2.2.2.2.2.2.2.1) (y64.2.2.2.2.2.2.2.2.2.2.2.2.2.2.1) (y64.2.2.2.2.2.2.2.2.2.2.2.2.2.2.2)))) (optK_push (linguistlaw8_EditPlays_m24 K) rfl _ fun y65 => (ih (y65.1) (y65.2.1) (y65.2.2.1) (y65.2.2.2.1) (y65.2.2.2.2.1) (y65.2.2.2.2.2.1) (IntKind.i64.wrap (y65.2.2.2.2.2.2.1 + (1 : Int))) (y65.2.2.2.2.2.2.2.1) (y65.2.2.2.2.2.2.2.2.1) (y65.2.2.2.2.2.2.2.2.2.1) (y65.2.2.2.2.2.2.2.2.2.2.1) (y65.2.2.2.2.2.2.2.2.2.2.2.1) (y65.2.2.2.2.2.2.2.2.2.2.2.2.1) (y65.2.2.2.2.2.2.2.2.2.2.2.2.2.1) (y65.2.2.2.2.2.2.2.2.2.2.2.2.2.2.1) (y65.2.2.2.2.2.2.2.2.2.2.2.2.2.2.2)))))) (cond_push (linguistlaw8_EditPlays_m24 K) _ (cond_push (linguistlaw8_EditPlays_m24 K) _ (optK_push (linguistlaw8_EditPlays_m24 K) rfl _ fun y66 => (ih (y66.1) (y66.2.1) (y66.2.2.1) (y66.2.2.2.1) (y66.2.2.2.2.1) (y66.2.2.2.2.2.1) (IntKind.i64.wrap (y66.2.2.2.2.2.2.1 + (1 : Int))) (y66.2.2.2.2.2.2.2.1) (y66.2.2.2.2.2.2.2.2.1) (y66.2.2.2.2.2.2.2.2.2.1) (y66.2.2.2.2.2.2.2.2.2.2.1) (y66.2.2.2.2.2.2.2.2.2.2.2.1) (y66.2.2.2.2.2.2.2.2.2.2.2.2.1) (y66.2.2.2.2.2.2.2.2.2.2.2.2.2.1) (y66.2.2.2.2.2.2.2.2.2.2.2.2.2.2.1) (y66.2.2.2.2.2.2.2.2.2.2.2.2.2.2.2))) (cond_push (linguistlaw8_EditPlays_m24 K) _ (cond_push (linguistlaw8_EditPlays_m24 K) _ (optK_push (linguistlaw8_EditPlays_m24 K) rfl _ fun y67 => (ih (y67.1) (y67.2.1) (y67.2.2.1) (y67.2.2.2.1) (y67.2.2.2.2.1) (y67.2.2.2.2.2.1) (IntKind.i64.wrap (y67.2.2.2.2.2.2.1 + (1 : Int))) (y67.2.2.2.2.2.2.2.1) (y67.2.2.2.2.2.2.2.2.1) (y67.2.2.2.2.2.2.2.2.2.1) (y67.2.2.2.2.2.2.2.2.2.2.1) (y67.2.2.2.2.2.2.2.2.2.2.2.1) (y67.2.2.2.2.2.2.2.2.2.2.2.2.1) (y67.2.2.2.2.2.2.2.2.2.2.2.2.2.1) (y67.2.2.2.2.2.2.2.2.2.2.2.2.2.2.1) (y67.2.2.2.2.2.2.2.2.2.2.2.2.2.2.2))) (optK_push (linguistlaw8_EditPlays_m24 K) rfl _ fun y68 => (ih (y68.1) (y68.2.1) (y68.2.2.1) (y68.2.2.2.1) (y68.2.2.2.2.1) (y68.2.2.2.2.2.1) (IntKind.i64.wrap (y68.2.2.2.2.2.2.1 + (1 : Int))) (y68.2.2.2.2.2.2.2.1) (y68.2.2.2.2.2.2.2.2.1) (y68.2.2.2.2.2.2.2.2.2.1) (y68.2.2.2.2.2.2.2.2.2.2.1) (y68.2.2.2.2.2.2.2.2.2.2.2.1) (y68.2.2.2.2.2.2.2.2.2.2.2.2.1) (y68.2.2.2.2.2.2.2.2.2.2.2.2.2.1) (y68.2.2.2.2.2.2.2.2.2.2.2.2.2.2.1) (y68.2.2.2.2.2.2.2.2.2.2.2.2.2.2.2)))) (optK_push (linguistlaw8_EditPlays_m24 K) rfl _ fun y69 => (ih (y69.1) (y69.2.1) (y69.2.2.1) (y69.2.2.2.1) (y69.2.2.2.2.1) (y69.2.2.2.2.2.1) (IntKind.i64.wrap (y69.2.2.2.2.2.2.1 + (1 : Int))) (y69.2.2.2.2.2.2.2.1) (y69.2.2.2.2.2.2.2.2.1) (y69.2.2.2.2.2.2.2.2.2.1) (y69.2.2.2.2.2.2.2.2.2.2.1) (y69.2.2.2.2.2.2.2.2.2.2.2.1) (y69.2.2.2.2.2.2.2.2.2.2.2.2.1) (y69.2.2.2.2.2.2.2.2.2.2.2.2.2.1) (y69.2.2.2.2.2.2.2.2.2.2.2.2.2.2.1) (y69.2.2.2.2.2.2.2.2.2.2.2.2.2.2.2))))) (cond_push (linguistlaw8_EditPlays_m24 K) _ (cond_push (linguistlaw8_EditPlays_m24 K) _ (optK_push (linguistlaw8_EditPlays_m24 K) rfl _ fun y70 => (ih (y70.1) (y70.2.1) (y70.2.2.1) (y70.2.2.2.1) (y70.2.2.2.2.1) (y70.2.2.2.2.2.1) (IntKind.i64.wrap (y70.2.2.2.2.2.2.1 + (1 : Int))) (y70.2.2.2.2.2.2.2.1) (y70.2.2.2.2.2.2.2.2.1) (y70.2.2.2.2.2.2.2.2.2.1) (y70.2.2.2.2.2.2.2.2.2.2.1) (y70.2.2.2.2.2.2.2.2.2.2.2.1) (y70.2.2.2.2.2.2.2.2.2.2.2.2.1) (y70.2.2.2.2.2.2.2.2.2.2.2.2.2.1) (y70.2.2.2.2.2.2.2.2.2.2.2.2.2.2.1) (y70.2.2.2.2.2.2.2.2.2.2.2.2.2.2.2))) (optK_push (linguistlaw8_EditPlays_m24 K) rfl _ fun y71 => (ih (y71.1) (y71.2.1) (y71.2.2.1) (y71.2.2.2.1) (y71.2.2.2.2.1) (y71.2.2.2.2.2.1) (IntKind.i64.wrap (y71.2.2.2.2.2.2.1 + (1 : Int))) (y71.2.2.2.2.2.2.2.1) (y71.2.2.2.2.2.2.2.2.1) (y71.2.2.2.2.2.2.2.2.2.1) (y71.2.2.2.2.2.2.2.2.2.2.1) (y71.2.2.2.2.2.2.2.2.2.2.2.1) (y71.2.2.2.2.2.2.2.2.2.2.2.2.1) (y71.2.2.2.2.2.2.2.2.2.2.2.2.2.1) (y71.2.2.2.2.2.2.2.2.2.2.2.2.2.2.1) (y71.2.2.2.2.2.2.2.2.2.2.2.2.2.2.2)))) (optK_push (linguistlaw8_EditPlays_m24 K) rfl _ fun y72 => (ih (y72.1) (y72.2.1) (y72.2.2.1) (y72.2.2.2.1) (y72.2.2.2.2.1) (y72.2.2.2.2.2.1) (IntKind.i64.wrap (y72.2.2.2.2.2.2.1 + (1 : Int))) (y72.2.2.2.2.2.2.2.1) (y72.2.2.2.2.2.2.2.2.1) (y72.2.2.2.2.2.2.2.2.2.1) (y72.2.2.2.2.2.2.2.2.2.2.1) (y72.2.2.2.2.2.2.2.2.2.2.2.1) (y72.2.2.2.2.2.2.2.2.2.2.2.2.1) (y72.2.2.2.2.2.2.2.2.2.2.2.2.2.1) (y72.2.2.2.2.2.2.2.2.2.2.2.2.2.2.1) (y72.2.2.2.2.2.2.2.2.2.2.2.2.2.2.2))))))) (cond_push (linguistlaw8_EditPlays_m24 K) _ (cond_push (linguistlaw8_EditPlays_m24 K) _ (optK_push (linguistlaw8_EditPlays_m24 K) rfl _ fun y73 => (ih (y73.1) (y73.2.1) (y73.2.2.1) (y73.2.2.2.1) (y73.2.2.2.2.1) (y73.2.2.2.2.2.1) (IntKind.i64.wrap (y73.2.2.2.2.2.2.1 + (1 : Int))) (y73.2.2.2.2.2.2.2.1) (y73.2.2.2.2.2.2.2.2.1) (y73.2.2.2.2.2.2.2.2.2.1) (y73.2.2.2.2.2.2.2.2.2.2.1) (y73.2.2.2.2.2.2.2.2.2.2.2.1) (y73.2.2.2.2.2.2.2.2.2.2.2.2.1) (y73.2.2.2.2.2.2.2.2.2.2.2.2.2.1) (y73.2.2.2.2.2.2.2.2.2.2.2.2.2.2.1) (y73.2.2.2.2.2.2.2.2.2.2.2.2.2.2.2))) (cond_push (linguistlaw8_EditPlays_m24 K) _ (cond_push (linguistlaw8_EditPlays_m24 K) _ (optK_push (linguistlaw8_EditPlays_m24 K) rfl _ fun y74 => (ih (y74.1) (y74.2.1) (y74.2.2.1) (y74.2.2.2.1) (y74.2.2.2.2.1) (y74.2.2.2.2.2.1) (IntKind.i64.wrap (y74.2.2.2.2.2.2.1 + (1 : Int))) (y74.2.2.2.2.2.2.2.1) (y74.2.2.2.2.2.2.2.2.1) (y74.2.2.2.2.2.2.2.2.2.1) (y74.2.2.2.2.2.2.2.2.2.2.1) (y74.2.2.2.2.2.2.2.2.2.2.2.1) (y74.2.2.2.2.2.2.2.2.2.2.2.2.1) (y74.2.2.2.2.2.2.2.2.2.2.2.2.2.1) (y74.2.2.2.2.2.2.2.2.2.2.2.2.2.2.1) (y74.2.2.2.2.2.2.2.2.2.2.2.2.2.2.2))) (cond_push (linguistlaw8_EditPlays_m24 K) _ (cond_push (linguistlaw8_EditPlays_m24 K) _ (optK_push (linguistlaw8_EditPlays_m24 K) rfl _ fun y75 => (ih (y75.1) (y75.2.1) (y75.2.2.1) (y75.2.2.2.1) (y75.2.2.2.2.1) (y75.2.2.2.2.2.1) (IntKind.i64.wrap (y75.2.2.2.2.2.2.1 + (1 : Int))) (y75.2.2.2.2.2.2.2.1) (y75.2.2.2.2.2.2.2.2.1) (y75.2.2.2.2.2.2.2.2.2.1) (y75.2.2.2.2.2.2.2.2.2.2.1) (y75.2.2.2.2.2.2.2.2.2.2.2.1) (y75.2.2.2.2.2.2.2.2.2.2.2.2.1) (y75.2.2.2.2.2.2.2.2.2.2.2.2.2.1) (y75.2.2.2.2.2.2.2.2.2.2.2.2.2.2.1) (y75.2.2.2.2.2.2.2.2.2.2.2.2.2.2.2))) (optK_push (linguistlaw8_EditPlays_m24 K) rfl _ fun y76 => (ih (y76.1) (y76.2.1) (y76.2.2.1) (y76.2.2.2.1) (y76.2.2.2.2.1) (y76.2.2.2.2.2.1) (IntKind.i64.wrap (y76.2.2.2.2.2.2.1 + (1 : Int))) (y76.2.2.2.2.2.2.2.1) (y76.2.2.2.2.2.2.2.2.1) (y76.2.2.2.2.2.2.2.2.2.1) (y76.2.2.2.2.2.2.2.2.2.2.1) (y76.2.2.2.2.2.2.2.2.2.2.2.1) (y76.2.2.2.2.2.2.2.2.2.2.2.2.1) (y76.2.2.2.2.2.2.2.2.2.2.2.2.2.1) (y76.2.2.2.2.2.2.2.2.2.2.2.2.2.2.1) (y76.2.2.2.2.2.2.2.2.2.2.2.2.2.2.2)))) (optK_push (linguistlaw8_EditPlays_m24 K) rfl _ fun y77 => (ih (y77.1) (y77.2.1) (y77.2.2.1) (y77.2.2.2.1) (y77.2.2.2.2.1) (y77.2.2.2.2.2.1) (IntKind.i64.wrap (y77.2.2.2.2.2.2.1 + (1 : Int))) (y77.2.2.2.2.2.2.2.1) (y77.2.2.2.2.2.2.2.2.1) (y77.2.2.2.2.2.2.2.2.2.1) (y77.2.2.2.2.2.2.2.2.2.2.1) (y77.2.2.2.2.2.2.2.2.2.2.2.1) (y77.2.2.2.2.2.2.2.2.2.2.2.2.1) (y77.2.2.2.2.2.2.2.2.2.2.2.2.2.1) (y77.2.2.2.2.2.2.2.2.2.2.2.2.2.2.1) (y77.2.2.2.2.2.2.2.2.2.2.2.2.2.2.2))))) (cond_push (linguistlaw8_EditPlays_m24 K) _ (cond_push (linguistlaw8_EditPlays_m24 K) _ (optK_push (linguistlaw8_EditPlays_m24 K) rfl _ fun y78 => (ih (y78.1) (y78.2.1) (y78.2.2.1) (y78.2.2.2.1) (y78.2.2.2.2.1) (y78.2.2.2.2.2.1) (IntKind.i64.wrap (y78.2.2.2.2.2.2.1 + (1 : Int))) (y78.2.2.2.2.2.2.2.1) (y78.2.2.2.2.2.2.2.2.1) (y78.2.2.2.2.2.2.2.2.2.1) (y78.2.2.2.2.2.2.2.2.2.2.1) (y78.2.2.2.2.2.2.2.2.2.2.2.1) (y78.2.2.2.2.2.2.2.2.2.2.2.2.1) (y78.2.2.2.2.2.2.2.2.2.2.2.2.2.1) (y78.2.2.2.2.2.2.2.2.2.2.2.2.2.2.1) (y78.2.2.2.2.2.2.2.2.2.2.2.2.2.2.2))) (optK_push (linguistlaw8_EditPlays_m24 K) rfl _ fun y79 => (ih (y79.1) (y79.2.1) (y79.2.2.1) (y79.2.2.2.1) (y79.2.2.2.2.1) (y79.2.2.2.2.2.1) (IntKind.i64.wrap (y79.2.2.2.2.2.2.1 + (1 : Int))) (y79.2.2.2.2.2.2.2.1) (y79.2.2.2.2.2.2.2.2.1) (y79.2.2.2.2.2.2.2.2.2.1) (y79.2.2.2.2.2.2.2.2.2.2.1) (y79.2.2.2.2.2.2.2.2.2.2.2.1) (y79.2.2.2.2.2.2.2.2.2.2.2.2.1) (y79.2.2.2.2.2.2.2.2.2.2.2.2.2.1) (y79.2.2.2.2.2.2.2.2.2.2.2.2.2.2.1) (y79.2.2.2.2.2.2.2.2.2.2.2.2.2.2.2)))) (optK_push (linguistlaw8_EditPlays_m24 K) rfl _ fun y80 => (ih (y80.1) (y80.2.1) (y80.2.2.1) (y80.2.2.2.1) (y80.2.2.2.2.1) (y80.2.2.2.2.2.1) (IntKind.i64.wrap (y80.2.2.2.2.2.2.1 + (1 : Int))) (y80.2.2.2.2.2.2.2.1) (y80.2.2.2.2.2.2.2.2.1) (y80.2.2.2.2.2.2.2.2.2.1) (y80.2.2.2.2.2.2.2.2.2.2.1) (y80.2.2.2.2.2.2.2.2.2.2.2.1) (y80.2.2.2.2.2.2.2.2.2.2.2.2.1) (y80.2.2.2.2.2.2.2.2.2.2.2.2.2.1) (y80.2.2.2.2.2.2.2.2.2.2.2.2.2.2.1) (y80.2.2.2.2.2.2.2.2.2.2.2.2.2.2.2)))))) (cond_push (linguistlaw8_EditPlays_m24 K) _ (cond_push (linguistlaw8_EditPlays_m24 K) _ (optK_push (linguistlaw8_EditPlays_m24 K) rfl _ fun y81 => (ih (y81.1) (y81.2.1) (y81.2.2.1) (y81.2.2.2.1) (y81.2.2.2.2.1) (y81.2.2.2.2.2.1) (IntKind.i64.wrap (y81.2.2.2.2.2.2.1 + (1 : Int))) (y81.2.2.2.2.2.2.2.1) (y81.2.2.2.2.2.2.2.2.1) (y81.2.2.2.2.2.2.2.2.2.1) (y81.2.2.2.2.2.2.2.2.2.2.1) (y81.2.2.2.2.2.2.2.2.2.2.2.1) (y81.2.2.2.2.2.2.2.2.2.2.2.2.1) (y81.2.2.2.2.2.2.2.2.2.2.2.2.2.1) (y81.2.2.2.2.2.2.2.2.2.2.2.2.2.2.1) (y81.2.2.2.2.2.2.2.2.2.2.2.2.2.2.2))) (cond_push (linguistlaw8_EditPlays_m24 K) _ (cond_push (linguistlaw8_EditPlays_m24 K) _ (optK_push (linguistlaw8_EditPlays_m24 K) rfl _ fun y82 => (ih (y82.1) (y82.2.1) (y82.2.2.1) (y82.2.2.2.1) (y82.2.2.2.2.1) (y82.2.2.2.2.2.1) (IntKind.i64.wrap (y82.2.2.2.2.2.2.1 + (1 : Int))) (y82.2.2.2.2.2.2.2.1) (y82.2.2.2.2.2.2.2.2.1) (y82.2.2.2.2.2.2.2.2.2.1) (y82.2.2.2.2.2.2.2.2.2.2.1) (y82.2.2.2.2.2.2.2.2.2.2.2.1) (y82.2.2.2.2.2.2.2.2.2.2.2.2.1) (y82.2.2.2.2.2.2.2.2.2.2.2.2.2.1) (y82.2.2.2.2.2.2.2.2.2.2.2.2.2.2.1) (y82.2.2.2.2.2.2.2.2.2.2.2.2.2.2.2))) (optK_push (linguistlaw8_EditPlays_m24 K) rfl _ fun y83 => (ih (y83.1) (y83.2.1) (y83.2.2.1) (y83.2.2.2.1) (y83.2.2.2.2.1) (y83.2.2.2.2.2.1) (IntKind.i64.wrap (y83.2.2.2.2.2.2.1 + (1 : Int))) (y83.2.2.2.2.2.2.2.1) (y83.2.2.2.2.2.2.2.2.1) (y83.2.2.2.2.2.2.2.2.2.1) (y83.2.2.2.2.2.2.2.2.2.2.1) (y83.2.2.2.2.2.2.2.2.2.2.2.1) (y83.2.2.2.2.2.2.2.2.2.2.2.2.1) (y83.2.2.2.2.2.2.2.2.2.2.2.2.2.1) (y83.2.2.2.2.2.2.2.2.2.2.2.2.2.2.1) (y83.2.2.2.2.2.2.2.2.2.2.2.2.2.2.2)))) (optK_push (linguistlaw8_EditPlays_m24 K) rfl _ fun y84 => (ih (y84.1) (y84.2.1) (y84.2.2.1) (y84.2.2.2.1) (y84.2.2.2.2.1) (y84.2.2.2.2.2.1) (IntKind.i64.wrap (y84.2.2.2.2.2.2.1 + (1 : Int))) (y84.2.2.2.2.2.2.2.1) (y84.2.2.2.2.2.2.2.2.1) (y84.2.2.2.2.2.2.2.2.2.1) (y84.2.2.2.2.2.2.2.2.2.2.1) (y84.2.2.2.2.2.2.2.2.2.2.2.1) (y84.2.2.2.2.2.2.2.2.2.2.2.2.1) (y84.2.2.2.2.2.2.2.2.2.2.2.2.2.1) (y84.2.2.2.2.2.2.2.2.2.2.2.2.2.2.1) (y84.2.2.2.2.2.2.2.2.2.2.2.2.2.2.2))))) (cond_push (linguistlaw8_EditPlays_m24 K) _ (cond_push (linguistlaw8_EditPlays_m24 K) _ (optK_push (linguistlaw8_EditPlays_m24 K) rfl _ fun y85 => (ih (y85.1) (y85.2.1) (y85.2.2.1) (y85.2.2.2.1) (y85.2.2.2.2.1) (y85.2.2.2.2.2.1) (IntKind.i64.wrap (y85.2.2.2.2.2.2.1 + (1 : Int))) (y85.2.2.2.2.2.2.2.1) (y85.2.2.2.2.2.2.2.2.1) (y85.2.2.2.2.2.2.2.2.2.1) (y85.2.2.2.2.2.2.2.2.2.2.1) (y85.2.2.2.2.2.2.2.2.2.2.2.1) (y85.2.2.2.2.2.2.2.2.2.2.2.2.1) (y85.2.2.2.2.2.2.2.2.2.2.2.2.2.1) (y85.2.2.2.2.2.2.2.2.2.2.2.2.2.2.1) (y85.2.2.2.2.2.2.2.2.2.2.2.2.2.2.2))) (optK_push (linguistlaw8_EditPlays_m24 K) rfl _ fun y86 => (ih (y86.1) (y86.2.1) (y86.2.2.1) (y86.2.2.2.1) (y86.2.2.2.2.1) (y86.2.2.2.2.2.1) (IntKind.i64.wrap (y86.2.2.2.2.2.2.1 + (1 : Int))) (y86.2.2.2.2.2.2.2.1) (y86.2.2.2.2.2.2.2.2.1) (y86.2.2.2.2.2.2.2.2.2.1) (y86.2.2.2.2.2.2.2.2.2.2.1) (y86.2.2.2.2.2.2.2.2.2.2.2.1) (y86.2.2.2.2.2.2.2.2.2.2.2.2.1) (y86.2.2.2.2.2.2.2.2.2.2.2.2.2.1) (y86.2.2.2.2.2.2.2.2.2.2.2.2.2.2.1) (y86.2.2.2.2.2.2.2.2.2.2.2.2.2.2.2)))) (optK_push (linguistlaw8_EditPlays_m24 K) rfl _ fun y87 => (ih (y87.1) (y87.2.1) (y87.2.2.1) (y87.2.2.2.1) (y87.2.2.2.2.1) (y87.2.2.2.2.2.1) (IntKind.i64.wrap (y87.2.2.2.2.2.2.1 + (1 : Int))) (y87.2.2.2.2.2.2.2.1) (y87.2.2.2.2.2.2.2.2.1) (y87.2.2.2.2.2.2.2.2.2.1) (y87.2.2.2.2.2.2.2.2.2.2.1) (y87.2.2.2.2.2.2.2.2.2.2.2.1) (y87.2.2.2.2.2.2.2.2.2.2.2.2.1) (y87.2.2.2.2.2.2.2.2.2.2.2.2.2.1) (y87.2.2.2.2.2.2.2.2.2.2.2.2.2.2.1) (y87.2.2.2.2.2.2.2.2.2.2.2.2.2.2.2))))))) rfl) rfl) rfl)
def linguistlaw8_EditPlays_fu24 (a0 : List (Int × Int × Int × Int × Int × Int × Int)) (a1 : Int) (a2 : Int) (a3 : Int) (a4 : Int) (a5 : Bool) (a6 : Int) (a7 : Int) (a8 : Int) (a9 : List (Int × Int × Int × Int × Int)) (a10 : Int) (a11 : Int) (a12 : List (Int × Int × Int × Int × Int)) (a13 : Int) (a14 : Int) (a15 : Int) : Nat := List.length a0 + Int.natAbs a1 + Int.natAbs a2 + Int.natAbs a3 + Int.natAbs a4 + 0 + Int.natAbs a6 + Int.natAbs a7 + Int.natAbs a8 + List.length a9 + Int.natAbs a10 + Int.natAbs a11 + List.length a12 + Int.natAbs a13 + Int.natAbs a14 + Int.natAbs a15 + 5000
noncomputable def linguistlaw8_EditPlays_G24 : GoL linguistlaw8_EditPlays_s24 := fun R (x : ((List (Int × Int × Int × Int × Int × Int × Int) × (Int × (Int × (Int × (Int × (Bool × (Int × Unit))))))) × ((Int × (Int × (List (Int × Int × Int × Int × Int) × Unit))) × ((Int × (Int × (List (Int × Int × Int × Int × Int) × Unit))) × ((Int × (Int × (Int × Unit))) × Unit))))) K => linguistlaw8_EditPlays_m24 K (hide linguistlaw8_EditPlays_L24 (linguistlaw8_EditPlays_fu24 x.1.1 x.1.2.1 x.1.2.2.1 x.1.2.2.2.1 x.1.2.2.2.2.1 x.1.2.2.2.2.2.1 x.1.2.2.2.2.2.2.1 x.2.1.1 x.2.1.2.1 x.2.1.2.2.1 x.2.2.1.1 x.2.2.1.2.1 x.2.2.1.2.2.1 x.2.2.2.1.1 x.2.2.2.1.2.1 x.2.2.2.1.2.2.1) x.1.1 x.1.2.1 x.1.2.2.1 x.1.2.2.2.1 x.1.2.2.2.2.1 x.1.2.2.2.2.2.1 x.1.2.2.2.2.2.2.1 x.2.1.1 x.2.1.2.1 x.2.1.2.2.1 x.2.2.1.1 x.2.2.1.2.1 x.2.2.1.2.2.1 x.2.2.2.1.1 x.2.2.2.1.2.1 x.2.2.2.1.2.2.1)
theorem linguistlaw8_EditPlays_H24 : LoopOk Try.prog 6 24 (loopH linguistlaw8_EditPlays_s24 0 linguistlaw8_EditPlays_G24) := loop_known (envL_ok linguistlaw8_EditPlays_su_ok ll0_ok linguistlaw8_EditPlays_cs2_ok) Try.func6 rfl linguistlaw8_EditPlays_c24_is (xs := linguistlaw8_EditPlays_xs24) (fuel := fun (x : ((List (Int × Int × Int × Int × Int × Int × Int) × (Int × (Int × (Int × (Int × (Bool × (Int × Unit))))))) × ((Int × (Int × (List (Int × Int × Int × Int × Int) × Unit))) × ((Int × (Int × (List (Int × Int × Int × Int × Int) × Unit))) × ((Int × (Int × (Int × Unit))) × Unit))))) => linguistlaw8_EditPlays_fu24 x.1.1 x.1.2.1 x.1.2.2.1 x.1.2.2.2.1 x.1.2.2.2.2.1 x.1.2.2.2.2.2.1 x.1.2.2.2.2.2.2.1 x.2.1.1 x.2.1.2.1 x.2.1.2.2.1 x.2.2.1.1 x.2.2.1.2.1 x.2.2.1.2.2.1 x.2.2.2.1.1 x.2.2.2.1.2.1 x.2.2.2.1.2.2.1) fun R (x : ((List (Int × Int × Int × Int × Int × Int × Int) × (Int × (Int × (Int × (Int × (Bool × (Int × Unit))))))) × ((Int × (Int × (List (Int × Int × Int × Int × Int) × Unit))) × ((Int × (Int × (List (Int × Int × Int × Int × Int) × Unit))) × ((Int × (Int × (Int × Unit))) × Unit))))) K => by
  show linguistlaw8_EditPlays_m24 K (hide linguistlaw8_EditPlays_L24 (linguistlaw8_EditPlays_fu24 x.1.1 x.1.2.1 x.1.2.2.1 x.1.2.2.2.1 x.1.2.2.2.2.1 x.1.2.2.2.2.2.1 x.1.2.2.2.2.2.2.1 x.2.1.1 x.2.1.2.1 x.2.1.2.2.1 x.2.2.1.1 x.2.2.1.2.1 x.2.2.1.2.2.1 x.2.2.2.1.1 x.2.2.2.1.2.1 x.2.2.2.1.2.2.1) x.1.1 x.1.2.1 x.1.2.2.1 x.1.2.2.2.1 x.1.2.2.2.2.1 x.1.2.2.2.2.2.1 x.1.2.2.2.2.2.2.1 x.2.1.1 x.2.1.2.1 x.2.1.2.2.1 x.2.2.1.1 x.2.2.1.2.1 x.2.2.1.2.2.1 x.2.2.2.1.1 x.2.2.2.1.2.1 x.2.2.2.1.2.2.1) = _
  rw [hide_eq]
  exact (linguistlaw8_EditPlays_l24 K (linguistlaw8_EditPlays_fu24 x.1.1 x.1.2.1 x.1.2.2.1 x.1.2.2.2.1 x.1.2.2.2.2.1 x.1.2.2.2.2.2.1 x.1.2.2.2.2.2.2.1 x.2.1.1 x.2.1.2.1 x.2.1.2.2.1 x.2.2.1.1 x.2.2.1.2.1 x.2.2.1.2.2.1 x.2.2.2.1.1 x.2.2.2.1.2.1 x.2.2.2.1.2.2.1) x.1.1 x.1.2.1 x.1.2.2.1 x.1.2.2.2.1 x.1.2.2.2.2.1 x.1.2.2.2.2.2.1 x.1.2.2.2.2.2.2.1 x.2.1.1 x.2.1.2.1 x.2.1.2.2.1 x.2.2.1.1 x.2.2.1.2.1 x.2.2.1.2.2.1 x.2.2.2.1.1 x.2.2.2.1.2.1 x.2.2.2.1.2.2.1).symm
noncomputable def linguistlaw8_EditPlays_h24 : LoopF := loopH linguistlaw8_EditPlays_s24 0 linguistlaw8_EditPlays_G24
noncomputable def linguistlaw8_EditPlays_ll3 : LoopT := ((6, 24), linguistlaw8_EditPlays_h24) :: ll0
theorem linguistlaw8_EditPlays_ll3_ok : AllLoop Try.prog linguistlaw8_EditPlays_ll3 := ⟨linguistlaw8_EditPlays_H24, ll0_ok⟩
noncomputable def linguistlaw8_EditPlays_c3 : Code := ((Try.f6.body.map fun b => loopsAt b 3).getD []).headD .skip
theorem linguistlaw8_EditPlays_c3_is : (Try.f6.body.map fun b => loopsAt b 3) = some [linguistlaw8_EditPlays_c3] := by kernel_rfl
noncomputable def linguistlaw8_EditPlays_s3 : SkSt := ⟨(.gap 1 (.cons (.list (.cons (.int .i64) (.cons (.int .i64) (.cons (.int .i64) (.cons (.int .i64) (.cons (.int .i64) (.cons (.int .i64) (.one (.int .i64))))))))) (.gap 3 (.cst (.ptr 0 0) (.cons (.int .i64) (.gap 266 .nil)))))), (.var 27 (.cons (.int .i64) (.cons (.int .i64) (.cons (.list (.cons (.int .i32) (.cons (.int .i64) (.cons (.int .i64) (.cons (.int .i64) (.one (.int .i64))))))) .nil))) .nil)⟩
noncomputable def linguistlaw8_EditPlays_x3_0 : SkSt := ⟨(.gap 4 (.cons .bool (.gap 268 .nil))), .nil⟩
noncomputable def linguistlaw8_EditPlays_x3_1 : SkSt := ⟨(.gap 273 .nil), .nil⟩
noncomputable def linguistlaw8_EditPlays_xs3 : List (Ex × SkSt) := [(.ret, linguistlaw8_EditPlays_x3_0), (.exit 0, linguistlaw8_EditPlays_x3_1)]
noncomputable def linguistlaw8_EditPlays_L3 : Nat → List (Int × Int × Int × Int × Int × Int × Int) → Int → Int → Int → List (Int × Int × Int × Int × Int) → Option (((Bool) ⊕ (Unit)))
  | 0, _, _, _, _, _ => none
  | n + 1, a0, a1, a2, a3, a4 => (bif (decide (a1 < Int.ofNat a0.length)) then (bif (decide (a1 < (20 : Int))) then (bif (decide ((0 : Int) ≤ a1) && decide (a1 < Int.ofNat a0.length) && true) then (optK ((hide linguistkeep_Pen_Pen_F (a0.getD a1.toNat ((0 : Int), (0 : Int), (0 : Int), (0 : Int), (0 : Int), (0 : Int), (0 : Int))).2.2.2.2.1 (a0.getD a1.toNat ((0 : Int), (0 : Int), (0 : Int), (0 : Int), (0 : Int), (0 : Int), (0 : Int))).2.2.2.2.2.1 (a0.getD a1.toNat ((0 : Int), (0 : Int), (0 : Int), (0 : Int), (0 : Int), (0 : Int), (0 : Int))).2.2.2.2.2.2)) fun y156 => (optK ((hide linguistbook_Within_F (a0.getD a1.toNat ((0 : Int), (0 : Int), (0 : Int), (0 : Int), (0 : Int), (0 : Int), (0 : Int))).2.1 (-1 : Int) a2)) fun y157 => (optK ((hide linguistbook_Within_F (a0.getD a1.toNat ((0 : Int), (0 : Int), (0 : Int), (0 : Int), (0 : Int), (0 : Int), (0 : Int))).2.2.1 (-1 : Int) a3)) fun y158 => (optK ((hide linguistbook_Within_F (a0.getD a1.toNat ((0 : Int), (0 : Int), (0 : Int), (0 : Int), (0 : Int), (0 : Int), (0 : Int))).2.2.2.1 (0 : Int) (11 : Int))) fun y159 => (bif (decide (y157 ≥ (0 : Int))) then (bif (decide (y157 < a2)) then (bif (decide (y158 ≥ (0 : Int))) then (bif ((a0.getD a1.toNat ((0 : Int), (0 : Int), (0 : Int), (0 : Int), (0 : Int), (0 : Int), (0 : Int))).1 == (1 : Int)) then (optK ((hide edit_Insert_F a2 a3 a4 y157 y158 y159 y156.1 y156.2.1 y156.2.2)) fun y160 => (optK ((hide linguistref7_Shift_F a2 a3 a4 y157 y158 y159 y156.1 y156.2.1 y156.2.2)) fun y161 => (optK (hide linguistlaw8_EditPlays_J38 a0 a1 (y160.1) (y160.2.1) (y160.2.2) (y161.1) (y161.2.1) (y161.2.2)) fun y162 => (sumK y162 (fun y162a => (some (.inl y162a))) (fun y162b => (linguistlaw8_EditPlays_L3 n (y162b.1) (IntKind.i64.wrap (y162b.2.1 + (1 : Int))) (y162b.2.2.1) (y162b.2.2.2.1) (y162b.2.2.2.2))))))) else (bif ((a0.getD a1.toNat ((0 : Int), (0 : Int), (0 : Int), (0 : Int), (0 : Int), (0 : Int), (0 : Int))).1 == (2 : Int)) then (optK ((hide edit_Delete_F a2 a3 a4 y157 y158 y159 y156.1 y156.2.1 y156.2.2)) fun y163 => (optK ((hide linguistref7_Shift_F a2 a3 a4 y157 y158 (IntKind.i64.wrap ((0 : Int) - y159)) y156.1 y156.2.1 y156.2.2)) fun y164 => (optK (hide linguistlaw8_EditPlays_J38 a0 a1 (y163.1) (y163.2.1) (y163.2.2) (y164.1) (y164.2.1) (y164.2.2)) fun y165 => (sumK y165 (fun y165a => (some (.inl y165a))) (fun y165b => (linguistlaw8_EditPlays_L3 n (y165b.1) (IntKind.i64.wrap (y165b.2.1 + (1 : Int))) (y165b.2.2.1) (y165b.2.2.2.1) (y165b.2.2.2.2))))))) else (bif ((a0.getD a1.toNat ((0 : Int), (0 : Int), (0 : Int), (0 : Int), (0 : Int), (0 : Int), (0 : Int))).1 == (3 : Int)) then (optK ((hide linguistbook_Within_F (a0.getD a1.toNat ((0 : Int), (0 : Int), (0 : Int), (0 : Int), (0 : Int), (0 : Int), (0 : Int))).2.2.1 (-1 : Int) a2)) fun y166 => (optK ((hide edit_Up_F a2 a3 a4 y157 y166 y159 y156.1 y156.2.1 y156.2.2)) fun y167 => (optK ((hide linguistref7_Scroll_F a2 a3 a4 y157 y166 y159 y156.1 y156.2.1 y156.2.2)) fun y168 => (optK (hide linguistlaw8_EditPlays_J38 a0 a1 (y167.1) (y167.2.1) (y167.2.2) (y168.1) (y168.2.1) (y168.2.2)) fun y169 => (sumK y169 (fun y169a => (some (.inl y169a))) (fun y169b => (linguistlaw8_EditPlays_L3 n (y169b.1) (IntKind.i64.wrap (y169b.2.1 + (1 : Int))) (y169b.2.2.1) (y169b.2.2.2.1) (y169b.2.2.2.2)))))))) else (bif ((a0.getD a1.toNat ((0 : Int), (0 : Int), (0 : Int), (0 : Int), (0 : Int), (0 : Int), (0 : Int))).1 == (4 : Int)) then (optK ((hide linguistbook_Within_F (a0.getD a1.toNat ((0 : Int), (0 : Int), (0 : Int), (0 : Int), (0 : Int), (0 : Int), (0 : Int))).2.2.1 (-1 : Int) a2)) fun y170 => (optK ((hide edit_Down_F a2 a3 a4 y157 y170 y159 y156.1 y156.2.1 y156.2.2)) fun y171 => (optK ((hide linguistref7_Scroll_F a2 a3 a4 y157 y170 (IntKind.i64.wrap ((0 : Int) - y159)) y156.1 y156.2.1 y156.2.2)) fun y172 => (optK (hide linguistlaw8_EditPlays_J38 a0 a1 (y171.1) (y171.2.1) (y171.2.2) (y172.1) (y172.2.1) (y172.2.2)) fun y173 => (sumK y173 (fun y173a => (some (.inl y173a))) (fun y173b => (linguistlaw8_EditPlays_L3 n (y173b.1) (IntKind.i64.wrap (y173b.2.1 + (1 : Int))) (y173b.2.2.1) (y173b.2.2.2.1) (y173b.2.2.2.2)))))))) else (bif ((a0.getD a1.toNat ((0 : Int), (0 : Int), (0 : Int), (0 : Int), (0 : Int), (0 : Int), (0 : Int))).1 == (5 : Int)) then (optK ((hide edit_Erase_F a2 a3 a4 y157 y158 (y159.tmod (4 : Int)) y156.1 y156.2.1 y156.2.2)) fun y174 => (optK (hide linguistlaw8_EditPlays_L24 (linguistlaw8_EditPlays_fu24 a0 a1 y157 y158 y159 (decide (y158 < a3)) (0 : Int) (y174.1) (y174.2.1) (y174.2.2) a2 a3 a4 (y156.1) (y156.2.1) (y156.2.2)) a0 a1 y157 y158 y159 (decide (y158 < a3)) (0 : Int) (y174.1) (y174.2.1) (y174.2.2) a2 a3 a4 (y156.1) (y156.2.1) (y156.2.2)) fun y175 => (optK (hide linguistlaw8_EditPlays_J38 (y175.1) (y175.2.1) (y175.2.2.1) (y175.2.2.2.1) (y175.2.2.2.2.1) (y175.2.2.2.2.2.1) (y175.2.2.2.2.2.2.1) (y175.2.2.2.2.2.2.2)) fun y176 => (sumK y176 (fun y176a => (some (.inl y176a))) (fun y176b => (linguistlaw8_EditPlays_L3 n (y176b.1) (IntKind.i64.wrap (y176b.2.1 + (1 : Int))) (y176b.2.2.1) (y176b.2.2.2.1) (y176b.2.2.2.2))))))) else (bif ((a0.getD a1.toNat ((0 : Int), (0 : Int), (0 : Int), (0 : Int), (0 : Int), (0 : Int), (0 : Int))).1 == (6 : Int)) then (optK ((hide edit_Line_F a2 a3 a4 y157 y158 (y159.tmod (4 : Int)) y156.1 y156.2.1 y156.2.2)) fun y177 => (bif (decide (y158 < a3)) then (bif (decide (y159.tmod (4 : Int) < (3 : Int))) then (bif (decide ((0 : Int) ≤ y159.tmod (4 : Int)) && decide (y159.tmod (4 : Int) < Int.ofNat [y158, (0 : Int), (0 : Int)].length) && true) then (bif (decide ((0 : Int) ≤ y159.tmod (4 : Int)) && decide (y159.tmod (4 : Int) < Int.ofNat [a3, IntKind.i64.wrap (y158 + (1 : Int)), a3].length) && true) then (optK ((hide linguistref7_Wipe_F a2 a3 a4 y157 ([y158, (0 : Int), (0 : Int)].getD (y159.tmod (4 : Int)).toNat (0 : Int)) ([a3, IntKind.i64.wrap (y158 + (1 : Int)), a3].getD (y159.tmod (4 : Int)).toNat (0 : Int)) y156.1 y156.2.1 y156.2.2)) fun y178 => (optK (hide linguistlaw8_EditPlays_J38 a0 a1 (y177.1) (y177.2.1) (y177.2.2) (y178.1) (y178.2.1) (y178.2.2)) fun y179 => (sumK y179 (fun y179a => (some (.inl y179a))) (fun y179b => (linguistlaw8_EditPlays_L3 n (y179b.1) (IntKind.i64.wrap (y179b.2.1 + (1 : Int))) (y179b.2.2.1) (y179b.2.2.2.1) (y179b.2.2.2.2)))))) else none) else none) else (optK (hide linguistlaw8_EditPlays_J38 a0 a1 (y177.1) (y177.2.1) (y177.2.2) a2 a3 a4) fun y180 => (sumK y180 (fun y180a => (some (.inl y180a))) (fun y180b => (linguistlaw8_EditPlays_L3 n (y180b.1) (IntKind.i64.wrap (y180b.2.1 + (1 : Int))) (y180b.2.2.1) (y180b.2.2.2.1) (y180b.2.2.2.2)))))) else (optK (hide linguistlaw8_EditPlays_J38 a0 a1 (y177.1) (y177.2.1) (y177.2.2) a2 a3 a4) fun y181 => (sumK y181 (fun y181a => (some (.inl y181a))) (fun y181b => (linguistlaw8_EditPlays_L3 n (y181b.1) (IntKind.i64.wrap (y181b.2.1 + (1 : Int))) (y181b.2.2.1) (y181b.2.2.2.1) (y181b.2.2.2.2))))))) else (optK (hide linguistlaw8_EditPlays_J38 a0 a1 a2 a3 a4 a2 a3 a4) fun y182 => (sumK y182 (fun y182a => (some (.inl y182a))) (fun y182b => (linguistlaw8_EditPlays_L3 n (y182b.1) (IntKind.i64.wrap (y182b.2.1 + (1 : Int))) (y182b.2.2.1) (y182b.2.2.2.1) (y182b.2.2.2.2))))))))))) else (bif ((a0.getD a1.toNat ((0 : Int), (0 : Int), (0 : Int), (0 : Int), (0 : Int), (0 : Int), (0 : Int))).1 == (1 : Int)) then (optK ((hide edit_Insert_F a2 a3 a4 y157 y158 y159 y156.1 y156.2.1 y156.2.2)) fun y183 => (optK ((hide linguistref7_Shift_F a2 a3 a4 y157 y158 y159 y156.1 y156.2.1 y156.2.2)) fun y184 => (optK (hide linguistlaw8_EditPlays_J38 a0 a1 (y183.1) (y183.2.1) (y183.2.2) (y184.1) (y184.2.1) (y184.2.2)) fun y185 => (sumK y185 (fun y185a => (some (.inl y185a))) (fun y185b => (linguistlaw8_EditPlays_L3 n (y185b.1) (IntKind.i64.wrap (y185b.2.1 + (1 : Int))) (y185b.2.2.1) (y185b.2.2.2.1) (y185b.2.2.2.2))))))) else (bif ((a0.getD a1.toNat ((0 : Int), (0 : Int), (0 : Int), (0 : Int), (0 : Int), (0 : Int), (0 : Int))).1 == (2 : Int)) then (optK ((hide edit_Delete_F a2 a3 a4 y157 y158 y159 y156.1 y156.2.1 y156.2.2)) fun y186 => (optK ((hide linguistref7_Shift_F a2 a3 a4 y157 y158 (IntKind.i64.wrap ((0 : Int) - y159)) y156.1 y156.2.1 y156.2.2)) fun y187 => (optK (hide linguistlaw8_EditPlays_J38 a0 a1 (y186.1) (y186.2.1) (y186.2.2) (y187.1) (y187.2.1) (y187.2.2)) fun y188 => (sumK y188 (fun y188a => (some (.inl y188a))) (fun y188b => (linguistlaw8_EditPlays_L3 n (y188b.1) (IntKind.i64.wrap (y188b.2.1 + (1 : Int))) (y188b.2.2.1) (y188b.2.2.2.1) (y188b.2.2.2.2))))))) else (bif ((a0.getD a1.toNat ((0 : Int), (0 : Int), (0 : Int), (0 : Int), (0 : Int), (0 : Int), (0 : Int))).1 == (3 : Int)) then (optK ((hide linguistbook_Within_F (a0.getD a1.toNat ((0 : Int), (0 : Int), (0 : Int), (0 : Int), (0 : Int), (0 : Int), (0 : Int))).2.2.1 (-1 : Int) a2)) fun y189 => (optK ((hide edit_Up_F a2 a3 a4 y157 y189 y159 y156.1 y156.2.1 y156.2.2)) fun y190 => (optK ((hide linguistref7_Scroll_F a2 a3 a4 y157 y189 y159 y156.1 y156.2.1 y156.2.2)) fun y191 => (optK (hide linguistlaw8_EditPlays_J38 a0 a1 (y190.1) (y190.2.1) (y190.2.2) (y191.1) (y191.2.1) (y191.2.2)) fun y192 => (sumK y192 (fun y192a => (some (.inl y192a))) (fun y192b => (linguistlaw8_EditPlays_L3 n (y192b.1) (IntKind.i64.wrap (y192b.2.1 + (1 : Int))) (y192b.2.2.1) (y192b.2.2.2.1) (y192b.2.2.2.2)))))))) else (bif ((a0.getD a1.toNat ((0 : Int), (0 : Int), (0 : Int), (0 : Int), (0 : Int), (0 : Int), (0 : Int))).1 == (4 : Int)) then (optK ((hide linguistbook_Within_F (a0.getD a1.toNat ((0 : Int), (0 : Int), (0 : Int), (0 : Int), (0 : Int), (0 : Int), (0 : Int))).2.2.1 (-1 : Int) a2)) fun y193 => (optK ((hide edit_Down_F a2 a3 a4 y157 y193 y159 y156.1 y156.2.1 y156.2.2)) fun y194 => (optK ((hide linguistref7_Scroll_F a2 a3 a4 y157 y193 (IntKind.i64.wrap ((0 : Int) - y159)) y156.1 y156.2.1 y156.2.2)) fun y195 => (optK (hide linguistlaw8_EditPlays_J38 a0 a1 (y194.1) (y194.2.1) (y194.2.2) (y195.1) (y195.2.1) (y195.2.2)) fun y196 => (sumK y196 (fun y196a => (some (.inl y196a))) (fun y196b => (linguistlaw8_EditPlays_L3 n (y196b.1) (IntKind.i64.wrap (y196b.2.1 + (1 : Int))) (y196b.2.2.1) (y196b.2.2.2.1) (y196b.2.2.2.2)))))))) else (bif ((a0.getD a1.toNat ((0 : Int), (0 : Int), (0 : Int), (0 : Int), (0 : Int), (0 : Int), (0 : Int))).1 == (5 : Int)) then (optK ((hide edit_Erase_F a2 a3 a4 y157 y158 (y159.tmod (4 : Int)) y156.1 y156.2.1 y156.2.2)) fun y197 => (optK (hide linguistlaw8_EditPlays_L24 (linguistlaw8_EditPlays_fu24 a0 a1 y157 y158 y159 (false) (0 : Int) (y197.1) (y197.2.1) (y197.2.2) a2 a3 a4 (y156.1) (y156.2.1) (y156.2.2)) a0 a1 y157 y158 y159 (false) (0 : Int) (y197.1) (y197.2.1) (y197.2.2) a2 a3 a4 (y156.1) (y156.2.1) (y156.2.2)) fun y198 => (optK (hide linguistlaw8_EditPlays_J38 (y198.1) (y198.2.1) (y198.2.2.1) (y198.2.2.2.1) (y198.2.2.2.2.1) (y198.2.2.2.2.2.1) (y198.2.2.2.2.2.2.1) (y198.2.2.2.2.2.2.2)) fun y199 => (sumK y199 (fun y199a => (some (.inl y199a))) (fun y199b => (linguistlaw8_EditPlays_L3 n (y199b.1) (IntKind.i64.wrap (y199b.2.1 + (1 : Int))) (y199b.2.2.1) (y199b.2.2.2.1) (y199b.2.2.2.2))))))) else (bif ((a0.getD a1.toNat ((0 : Int), (0 : Int), (0 : Int), (0 : Int), (0 : Int), (0 : Int), (0 : Int))).1 == (6 : Int)) then (optK ((hide edit_Line_F a2 a3 a4 y157 y158 (y159.tmod (4 : Int)) y156.1 y156.2.1 y156.2.2)) fun y200 => (optK (hide linguistlaw8_EditPlays_J38 a0 a1 (y200.1) (y200.2.1) (y200.2.2) a2 a3 a4) fun y201 => (sumK y201 (fun y201a => (some (.inl y201a))) (fun y201b => (linguistlaw8_EditPlays_L3 n (y201b.1) (IntKind.i64.wrap (y201b.2.1 + (1 : Int))) (y201b.2.2.1) (y201b.2.2.2.1) (y201b.2.2.2.2)))))) else (optK (hide linguistlaw8_EditPlays_J38 a0 a1 a2 a3 a4 a2 a3 a4) fun y202 => (sumK y202 (fun y202a => (some (.inl y202a))) (fun y202b => (linguistlaw8_EditPlays_L3 n (y202b.1) (IntKind.i64.wrap (y202b.2.1 + (1 : Int))) (y202b.2.2.1) (y202b.2.2.2.1) (y202b.2.2.2.2)))))))))))) else (bif ((a0.getD a1.toNat ((0 : Int), (0 : Int), (0 : Int), (0 : Int), (0 : Int), (0 : Int), (0 : Int))).1 == (1 : Int)) then (optK ((hide edit_Insert_F a2 a3 a4 y157 y158 y159 y156.1 y156.2.1 y156.2.2)) fun y203 => (optK ((hide linguistref7_Shift_F a2 a3 a4 y157 y158 y159 y156.1 y156.2.1 y156.2.2)) fun y204 => (optK (hide linguistlaw8_EditPlays_J38 a0 a1 (y203.1) (y203.2.1) (y203.2.2) (y204.1) (y204.2.1) (y204.2.2)) fun y205 => (sumK y205 (fun y205a => (some (.inl y205a))) (fun y205b => (linguistlaw8_EditPlays_L3 n (y205b.1) (IntKind.i64.wrap (y205b.2.1 + (1 : Int))) (y205b.2.2.1) (y205b.2.2.2.1) (y205b.2.2.2.2))))))) else (bif ((a0.getD a1.toNat ((0 : Int), (0 : Int), (0 : Int), (0 : Int), (0 : Int), (0 : Int), (0 : Int))).1 == (2 : Int)) then (optK ((hide edit_Delete_F a2 a3 a4 y157 y158 y159 y156.1 y156.2.1 y156.2.2)) fun y206 => (optK ((hide linguistref7_Shift_F a2 a3 a4 y157 y158 (IntKind.i64.wrap ((0 : Int) - y159)) y156.1 y156.2.1 y156.2.2)) fun y207 => (optK (hide linguistlaw8_EditPlays_J38 a0 a1 (y206.1) (y206.2.1) (y206.2.2) (y207.1) (y207.2.1) (y207.2.2)) fun y208 => (sumK y208 (fun y208a => (some (.inl y208a))) (fun y208b => (linguistlaw8_EditPlays_L3 n (y208b.1) (IntKind.i64.wrap (y208b.2.1 + (1 : Int))) (y208b.2.2.1) (y208b.2.2.2.1) (y208b.2.2.2.2))))))) else (bif ((a0.getD a1.toNat ((0 : Int), (0 : Int), (0 : Int), (0 : Int), (0 : Int), (0 : Int), (0 : Int))).1 == (3 : Int)) then (optK ((hide linguistbook_Within_F (a0.getD a1.toNat ((0 : Int), (0 : Int), (0 : Int), (0 : Int), (0 : Int), (0 : Int), (0 : Int))).2.2.1 (-1 : Int) a2)) fun y209 => (optK ((hide edit_Up_F a2 a3 a4 y157 y209 y159 y156.1 y156.2.1 y156.2.2)) fun y210 => (optK ((hide linguistref7_Scroll_F a2 a3 a4 y157 y209 y159 y156.1 y156.2.1 y156.2.2)) fun y211 => (optK (hide linguistlaw8_EditPlays_J38 a0 a1 (y210.1) (y210.2.1) (y210.2.2) (y211.1) (y211.2.1) (y211.2.2)) fun y212 => (sumK y212 (fun y212a => (some (.inl y212a))) (fun y212b => (linguistlaw8_EditPlays_L3 n (y212b.1) (IntKind.i64.wrap (y212b.2.1 + (1 : Int))) (y212b.2.2.1) (y212b.2.2.2.1) (y212b.2.2.2.2)))))))) else (bif ((a0.getD a1.toNat ((0 : Int), (0 : Int), (0 : Int), (0 : Int), (0 : Int), (0 : Int), (0 : Int))).1 == (4 : Int)) then (optK ((hide linguistbook_Within_F (a0.getD a1.toNat ((0 : Int), (0 : Int), (0 : Int), (0 : Int), (0 : Int), (0 : Int), (0 : Int))).2.2.1 (-1 : Int) a2)) fun y213 => (optK ((hide edit_Down_F a2 a3 a4 y157 y213 y159 y156.1 y156.2.1 y156.2.2)) fun y214 => (optK ((hide linguistref7_Scroll_F a2 a3 a4 y157 y213 (IntKind.i64.wrap ((0 : Int) - y159)) y156.1 y156.2.1 y156.2.2)) fun y215 => (optK (hide linguistlaw8_EditPlays_J38 a0 a1 (y214.1) (y214.2.1) (y214.2.2) (y215.1) (y215.2.1) (y215.2.2)) fun y216 => (sumK y216 (fun y216a => (some (.inl y216a))) (fun y216b => (linguistlaw8_EditPlays_L3 n (y216b.1) (IntKind.i64.wrap (y216b.2.1 + (1 : Int))) (y216b.2.2.1) (y216b.2.2.2.1) (y216b.2.2.2.2)))))))) else (bif ((a0.getD a1.toNat ((0 : Int), (0 : Int), (0 : Int), (0 : Int), (0 : Int), (0 : Int), (0 : Int))).1 == (5 : Int)) then (optK ((hide edit_Erase_F a2 a3 a4 y157 y158 (y159.tmod (4 : Int)) y156.1 y156.2.1 y156.2.2)) fun y217 => (optK (hide linguistlaw8_EditPlays_L24 (linguistlaw8_EditPlays_fu24 a0 a1 y157 y158 y159 (false) (0 : Int) (y217.1) (y217.2.1) (y217.2.2) a2 a3 a4 (y156.1) (y156.2.1) (y156.2.2)) a0 a1 y157 y158 y159 (false) (0 : Int) (y217.1) (y217.2.1) (y217.2.2) a2 a3 a4 (y156.1) (y156.2.1) (y156.2.2)) fun y218 => (optK (hide linguistlaw8_EditPlays_J38 (y218.1) (y218.2.1) (y218.2.2.1) (y218.2.2.2.1) (y218.2.2.2.2.1) (y218.2.2.2.2.2.1) (y218.2.2.2.2.2.2.1) (y218.2.2.2.2.2.2.2)) fun y219 => (sumK y219 (fun y219a => (some (.inl y219a))) (fun y219b => (linguistlaw8_EditPlays_L3 n (y219b.1) (IntKind.i64.wrap (y219b.2.1 + (1 : Int))) (y219b.2.2.1) (y219b.2.2.2.1) (y219b.2.2.2.2))))))) else (bif ((a0.getD a1.toNat ((0 : Int), (0 : Int), (0 : Int), (0 : Int), (0 : Int), (0 : Int), (0 : Int))).1 == (6 : Int)) then (optK ((hide edit_Line_F a2 a3 a4 y157 y158 (y159.tmod (4 : Int)) y156.1 y156.2.1 y156.2.2)) fun y220 => (optK (hide linguistlaw8_EditPlays_J38 a0 a1 (y220.1) (y220.2.1) (y220.2.2) a2 a3 a4) fun y221 => (sumK y221 (fun y221a => (some (.inl y221a))) (fun y221b => (linguistlaw8_EditPlays_L3 n (y221b.1) (IntKind.i64.wrap (y221b.2.1 + (1 : Int))) (y221b.2.2.1) (y221b.2.2.2.1) (y221b.2.2.2.2)))))) else (optK (hide linguistlaw8_EditPlays_J38 a0 a1 a2 a3 a4 a2 a3 a4) fun y222 => (sumK y222 (fun y222a => (some (.inl y222a))) (fun y222b => (linguistlaw8_EditPlays_L3 n (y222b.1) (IntKind.i64.wrap (y222b.2.1 + (1 : Int))) (y222b.2.2.1) (y222b.2.2.2.1) (y222b.2.2.2.2)))))))))))) else (bif ((a0.getD a1.toNat ((0 : Int), (0 : Int), (0 : Int), (0 : Int), (0 : Int), (0 : Int), (0 : Int))).1 == (1 : Int)) then (optK ((hide edit_Insert_F a2 a3 a4 y157 y158 y159 y156.1 y156.2.1 y156.2.2)) fun y223 => (optK ((hide linguistref7_Shift_F a2 a3 a4 y157 y158 y159 y156.1 y156.2.1 y156.2.2)) fun y224 => (optK (hide linguistlaw8_EditPlays_J38 a0 a1 (y223.1) (y223.2.1) (y223.2.2) (y224.1) (y224.2.1) (y224.2.2)) fun y225 => (sumK y225 (fun y225a => (some (.inl y225a))) (fun y225b => (linguistlaw8_EditPlays_L3 n (y225b.1) (IntKind.i64.wrap (y225b.2.1 + (1 : Int))) (y225b.2.2.1) (y225b.2.2.2.1) (y225b.2.2.2.2))))))) else (bif ((a0.getD a1.toNat ((0 : Int), (0 : Int), (0 : Int), (0 : Int), (0 : Int), (0 : Int), (0 : Int))).1 == (2 : Int)) then (optK ((hide edit_Delete_F a2 a3 a4 y157 y158 y159 y156.1 y156.2.1 y156.2.2)) fun y226 => (optK ((hide linguistref7_Shift_F a2 a3 a4 y157 y158 (IntKind.i64.wrap ((0 : Int) - y159)) y156.1 y156.2.1 y156.2.2)) fun y227 => (optK (hide linguistlaw8_EditPlays_J38 a0 a1 (y226.1) (y226.2.1) (y226.2.2) (y227.1) (y227.2.1) (y227.2.2)) fun y228 => (sumK y228 (fun y228a => (some (.inl y228a))) (fun y228b => (linguistlaw8_EditPlays_L3 n (y228b.1) (IntKind.i64.wrap (y228b.2.1 + (1 : Int))) (y228b.2.2.1) (y228b.2.2.2.1) (y228b.2.2.2.2))))))) else (bif ((a0.getD a1.toNat ((0 : Int), (0 : Int), (0 : Int), (0 : Int), (0 : Int), (0 : Int), (0 : Int))).1 == (3 : Int)) then (optK ((hide linguistbook_Within_F (a0.getD a1.toNat ((0 : Int), (0 : Int), (0 : Int), (0 : Int), (0 : Int), (0 : Int), (0 : Int))).2.2.1 (-1 : Int) a2)) fun y229 => (optK ((hide edit_Up_F a2 a3 a4 y157 y229 y159 y156.1 y156.2.1 y156.2.2)) fun y230 => (optK ((hide linguistref7_Scroll_F a2 a3 a4 y157 y229 y159 y156.1 y156.2.1 y156.2.2)) fun y231 => (optK (hide linguistlaw8_EditPlays_J38 a0 a1 (y230.1) (y230.2.1) (y230.2.2) (y231.1) (y231.2.1) (y231.2.2)) fun y232 => (sumK y232 (fun y232a => (some (.inl y232a))) (fun y232b => (linguistlaw8_EditPlays_L3 n (y232b.1) (IntKind.i64.wrap (y232b.2.1 + (1 : Int))) (y232b.2.2.1) (y232b.2.2.2.1) (y232b.2.2.2.2)))))))) else (bif ((a0.getD a1.toNat ((0 : Int), (0 : Int), (0 : Int), (0 : Int), (0 : Int), (0 : Int), (0 : Int))).1 == (4 : Int)) then (optK ((hide linguistbook_Within_F (a0.getD a1.toNat ((0 : Int), (0 : Int), (0 : Int), (0 : Int), (0 : Int), (0 : Int), (0 : Int))).2.2.1 (-1 : Int) a2)) fun y233 => (optK ((hide edit_Down_F a2 a3 a4 y157 y233 y159 y156.1 y156.2.1 y156.2.2)) fun y234 => (optK ((hide linguistref7_Scroll_F a2 a3 a4 y157 y233 (IntKind.i64.wrap ((0 : Int) - y159)) y156.1 y156.2.1 y156.2.2)) fun y235 => (optK (hide linguistlaw8_EditPlays_J38 a0 a1 (y234.1) (y234.2.1) (y234.2.2) (y235.1) (y235.2.1) (y235.2.2)) fun y236 => (sumK y236 (fun y236a => (some (.inl y236a))) (fun y236b => (linguistlaw8_EditPlays_L3 n (y236b.1) (IntKind.i64.wrap (y236b.2.1 + (1 : Int))) (y236b.2.2.1) (y236b.2.2.2.1) (y236b.2.2.2.2)))))))) else (bif ((a0.getD a1.toNat ((0 : Int), (0 : Int), (0 : Int), (0 : Int), (0 : Int), (0 : Int), (0 : Int))).1 == (5 : Int)) then (optK ((hide edit_Erase_F a2 a3 a4 y157 y158 (y159.tmod (4 : Int)) y156.1 y156.2.1 y156.2.2)) fun y237 => (optK (hide linguistlaw8_EditPlays_L24 (linguistlaw8_EditPlays_fu24 a0 a1 y157 y158 y159 (false) (0 : Int) (y237.1) (y237.2.1) (y237.2.2) a2 a3 a4 (y156.1) (y156.2.1) (y156.2.2)) a0 a1 y157 y158 y159 (false) (0 : Int) (y237.1) (y237.2.1) (y237.2.2) a2 a3 a4 (y156.1) (y156.2.1) (y156.2.2)) fun y238 => (optK (hide linguistlaw8_EditPlays_J38 (y238.1) (y238.2.1) (y238.2.2.1) (y238.2.2.2.1) (y238.2.2.2.2.1) (y238.2.2.2.2.2.1) (y238.2.2.2.2.2.2.1) (y238.2.2.2.2.2.2.2)) fun y239 => (sumK y239 (fun y239a => (some (.inl y239a))) (fun y239b => (linguistlaw8_EditPlays_L3 n (y239b.1) (IntKind.i64.wrap (y239b.2.1 + (1 : Int))) (y239b.2.2.1) (y239b.2.2.2.1) (y239b.2.2.2.2))))))) else (bif ((a0.getD a1.toNat ((0 : Int), (0 : Int), (0 : Int), (0 : Int), (0 : Int), (0 : Int), (0 : Int))).1 == (6 : Int)) then (optK ((hide edit_Line_F a2 a3 a4 y157 y158 (y159.tmod (4 : Int)) y156.1 y156.2.1 y156.2.2)) fun y240 => (optK (hide linguistlaw8_EditPlays_J38 a0 a1 (y240.1) (y240.2.1) (y240.2.2) a2 a3 a4) fun y241 => (sumK y241 (fun y241a => (some (.inl y241a))) (fun y241b => (linguistlaw8_EditPlays_L3 n (y241b.1) (IntKind.i64.wrap (y241b.2.1 + (1 : Int))) (y241b.2.2.1) (y241b.2.2.2.1) (y241b.2.2.2.2)))))) else (optK (hide linguistlaw8_EditPlays_J38 a0 a1 a2 a3 a4 a2 a3 a4) fun y242 => (sumK y242 (fun y242a => (some (.inl y242a))) (fun y242b => (linguistlaw8_EditPlays_L3 n (y242b.1) (IntKind.i64.wrap (y242b.2.1 + (1 : Int))) (y242b.2.2.1) (y242b.2.2.2.1) (y242b.2.2.2.2)))))))))))))))) else none) else (some (.inr ()))) else (some (.inr ())))
noncomputable def linguistlaw8_EditPlays_I3 {R : Type} (K : Ex → St → Option R) : Nat → St → Option R := iterN (exec (envL linguistlaw8_EditPlays_su linguistlaw8_EditPlays_ll3 linguistlaw8_EditPlays_cs2 (fun _ _ => false)) 6 (acall (envL linguistlaw8_EditPlays_su linguistlaw8_EditPlays_ll3 linguistlaw8_EditPlays_cs2 (fun _ _ => false)) 1000) 0 linguistlaw8_EditPlays_c3) (normTo linguistlaw8_EditPlays_s3 0) (exitK linguistlaw8_EditPlays_xs3 0 K)
noncomputable def linguistlaw8_EditPlays_m3 {R : Type} (K : Ex → St → Option R) (o : Option (((Bool) ⊕ (Unit)))) : Option R := optK o fun y => sumK y (fun y => K (.ret) (linguistlaw8_EditPlays_x3_0.enc ((y, ()), ()))) (fun y => K (.exit 0) (linguistlaw8_EditPlays_x3_1.enc ((), ())))
theorem linguistlaw8_EditPlays_l3 {R : Type} (K : Ex → St → Option R) : ∀ (n : Nat), ∀ (a0 : List (Int × Int × Int × Int × Int × Int × Int)) (a1 : Int) (a2 : Int) (a3 : Int) (a4 : List (Int × Int × Int × Int × Int)), linguistlaw8_EditPlays_I3 K n (linguistlaw8_EditPlays_s3.enc ((a0, (a1, ())), ((a2, (a3, (a4, ()))), ()))) = linguistlaw8_EditPlays_m3 K (linguistlaw8_EditPlays_L3 n a0 a1 a2 a3 a4) := by
  intro n
  induction n with
  | zero => intros; rfl
  | succ n ih =>
    intro a0 a1 a2 a3 a4
    rw [linguistlaw8_EditPlays_L3]
    exact Eq.trans (by kernel_rfl) (cond_push (linguistlaw8_EditPlays_m3 K) _ (cond_push (linguistlaw8_EditPlays_m3 K) _ (cond_push (linguistlaw8_EditPlays_m3 K) _ (optK_push (linguistlaw8_EditPlays_m3 K) rfl _ fun y156 => (optK_push (linguistlaw8_EditPlays_m3 K) rfl _ fun y157 => (optK_push (linguistlaw8_EditPlays_m3 K) rfl _ fun y158 => (optK_push (linguistlaw8_EditPlays_m3 K) rfl _ fun y159 => (cond_push (linguistlaw8_EditPlays_m3 K) _ (cond_push (linguistlaw8_EditPlays_m3 K) _ (cond_push (linguistlaw8_EditPlays_m3 K) _ (cond_push (linguistlaw8_EditPlays_m3 K) _ (optK_push (linguistlaw8_EditPlays_m3 K) rfl _ fun y160 => (optK_push (linguistlaw8_EditPlays_m3 K) rfl _ fun y161 => (optK_push (linguistlaw8_EditPlays_m3 K) rfl _ fun y162 => (sumK_push (linguistlaw8_EditPlays_m3 K) _ (fun y162a => rfl) (fun y162b => (ih (y162b.1) (IntKind.i64.wrap (y162b.2.1 + (1 : Int))) (y162b.2.2.1) (y162b.2.2.2.1) (y162b.2.2.2.2))))))) (cond_push (linguistlaw8_EditPlays_m3 K) _ (optK_push (linguistlaw8_EditPlays_m3 K) rfl _ fun y163 => (optK_push (linguistlaw8_EditPlays_m3 K) rfl _ fun y164 => (optK_push (linguistlaw8_EditPlays_m3 K) rfl _ fun y165 => (sumK_push (linguistlaw8_EditPlays_m3 K) _ (fun y165a => rfl) (fun y165b => (ih (y165b.1) (IntKind.i64.wrap (y165b.2.1 + (1 : Int))) (y165b.2.2.1) (y165b.2.2.2.1) (y165b.2.2.2.2))))))) (cond_push (linguistlaw8_EditPlays_m3 K) _ (optK_push (linguistlaw8_EditPlays_m3 K) rfl _ fun y166 => (optK_push (linguistlaw8_EditPlays_m3 K) rfl _ fun y167 => (optK_push (linguistlaw8_EditPlays_m3 K) rfl _ fun y168 => (optK_push (linguistlaw8_EditPlays_m3 K) rfl _ fun y169 => (sumK_push (linguistlaw8_EditPlays_m3 K) _ (fun y169a => rfl) (fun y169b => (ih (y169b.1) (IntKind.i64.wrap (y169b.2.1 + (1 : Int))) (y169b.2.2.1) (y169b.2.2.2.1) (y169b.2.2.2.2)))))))) (cond_push (linguistlaw8_EditPlays_m3 K) _ (optK_push (linguistlaw8_EditPlays_m3 K) rfl _ fun y170 => (optK_push (linguistlaw8_EditPlays_m3 K) rfl _ fun y171 => (optK_push (linguistlaw8_EditPlays_m3 K) rfl _ fun y172 => (optK_push (linguistlaw8_EditPlays_m3 K) rfl _ fun y173 => (sumK_push (linguistlaw8_EditPlays_m3 K) _ (fun y173a => rfl) (fun y173b => (ih (y173b.1) (IntKind.i64.wrap (y173b.2.1 + (1 : Int))) (y173b.2.2.1) (y173b.2.2.2.1) (y173b.2.2.2.2)))))))) (cond_push (linguistlaw8_EditPlays_m3 K) _ (optK_push (linguistlaw8_EditPlays_m3 K) rfl _ fun y174 => (optK_push (linguistlaw8_EditPlays_m3 K) rfl _ fun y175 => (optK_push (linguistlaw8_EditPlays_m3 K) rfl _ fun y176 => (sumK_push (linguistlaw8_EditPlays_m3 K) _ (fun y176a => rfl) (fun y176b => (ih (y176b.1) (IntKind.i64.wrap (y176b.2.1 + (1 : Int))) (y176b.2.2.1) (y176b.2.2.2.1) (y176b.2.2.2.2))))))) (cond_push (linguistlaw8_EditPlays_m3 K) _ (optK_push (linguistlaw8_EditPlays_m3 K) rfl _ fun y177 => (cond_push (linguistlaw8_EditPlays_m3 K) _ (cond_push (linguistlaw8_EditPlays_m3 K) _ (cond_push (linguistlaw8_EditPlays_m3 K) _ (cond_push (linguistlaw8_EditPlays_m3 K) _ (optK_push (linguistlaw8_EditPlays_m3 K) rfl _ fun y178 => (optK_push (linguistlaw8_EditPlays_m3 K) rfl _ fun y179 => (sumK_push (linguistlaw8_EditPlays_m3 K) _ (fun y179a => rfl) (fun y179b => (ih (y179b.1) (IntKind.i64.wrap (y179b.2.1 + (1 : Int))) (y179b.2.2.1) (y179b.2.2.2.1) (y179b.2.2.2.2)))))) rfl) rfl) (optK_push (linguistlaw8_EditPlays_m3 K) rfl _ fun y180 => (sumK_push (linguistlaw8_EditPlays_m3 K) _ (fun y180a => rfl) (fun y180b => (ih (y180b.1) (IntKind.i64.wrap (y180b.2.1 + (1 : Int))) (y180b.2.2.1) (y180b.2.2.2.1) (y180b.2.2.2.2)))))) (optK_push (linguistlaw8_EditPlays_m3 K) rfl _ fun y181 => (sumK_push (linguistlaw8_EditPlays_m3 K) _ (fun y181a => rfl) (fun y181b => (ih (y181b.1) (IntKind.i64.wrap (y181b.2.1 + (1 : Int))) (y181b.2.2.1) (y181b.2.2.2.1) (y181b.2.2.2.2))))))) (optK_push (linguistlaw8_EditPlays_m3 K) rfl _ fun y182 => (sumK_push (linguistlaw8_EditPlays_m3 K) _ (fun y182a => rfl) (fun y182b => (ih (y182b.1) (IntKind.i64.wrap (y182b.2.1 + (1 : Int))) (y182b.2.2.1) (y182b.2.2.2.1) (y182b.2.2.2.2))))))))))) (cond_push (linguistlaw8_EditPlays_m3 K) _ (optK_push (linguistlaw8_EditPlays_m3 K) rfl _ fun y183 => (optK_push (linguistlaw8_EditPlays_m3 K) rfl _ fun y184 => (optK_push (linguistlaw8_EditPlays_m3 K) rfl _ fun y185 => (sumK_push (linguistlaw8_EditPlays_m3 K) _ (fun y185a => rfl) (fun y185b => (ih (y185b.1) (IntKind.i64.wrap (y185b.2.1 + (1 : Int))) (y185b.2.2.1) (y185b.2.2.2.1) (y185b.2.2.2.2))))))) (cond_push (linguistlaw8_EditPlays_m3 K) _ (optK_push (linguistlaw8_EditPlays_m3 K) rfl _ fun y186 => (optK_push (linguistlaw8_EditPlays_m3 K) rfl _ fun y187 => (optK_push (linguistlaw8_EditPlays_m3 K) rfl _ fun y188 => (sumK_push (linguistlaw8_EditPlays_m3 K) _ (fun y188a => rfl) (fun y188b => (ih (y188b.1) (IntKind.i64.wrap (y188b.2.1 + (1 : Int))) (y188b.2.2.1) (y188b.2.2.2.1) (y188b.2.2.2.2))))))) (cond_push (linguistlaw8_EditPlays_m3 K) _ (optK_push (linguistlaw8_EditPlays_m3 K) rfl _ fun y189 => (optK_push (linguistlaw8_EditPlays_m3 K) rfl _ fun y190 => (optK_push (linguistlaw8_EditPlays_m3 K) rfl _ fun y191 => (optK_push (linguistlaw8_EditPlays_m3 K) rfl _ fun y192 => (sumK_push (linguistlaw8_EditPlays_m3 K) _ (fun y192a => rfl) (fun y192b => (ih (y192b.1) (IntKind.i64.wrap (y192b.2.1 + (1 : Int))) (y192b.2.2.1) (y192b.2.2.2.1) (y192b.2.2.2.2)))))))) (cond_push (linguistlaw8_EditPlays_m3 K) _ (optK_push (linguistlaw8_EditPlays_m3 K) rfl _ fun y193 => (optK_push (linguistlaw8_EditPlays_m3 K) rfl _ fun y194 => (optK_push (linguistlaw8_EditPlays_m3 K) rfl _ fun y195 => (optK_push (linguistlaw8_EditPlays_m3 K) rfl _ fun y196 => (sumK_push (linguistlaw8_EditPlays_m3 K) _ (fun y196a => rfl) (fun y196b => (ih (y196b.1) (IntKind.i64.wrap (y196b.2.1 + (1 : Int))) (y196b.2.2.1) (y196b.2.2.2.1) (y196b.2.2.2.2)))))))) (cond_push (linguistlaw8_EditPlays_m3 K) _ (optK_push (linguistlaw8_EditPlays_m3 K) rfl _ fun y197 => (optK_push (linguistlaw8_EditPlays_m3 K) rfl _ fun y198 => (optK_push (linguistlaw8_EditPlays_m3 K) rfl _ fun y199 => (sumK_push (linguistlaw8_EditPlays_m3 K) _ (fun y199a => rfl) (fun y199b => (ih (y199b.1) (IntKind.i64.wrap (y199b.2.1 + (1 : Int))) (y199b.2.2.1) (y199b.2.2.2.1) (y199b.2.2.2.2))))))) (cond_push (linguistlaw8_EditPlays_m3 K) _ (optK_push (linguistlaw8_EditPlays_m3 K) rfl _ fun y200 => (optK_push (linguistlaw8_EditPlays_m3 K) rfl _ fun y201 => (sumK_push (linguistlaw8_EditPlays_m3 K) _ (fun y201a => rfl) (fun y201b => (ih (y201b.1) (IntKind.i64.wrap (y201b.2.1 + (1 : Int))) (y201b.2.2.1) (y201b.2.2.2.1) (y201b.2.2.2.2)))))) (optK_push (linguistlaw8_EditPlays_m3 K) rfl _ fun y202 => (sumK_push (linguistlaw8_EditPlays_m3 K) _ (fun y202a => rfl) (fun y202b => (ih (y202b.1) (IntKind.i64.wrap (y202b.2.1 + (1 : Int))) (y202b.2.2.1) (y202b.2.2.2.1) (y202b.2.2.2.2)))))))))))) (cond_push (linguistlaw8_EditPlays_m3 K) _ (optK_push (linguistlaw8_EditPlays_m3 K) rfl _ fun y203 => (optK_push (linguistlaw8_EditPlays_m3 K) rfl _ fun y204 => (optK_push (linguistlaw8_EditPlays_m3 K) rfl _ fun y205 => (sumK_push (linguistlaw8_EditPlays_m3 K) _ (fun y205a => rfl) (fun y205b => (ih (y205b.1) (IntKind.i64.wrap (y205b.2.1 + (1 : Int))) (y205b.2.2.1) (y205b.2.2.2.1) (y205b.2.2.2.2))))))) (cond_push (linguistlaw8_EditPlays_m3 K) _ (optK_push (linguistlaw8_EditPlays_m3 K) rfl _ fun y206 => (optK_push (linguistlaw8_EditPlays_m3 K) rfl _ fun y207 => (optK_push (linguistlaw8_EditPlays_m3 K) rfl _ fun y208 => (sumK_push (linguistlaw8_EditPlays_m3 K) _ (fun y208a => rfl) (fun y208b => (ih (y208b.1) (IntKind.i64.wrap (y208b.2.1 + (1 : Int))) (y208b.2.2.1) (y208b.2.2.2.1) (y208b.2.2.2.2))))))) (cond_push (linguistlaw8_EditPlays_m3 K) _ (optK_push (linguistlaw8_EditPlays_m3 K) rfl _ fun y209 => (optK_push (linguistlaw8_EditPlays_m3 K) rfl _ fun y210 => (optK_push (linguistlaw8_EditPlays_m3 K) rfl _ fun y211 => (optK_push (linguistlaw8_EditPlays_m3 K) rfl _ fun y212 => (sumK_push (linguistlaw8_EditPlays_m3 K) _ (fun y212a => rfl) (fun y212b => (ih (y212b.1) (IntKind.i64.wrap (y212b.2.1 + (1 : Int))) (y212b.2.2.1) (y212b.2.2.2.1) (y212b.2.2.2.2)))))))) (cond_push (linguistlaw8_EditPlays_m3 K) _ (optK_push (linguistlaw8_EditPlays_m3 K) rfl _ fun y213 => (optK_push (linguistlaw8_EditPlays_m3 K) rfl _ fun y214 => (optK_push (linguistlaw8_EditPlays_m3 K) rfl _ fun y215 => (optK_push (linguistlaw8_EditPlays_m3 K) rfl _ fun y216 => (sumK_push (linguistlaw8_EditPlays_m3 K) _ (fun y216a => rfl) (fun y216b => (ih (y216b.1) (IntKind.i64.wrap (y216b.2.1 + (1 : Int))) (y216b.2.2.1) (y216b.2.2.2.1) (y216b.2.2.2.2)))))))) (cond_push (linguistlaw8_EditPlays_m3 K) _ (optK_push (linguistlaw8_EditPlays_m3 K) rfl _ fun y217 => (optK_push (linguistlaw8_EditPlays_m3 K) rfl _ fun y218 => (optK_push (linguistlaw8_EditPlays_m3 K) rfl _ fun y219 => (sumK_push (linguistlaw8_EditPlays_m3 K) _ (fun y219a => rfl) (fun y219b => (ih (y219b.1) (IntKind.i64.wrap (y219b.2.1 + (1 : Int))) (y219b.2.2.1) (y219b.2.2.2.1) (y219b.2.2.2.2))))))) (cond_push (linguistlaw8_EditPlays_m3 K) _ (optK_push (linguistlaw8_EditPlays_m3 K) rfl _ fun y220 => (optK_push (linguistlaw8_EditPlays_m3 K) rfl _ fun y221 => (sumK_push (linguistlaw8_EditPlays_m3 K) _ (fun y221a => rfl) (fun y221b => (ih (y221b.1) (IntKind.i64.wrap (y221b.2.1 + (1 : Int))) (y221b.2.2.1) (y221b.2.2.2.1) (y221b.2.2.2.2)))))) (optK_push (linguistlaw8_EditPlays_m3 K) rfl _ fun y222 => (sumK_push (linguistlaw8_EditPlays_m3 K) _ (fun y222a => rfl) (fun y222b => (ih (y222b.1) (IntKind.i64.wrap (y222b.2.1 + (1 : Int))) (y222b.2.2.1) (y222b.2.2.2.1) (y222b.2.2.2.2)))))))))))) (cond_push (linguistlaw8_EditPlays_m3 K) _ (optK_push (linguistlaw8_EditPlays_m3 K) rfl _ fun y223 => (optK_push (linguistlaw8_EditPlays_m3 K) rfl _ fun y224 => (optK_push (linguistlaw8_EditPlays_m3 K) rfl _ fun y225 => (sumK_push (linguistlaw8_EditPlays_m3 K) _ (fun y225a => rfl) (fun y225b => (ih (y225b.1) (IntKind.i64.wrap (y225b.2.1 + (1 : Int))) (y225b.2.2.1) (y225b.2.2.2.1) (y225b.2.2.2.2))))))) (cond_push (linguistlaw8_EditPlays_m3 K) _ (optK_push (linguistlaw8_EditPlays_m3 K) rfl _ fun y226 => (optK_push (linguistlaw8_EditPlays_m3 K) rfl _ fun y227 => (optK_push (linguistlaw8_EditPlays_m3 K) rfl _ fun y228 => (sumK_push (linguistlaw8_EditPlays_m3 K) _ (fun y228a => rfl) (fun y228b => (ih (y228b.1) (IntKind.i64.wrap (y228b.2.1 + (1 : Int))) (y228b.2.2.1) (y228b.2.2.2.1) (y228b.2.2.2.2))))))) (cond_push (linguistlaw8_EditPlays_m3 K) _ (optK_push (linguistlaw8_EditPlays_m3 K) rfl _ fun y229 => (optK_push (linguistlaw8_EditPlays_m3 K) rfl _ fun y230 => (optK_push (linguistlaw8_EditPlays_m3 K) rfl _ fun y231 => (optK_push (linguistlaw8_EditPlays_m3 K) rfl _ fun y232 => (sumK_push (linguistlaw8_EditPlays_m3 K) _ (fun y232a => rfl) (fun y232b => (ih (y232b.1) (IntKind.i64.wrap (y232b.2.1 + (1 : Int))) (y232b.2.2.1) (y232b.2.2.2.1) (y232b.2.2.2.2)))))))) (cond_push (linguistlaw8_EditPlays_m3 K) _ (optK_push (linguistlaw8_EditPlays_m3 K) rfl _ fun y233 => (optK_push (linguistlaw8_EditPlays_m3 K) rfl _ fun y234 => (optK_push (linguistlaw8_EditPlays_m3 K) rfl _ fun y235 => (optK_push (linguistlaw8_EditPlays_m3 K) rfl _ fun y236 => (sumK_push (linguistlaw8_EditPlays_m3 K) _ (fun y236a => rfl) (fun y236b => (ih (y236b.1) (IntKind.i64.wrap (y236b.2.1 + (1 : Int))) (y236b.2.2.1) (y236b.2.2.2.1) (y236b.2.2.2.2)))))))) (cond_push (linguistlaw8_EditPlays_m3 K) _ (optK_push (linguistlaw8_EditPlays_m3 K) rfl _ fun y237 => (optK_push (linguistlaw8_EditPlays_m3 K) rfl _ fun y238 => (optK_push (linguistlaw8_EditPlays_m3 K) rfl _ fun y239 => (sumK_push (linguistlaw8_EditPlays_m3 K) _ (fun y239a => rfl) (fun y239b => (ih (y239b.1) (IntKind.i64.wrap (y239b.2.1 + (1 : Int))) (y239b.2.2.1) (y239b.2.2.2.1) (y239b.2.2.2.2))))))) (cond_push (linguistlaw8_EditPlays_m3 K) _ (optK_push (linguistlaw8_EditPlays_m3 K) rfl _ fun y240 => (optK_push (linguistlaw8_EditPlays_m3 K) rfl _ fun y241 => (sumK_push (linguistlaw8_EditPlays_m3 K) _ (fun y241a => rfl) (fun y241b => (ih (y241b.1) (IntKind.i64.wrap (y241b.2.1 + (1 : Int))) (y241b.2.2.1) (y241b.2.2.2.1) (y241b.2.2.2.2)))))) (optK_push (linguistlaw8_EditPlays_m3 K) rfl _ fun y242 => (sumK_push (linguistlaw8_EditPlays_m3 K) _ (fun y242a => rfl) (fun y242b => (ih (y242b.1) (IntKind.i64.wrap (y242b.2.1 + (1 : Int))) (y242b.2.2.1) (y242b.2.2.2.1) (y242b.2.2.2.2)))))))))))))))) rfl) rfl) rfl)
def linguistlaw8_EditPlays_fu3 (a0 : List (Int × Int × Int × Int × Int × Int × Int)) (a1 : Int) (a2 : Int) (a3 : Int) (a4 : List (Int × Int × Int × Int × Int)) : Nat := List.length a0 + Int.natAbs a1 + Int.natAbs a2 + Int.natAbs a3 + List.length a4 + 5000
noncomputable def linguistlaw8_EditPlays_G3 : GoL linguistlaw8_EditPlays_s3 := fun R (x : ((List (Int × Int × Int × Int × Int × Int × Int) × (Int × Unit)) × ((Int × (Int × (List (Int × Int × Int × Int × Int) × Unit))) × Unit))) K => linguistlaw8_EditPlays_m3 K (hide linguistlaw8_EditPlays_L3 (linguistlaw8_EditPlays_fu3 x.1.1 x.1.2.1 x.2.1.1 x.2.1.2.1 x.2.1.2.2.1) x.1.1 x.1.2.1 x.2.1.1 x.2.1.2.1 x.2.1.2.2.1)
theorem linguistlaw8_EditPlays_H3 : LoopOk Try.prog 6 3 (loopH linguistlaw8_EditPlays_s3 0 linguistlaw8_EditPlays_G3) := loop_known (envL_ok linguistlaw8_EditPlays_su_ok linguistlaw8_EditPlays_ll3_ok linguistlaw8_EditPlays_cs2_ok) Try.func6 rfl linguistlaw8_EditPlays_c3_is (xs := linguistlaw8_EditPlays_xs3) (fuel := fun (x : ((List (Int × Int × Int × Int × Int × Int × Int) × (Int × Unit)) × ((Int × (Int × (List (Int × Int × Int × Int × Int) × Unit))) × Unit))) => linguistlaw8_EditPlays_fu3 x.1.1 x.1.2.1 x.2.1.1 x.2.1.2.1 x.2.1.2.2.1) fun R (x : ((List (Int × Int × Int × Int × Int × Int × Int) × (Int × Unit)) × ((Int × (Int × (List (Int × Int × Int × Int × Int) × Unit))) × Unit))) K => by
  show linguistlaw8_EditPlays_m3 K (hide linguistlaw8_EditPlays_L3 (linguistlaw8_EditPlays_fu3 x.1.1 x.1.2.1 x.2.1.1 x.2.1.2.1 x.2.1.2.2.1) x.1.1 x.1.2.1 x.2.1.1 x.2.1.2.1 x.2.1.2.2.1) = _
  rw [hide_eq]
  exact (linguistlaw8_EditPlays_l3 K (linguistlaw8_EditPlays_fu3 x.1.1 x.1.2.1 x.2.1.1 x.2.1.2.1 x.2.1.2.2.1) x.1.1 x.1.2.1 x.2.1.1 x.2.1.2.1 x.2.1.2.2.1).symm
noncomputable def linguistlaw8_EditPlays_h3 : LoopF := loopH linguistlaw8_EditPlays_s3 0 linguistlaw8_EditPlays_G3
noncomputable def linguistlaw8_EditPlays_ll4 : LoopT := ((6, 3), linguistlaw8_EditPlays_h3) :: linguistlaw8_EditPlays_ll3
theorem linguistlaw8_EditPlays_ll4_ok : AllLoop Try.prog linguistlaw8_EditPlays_ll4 := ⟨linguistlaw8_EditPlays_H3, linguistlaw8_EditPlays_ll3_ok⟩
noncomputable def linguistlaw8_EditPlays_F (x0 : Int) (x1 : Int) (x2 : List (Int)) (x3 : List (Int)) (x4 : List (Int × Int × Int × Int × Int × Int × Int)) : Option (Bool) := (optK ((hide linguistkeep_Grid_Grid_F x0 x1 x2 x3)) fun y0 => (optK (hide linguistlaw8_EditPlays_L3 (linguistlaw8_EditPlays_fu3 x4 (0 : Int) (y0.1) (y0.2.1) (y0.2.2)) x4 (0 : Int) (y0.1) (y0.2.1) (y0.2.2)) fun y243 => (sumK y243 (fun y243a => (some y243a)) (fun y243b => (some (true))))))
noncomputable def linguistlaw8_EditPlays_A : SkL := (.cons (.agg (.cons (.int .i64) (.cons (.int .i64) (.cons (.list (.one (.int .i64))) (.cons (.list (.one (.int .i64))) .nil))))) (.cons (.list (.cons (.int .i64) (.cons (.int .i64) (.cons (.int .i64) (.cons (.int .i64) (.cons (.int .i64) (.cons (.int .i64) (.one (.int .i64))))))))) .nil))
noncomputable def linguistlaw8_EditPlays_B : Sk := .bool
def linguistlaw8_EditPlays_m {R : Type} (K : Bool → Option R) (o : Option (Bool)) : Option R := optK o fun y => K y
theorem linguistlaw8_EditPlays_run {R : Type} (x0 : Int) (x1 : Int) (x2 : List (Int)) (x3 : List (Int)) (x4 : List (Int × Int × Int × Int × Int × Int × Int)) (K : Bool → Option R) : acall (envL linguistlaw8_EditPlays_su linguistlaw8_EditPlays_ll4 linguistlaw8_EditPlays_cs2 (fun _ _ => false)) 1000 6 (linguistlaw8_EditPlays_A.enc ((x0, (x1, (x2, (x3, ())))), (x4, ()))) [] (resK linguistlaw8_EditPlays_B true K) = linguistlaw8_EditPlays_m K (linguistlaw8_EditPlays_F x0 x1 x2 x3 x4) := by
  unfold linguistlaw8_EditPlays_F
  exact Eq.trans (by kernel_rfl) (optK_push (linguistlaw8_EditPlays_m K) rfl _ fun y0 => (optK_push (linguistlaw8_EditPlays_m K) rfl _ fun y243 => (sumK_push (linguistlaw8_EditPlays_m K) _ (fun y243a => rfl) (fun y243b => rfl))))
end Go.Proofs.YtpneolkfeihkhaaAbs

/- EditPlays: what the law's own program computes is true. -/
namespace Go.Proofs.YtpneolkfeihkhaaAbs
set_option linter.unusedVariables false
set_option linter.unusedSimpArgs false
set_option maxHeartbeats 8000000
set_option maxRecDepth 100000
open Go Go.Proofs
abbrev Ask := Int × Int × Int × Int × Int × Int × Int
def askOk (a : Ask) : Prop := in64 a.1 ∧ in64 a.2.1 ∧ in64 a.2.2.1 ∧ in64 a.2.2.2.1 ∧ in64 a.2.2.2.2.1 ∧ in64 a.2.2.2.2.2.1 ∧ in64 a.2.2.2.2.2.2
theorem plays_J {a0 : List Ask} {a1 : Int} {h w : Nat} {g : List Cell} (h1 : 1 ≤ h) (hh : h ≤ 5) (w1 : 1 ≤ w) (hw : w ≤ 9) (k : GG h w g) :
    hide linguistlaw8_EditPlays_J38 a0 a1 (Int.ofNat h) (Int.ofNat w) g (Int.ofNat h) (Int.ofNat w) g = some (.inr (a0, a1, Int.ofNat h, Int.ofNat w, g)) := by
  have hsm := small_mul (show h ≤ 64 by omega) (show w ≤ 64 by omega)
  rw [hide_eq]; unfold linguistlaw8_EditPlays_J38
  rw [bookSame_eq g g (by rw [k.1.1]; omega), gridRight_eq rfl rfl h1 (by omega) w1 (by omega) k]
  simp [optK]
theorem ins_del_zero {h w : Nat} {l : List Cell} (hl : l.length = h * w) (r c : Int) (p : Pen) : insG h w l r c 0 p = delG h w l r c 0 p := by
  unfold insG delG
  split
  · rename_i k
    have hrl := rowOf_length hl (show r.toNat < h by omega)
    refine inRow_congr (congrArg mend ?_)
    have e : num w c.toNat 0 = 0 := by unfold num; omega
    rw [e]
    unfold insRow delRow
    rw [List.replicate_zero, List.append_nil, List.append_nil, Nat.add_zero, List.take_of_length_le (l := List.drop c.toNat (parted (rowOf w l r.toNat) c.toNat)) (by simp [parted_length])]
  · rfl
/-- From where to where a row is wiped. -/
def fr (r c q : Int) (w : Nat) (y : Nat) : Int × Int := if (q = 0 ∧ (y : Int) < r) ∨ (q = 1 ∧ (y : Int) > r) then (0, 0) else if q = 0 ∧ (y : Int) = r then (c, w) else if q = 1 ∧ (y : Int) = r then (0, c + 1) else (0, w)
def refTo (h w : Nat) (l : List Cell) (r c q : Int) (p : Pen) : Nat → List Cell
  | 0 => l
  | k + 1 => wipe h w (refTo h w l r c q p k) k (fr r c q w k).1 (fr r c q w k).2 p
theorem refTo_length {h w : Nat} {l : List Cell} (hl : l.length = h * w) (r c q : Int) (p : Pen) : ∀ k, (refTo h w l r c q p k).length = h * w
  | 0 => hl
  | k + 1 => wipe_length (refTo_length hl r c q p k) _ _ _ _
theorem refTo_row {h w : Nat} {l : List Cell} (hl : l.length = h * w) (r c q : Int) (p : Pen) : ∀ k, k ≤ h → ∀ y, y < h → rowOf w (refTo h w l r c q p k) y = if y < k then wipeX w (rowOf w l y) (fr r c q w y).1 (fr r c q w y).2 p else rowOf w l y
  | 0, _, y, hy => by rw [if_neg (by omega)]; rfl
  | k + 1, hk, y, hy => by
    have ih := refTo_row hl r c q p k (by omega)
    rw [refTo, wipe_row (refTo_length hl r c q p k) (by omega) _ _ _ hy]
    by_cases e : y = k
    · subst e
      rw [if_pos rfl, ih y hy, if_neg (by omega), if_pos (by omega)]
    · rw [if_neg e, ih y hy]
      by_cases c2 : y < k
      · rw [if_pos c2, if_pos (by omega)]
      · rw [if_neg c2, if_neg (by omega)]
theorem wipeX_none {w : Nat} {row : List Cell} (h : rightR row) (p : Pen) : wipeX w row 0 0 p = row := by
  unfold wipeX wipeN
  rw [show (min (0 : Int) w).toNat - (max (0 : Int) 0).toNat = 0 by omega]
  exact mend_right h
theorem erase_ref {h w : Nat} {l : List Cell} (k : RG h w l) {r c q : Int} (hr : 0 ≤ r ∧ r < h) (hc : 0 ≤ c ∧ c < w) (hq : q = 0 ∨ q = 1 ∨ q = 2) (p : Pen) : eraseG h w l r c q p = refTo h w l r c q p h := by
  obtain ⟨r, rfl⟩ : ∃ n : Nat, r = (n : Int) := ⟨r.toNat, by omega⟩
  have hl := k.1
  have hll := lineG_length hl (r : Int) c q p
  have e : eraseG h w l r c q p = eraseTo h w (lineG h w l r c q p) r q p h := by
    unfold eraseG; rw [if_pos (by omega)]
  rw [e]
  refine rows_ext (eraseTo_length hll _ _ _ _) (refTo_length hl _ _ _ _ _) fun y hy => ?_
  rw [eraseTo_row hll _ _ _ h (Nat.le_refl _) y hy, refTo_row hl _ _ _ _ h (Nat.le_refl _) y hy, if_pos hy]
  have lo : ∀ y, y < h → y ≠ r → rowOf w (lineG h w l r c q p) y = rowOf w l y := fun y hy ne => by
    unfold lineG
    rw [if_pos (by omega)]
    split
    · rw [wipe_row hl (by omega) _ _ _ hy, if_neg ne]
    · split
      · rw [wipe_row hl (by omega) _ _ _ hy, if_neg ne]
      · split
        · rw [wipe_row hl (by omega) _ _ _ hy, if_neg ne]
        · rfl
  have sr : rowOf w (lineG h w l r c q p) r = wipeX w (rowOf w l r) (fr r c q w r).1 (fr r c q w r).2 p := by
    have hrh : r < h := by omega
    unfold lineG fr
    rw [if_pos (by omega)]
    rcases hq with rfl | rfl | rfl
    · rw [if_pos rfl, if_neg (by omega), if_pos (by omega), wipe_row hl hrh _ _ _ hrh, if_pos rfl]
    · rw [if_neg (by decide), if_pos rfl, if_neg (by omega), if_neg (by omega), if_pos (by omega), wipe_row hl hrh _ _ _ hrh, if_pos rfl]
    · rw [if_neg (by decide), if_neg (by decide), if_pos rfl, if_neg (by omega), if_neg (by omega), if_neg (by omega), wipe_row hl hrh _ _ _ hrh, if_pos rfl]
  by_cases e : y = r
  · subst e
    rw [if_neg (by omega)]; exact sr
  · by_cases c1 : y < h ∧ (((y : Int) > (r : Int) ∧ q ≠ 1) ∨ ((y : Int) < (r : Int) ∧ q ≠ 0))
    · have f : fr r c q w y = (0, (w : Int)) := by
        unfold fr; rw [if_neg (by omega), if_neg (by omega), if_neg (by omega)]
      rw [if_pos c1, f, lo y hy e]
    · have f : fr r c q w y = (0, 0) := by
        unfold fr; rw [if_pos (by omega)]
      rw [if_neg c1, f, lo y hy e]
      exact (wipeX_none (k.2 y hy) p).symm
theorem plays_33 {a0 : List Ask} {a1 a2 a3 a4 y a7 a8 a9 a10 p0 p1 p2 : Int} {a5 : Bool} {a11 o : List Cell} {h w : Nat} (hh : h ≤ 5) (w1 : 1 ≤ w) (hw : w ≤ 9) (ho : o.length = h * w) (ha : a7 ≤ 4000) :
    hide linguistlaw8_EditPlays_J33 a0 a1 a2 a3 a4 a5 y a7 a8 a9 a10 a11 (Int.ofNat h) (Int.ofNat w) o p0 p1 p2 = some (a0, a1, a2, a3, a4, a5, y, a9, a10, a11, Int.ofNat h, Int.ofNat w, wipe h w o y a7 a8 (p0, p1, p2), p0, p1, p2) := by
  rw [hide_eq]; unfold linguistlaw8_EditPlays_J33
  rw [refWipe_eq rfl rfl (by omega) w1 (by omega) ho ha]
  rfl
theorem plays_24 {a0 : List Ask} {a1 r c nn R C p0 p1 p2 : Int} {g l : List Cell} {h w : Nat} {q : Int} (hh : h ≤ 5) (w1 : 1 ≤ w) (hw : w ≤ 9) (hl : l.length = h * w) (hc : 0 ≤ c ∧ c < w) (hn : nn.tmod 4 = q) (hq : q = 0 ∨ q = 1 ∨ q = 2) : ∀ (n y : Nat), y ≤ h → h - y < n →
    linguistlaw8_EditPlays_L24 n a0 a1 r c nn true (Int.ofNat y) R C g (Int.ofNat h) (Int.ofNat w) (refTo h w l r c q (p0, p1, p2) y) p0 p1 p2 = some (a0, a1, R, C, g, Int.ofNat h, Int.ofNat w, refTo h w l r c q (p0, p1, p2) h) := by
  intro n
  induction n with
  | zero => intro y h1 h2; omega
  | succ n ih =>
    intro y h1 h2
    rw [linguistlaw8_EditPlays_L24]
    by_cases hy : y < h
    · have step := ih (y + 1) (by omega) (by omega)
      have hol := refTo_length hl r c q (p0, p1, p2) y
      rw [refTo] at step
      unfold fr at step
      have ew : IntKind.i64.wrap (c + 1) = c + 1 := w64 (by omega) (by omega)
      have b0 : ((0 : Int) == 0) = true := rfl
      have b1 : ((0 : Int) == 1) = false := rfl
      have b2 : ((1 : Int) == 0) = false := rfl
      have b3 : ((1 : Int) == 1) = true := rfl
      have b4 : ((2 : Int) == 0) = false := rfl
      have b5 : ((2 : Int) == 1) = false := rfl
      have t0 : decide ((0 : Int) < 3) = true := rfl
      have t1 : decide ((1 : Int) < 3) = true := rfl
      have t2 : decide ((2 : Int) < 3) = true := rfl
      rw [ofNat_lt, decide_eq_true hy]
      rcases Int.lt_trichotomy (y : Int) r with tr | tr | tr
      · have d1 : decide (Int.ofNat y < r) = true := by exact decide_eq_true (by show (y : Int) < r; omega)
        have d2 : decide (Int.ofNat y > r) = false := by exact decide_eq_false (by show ¬ r < (y : Int); omega)
        have d3 : (Int.ofNat y == r) = false := by exact beq_eq_false_iff_ne.2 (fun e => by have e2 : (y : Int) = r := e; omega)
        rcases hq with rfl | rfl | rfl
        · rw [if_pos (by omega)] at step
          simp only [hn, b0, b1, b2, b3, b4, b5, t0, t1, t2, d1, d2, d3, ew, cond_true, cond_false]
          rw [plays_33 hh w1 hw hol (by omega)]
          simp only [optK_s]
          rw [wrap_succ (by omega)]
          exact step
        · rw [if_neg (by omega), if_neg (by omega), if_neg (by omega)] at step
          simp only [hn, b0, b1, b2, b3, b4, b5, t0, t1, t2, d1, d2, d3, ew, cond_true, cond_false]
          rw [plays_33 hh w1 hw hol (by omega)]
          simp only [optK_s]
          rw [wrap_succ (by omega)]
          exact step
        · rw [if_neg (by omega), if_neg (by omega), if_neg (by omega)] at step
          simp only [hn, b0, b1, b2, b3, b4, b5, t0, t1, t2, d1, d2, d3, ew, cond_true, cond_false]
          rw [plays_33 hh w1 hw hol (by omega)]
          simp only [optK_s]
          rw [wrap_succ (by omega)]
          exact step
      · have d1 : decide (Int.ofNat y < r) = false := by exact decide_eq_false (by show ¬ (y : Int) < r; omega)
        have d2 : decide (Int.ofNat y > r) = false := by exact decide_eq_false (by show ¬ r < (y : Int); omega)
        have d3 : (Int.ofNat y == r) = true := by rw [← tr]; exact beq_self_eq_true _
        rcases hq with rfl | rfl | rfl
        · rw [if_neg (by omega), if_pos (by omega)] at step
          simp only [hn, b0, b1, b2, b3, b4, b5, t0, t1, t2, d1, d2, d3, ew, cond_true, cond_false]
          rw [plays_33 hh w1 hw hol (by omega)]
          simp only [optK_s]
          rw [wrap_succ (by omega)]
          exact step
        · rw [if_neg (by omega), if_neg (by omega), if_pos (by omega)] at step
          simp only [hn, b0, b1, b2, b3, b4, b5, t0, t1, t2, d1, d2, d3, ew, cond_true, cond_false]
          rw [plays_33 hh w1 hw hol (by omega)]
          simp only [optK_s]
          rw [wrap_succ (by omega)]
          exact step
        · rw [if_neg (by omega), if_neg (by omega), if_neg (by omega)] at step
          simp only [hn, b0, b1, b2, b3, b4, b5, t0, t1, t2, d1, d2, d3, ew, cond_true, cond_false]
          rw [plays_33 hh w1 hw hol (by omega)]
          simp only [optK_s]
          rw [wrap_succ (by omega)]
          exact step
      · have d1 : decide (Int.ofNat y < r) = false := by exact decide_eq_false (by show ¬ (y : Int) < r; omega)
        have d2 : decide (Int.ofNat y > r) = true := by exact decide_eq_true (by show r < (y : Int); omega)
        have d3 : (Int.ofNat y == r) = false := by exact beq_eq_false_iff_ne.2 (fun e => by have e2 : (y : Int) = r := e; omega)
        rcases hq with rfl | rfl | rfl
        · rw [if_neg (by omega), if_neg (by omega), if_neg (by omega)] at step
          simp only [hn, b0, b1, b2, b3, b4, b5, t0, t1, t2, d1, d2, d3, ew, cond_true, cond_false]
          rw [plays_33 hh w1 hw hol (by omega)]
          simp only [optK_s]
          rw [wrap_succ (by omega)]
          exact step
        · rw [if_pos (by omega)] at step
          simp only [hn, b0, b1, b2, b3, b4, b5, t0, t1, t2, d1, d2, d3, ew, cond_true, cond_false]
          rw [plays_33 hh w1 hw hol (by omega)]
          simp only [optK_s]
          rw [wrap_succ (by omega)]
          exact step
        · rw [if_neg (by omega), if_neg (by omega), if_neg (by omega)] at step
          simp only [hn, b0, b1, b2, b3, b4, b5, t0, t1, t2, d1, d2, d3, ew, cond_true, cond_false]
          rw [plays_33 hh w1 hw hol (by omega)]
          simp only [optK_s]
          rw [wrap_succ (by omega)]
          exact step
    · have e : y = h := by omega
      subst e
      rw [ofNat_lt, decide_eq_false hy]
      rfl
theorem plays_24f {a0 : List Ask} {a1 r c nn y R C R' C' p0 p1 p2 : Int} {g o : List Cell} {n : Nat} : linguistlaw8_EditPlays_L24 (n + 1) a0 a1 r c nn false y R C g R' C' o p0 p1 p2 = some (a0, a1, R, C, g, R', C', o) := by
  rw [linguistlaw8_EditPlays_L24]
  cases decide (y < R') <;> rfl
theorem plays_24g {a0 : List Ask} {a1 r c nn y R C R' C' p0 p1 p2 : Int} {g o : List Cell} {n : Nat} {at_ : Bool} (hq : ¬ nn.tmod 4 < 3) : linguistlaw8_EditPlays_L24 (n + 1) a0 a1 r c nn at_ y R C g R' C' o p0 p1 p2 = some (a0, a1, R, C, g, R', C', o) := by
  rw [linguistlaw8_EditPlays_L24, decide_eq_false hq]
  cases decide (y < R') <;> cases at_ <;> rfl
theorem plays_24z {a0 : List Ask} {a1 r c nn R C p0 p1 p2 : Int} {g l : List Cell} {h w : Nat} {q : Int} (hh : h ≤ 5) (w1 : 1 ≤ w) (hw : w ≤ 9) (k : RG h w l) (hr : 0 ≤ r ∧ r < h) (hc : 0 ≤ c ∧ c < w) (hn : nn.tmod 4 = q) (hq : q = 0 ∨ q = 1 ∨ q = 2) (n : Nat) (h2 : h < n) :
    linguistlaw8_EditPlays_L24 n a0 a1 r c nn true 0 R C g (h : Int) (w : Int) l p0 p1 p2 = some (a0, a1, R, C, g, (h : Int), (w : Int), eraseG h w l r c q (p0, p1, p2)) := by
  rw [erase_ref k hr hc hq]
  exact plays_24 hh w1 hw k.1 hc hn hq n 0 (Nat.zero_le _) (by omega)
theorem plays_24h {a0 : List Ask} {a1 r c nn y R C R' C' p0 p1 p2 : Int} {g o : List Cell} {n : Nat} {at_ : Bool} (hq : ¬ nn.tmod 4 < 3) (h : 0 < n) : linguistlaw8_EditPlays_L24 n a0 a1 r c nn at_ y R C g R' C' o p0 p1 p2 = some (a0, a1, R, C, g, R', C', o) := by
  obtain ⟨n, rfl⟩ : ∃ m, n = m + 1 := ⟨n - 1, by omega⟩
  exact plays_24g hq
theorem plays_24k {a0 : List Ask} {a1 r c nn y R C R' C' p0 p1 p2 : Int} {g o : List Cell} {n : Nat} (h : 0 < n) : linguistlaw8_EditPlays_L24 n a0 a1 r c nn false y R C g R' C' o p0 p1 p2 = some (a0, a1, R, C, g, R', C', o) := by
  obtain ⟨n, rfl⟩ : ∃ m, n = m + 1 := ⟨n - 1, by omega⟩
  exact plays_24f
theorem plays_loop {q : List Ask} (hq : ∀ a, a ∈ q → askOk a) {h w : Nat} (h1 : 1 ≤ h) (hh : h ≤ 5) (w1 : 1 ≤ w) (hw : w ≤ 9) : ∀ (n i : Nat) (g : List Cell), i ≤ q.length → i ≤ 20 → (20 - i < n) → GG h w g →
    linguistlaw8_EditPlays_L3 n q (Int.ofNat i) (Int.ofNat h) (Int.ofNat w) g = some (.inr ()) := by
  intro n
  induction n with
  | zero => intro i g h1 h2 h3; omega
  | succ n ih =>
    intro i g g1 g2 g3 k
    rw [linguistlaw8_EditPlays_L3]
    by_cases hi : i < q.length
    · by_cases h20 : i < 20
      · have hl := k.1.1
        have hsm := small_mul (show h ≤ 64 by omega) (show w ≤ 64 by omega)
        have e1 : decide (Int.ofNat i < 20) = true := decide_eq_true (by show (i : Int) < 20; omega)
        have e2 : (decide ((0 : Int) ≤ Int.ofNat i) && decide (i < q.length) && true) = true := by rw [decide_eq_true hi]; simp
        rw [ofNat_lt, decide_eq_true hi, e1, toNat_ofNat']
        rw [decide_eq_true hi] at e2
        rw [e2]
        simp only [cond_true]
        have ha : askOk (q.getD i (0, 0, 0, 0, 0, 0, 0)) := hq _ (by
          rw [List.getD_eq_getElem?_getD, List.getElem?_eq_getElem hi]; exact List.getElem_mem hi)
        generalize q.getD i (0, 0, 0, 0, 0, 0, 0) = a at ha ⊢
        obtain ⟨k1, k2, k3, k4, k5, k6, k7⟩ := ha
        obtain ⟨⟨p0, p1, p2⟩, hp, hpr⟩ := pen_eq a.2.2.2.2.1 a.2.2.2.2.2.1 a.2.2.2.2.2.2 k5 k6 k7
        obtain ⟨r, hr, r0, r1⟩ := within_eq a.2.1 (-1) (h : Int) k2.1 k2.2 (by omega) (by omega) (by omega)
        obtain ⟨c, hc, c0, c1⟩ := within_eq a.2.2.1 (-1) (w : Int) k3.1 k3.2 (by omega) (by omega) (by omega)
        obtain ⟨b, hb, b0, b1⟩ := within_eq a.2.2.1 (-1) (h : Int) k3.1 k3.2 (by omega) (by omega) (by omega)
        obtain ⟨m, hm, m0, m1⟩ := within_eq a.2.2.2.1 0 11 k4.1 k4.2 (by omega) (by omega) (by omega)
        rw [show Int.ofNat h = (h : Int) from rfl, show Int.ofNat w = (w : Int) from rfl] at *
        rw [hp, hr, hc, hm]
        simp only [optK_s]
        rw [hb]
        simp only [optK_s]
        have wneg : IntKind.i64.wrap (0 - m) = -m := by rw [w64 (by omega) (by omega)]; omega
        have fm : farN m = m := by unfold farN; omega
        have step := fun g' (k' : GG h w g') => ih (i + 1) g' (by omega) (by omega) (by omega) k'
        have fin : ∀ g', GG h w g' → (optK (hide linguistlaw8_EditPlays_J38 q (Int.ofNat i) (h : Int) (w : Int) g' (h : Int) (w : Int) g') fun y => sumK y (fun a => some (.inl a)) fun b => linguistlaw8_EditPlays_L3 n b.1 (IntKind.i64.wrap (b.2.1 + 1)) b.2.2.1 b.2.2.2.1 b.2.2.2.2) = some (.inr ()) := fun g' k' => by
          have J := plays_J (a0 := q) (a1 := Int.ofNat i) h1 hh w1 hw k'
          rw [show Int.ofNat h = (h : Int) from rfl, show Int.ofNat w = (w : Int) from rfl] at J
          rw [J]
          simp only [optK_s, sumK]
          rw [wrap_succ (by omega)]
          exact step g' k'
        have I := fun r c => insert_eq (R := (h : Int)) (C := (w : Int)) rfl rfl (show h ≤ 40 by omega) w1 (show w ≤ 60 by omega) hl r c m p0 p1 p2
        have D := fun r c => delete_eq (R := (h : Int)) (C := (w : Int)) rfl rfl (show h ≤ 40 by omega) w1 (show w ≤ 60 by omega) hl r c m p0 p1 p2
        have U := fun r c => editUp_eq (R := (h : Int)) (C := (w : Int)) rfl rfl (show h ≤ 40 by omega) w1 (show w ≤ 60 by omega) hl r c m p0 p1 p2
        have V := fun r c => editDown_eq (R := (h : Int)) (C := (w : Int)) rfl rfl (show h ≤ 40 by omega) w1 (show w ≤ 60 by omega) hl r c m p0 p1 p2
        have E := fun r c => erase_eq (R := (h : Int)) (C := (w : Int)) rfl rfl (show h ≤ 40 by omega) w1 (show w ≤ 60 by omega) hl r c (m.tmod 4) p0 p1 p2
        have N := fun r c => line_eq (R := (h : Int)) (C := (w : Int)) rfl rfl (show h ≤ 40 by omega) w1 (show w ≤ 60 by omega) hl r c (m.tmod 4) p0 p1 p2
        have S1 := fun r c => refShift_eq (R := (h : Int)) (C := (w : Int)) rfl rfl (show h ≤ 40 by omega) w1 (show w ≤ 60 by omega) hl r c m (by omega) p0 p1 p2
        have S2 := fun r c => refShift_eq (R := (h : Int)) (C := (w : Int)) rfl rfl (show h ≤ 40 by omega) w1 (show w ≤ 60 by omega) hl r c (-m) (by omega) p0 p1 p2
        have S2' : ∀ r c, (if 0 ≤ -m then insG h w g r c (-m) (p0, p1, p2) else delG h w g r c (- -m) (p0, p1, p2)) = delG h w g r c m (p0, p1, p2) := fun r c => by
          by_cases z : m = 0
          · subst z; rw [if_pos (by omega)]; exact ins_del_zero hl r c _
          · rw [if_neg (by omega), Int.neg_neg]
        have C1 := fun r c => refScroll_eq (R := (h : Int)) (C := (w : Int)) rfl rfl (show h ≤ 40 by omega) w1 (show w ≤ 60 by omega) hl r c m (by omega) p0 p1 p2
        have C2 := fun r c => refScroll_eq (R := (h : Int)) (C := (w : Int)) rfl rfl (show h ≤ 40 by omega) w1 (show w ≤ 60 by omega) hl r c (-m) (by omega) p0 p1 p2
        have q4 : m.tmod 4 = 0 ∨ m.tmod 4 = 1 ∨ m.tmod 4 = 2 ∨ m.tmod 4 = 3 := by
          obtain ⟨m, rfl⟩ : ∃ n : Nat, m = (n : Int) := ⟨m.toNat, by omega⟩
          have : ((m : Int)).tmod 4 = ((m % 4 : Nat) : Int) := rfl
          omega
        simp only [I, D, U, V, E, N, S1, S2, C1, C2, S2', wneg, fm, optK_s, if_pos m0]
        by_cases rr0 : 0 ≤ r
        · rw [show decide (r ≥ 0) = true from decide_eq_true rr0]
          by_cases rr1 : r < h
          · rw [show decide (r < (h : Int)) = true from decide_eq_true rr1]
            by_cases cc0 : 0 ≤ c
            · rw [show decide (c ≥ 0) = true from decide_eq_true cc0]
              simp only [cond_true]
              by_cases cc1 : c < w
              · have dc : decide (c < (w : Int)) = true := decide_eq_true cc1
                have ew : IntKind.i64.wrap (c + 1) = c + 1 := w64 (by omega) (by omega)
                by_cases q1 : a.1 = 1
                · rw [show (a.1 == 1) = true by rw [q1]; rfl]; exact fin _ (k.ins _ _ _ hpr)
                · rw [show (a.1 == 1) = false by simpa using q1]
                  by_cases q2 : a.1 = 2
                  · rw [show (a.1 == 2) = true by rw [q2]; rfl]; exact fin _ (k.del _ _ _ hpr)
                  · rw [show (a.1 == 2) = false by simpa using q2]
                    by_cases q3 : a.1 = 3
                    · rw [show (a.1 == 3) = true by rw [q3]; rfl]; exact fin _ (k.shift _ _ _ hpr)
                    · rw [show (a.1 == 3) = false by simpa using q3]
                      by_cases q4_ : a.1 = 4
                      · rw [show (a.1 == 4) = true by rw [q4_]; rfl]; exact fin _ (k.shift _ _ _ hpr)
                      · rw [show (a.1 == 4) = false by simpa using q4_]
                        by_cases q5 : a.1 = 5
                        · rw [show (a.1 == 5) = true by rw [q5]; rfl]
                          simp only [cond_true, cond_false, hide_eq linguistlaw8_EditPlays_L24, dc]
                          rcases q4 with q4 | q4 | q4 | q4
                          · rw [plays_24z (r := r) (c := c) (p0 := p0) (p1 := p1) (p2 := p2) hh w1 hw k.1 ⟨rr0, rr1⟩ ⟨cc0, cc1⟩ q4 (by omega) _ (by exact Nat.lt_of_lt_of_le (show h < 5000 by omega) (Nat.le_add_left 5000 _)), q4]
                            exact fin _ (k.erase _ _ _ hpr)
                          · rw [plays_24z (r := r) (c := c) (p0 := p0) (p1 := p1) (p2 := p2) hh w1 hw k.1 ⟨rr0, rr1⟩ ⟨cc0, cc1⟩ q4 (by omega) _ (by exact Nat.lt_of_lt_of_le (show h < 5000 by omega) (Nat.le_add_left 5000 _)), q4]
                            exact fin _ (k.erase _ _ _ hpr)
                          · rw [plays_24z (r := r) (c := c) (p0 := p0) (p1 := p1) (p2 := p2) hh w1 hw k.1 ⟨rr0, rr1⟩ ⟨cc0, cc1⟩ q4 (by omega) _ (by exact Nat.lt_of_lt_of_le (show h < 5000 by omega) (Nat.le_add_left 5000 _)), q4]
                            exact fin _ (k.erase _ _ _ hpr)
                          · rw [plays_24h (by omega) (by exact Nat.lt_of_lt_of_le (show 0 < 5000 by omega) (Nat.le_add_left 5000 _)), q4, show eraseG h w g r c 3 (p0, p1, p2) = g by unfold eraseG; rw [if_neg (by omega)]]
                            exact fin _ k
                        · rw [show (a.1 == 5) = false by simpa using q5]
                          by_cases q6 : a.1 = 6
                          · rw [show (a.1 == 6) = true by rw [q6]; rfl]
                            simp only [cond_true, cond_false, dc]
                            rcases q4 with q4 | q4 | q4 | q4
                            · rw [q4]
                              simp only [show decide ((0 : Int) < 3) = true from rfl, cond_true]
                              show (optK (hide linguistref7_Wipe_F (h : Int) (w : Int) g r (c) ((w : Int)) p0 p1 p2) _) = _
                              rw [refWipe_eq (R := (h : Int)) (C := (w : Int)) (h := h) (w := w) (a := c) rfl rfl (by omega) w1 (by omega) hl (by omega)]
                              simp only [optK_s]
                              rw [show lineG h w g r c 0 (p0, p1, p2) = wipe h w g r c w (p0, p1, p2) by unfold lineG; rw [if_pos ⟨rr0, rr1, cc0, cc1⟩]; rfl]
                              exact fin _ (k.wipe _ _ _ hpr)
                            · rw [q4]
                              simp only [show decide ((1 : Int) < 3) = true from rfl, cond_true]
                              show (optK (hide linguistref7_Wipe_F (h : Int) (w : Int) g r (0) (IntKind.i64.wrap (c + 1)) p0 p1 p2) _) = _
                              rw [ew]
                              rw [refWipe_eq (R := (h : Int)) (C := (w : Int)) (h := h) (w := w) (a := 0) rfl rfl (by omega) w1 (by omega) hl (by omega)]
                              simp only [optK_s]
                              rw [show lineG h w g r c 1 (p0, p1, p2) = wipe h w g r 0 (c + 1) (p0, p1, p2) by unfold lineG; rw [if_pos ⟨rr0, rr1, cc0, cc1⟩]; rfl]
                              exact fin _ (k.wipe _ _ _ hpr)
                            · rw [q4]
                              simp only [show decide ((2 : Int) < 3) = true from rfl, cond_true]
                              show (optK (hide linguistref7_Wipe_F (h : Int) (w : Int) g r (0) ((w : Int)) p0 p1 p2) _) = _
                              rw [refWipe_eq (R := (h : Int)) (C := (w : Int)) (h := h) (w := w) (a := 0) rfl rfl (by omega) w1 (by omega) hl (by omega)]
                              simp only [optK_s]
                              rw [show lineG h w g r c 2 (p0, p1, p2) = wipe h w g r 0 w (p0, p1, p2) by unfold lineG; rw [if_pos ⟨rr0, rr1, cc0, cc1⟩]; rfl]
                              exact fin _ (k.wipe _ _ _ hpr)
                            · rw [q4, show lineG h w g r c 3 (p0, p1, p2) = g by unfold lineG; rw [if_pos ⟨rr0, rr1, cc0, cc1⟩]; rfl]
                              exact fin _ k
                          · rw [show (a.1 == 6) = false by simpa using q6]; exact fin _ k
              · have dc : decide (c < (w : Int)) = false := decide_eq_false cc1
                by_cases q1 : a.1 = 1
                · rw [show (a.1 == 1) = true by rw [q1]; rfl]; exact fin _ (k.ins _ _ _ hpr)
                · rw [show (a.1 == 1) = false by simpa using q1]
                  by_cases q2 : a.1 = 2
                  · rw [show (a.1 == 2) = true by rw [q2]; rfl]; exact fin _ (k.del _ _ _ hpr)
                  · rw [show (a.1 == 2) = false by simpa using q2]
                    by_cases q3 : a.1 = 3
                    · rw [show (a.1 == 3) = true by rw [q3]; rfl]; exact fin _ (k.shift _ _ _ hpr)
                    · rw [show (a.1 == 3) = false by simpa using q3]
                      by_cases q4_ : a.1 = 4
                      · rw [show (a.1 == 4) = true by rw [q4_]; rfl]; exact fin _ (k.shift _ _ _ hpr)
                      · rw [show (a.1 == 4) = false by simpa using q4_]
                        by_cases q5 : a.1 = 5
                        · rw [show (a.1 == 5) = true by rw [q5]; rfl]
                          simp only [cond_true, cond_false, hide_eq linguistlaw8_EditPlays_L24, dc]
                          rw [plays_24k (by exact Nat.lt_of_lt_of_le (show 0 < 5000 by omega) (Nat.le_add_left 5000 _)), show eraseG h w g r c (m.tmod 4) (p0, p1, p2) = g by unfold eraseG; rw [if_neg (by omega)]]
                          exact fin _ k
                        · rw [show (a.1 == 5) = false by simpa using q5]
                          by_cases q6 : a.1 = 6
                          · rw [show (a.1 == 6) = true by rw [q6]; rfl]
                            simp only [cond_true, cond_false, dc]
                            rw [show lineG h w g r c (m.tmod 4) (p0, p1, p2) = g by unfold lineG; rw [if_neg (by omega)]]
                            exact fin _ k
                          · rw [show (a.1 == 6) = false by simpa using q6]; exact fin _ k
            · rw [show decide (c ≥ 0) = false from decide_eq_false cc0]
              simp only [cond_true, cond_false]
              by_cases q1 : a.1 = 1
              · rw [show (a.1 == 1) = true by rw [q1]; rfl]; exact fin _ (k.ins _ _ _ hpr)
              · rw [show (a.1 == 1) = false by simpa using q1]
                by_cases q2 : a.1 = 2
                · rw [show (a.1 == 2) = true by rw [q2]; rfl]; exact fin _ (k.del _ _ _ hpr)
                · rw [show (a.1 == 2) = false by simpa using q2]
                  by_cases q3 : a.1 = 3
                  · rw [show (a.1 == 3) = true by rw [q3]; rfl]; exact fin _ (k.shift _ _ _ hpr)
                  · rw [show (a.1 == 3) = false by simpa using q3]
                    by_cases q4_ : a.1 = 4
                    · rw [show (a.1 == 4) = true by rw [q4_]; rfl]; exact fin _ (k.shift _ _ _ hpr)
                    · rw [show (a.1 == 4) = false by simpa using q4_]
                      by_cases q5 : a.1 = 5
                      · rw [show (a.1 == 5) = true by rw [q5]; rfl]
                        simp only [cond_true, cond_false, hide_eq linguistlaw8_EditPlays_L24]
                        rw [plays_24k (by exact Nat.lt_of_lt_of_le (show 0 < 5000 by omega) (Nat.le_add_left 5000 _)), show eraseG h w g r c (m.tmod 4) (p0, p1, p2) = g by unfold eraseG; rw [if_neg (by omega)]]
                        exact fin _ k
                      · rw [show (a.1 == 5) = false by simpa using q5]
                        by_cases q6 : a.1 = 6
                        · rw [show (a.1 == 6) = true by rw [q6]; rfl]
                          simp only [cond_true, cond_false]
                          rw [show lineG h w g r c (m.tmod 4) (p0, p1, p2) = g by unfold lineG; rw [if_neg (by omega)]]
                          exact fin _ k
                        · rw [show (a.1 == 6) = false by simpa using q6]; exact fin _ k
          · rw [show decide (r < (h : Int)) = false from decide_eq_false rr1]
            simp only [cond_true, cond_false]
            by_cases q1 : a.1 = 1
            · rw [show (a.1 == 1) = true by rw [q1]; rfl]; exact fin _ (k.ins _ _ _ hpr)
            · rw [show (a.1 == 1) = false by simpa using q1]
              by_cases q2 : a.1 = 2
              · rw [show (a.1 == 2) = true by rw [q2]; rfl]; exact fin _ (k.del _ _ _ hpr)
              · rw [show (a.1 == 2) = false by simpa using q2]
                by_cases q3 : a.1 = 3
                · rw [show (a.1 == 3) = true by rw [q3]; rfl]; exact fin _ (k.shift _ _ _ hpr)
                · rw [show (a.1 == 3) = false by simpa using q3]
                  by_cases q4_ : a.1 = 4
                  · rw [show (a.1 == 4) = true by rw [q4_]; rfl]; exact fin _ (k.shift _ _ _ hpr)
                  · rw [show (a.1 == 4) = false by simpa using q4_]
                    by_cases q5 : a.1 = 5
                    · rw [show (a.1 == 5) = true by rw [q5]; rfl]
                      simp only [cond_true, cond_false, hide_eq linguistlaw8_EditPlays_L24]
                      rw [plays_24k (by exact Nat.lt_of_lt_of_le (show 0 < 5000 by omega) (Nat.le_add_left 5000 _)), show eraseG h w g r c (m.tmod 4) (p0, p1, p2) = g by unfold eraseG; rw [if_neg (by omega)]]
                      exact fin _ k
                    · rw [show (a.1 == 5) = false by simpa using q5]
                      by_cases q6 : a.1 = 6
                      · rw [show (a.1 == 6) = true by rw [q6]; rfl]
                        simp only [cond_true, cond_false]
                        rw [show lineG h w g r c (m.tmod 4) (p0, p1, p2) = g by unfold lineG; rw [if_neg (by omega)]]
                        exact fin _ k
                      · rw [show (a.1 == 6) = false by simpa using q6]; exact fin _ k
        · rw [show decide (r ≥ 0) = false from decide_eq_false rr0]
          simp only [cond_true, cond_false]
          by_cases q1 : a.1 = 1
          · rw [show (a.1 == 1) = true by rw [q1]; rfl]; exact fin _ (k.ins _ _ _ hpr)
          · rw [show (a.1 == 1) = false by simpa using q1]
            by_cases q2 : a.1 = 2
            · rw [show (a.1 == 2) = true by rw [q2]; rfl]; exact fin _ (k.del _ _ _ hpr)
            · rw [show (a.1 == 2) = false by simpa using q2]
              by_cases q3 : a.1 = 3
              · rw [show (a.1 == 3) = true by rw [q3]; rfl]; exact fin _ (k.shift _ _ _ hpr)
              · rw [show (a.1 == 3) = false by simpa using q3]
                by_cases q4_ : a.1 = 4
                · rw [show (a.1 == 4) = true by rw [q4_]; rfl]; exact fin _ (k.shift _ _ _ hpr)
                · rw [show (a.1 == 4) = false by simpa using q4_]
                  by_cases q5 : a.1 = 5
                  · rw [show (a.1 == 5) = true by rw [q5]; rfl]
                    simp only [cond_true, cond_false, hide_eq linguistlaw8_EditPlays_L24]
                    rw [plays_24k (by exact Nat.lt_of_lt_of_le (show 0 < 5000 by omega) (Nat.le_add_left 5000 _)), show eraseG h w g r c (m.tmod 4) (p0, p1, p2) = g by unfold eraseG; rw [if_neg (by omega)]]
                    exact fin _ k
                  · rw [show (a.1 == 5) = false by simpa using q5]
                    by_cases q6 : a.1 = 6
                    · rw [show (a.1 == 6) = true by rw [q6]; rfl]
                      simp only [cond_true, cond_false]
                      rw [show lineG h w g r c (m.tmod 4) (p0, p1, p2) = g by unfold lineG; rw [if_neg (by omega)]]
                      exact fin _ k
                    · rw [show (a.1 == 6) = false by simpa using q6]; exact fin _ k
      · have e1 : decide (Int.ofNat i < 20) = false := decide_eq_false (by show ¬ (i : Int) < 20; omega)
        rw [ofNat_lt, decide_eq_true hi, e1]
        rfl
    · rw [ofNat_lt, decide_eq_false hi]
      rfl
theorem editPlays_true (x0 x1 : Int) (x2 x3 : List Int) (x4 : List Ask) (h0 : in64 x0) (h1 : in64 x1) (h2 : ∀ y, y ∈ x2 → in64 y) (h3 : ∀ y, y ∈ x3 → in64 y) (h4 : ∀ a, a ∈ x4 → askOk a) :
    linguistlaw8_EditPlays_F x0 x1 x2 x3 x4 = some true := by
  unfold linguistlaw8_EditPlays_F
  obtain ⟨h, w, g, a1, a2, a3, a4, k, hg⟩ := keepGrid_eq h0 h1 h2 h3
  rw [hg]
  simp only [optK_s, hide_eq linguistlaw8_EditPlays_L3]
  have L := plays_loop h4 a1 a2 a3 a4 (linguistlaw8_EditPlays_fu3 x4 0 (Int.ofNat h) (Int.ofNat w) g) 0 g (Nat.zero_le _) (by omega) (Nat.lt_of_lt_of_le (show 20 - 0 < 5000 by omega) (Nat.le_add_left 5000 _)) k
  rw [show Int.ofNat 0 = (0 : Int) from rfl] at L
  rw [L]
  rfl
end Go.Proofs.YtpneolkfeihkhaaAbs

/- EditPlays, called. -/
namespace Go.Proofs.YtpneolkfeihkhaaAbs
set_option linter.unusedVariables false
set_option maxRecDepth 100000
open Go Go.Proofs Go.RowKit
theorem editPlays_run (x0 : Int) (x1 : Int) (x2 : List (Int)) (x3 : List (Int)) (x4 : List (Int × Int × Int × Int × Int × Int × Int)) (w0 : (Lit.int .i64 x0).wf = true) (w1 : (Lit.int .i64 x1).wf = true) (w2 : (List.length (α := Int) x2 ≤ 9223372036854775807 ∧ ∀ y : Int, List.Mem y x2 → ((Lit.int .i64 y).wf = true))) (w3 : (List.length (α := Int) x3 ≤ 9223372036854775807 ∧ ∀ y : Int, List.Mem y x3 → ((Lit.int .i64 y).wf = true))) (w4 : (List.length (α := Int × Int × Int × Int × Int × Int × Int) x4 ≤ 9223372036854775807 ∧ ∀ y : Int × Int × Int × Int × Int × Int × Int, List.Mem y x4 → ((Lit.int .i64 y.1).wf = true ∧ (Lit.int .i64 y.2.1).wf = true ∧ (Lit.int .i64 y.2.2.1).wf = true ∧ (Lit.int .i64 y.2.2.2.1).wf = true ∧ (Lit.int .i64 y.2.2.2.2.1).wf = true ∧ (Lit.int .i64 y.2.2.2.2.2.1).wf = true ∧ (Lit.int .i64 y.2.2.2.2.2.2).wf = true))) :
    acall (R := Bool) (envL linguistlaw8_EditPlays_su linguistlaw8_EditPlays_ll4 linguistlaw8_EditPlays_cs2 (fun _ _ => false)) 1000 6 [.agg [.int .i64 x0, .int .i64 x1, .list (.one (.int .i64)) x2 false, .list (.one (.int .i64)) x3 false], .list (.cons (.int .i64) (.cons (.int .i64) (.cons (.int .i64) (.cons (.int .i64) (.cons (.int .i64) (.cons (.int .i64) (.one (.int .i64)))))))) x4 false] [] (resK .bool true (fun b => some b)) = some true := by
  have h := linguistlaw8_EditPlays_run x0 x1 x2 x3 x4 (fun b => some b)
  rw [editPlays_true x0 x1 x2 x3 x4 (wf_in64 w0) (wf_in64 w1) (wf_list64 w2) (wf_list64 w3) (fun a ha => by obtain ⟨a1, a2, a3, a4, a5, a6, a7⟩ := w4.2 a ha; exact ⟨wf_in64 a1, wf_in64 a2, wf_in64 a3, wf_in64 a4, wf_in64 a5, wf_in64 a6, wf_in64 a7⟩)] at h
  exact h
end Go.Proofs.YtpneolkfeihkhaaAbs
