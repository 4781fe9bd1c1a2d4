/- Texts of this session, joined (bundle.py): GM2, GM3, GM4, GM5, GM6, GM7, GM8, GM9, GM10, GM11, D9, D10, E10, D11, WGridLaws, WGridWide, WGridWideC, WGridLawsC, AbsOpen. -/
import Derived.ProofKit
import Derived.Deep.Slices
import Derived.WideShapes
import Derived.ChangeArms
import Derived.DataReads
import Derived.DataElems
import Derived.OpenShut
import Derived.Test.YtbaggedkejiakaaBunB4
/- Plain laws: what is put into a grid, what is there. -/
namespace Go.Proofs.YtbaggedkejiakaaAbs
set_option linter.unusedVariables false
set_option linter.unusedSimpArgs false
open Go Go.Proofs
section
variable {α : Type}
theorem set3 {A R B : List α} (c : Nat) (y : α) (hc : c < R.length) : (A ++ R ++ B).set (A.length + c) y = A ++ R.set c y ++ B := by
  rw [List.append_assoc, List.set_append_right _ _ (by omega), Nat.add_sub_cancel_left, List.set_append_left _ _ hc, List.append_assoc]
theorem getD3 {A R B : List α} (c : Nat) (d : α) (hc : c < R.length) : (A ++ R ++ B).getD (A.length + c) d = R.getD c d := by
  simp [List.getD_eq_getElem?_getD, List.getElem?_append_right, List.getElem?_append_left hc]
theorem mid3 {A R B : List α} : ((A ++ R ++ B).drop A.length).take R.length = R := by simp
theorem splice3 {A R B X : List α} (h : X.length = R.length) : splice (A ++ R ++ B) A.length X = A ++ X ++ B := by
  unfold splice
  have e1 : (A ++ R ++ B).take A.length = A := by simp
  have e2 : (A ++ R ++ B).drop (A.length + X.length) = B := by
    rw [h, ← List.length_append, List.drop_left]
  rw [e1, e2]
theorem split3 (l : List α) (o w : Nat) (h : o + w ≤ l.length) : l = l.take o ++ (l.drop o).take w ++ l.drop (o + w) := by
  rw [List.append_assoc, ← List.drop_drop, List.take_append_drop, List.take_append_drop]
end
theorem bnds_ok {a b n : Nat} (h1 : a ≤ b) (h2 : b ≤ n) : bnds (some (Int.ofNat a)) (some (Int.ofNat b)) n = true := by
  simp [bnds]; omega
theorem cutList_ok {α : Type} {l : List α} {a b : Nat} (h1 : a ≤ b) : cutList l (some (Int.ofNat a)) (some (Int.ofNat b)) = (l.drop a).take (b - a) := by
  simp [cutList, List.drop_take]
theorem place_eq (R C : Int) (l : List Cell) (r c : Int) : hide grid_place_F R C l r c = some (decide (0 ≤ r ∧ r < R ∧ 0 ≤ c ∧ c < C)) := by
  rw [hide_eq]; unfold grid_place_F
  by_cases h1 : 0 ≤ r <;> by_cases h2 : r < R <;> by_cases h3 : 0 ≤ c <;> simp [h1, h2, h3]
theorem mul_bound {r w h : Nat} (hr : r < h) : r * w + w ≤ h * w := by
  have : (r + 1) * w ≤ h * w := Nat.mul_le_mul_right w hr
  rw [Nat.add_mul, Nat.one_mul] at this; exact this
theorem small_mul {h w : Nat} (h1 : h ≤ 64) (h2 : w ≤ 64) : h * w ≤ 4096 := Nat.mul_le_mul h1 h2
theorem row_lo (r w : Nat) (hr : r ≤ 64) (hw : w ≤ 64) : IntKind.i64.wrap (Int.ofNat r * Int.ofNat w) = Int.ofNat (r * w) := by
  have := small_mul hr hw
  have e : Int.ofNat r * Int.ofNat w = Int.ofNat (r * w) := by simp
  rw [e, w64 (by simp; omega) (by simp; omega)]
theorem row_hi (r w : Nat) (hr : r ≤ 63) (hw : w ≤ 64) : IntKind.i64.wrap (IntKind.i64.wrap (Int.ofNat r + 1) * Int.ofNat w) = Int.ofNat (r * w + w) := by
  rw [wrap_succ (by omega), row_lo (r + 1) w (by omega) hw, Nat.add_mul, Nat.one_mul]
theorem getD_some' {α : Type} (a d : α) : (some a).getD d = a := rfl
theorem toNat_ofNat' (n : Nat) : (Int.ofNat n).toNat = n := rfl
abbrev Pen := Int × Int × Int
def putRow (row : List Cell) (c : Nat) (x : Int) (p : Pen) : List Cell :=
  if widthP x = 2 then (row.set c (x, 1, p)).set (c + 1) (0, 2, p) else row.set c (x, 0, p)
theorem putRow_length (row : List Cell) (c : Nat) (x : Int) (p : Pen) : (putRow row c x p).length = row.length := by
  unfold putRow; split <;> simp
def inRow (w : Nat) (l : List Cell) (r : Nat) (f : List Cell → List Cell) : List Cell := l.take (r * w) ++ f ((l.drop (r * w)).take w) ++ l.drop (r * w + w)
def put (h w : Nat) (l : List Cell) (r c : Int) (x : Int) (p : Pen) : List Cell :=
  if widthP x = 0 ∨ ¬ (0 ≤ r ∧ r < h ∧ 0 ≤ c ∧ c < w) ∨ (w : Int) < c + widthP x then l else inRow w l r.toNat fun row => mend (putRow row c.toNat x p)
theorem width_cases (x : Int) : widthP x = 0 ∨ widthP x = 1 ∨ widthP x = 2 := by
  unfold widthP
  cases narrowP x <;> cases wideP x <;> simp
theorem put_eq {R C : Int} {h w : Nat} (hR : R = Int.ofNat h) (hC : C = Int.ofNat w) (hh : h ≤ 40) (hw : w ≤ 60) {l : List Cell} (hl : l.length = h * w) {r c x : Int} (hr : -1000 ≤ r ∧ r ≤ 1000) (hc : -1000 ≤ c ∧ c ≤ 1000) (p0 p1 p2 : Int) :
    hide grid_Put_F R C l r c x p0 p1 p2 = some (R, C, put h w l r c x (p0, p1, p2)) := by
  have hsm := small_mul (show h ≤ 64 by omega) (show w ≤ 64 by omega)
  rw [hide_eq]; unfold grid_Put_F
  have e : (l.length.ble 274877906944) = true := Nat.ble_eq_true_of_le (by rw [hl]; omega)
  rw [e, width_eq]
  simp only [cond_true, optK_s, place_eq]
  unfold put
  by_cases hx : widthP x = 0
  · simp [hx]
  · have e1 : (widthP x == 0) = false := beq_false_of_ne hx
    rw [e1]
    simp only [cond_false]
    by_cases hp : 0 ≤ r ∧ r < R ∧ 0 ≤ c ∧ c < C
    · have hp' : 0 ≤ r ∧ r < (h : Int) ∧ 0 ≤ c ∧ c < (w : Int) := by rw [hR, hC] at hp; exact hp
      have e2 : IntKind.i64.wrap (c + widthP x) = c + widthP x := w64 (by rcases width_cases x with k | k | k <;> omega) (by rcases width_cases x with k | k | k <;> omega)
      rw [e2]
      rw [decide_eq_true hp]
      simp only [Bool.not_true, cond_false]
      by_cases hcw : (w : Int) < c + widthP x
      · have : decide (c + widthP x > C) = true := decide_eq_true (by rw [hC]; exact hcw)
        rw [this, if_pos (.inr (.inr hcw))]; rfl
      · have : decide (c + widthP x > C) = false := decide_eq_false (by rw [hC]; simp at hcw ⊢; omega)
        rw [this, if_neg (fun k => k.elim hx fun k => k.elim (fun k => k hp') hcw)]
        obtain ⟨rn, rfl⟩ : ∃ n : Nat, r = Int.ofNat n := ⟨r.toNat, by simp; omega⟩
        obtain ⟨cn, rfl⟩ : ∃ n : Nat, c = Int.ofNat n := ⟨c.toNat, by simp; omega⟩
        have hrn : rn < h := by have := hp'.2.1; simpa using this
        have hcn : cn < w := by have := hp'.2.2.2; simpa using this
        have hb := mul_bound (w := w) hrn
        subst hC
        simp only [row_lo rn w (by omega) (by omega), row_hi rn w (by omega) (by omega), cond_false, getD_some', toNat_ofNat', List.length_set]
        rw [bnds_ok (by omega) (by omega)]
        have e3 : rn * w + w - rn * w = w := by omega
        have e4 : decide ((0 : Int) ≤ Int.ofNat cn) = true := by simp
        simp only [cond_true, e3, e4, ofNat_lt, hcn, decide_true, Bool.and_self]
        -- the grid in three parts
        have hs := split3 l (rn * w) w (by omega)
        have hA : (l.take (rn * w)).length = rn * w := by simp; omega
        have hM : ((l.drop (rn * w)).take w).length = w := by simp; omega
        unfold inRow
        generalize hAA : l.take (rn * w) = A at *
        generalize hMM : (l.drop (rn * w)).take w = M at *
        generalize hBB : l.drop (rn * w + w) = B at *
        subst hs
        clear hAA hMM hBB e
        rw [← hA]
        unfold putRow
        by_cases h2 : widthP x = 2
        · have e5 : (widthP x == 2) = true := by rw [h2]; rfl
          have hc1 : cn + 1 < w := by
            have : ¬ (w : Int) < Int.ofNat cn + 2 := by rw [← h2]; exact hcw
            simp at this; omega
          rw [e5, wrap_succ (by omega)]
          have e6 : decide ((0 : Int) ≤ Int.ofNat (cn + 1)) = true := by simp; omega
          simp only [cond_true, e6, ofNat_lt, hc1, decide_true, Bool.and_self, toNat_ofNat', h2, if_true]
          rw [set3 cn _ (by omega), getD3 cn _ (by simp; omega)]
          have e7 : (M.set cn (x, 0, p0, p1, p2)).getD cn (0, 0, 0, 0, 0) = (x, 0, p0, p1, p2) := by simp [hM, hcn]
          rw [e7, set3 cn _ (by simp; omega), set3 (cn + 1) _ (by simp; omega)]
          simp only [List.set_set]
          have e8 : List.take w (List.drop A.length (A ++ (M.set cn (x, 1, p0, p1, p2)).set (cn + 1) (0, 2, p0, p1, p2) ++ B)) = (M.set cn (x, 1, p0, p1, p2)).set (cn + 1) (0, 2, p0, p1, p2) := by
            have := @mid3 _ A ((M.set cn (x, 1, p0, p1, p2)).set (cn + 1) (0, 2, p0, p1, p2)) B
            rw [show ((M.set cn (x, 1, p0, p1, p2)).set (cn + 1) (0, 2, p0, p1, p2)).length = w by simp [hM]] at this
            exact this
          rw [e8, mend_eq _ (by simp; omega)]
          simp only [optK_s]
          rw [List.take_of_length_le (by rw [mend_length]; simp; omega), splice3 (by rw [mend_length])]
        · have e5 : (widthP x == 2) = false := beq_false_of_ne h2
          rw [e5]
          simp only [cond_false, h2, if_false]
          rw [set3 cn _ (by omega)]
          have e8 : List.take w (List.drop A.length (A ++ M.set cn (x, 0, p0, p1, p2) ++ B)) = M.set cn (x, 0, p0, p1, p2) := by
            have := @mid3 _ A (M.set cn (x, 0, p0, p1, p2)) B
            rw [show (M.set cn (x, 0, p0, p1, p2)).length = w by simp [hM]] at this
            exact this
          rw [e8, mend_eq _ (by simp; omega)]
          simp only [optK_s]
          rw [List.take_of_length_le (by rw [mend_length]; simp; omega), splice3 (by rw [mend_length])]
    · have hp' : ¬ (0 ≤ r ∧ r < (h : Int) ∧ 0 ≤ c ∧ c < (w : Int)) := by rw [hR, hC] at hp; exact hp
      rw [decide_eq_false hp, if_pos (.inr (.inl hp'))]; rfl
end Go.Proofs.YtbaggedkejiakaaAbs

/- Plain laws: cells at places, new grids, grids held against each other, numbers brought into bounds. -/
namespace Go.Proofs.YtbaggedkejiakaaAbs
set_option linter.unusedVariables false
set_option linter.unusedSimpArgs false
open Go Go.Proofs
def at_ (h w : Nat) (l : List Cell) (r c : Int) : Int × Int × Int × Int × Int × Bool :=
  if 0 ≤ r ∧ r < h ∧ 0 ≤ c ∧ c < w then (let x := l.getD (r.toNat * w + c.toNat) dC; (x.1, x.2.1, x.2.2.1, x.2.2.2.1, x.2.2.2.2, true)) else (0, 0, 0, 0, 0, false)
theorem at_eq {R C : Int} {h w : Nat} (hR : R = Int.ofNat h) (hC : C = Int.ofNat w) (hh : h ≤ 40) (hw : w ≤ 60) {l : List Cell} (hl : l.length = h * w) {r c : Int} :
    hide grid_At_F R C l r c = some (at_ h w l r c) := by
  rw [hide_eq]; unfold grid_At_F at_
  simp only [place_eq, optK_s]
  by_cases hp : 0 ≤ r ∧ r < R ∧ 0 ≤ c ∧ c < C
  · have hp' : 0 ≤ r ∧ r < (h : Int) ∧ 0 ≤ c ∧ c < (w : Int) := by rw [hR, hC] at hp; exact hp
    rw [decide_eq_true hp, if_pos hp']
    obtain ⟨rn, rfl⟩ : ∃ n : Nat, r = Int.ofNat n := ⟨r.toNat, by simp; omega⟩
    obtain ⟨cn, rfl⟩ : ∃ n : Nat, c = Int.ofNat n := ⟨c.toNat, by simp; omega⟩
    have hrn : rn < h := by have := hp'.2.1; simpa using this
    have hcn : cn < w := by have := hp'.2.2.2; simpa using this
    have hb := mul_bound (w := w) hrn
    subst hC
    simp only [row_lo rn w (by omega) (by omega), row_hi rn w (by omega) (by omega), toNat_ofNat', Bool.not_true, cond_false]
    rw [bnds_ok (by omega) (by omega), cutList_ok (by omega)]
    have e3 : rn * w + w - rn * w = w := by omega
    have hM : ((l.drop (rn * w)).take w).length = w := by simp; omega
    have e4 : decide ((0 : Int) ≤ Int.ofNat cn) = true := by simp
    rw [e3, hM, e4]
    simp only [ofNat_lt, hcn, decide_true, Bool.and_self, cond_true]
    have e5 : ((l.drop (rn * w)).take w).getD cn (0, 0, 0, 0, 0) = l.getD (rn * w + cn) dC := by
      simp only [List.getD_eq_getElem?_getD, List.getElem?_take, List.getElem?_drop, hcn, if_true]
    rw [e5]
  · have hp' : ¬ (0 ≤ r ∧ r < (h : Int) ∧ 0 ≤ c ∧ c < (w : Int)) := by rw [hR, hC] at hp; exact hp
    rw [decide_eq_false hp, if_neg hp']
    rfl

/-! ### repeated -/
theorem repeat_loop (b : Cell) (N : Nat) (hN : N < 4611686018427387904) : ∀ (n k : Nat) (l : List Cell), l.length = N → 1 ≤ k → k ≤ N → l.take k = List.replicate k b → N - k < n →
    slices_Repeat_api_Cell_L8 n (Int.ofNat k) l = some (List.replicate N b) := by
  intro n
  induction n with
  | zero => intro k l h1 h2 h3 h4 h5; omega
  | succ n ih =>
    intro k l h1 h2 h3 h4 h5
    rw [slices_Repeat_api_Cell_L8]
    rw [ofNat_lt, h1]
    by_cases hk : k < N
    · have b1 : bnds (some (Int.ofNat k)) none N = true := by simp [bnds]; omega
      have b2 : bnds none (some (Int.ofNat k)) N = true := by simp [bnds]; omega
      rw [decide_eq_true hk, b1, b2]
      have e0 : (none.getD (Int.ofNat N)).toNat = N := rfl
      simp only [cond_true, getD_some', toNat_ofNat', Nat.sub_zero, List.drop_zero, e0, h4, List.take_replicate, List.length_replicate]
      have hm : k.min (N - k) = min k (N - k) := rfl
      rw [hm, w64 (by simp; omega) (by simp; omega)]
      have e1 : Int.ofNat k + Int.ofNat (min k (N - k)) = Int.ofNat (k + min k (N - k)) := by simp
      rw [e1, Nat.min_comm (N - k) k]
      refine ih (k + min k (N - k)) _ ?_ (by omega) (by omega) ?_ (by omega)
      · unfold splice; simp; omega
      · unfold splice
        rw [h4, List.replicate_append_replicate, List.take_append_of_le_length (by simp), List.take_of_length_le (by simp)]
    · have : k = N := by omega
      subst this
      rw [decide_eq_false hk]
      rw [List.take_of_length_le (by omega)] at h4
      rw [h4]; rfl
theorem mul_hi_small (y : Int) (h0 : 0 ≤ y) (h1 : y ≤ 4096) : hide math_bits_Mul_F 1 y = some (0, y) := by
  rw [hide_eq]; unfold math_bits_Mul_F
  have a1 : bitsOp BinOp.and IntKind.u64 y 4294967295 = y := by
    have key : ∀ n : Nat, n ≤ 4096 → bitsOp BinOp.and IntKind.u64 (n : Int) 4294967295 = (n : Int) := by
      intro n hn
      have e1 : (BitVec.ofInt 64 (n : Int)) = BitVec.ofNat 64 n := by simp
      have e2 : (BitVec.ofNat 64 n &&& BitVec.ofNat 64 4294967295) = BitVec.ofNat 64 n := by
        apply BitVec.eq_of_toNat_eq
        simp only [BitVec.toNat_and, BitVec.toNat_ofNat]
        have : n % 2 ^ 64 = n := Nat.mod_eq_of_lt (by omega)
        rw [this, show (4294967295 % 2 ^ 64 : Nat) = 2 ^ 32 - 1 from rfl, Nat.and_two_pow_sub_one_eq_mod]
        exact Nat.mod_eq_of_lt (by omega)
      show IntKind.u64.wrap ((BitVec.ofInt 64 (n : Int) &&& BitVec.ofInt 64 4294967295).toNat : Int) = n
      have e3 : (BitVec.ofInt 64 4294967295) = BitVec.ofNat 64 4294967295 := rfl
      rw [e1, e3, e2, IntKind.wrap_u64]
      simp only [BitVec.toNat_ofNat]
      omega
    obtain ⟨n, rfl⟩ : ∃ n : Nat, y = (n : Int) := ⟨y.toNat, by omega⟩
    exact key n (by omega)
  have a2 : bitsOp BinOp.and IntKind.u64 1 4294967295 = 1 := by decide
  have a3 : (1 : Int).fdiv 4294967296 = 0 := by decide
  have a4 : y.fdiv 4294967296 = 0 := by
    rw [Int.fdiv_eq_ediv_of_nonneg _ (by omega)]; omega
  have a5 : IntKind.u64.wrap y = y := by rw [IntKind.wrap_u64]; omega
  have a6 : bitsOp BinOp.and IntKind.u64 0 4294967295 = 0 := by decide
  have a7 : IntKind.u64.wrap 0 = 0 := by decide
  have a8 : (0 : Int).fdiv 4294967296 = 0 := by decide
  simp only [a1, a2, a3, a4, a5, a6, a7, a8, Int.zero_mul, Int.mul_zero, Int.one_mul, Int.add_zero, Int.zero_add, Int.mul_one]
theorem repeat_eq (b : Cell) (n : Nat) (h1 : 1 ≤ n) (h2 : n ≤ 4096) : hide slices_Repeat_api_Cell_F [b] (Int.ofNat n) = some (List.replicate n b) := by
  rw [hide_eq]; unfold slices_Repeat_api_Cell_F
  have e0 : decide (Int.ofNat n < 0) = false := by simp
  rw [e0]
  simp only [cond_false, hide_eq]
  unfold slices_Repeat_api_Cell_J3
  have e1 : IntKind.u64.wrap (Int.ofNat [b].length) = 1 := by simp [IntKind.wrap_u64]
  have e2 : IntKind.u64.wrap (Int.ofNat n) = Int.ofNat n := by rw [IntKind.wrap_u64]; first | (simp; done) | (simp; omega) | (show (n : Int) % _ = n; omega)
  rw [e1, e2, mul_hi_small _ (by simp) (by first | (simp; done) | (simp; omega))]
  simp only [optK_s, hide_eq]
  have e3 : decide ((0 : Int) > 0) = false := by simp
  have e4 : decide (Int.ofNat n > 9223372036854775807) = false := by simp; omega
  rw [e3, e4]
  simp only [cond_false]
  unfold slices_Repeat_api_Cell_J6
  have e5 : IntKind.i64.wrap (Int.ofNat n) = Int.ofNat n := w64 (by first | (simp; done) | (simp; omega)) (by simp; omega)
  rw [e5]
  have e6 : decide ((0 : Int) ≤ Int.ofNat n) = true := by simp
  have e7 : decide (Int.ofNat n ≤ Int.ofNat n) = true := by simp
  have e8 : decide (Int.ofNat n ≤ 274877906944) = true := by simp; omega
  rw [e6, e7, e8]
  simp only [Bool.and_self, cond_true, hide_eq]
  have e9 : (rowN ((0 : Int), (0 : Int), (0 : Int), (0 : Int), (0 : Int)) (Int.ofNat n).toNat) = List.replicate n dC := rfl
  rw [e9]
  have e10 : [b].length.min (List.replicate n dC).length = 1 := by
    rw [List.length_replicate]; exact Nat.min_eq_left h1
  have e11 : splice (List.replicate n dC) 0 (List.take (List.replicate n dC).length [b]) = b :: List.replicate (n - 1) dC := by
    unfold splice
    simp only [List.length_replicate]
    have e12 : List.take n [b] = [b] := List.take_of_length_le (by simpa using h1)
    rw [e12]
    simp
  rw [e10, e11]
  have h := repeat_loop b n (by omega) (slices_Repeat_api_Cell_fu8 (Int.ofNat 1) (b :: List.replicate (n - 1) dC)) 1 (b :: List.replicate (n - 1) dC) (by simp; omega) (by omega) (by omega) (by simp) (by unfold slices_Repeat_api_Cell_fu8; simp; omega)
  rw [h]
  rfl
theorem new_eq {R C : Int} {h w : Nat} (hR : R = Int.ofNat h) (hC : C = Int.ofNat w) (h1 : 1 ≤ h) (hh : h ≤ 40) (w1 : 1 ≤ w) (hw : w ≤ 60) (p0 p1 p2 : Int) :
    hide grid_New_F R C p0 p1 p2 = some (R, C, List.replicate (h * w) (32, 0, p0, p1, p2)) := by
  have hsm := small_mul (show h ≤ 64 by omega) (show w ≤ 64 by omega)
  have hpos : 1 ≤ h * w := Nat.mul_le_mul h1 w1
  rw [hide_eq]; unfold grid_New_F
  simp only [blank_eq, optK_s]
  subst hR hC
  have i1 : ¬ (40 : Int) < Int.ofNat h := by simp; omega
  have i2 : ¬ (60 : Int) < Int.ofNat w := by simp; omega
  simp only [i1, i2, if_false]
  have i3 : (if Int.ofNat h > 1 then Int.ofNat h else 1) = Int.ofNat h := by
    split
    · rfl
    · rename_i k; simp at k ⊢; omega
  have i4 : (if Int.ofNat w > 1 then Int.ofNat w else 1) = Int.ofNat w := by
    split
    · rfl
    · rename_i k; simp at k ⊢; omega
  rw [i3, i4, row_lo h w (by omega) (by omega), repeat_eq _ _ hpos hsm]
  rfl

/-! ### held against each other -/
theorem cell_beq (a b : Cell) : (a.1 == b.1 && (a.2.1 == b.2.1 && (a.2.2.1 == b.2.2.1 && (a.2.2.2.1 == b.2.2.2.1 && (a.2.2.2.2 == b.2.2.2.2 && true))))) = decide (a = b) := by
  obtain ⟨a1, a2, a3, a4, a5⟩ := a
  obtain ⟨b1, b2, b3, b4, b5⟩ := b
  by_cases h : ((a1, a2, a3, a4, a5) : Cell) = (b1, b2, b3, b4, b5)
  · have k := h
    injection k with k1 k; injection k with k2 k; injection k with k3 k; injection k with k4 k5
    subst k1 k2 k3 k4 k5
    simp
  · rw [decide_eq_false h]
    simp only [Prod.mk.injEq] at h
    simp only [Bool.and_true, Bool.and_eq_false_iff, beq_eq_false_iff_ne, ne_eq]
    by_cases c1 : a1 = b1 <;> by_cases c2 : a2 = b2 <;> by_cases c3 : a3 = b3 <;> by_cases c4 : a4 = b4 <;> simp_all
theorem equal_loop (a b : List Cell) (hl : a.length = b.length) (hb : a.length < 4611686018427387904) : ∀ (n i : Nat), i ≤ a.length → a.length - i < n →
    slices_Equal_api_Cell_L4 n a b (Int.ofNat a.length) (Int.ofNat i) = some (if a.drop i = b.drop i then .inr () else .inl false) := by
  intro n
  induction n with
  | zero => intro i h1 h2; omega
  | succ n ih =>
    intro i h1 h2
    rw [slices_Equal_api_Cell_L4]
    by_cases hi : i < a.length
    · have e0 : decide ((0 : Int) ≤ Int.ofNat i) = true := by simp
      rw [ofNat_lt, ofNat_lt, e0, toNat_ofNat', cell_beq, wrap_succ (by omega), ih (i + 1) (by omega) (by omega)]
      have e2 : a.getD i dC = a[i] := by simp [hi]
      have e3 : b.getD i dC = b[i]'(by omega) := by simp [show i < b.length by omega]
      have hi2 : i < b.length := by omega
      simp only [hi, hi2, decide_true, Bool.and_self, cond_true, e2, e3]
      have hc : (a.drop i = b.drop i) ↔ (a[i] = b[i] ∧ a.drop (i + 1) = b.drop (i + 1)) := by
        rw [List.drop_eq_getElem_cons hi, List.drop_eq_getElem_cons hi2]
        exact ⟨fun k => by injection k with k1 k2; exact ⟨k1, k2⟩, fun k => by rw [k.1, k.2]⟩
      by_cases he : a[i] = b[i]
      · rw [decide_eq_true he]
        by_cases hd : a.drop (i + 1) = b.drop (i + 1)
        · rw [if_pos hd, if_pos (hc.2 ⟨he, hd⟩)]; rfl
        · rw [if_neg hd, if_neg (fun k => hd (hc.1 k).2)]; rfl
      · rw [decide_eq_false he, if_neg (fun k => he (hc.1 k).1)]; rfl
    · have : i = a.length := by omega
      subst this
      have e : decide (Int.ofNat a.length < Int.ofNat a.length) = false := by simp
      rw [e, List.drop_length, hl, List.drop_length]
      rfl
theorem equal_eq (a b : List Cell) (hb : a.length < 4611686018427387904) : hide slices_Equal_api_Cell_F a b = some (decide (a = b)) := by
  rw [hide_eq]; unfold slices_Equal_api_Cell_F
  by_cases hl : a.length = b.length
  · have : (Int.ofNat a.length != Int.ofNat b.length) = false := by rw [hl]; simp
    rw [this]
    simp only [cond_false, hide_eq]
    have h := equal_loop a b hl hb (slices_Equal_api_Cell_fu4 a b (Int.ofNat a.length) (Int.ofNat 0)) 0 (by omega) (by unfold slices_Equal_api_Cell_fu4; omega)
    rw [show (0 : Int) = Int.ofNat 0 from rfl, h]
    simp only [List.drop_zero, optK_s]
    by_cases he : a = b
    · simp [he, sumK]
    · simp [he, sumK]
  · have : (Int.ofNat a.length != Int.ofNat b.length) = true := by
      rw [bne_iff_ne]; intro k; exact hl (Int.ofNat.inj k)
    rw [this, decide_eq_false (fun k => hl (by rw [k]))]
    rfl
theorem same_eq (R C R' C' : Int) (a b : List Cell) (hb : a.length < 4611686018427387904) : hide grid_Same_F R C a R' C' b = some (decide (R = R' ∧ C = C' ∧ a = b)) := by
  rw [hide_eq]; unfold grid_Same_F
  rw [equal_eq a b hb]
  by_cases h1 : R = R'
  · by_cases h2 : C = C'
    · simp [h1, h2, optK_s]
    · have : decide (R = R' ∧ C = C' ∧ a = b) = false := decide_eq_false (fun k => h2 k.2.1)
      rw [this, show (C == C') = false from beq_false_of_ne h2, show (R == R') = true from by rw [h1]; simp]; rfl
  · have : decide (R = R' ∧ C = C' ∧ a = b) = false := decide_eq_false (fun k => h1 k.1)
    rw [this, show (R == R') = false from beq_false_of_ne h1]; rfl

/-! ### numbers brought into bounds -/
theorem within_eq (n lo hi : Int) (hn : -9223372036854775808 ≤ n) (hn2 : n < 9223372036854775808) (h0 : -1000000 ≤ lo) (h1 : lo ≤ hi) (h2 : hi < 4611686018427387904) :
    ∃ r, hide linguistbook_Within_F n lo hi = some r ∧ lo ≤ r ∧ r ≤ hi := by
  rw [hide_eq]; unfold linguistbook_Within_F
  rw [w64 (n := hi - lo) (by omega) (by omega), w64 (n := hi - lo + 1) (by omega) (by omega)]
  have e0 : (hi - lo + 1 == 0) = false := beq_false_of_ne (by omega)
  have b1 : n.tmod (hi - lo + 1) < hi - lo + 1 := Int.tmod_lt_of_pos _ (by omega)
  have b2 : -(hi - lo + 1) < n.tmod (hi - lo + 1) := by
    have := Int.lt_tmod_of_pos n (show 0 < hi - lo + 1 by omega); omega
  rw [e0]
  generalize n.tmod (hi - lo + 1) = m at *
  simp only [cond_false]
  by_cases hm : m < 0
  · rw [decide_eq_true hm]
    simp only [cond_true]
    rw [w64 (n := m + hi) (by omega) (by omega), w64 (n := m + hi - lo) (by omega) (by omega), w64 (n := m + hi - lo + 1) (by omega) (by omega), w64 (by omega) (by omega)]
    exact ⟨_, rfl, by omega, by omega⟩
  · rw [decide_eq_false hm]
    simp only [cond_false]
    rw [w64 (by omega) (by omega)]
    exact ⟨_, rfl, by omega, by omega⟩
end Go.Proofs.YtbaggedkejiakaaAbs

/- Plain laws: cells wiped, grids cut to a size, pens out of numbers. -/
namespace Go.Proofs.YtbaggedkejiakaaAbs
set_option linter.unusedVariables false
set_option linter.unusedSimpArgs false
open Go Go.Proofs
/-! ### places filled -/
def fillR {α : Type} (l : List α) (i : Nat) : Nat → α → List α
  | 0, _ => l
  | n + 1, y => fillR (l.set i y) (i + 1) n y
theorem fillR_length {α : Type} (y : α) : ∀ (n : Nat) (l : List α) (i : Nat), (fillR l i n y).length = l.length
  | 0, l, i => rfl
  | n + 1, l, i => by simp [fillR, fillR_length y n]
theorem fillR_get {α : Type} (y d : α) : ∀ (n : Nat) (l : List α) (i j : Nat), (fillR l i n y).getD j d = if i ≤ j ∧ j < i + n ∧ j < l.length then y else l.getD j d
  | 0, l, i, j => by simp [fillR]; intro h1 h2; omega
  | n + 1, l, i, j => by
    rw [fillR, fillR_get y d n]
    simp only [List.length_set]
    by_cases hj : j = i
    · subst hj
      rw [if_neg (by omega)]
      by_cases hl : j < l.length
      · rw [if_pos (by omega)]; simp [hl]
      · rw [if_neg (by omega)]; simp [List.getD_eq_getElem?_getD, hl]
    · have e : (l.set i y).getD j d = l.getD j d := by
        simp [List.getD_eq_getElem?_getD, List.getElem?_set, show ¬ i = j from fun k => hj k.symm]
      rw [e]
      by_cases h : i + 1 ≤ j ∧ j < i + 1 + n ∧ j < l.length
      · rw [if_pos h, if_pos (by omega)]
      · rw [if_neg h, if_neg (by omega)]
theorem fillR3 {α : Type} {A B : List α} (y : α) : ∀ (n c : Nat) (R : List α), c + n ≤ R.length → fillR (A ++ R ++ B) (A.length + c) n y = A ++ fillR R c n y ++ B
  | 0, c, R, h => rfl
  | n + 1, c, R, h => by
    rw [fillR, set3 c y (by omega), Nat.add_assoc, fillR3 y n (c + 1) (R.set c y) (by simp; omega)]
    rfl
def wipeN (w : Nat) (a b : Int) : Nat × Nat := ((max a 0).toNat, (min b w).toNat - (max a 0).toNat)
def wipe (h w : Nat) (l : List Cell) (r a b : Int) (p : Pen) : List Cell :=
  if 0 ≤ r ∧ r < h then inRow w l r.toNat fun row => mend (fillR row (wipeN w a b).1 (wipeN w a b).2 (32, 0, p)) else l
theorem wipe_loop {r t R C p0 p1 p2 x y : Int} {z : List Cell} {o len : Nat} (E : Int) (hE : (if C < t then C else t) = E) (hlen : E ≤ (len : Int)) (hl2 : len ≤ 4096) : ∀ (n c : Nat) (l : List Cell), E.toNat - c < n → c ≤ 4096 →
    grid_Wipe_L6 n r t o len (Int.ofNat c) R C p0 p1 p2 x y l z = some (r, R, C, x, y, fillR l (o + c) (E.toNat - c) (32, 0, p0, p1, p2), z) := by
  intro n
  induction n with
  | zero => intro c l h1 h2; omega
  | succ n ih =>
    intro c l h1 h2
    rw [grid_Wipe_L6, hE]
    by_cases hc : (Int.ofNat c) < E
    · have hc' : (c : Int) < E := hc
      have e0 : decide ((0 : Int) ≤ Int.ofNat c) = true := by simp
      have e1 : decide (Int.ofNat c < Int.ofNat len) = true := decide_eq_true (by show (c : Int) < (len : Int); omega)
      rw [decide_eq_true hc, e0, e1, blank_eq]
      simp only [cond_true, Bool.and_self, optK_s, toNat_ofNat']
      rw [wrap_succ (by omega), ih (c + 1) _ (by omega) (by omega)]
      have e2 : E.toNat - c = (E.toNat - (c + 1)) + 1 := by omega
      rw [e2, fillR]
      rfl
    · have hc' : ¬ (c : Int) < E := hc
      rw [decide_eq_false hc]
      have : E.toNat - c = 0 := by omega
      rw [this]; rfl
theorem wipe_eq {R C : Int} {h w : Nat} (hR : R = Int.ofNat h) (hC : C = Int.ofNat w) (hh : h ≤ 40) (w1 : 1 ≤ w) (hw : w ≤ 60) {l : List Cell} (hl : l.length = h * w) {r a b : Int} (ha : a ≤ 4000) (p0 p1 p2 : Int) :
    hide grid_Wipe_F R C l r a b p0 p1 p2 = some (R, C, wipe h w l r a b (p0, p1, p2)) := by
  have hsm := small_mul (show h ≤ 64 by omega) (show w ≤ 64 by omega)
  rw [hide_eq]; unfold grid_Wipe_F
  have e : (l.length.ble 274877906944) = true := Nat.ble_eq_true_of_le (by rw [hl]; omega)
  rw [e]
  simp only [cond_true, optK_s, place_eq]
  unfold wipe
  by_cases hp : 0 ≤ r ∧ r < (h : Int)
  · have hp2 : 0 ≤ r ∧ r < R ∧ (0 : Int) ≤ 0 ∧ 0 < C := by rw [hR, hC]; exact ⟨hp.1, hp.2, by omega, by show (0 : Int) < (w : Int); omega⟩
    rw [decide_eq_true hp2, if_pos hp]
    simp only [Bool.not_true, cond_false]
    obtain ⟨rn, rfl⟩ : ∃ n : Nat, r = Int.ofNat n := ⟨r.toNat, by simp; omega⟩
    have hrn : rn < h := by have := hp.2; simpa using this
    have hb := mul_bound (w := w) hrn
    subst hC
    simp only [row_lo rn w (by omega) (by omega), row_hi rn w (by omega) (by omega), getD_some', toNat_ofNat']
    rw [bnds_ok (by omega) (by omega)]
    have e3 : rn * w + w - rn * w = w := by omega
    simp only [cond_true, e3, hide_eq grid_Wipe_L6]
    have ea : (if (0 : Int) > a then 0 else a) = Int.ofNat (max a 0).toNat := by
      show _ = (((max a 0).toNat : Nat) : Int)
      split <;> omega
    have eE : (if Int.ofNat w < b then Int.ofNat w else b) = min b (w : Int) := by
      show (if (w : Int) < b then (w : Int) else b) = _
      split <;> omega
    rw [ea, wipe_loop (min b (w : Int)) eE (by omega) (by omega) _ _ _ (by unfold grid_Wipe_fu6; have : (min b (w : Int)).toNat ≤ w := (by omega); omega) (by omega)]
    simp only [optK_s, row_lo rn w (by omega) (by omega), row_hi rn w (by omega) (by omega), getD_some', toNat_ofNat', fillR_length]
    rw [bnds_ok (by omega) (by omega)]
    simp only [cond_true, e3]
    have hs := split3 l (rn * w) w (by omega)
    have hA : (l.take (rn * w)).length = rn * w := by simp; omega
    have hM : ((l.drop (rn * w)).take w).length = w := by simp; omega
    unfold inRow wipeN
    simp only [toNat_ofNat']
    generalize hAA : l.take (rn * w) = A at *
    generalize hMM : (l.drop (rn * w)).take w = M at *
    generalize hBB : l.drop (rn * w + w) = B at *
    generalize (max a 0).toNat = c at *
    subst hs
    clear hAA hMM hBB e
    rw [← hA]
    by_cases hcw : c ≤ w
    · rw [fillR3 _ _ c M (by omega)]
      generalize hX : fillR M c ((min b (w : Int)).toNat - c) (32, 0, p0, p1, p2) = X
      have hXl : X.length = w := by rw [← hX, fillR_length, hM]
      have e8 : List.take w (List.drop A.length (A ++ X ++ B)) = X := by
        have := @mid3 _ A X B
        rw [hXl] at this; exact this
      rw [e8, mend_eq _ (by omega)]
      simp only [optK_s]
      rw [List.take_of_length_le (by rw [mend_length]; omega), splice3 (by rw [mend_length])]
    · have : (min b (w : Int)).toNat - c = 0 := by omega
      rw [this]
      simp only [fillR]
      have e8 : List.take w (List.drop A.length (A ++ M ++ B)) = M := by
        have := @mid3 _ A M B
        rw [hM] at this; exact this
      rw [e8, mend_eq _ (by omega)]
      simp only [optK_s]
      rw [List.take_of_length_le (by rw [mend_length]; omega), splice3 (by rw [mend_length])]
  · have hp2 : ¬ (0 ≤ r ∧ r < R ∧ (0 : Int) ≤ 0 ∧ 0 < C) := by rw [hR]; exact fun k => hp ⟨k.1, k.2.1⟩
    rw [decide_eq_false hp2, if_neg hp]; rfl
end Go.Proofs.YtbaggedkejiakaaAbs

/- Plain laws: texts of rows, pens out of numbers. -/
namespace Go.Proofs.YtbaggedkejiakaaAbs
set_option linter.unusedVariables false
set_option linter.unusedSimpArgs false
open Go Go.Proofs
/-! ### texts -/
def encB (x : Int) : List Int := (bif (decide (IntKind.u32.wrap x ≤ (127 : Int))) then [IntKind.u8.wrap x] else (bif (decide (IntKind.u32.wrap x ≤ (2047 : Int))) then [bitsOp BinOp.or IntKind.u8 (192 : Int) (IntKind.u8.wrap (Int.fdiv x (64 : Int))), bitsOp BinOp.or IntKind.u8 (128 : Int) (bitsOp BinOp.and IntKind.u8 (IntKind.u8.wrap x) (63 : Int))] else (bif (decide (IntKind.u32.wrap x < (55296 : Int))) then [bitsOp BinOp.or IntKind.u8 (224 : Int) (IntKind.u8.wrap (Int.fdiv x (4096 : Int))), bitsOp BinOp.or IntKind.u8 (128 : Int) (bitsOp BinOp.and IntKind.u8 (IntKind.u8.wrap (Int.fdiv x (64 : Int))) (63 : Int)), bitsOp BinOp.or IntKind.u8 (128 : Int) (bitsOp BinOp.and IntKind.u8 (IntKind.u8.wrap x) (63 : Int))] else (bif (decide ((57343 : Int) < IntKind.u32.wrap x)) then (bif (decide (IntKind.u32.wrap x ≤ (65535 : Int))) then [bitsOp BinOp.or IntKind.u8 (224 : Int) (IntKind.u8.wrap (Int.fdiv x (4096 : Int))), bitsOp BinOp.or IntKind.u8 (128 : Int) (bitsOp BinOp.and IntKind.u8 (IntKind.u8.wrap (Int.fdiv x (64 : Int))) (63 : Int)), bitsOp BinOp.or IntKind.u8 (128 : Int) (bitsOp BinOp.and IntKind.u8 (IntKind.u8.wrap x) (63 : Int))] else (bif (decide (IntKind.u32.wrap x > (65535 : Int))) then (bif (decide (IntKind.u32.wrap x ≤ (1114111 : Int))) then [bitsOp BinOp.or IntKind.u8 (240 : Int) (IntKind.u8.wrap (Int.fdiv x (262144 : Int))), bitsOp BinOp.or IntKind.u8 (128 : Int) (bitsOp BinOp.and IntKind.u8 (IntKind.u8.wrap (Int.fdiv x (4096 : Int))) (63 : Int)), bitsOp BinOp.or IntKind.u8 (128 : Int) (bitsOp BinOp.and IntKind.u8 (IntKind.u8.wrap (Int.fdiv x (64 : Int))) (63 : Int)), bitsOp BinOp.or IntKind.u8 (128 : Int) (bitsOp BinOp.and IntKind.u8 (IntKind.u8.wrap x) (63 : Int))] else [(239 : Int), (191 : Int), (189 : Int)]) else [(239 : Int), (191 : Int), (189 : Int)])) else (bif (decide (IntKind.u32.wrap x > (65535 : Int))) then (bif (decide (IntKind.u32.wrap x ≤ (1114111 : Int))) then [bitsOp BinOp.or IntKind.u8 (240 : Int) (IntKind.u8.wrap (Int.fdiv x (262144 : Int))), bitsOp BinOp.or IntKind.u8 (128 : Int) (bitsOp BinOp.and IntKind.u8 (IntKind.u8.wrap (Int.fdiv x (4096 : Int))) (63 : Int)), bitsOp BinOp.or IntKind.u8 (128 : Int) (bitsOp BinOp.and IntKind.u8 (IntKind.u8.wrap (Int.fdiv x (64 : Int))) (63 : Int)), bitsOp BinOp.or IntKind.u8 (128 : Int) (bitsOp BinOp.and IntKind.u8 (IntKind.u8.wrap x) (63 : Int))] else [(239 : Int), (191 : Int), (189 : Int)]) else [(239 : Int), (191 : Int), (189 : Int)])))))
theorem condP {α β : Type} (M : α → β) (c : Bool) {A B : β} {a b : α} (h1 : A = M a) (h2 : B = M b) : (bif c then A else B) = M (bif c then a else b) := by
  cases c
  · exact h2
  · exact h1
theorem text_step (n : Nat) (l : List Cell) (i : Nat) (t : List Int) (hl : l.length < 1000000) (ht : t.length < 1000000) (hi : i < l.length) :
    grid_Text_L5 (n + 1) (.inr (l, Int.ofNat l.length, Int.ofNat i, t)) = (bif (l.getD i dC).2.1 != 2 then grid_Text_L5 n (.inr (l, Int.ofNat l.length, Int.ofNat (i + 1), t ++ encB (l.getD i dC).1)) else grid_Text_L5 n (.inr (l, Int.ofNat l.length, Int.ofNat (i + 1), t))) ∧
    grid_Text_L5 (n + 1) (.inl (l, Int.ofNat l.length, Int.ofNat i, t)) = (bif (l.getD i dC).2.1 != 2 then grid_Text_L5 n (.inr (l, Int.ofNat l.length, Int.ofNat (i + 1), t ++ encB (l.getD i dC).1)) else grid_Text_L5 n (.inl (l, Int.ofNat l.length, Int.ofNat (i + 1), t))) := by
  have e0 : decide ((0 : Int) ≤ Int.ofNat i) = true := by simp
  have b1 : ∀ k, k ≤ 4 → (t.length + k).ble 274877906944 = true := fun k hk => Nat.ble_eq_true_of_le (by omega)
  constructor
  · rw [grid_Text_L5]
    rw [ofNat_lt, e0, wrap_succ (by omega)]
    simp only [hi, decide_true, Bool.and_self, cond_true, Bool.true_and, Bool.and_true, toNat_ofNat', List.length_cons, List.length_nil, Nat.zero_add, Nat.reduceAdd]
    rw [b1 1 (by omega), b1 2 (by omega), b1 3 (by omega), b1 4 (by omega)]
    simp only [cond_true]
    congr 1
    unfold encB
    repeat' (first | rfl | refine condP (fun u => grid_Text_L5 n (.inr (l, Int.ofNat l.length, Int.ofNat (i + 1), t ++ u))) _ ?_ ?_)
  · rw [grid_Text_L5]
    rw [ofNat_lt, e0, wrap_succ (by omega)]
    simp only [hi, decide_true, Bool.and_self, cond_true, Bool.true_and, Bool.and_true, toNat_ofNat', List.length_cons, List.length_nil, Nat.zero_add, Nat.reduceAdd]
    rw [b1 1 (by omega), b1 2 (by omega), b1 3 (by omega), b1 4 (by omega)]
    simp only [cond_true]
    congr 1
    unfold encB
    repeat' (first | rfl | refine condP (fun u => grid_Text_L5 n (.inr (l, Int.ofNat l.length, Int.ofNat (i + 1), t ++ u))) _ ?_ ?_)
def textOf (l : List Cell) : List Int := l.flatMap fun x => if x.2.1 = 2 then [] else encB x.1
theorem textOf_cons (x : Cell) (l : List Cell) : textOf (x :: l) = (if x.2.1 = 2 then [] else encB x.1) ++ textOf l := by simp [textOf]
theorem encB_length (x : Int) : (encB x).length ≤ 4 := by
  unfold encB
  cases decide (IntKind.u32.wrap x ≤ 127) <;> cases decide (IntKind.u32.wrap x ≤ 2047) <;> cases decide (IntKind.u32.wrap x < 55296) <;> cases decide (57343 < IntKind.u32.wrap x) <;> cases decide (IntKind.u32.wrap x ≤ 65535) <;> cases decide (IntKind.u32.wrap x > 65535) <;> cases decide (IntKind.u32.wrap x ≤ 1114111) <;> simp
theorem text_loop (l : List Cell) (hl : l.length ≤ 100) : ∀ (n i : Nat) (t : List Int), i ≤ l.length → t.length ≤ 4 * i → l.length - i < n →
    grid_Text_L5 n (.inr (l, Int.ofNat l.length, Int.ofNat i, t)) = some (t ++ textOf (l.drop i)) ∧ grid_Text_L5 n (.inl (l, Int.ofNat l.length, Int.ofNat i, t)) = some (t ++ textOf (l.drop i)) := by
  intro n
  induction n with
  | zero => intro i t h1 h2 h3; omega
  | succ n ih =>
    intro i t h1 ht h2
    by_cases hi : i < l.length
    · obtain ⟨s1, s2⟩ := text_step n l i t (by omega) (by omega) hi
      have e2 : l.getD i dC = l[i] := by simp [hi]
      rw [s1, s2, e2, List.drop_eq_getElem_cons hi, textOf_cons]
      have hlen := encB_length l[i].1
      by_cases hk : l[i].2.1 = 2
      · rw [show (l[i].2.1 != 2) = false by rw [hk]; rfl]
        simp only [cond_false, hk, if_true, List.nil_append]
        exact ih (i + 1) t (by omega) (by omega) (by omega)
      · rw [show (l[i].2.1 != 2) = true by simpa using hk]
        simp only [cond_true, hk, if_false]
        have := ih (i + 1) (t ++ encB l[i].1) (by omega) (by simp; omega) (by omega)
        rw [List.append_assoc] at this
        exact ⟨this.1, this.1⟩
    · have : i = l.length := by omega
      subst this
      rw [grid_Text_L5, grid_Text_L5]
      have e : decide (Int.ofNat l.length < Int.ofNat l.length) = false := by simp
      rw [e, List.drop_length]
      simp [textOf]
theorem encB_pos (x : Int) : 1 ≤ (encB x).length := by
  unfold encB
  cases decide (IntKind.u32.wrap x ≤ 127) <;> cases decide (IntKind.u32.wrap x ≤ 2047) <;> cases decide (IntKind.u32.wrap x < 55296) <;> cases decide (57343 < IntKind.u32.wrap x) <;> cases decide (IntKind.u32.wrap x ≤ 65535) <;> cases decide (IntKind.u32.wrap x > 65535) <;> cases decide (IntKind.u32.wrap x ≤ 1114111) <;> simp
theorem textOf_length (l : List Cell) : (textOf l).length ≤ 4 * l.length := by
  induction l with
  | nil => simp [textOf]
  | cons x l ih =>
    rw [textOf_cons]
    have := encB_length x.1
    split <;> simp <;> omega
/-- A row's text: of rows that don't begin with a wide rune's other half. -/
theorem text_eq {R C : Int} {h w : Nat} (hR : R = Int.ofNat h) (hC : C = Int.ofNat w) (hh : h ≤ 40) (w1 : 1 ≤ w) (hw : w ≤ 60) {l : List Cell} (hl : l.length = h * w) {r : Nat} (hr : r < h) (hne : textOf ((l.drop (r * w)).take w) ≠ []) :
    hide grid_Text_F R C l (Int.ofNat r) = some (textOf ((l.drop (r * w)).take w)) := by
  rw [hide_eq]; unfold grid_Text_F
  have hp2 : 0 ≤ Int.ofNat r ∧ Int.ofNat r < R ∧ (0 : Int) ≤ 0 ∧ 0 < C := by rw [hR, hC]; exact ⟨by simp, by simp; omega, by omega, by show (0 : Int) < (w : Int); omega⟩
  simp only [place_eq, optK_s]
  rw [decide_eq_true hp2]
  have hb := mul_bound (w := w) hr
  subst hC
  simp only [row_lo r w (by omega) (by omega), row_hi r w (by omega) (by omega), Bool.not_true, cond_false]
  rw [bnds_ok (by omega) (by omega), cutList_ok (by omega)]
  have e3 : r * w + w - r * w = w := by omega
  have hM : ((l.drop (r * w)).take w).length = w := by simp; omega
  rw [e3]
  generalize (l.drop (r * w)).take w = M at *
  simp only [Bool.and_self, cond_true, hide_eq]
  have h := (text_loop M (by omega) (grid_Text_fu5 (.inl (M, Int.ofNat M.length, Int.ofNat 0, []))) 0 [] (by omega) (by simp) (by simp only [grid_Text_fu5]; omega)).2
  rw [show (0 : Int) = Int.ofNat 0 from rfl, h]
  simp only [List.drop_zero, List.nil_append, optK_s]
  have h2 := textOf_length M
  cases ht : textOf M with
  | nil => exact absurd ht hne
  | cons x t =>
    have e1 : neL (x :: t) = true := rfl
    rw [ht] at h2
    have e2 : (x :: t).length.ble 274877906944 = true := Nat.ble_eq_true_of_le (by omega)
    have e4 : Nat.blt 0 (x :: t).length = true := by simp
    have e5 : decide (Int.ofNat (x :: t).length = Int.ofNat (x :: t).length) = true := by simp
    rw [e1, e2, e4]
    simp

/-! ### pens -/
theorem colour_eq (n : Int) (h1 : -9223372036854775808 ≤ n) (h2 : n < 9223372036854775808) : ∃ v, hide linguistkeep_colour_F n = some v ∧ ((-1 ≤ v ∧ v ≤ 255) ∨ (16777216 ≤ v ∧ v < 33554432)) := by
  rw [hide_eq]; unfold linguistkeep_colour_F
  obtain ⟨a, ha, a1, a2⟩ := within_eq n 0 3 h1 h2 (by omega) (by omega) (by omega)
  rw [ha]
  have hd : -9223372036854775808 ≤ n.tdiv 4 ∧ n.tdiv 4 < 9223372036854775808 := by
    have : n.tmod 4 = n - 4 * n.tdiv 4 := Int.tmod_def _ _
    have b1 : n.tmod 4 < 4 := Int.tmod_lt_of_pos _ (by omega)
    have b2 : -4 < n.tmod 4 := by have := Int.lt_tmod_of_pos n (show (0 : Int) < 4 by omega); omega
    omega
  rw [w64 hd.1 hd.2]
  simp only [optK_s]
  cases c0 : a == 0 with
  | true => exact ⟨-1, rfl, .inl (by omega)⟩
  | false =>
    simp only [cond_false]
    cases c1 : a == 1 with
    | true =>
      obtain ⟨b, hb, b1, b2⟩ := within_eq (n.tdiv 4) 0 15 hd.1 hd.2 (by omega) (by omega) (by omega)
      exact ⟨b, by simp only [cond_true, hb, optK_s], .inl (by omega)⟩
    | false =>
      simp only [cond_false]
      cases c2 : a == 2 with
      | true =>
        obtain ⟨b, hb, b1, b2⟩ := within_eq (n.tdiv 4) 0 255 hd.1 hd.2 (by omega) (by omega) (by omega)
        exact ⟨b, by simp only [cond_true, hb, optK_s], .inl (by omega)⟩
      | false =>
        obtain ⟨b, hb, b1, b2⟩ := within_eq (n.tdiv 4) 0 16777215 hd.1 hd.2 (by omega) (by omega) (by omega)
        refine ⟨16777216 + b, by simp only [cond_false, hb, optK_s]; rw [w64 (by omega) (by omega)], .inr (by omega)⟩
def rightColour (v : Int) : Prop := (-1 ≤ v ∧ v ≤ 255) ∨ (16777216 ≤ v ∧ v < 33554432)
def rightPen (p : Pen) : Prop := rightColour p.1 ∧ rightColour p.2.1 ∧ 0 ≤ p.2.2 ∧ p.2.2 ≤ 255
def in64 (n : Int) : Prop := -9223372036854775808 ≤ n ∧ n < 9223372036854775808
theorem pen_eq (a b c : Int) (ha : in64 a) (hb : in64 b) (hc : in64 c) : ∃ p : Pen, hide linguistkeep_Pen_Pen_F a b c = some p ∧ rightPen p := by
  rw [hide_eq]; unfold linguistkeep_Pen_Pen_F
  obtain ⟨x, hx, x1⟩ := colour_eq a ha.1 ha.2
  obtain ⟨y, hy, y1⟩ := colour_eq b hb.1 hb.2
  obtain ⟨z, hz, z1, z2⟩ := within_eq c 0 255 hc.1 hc.2 (by omega) (by omega) (by omega)
  exact ⟨(x, y, z), by simp only [hx, hy, hz, optK_s], x1, y1, z1, z2⟩
end Go.Proofs.YtbaggedkejiakaaAbs

/- Plain laws: grids cut to a size. -/
namespace Go.Proofs.YtbaggedkejiakaaAbs
set_option linter.unusedVariables false
set_option linter.unusedSimpArgs false
open Go Go.Proofs
abbrev plainB : Cell := (32, 0, -1, -1, 0)
def rowOf (w : Nat) (l : List Cell) (r : Nat) : List Cell := (l.drop (r * w)).take w
def resizeRow (w w' : Nat) (row : List Cell) : List Cell := mend (row.take w' ++ List.replicate (w' - w) plainB)
def preR (w w' : Nat) (l : List Cell) (k : Nat) : List Cell := (List.range k).flatMap fun r => resizeRow w w' (rowOf w l r)
def resize (h w : Nat) (l : List Cell) (h' w' : Nat) : List Cell := preR w w' l (min h h') ++ List.replicate ((h' - min h h') * w') plainB
theorem resizeRow_length {w w' : Nat} {row : List Cell} (h : row.length = w) : (resizeRow w w' row).length = w' := by
  unfold resizeRow; rw [mend_length]; simp; omega
theorem rowOf_length {h w : Nat} {l : List Cell} (hl : l.length = h * w) {r : Nat} (hr : r < h) : (rowOf w l r).length = w := by
  have := mul_bound (w := w) hr
  unfold rowOf; simp; omega
theorem preR_succ (w w' : Nat) (l : List Cell) (k : Nat) : preR w w' l (k + 1) = preR w w' l k ++ resizeRow w w' (rowOf w l k) := by
  unfold preR; rw [List.range_succ, List.flatMap_append]; simp
theorem preR_length {h w w' : Nat} {l : List Cell} (hl : l.length = h * w) : ∀ k, k ≤ h → (preR w w' l k).length = k * w'
  | 0, _ => by simp [preR]
  | k + 1, hk => by rw [preR_succ, List.length_append, preR_length hl k (by omega), resizeRow_length (rowOf_length hl (by omega)), Nat.add_mul, Nat.one_mul]
theorem resize_length {h w : Nat} {l : List Cell} (hl : l.length = h * w) (h' w' : Nat) : (resize h w l h' w').length = h' * w' := by
  unfold resize
  rw [List.length_append, preR_length hl _ (by omega), List.length_replicate, ← Nat.add_mul]
  congr 1; omega
theorem resize_loop {h w h' w' : Nat} (hh : h ≤ 40) (hw : w ≤ 60) (hh' : h' ≤ 40) (hw' : w' ≤ 60) {l : List Cell} (hl : l.length = h * w) {x0 x5 x6 : Int} {x9 : List Cell} : ∀ (n k : Nat), k ≤ min h h' → min h h' - k < n →
    grid_Resize_L3 n (Int.ofNat (min h h')) (Int.ofNat k) x0 (Int.ofNat w) l x5 x6 (Int.ofNat h') (Int.ofNat w') x9 (preR w w' l k ++ List.replicate ((h' - k) * w') plainB) = some (x5, x6, Int.ofNat h', Int.ofNat w', x9, resize h w l h' w') := by
  intro n
  induction n with
  | zero => intro k h1 h2; omega
  | succ n ih =>
    intro k h1 h2
    rw [grid_Resize_L3]
    by_cases hk : k < min h h'
    · have hkh : k < h := by omega
      have hkh' : k < h' := by omega
      have hb := mul_bound (w := w) hkh
      have hb' := mul_bound (w := w') hkh'
      have hsm := small_mul (show h ≤ 64 by omega) (show w ≤ 64 by omega)
      have hsm' := small_mul (show h' ≤ 64 by omega) (show w' ≤ 64 by omega)
      have hA : (preR w w' l k).length = k * w' := preR_length hl k (by omega)
      have hsplit : List.replicate ((h' - k) * w') plainB = List.replicate w' plainB ++ List.replicate ((h' - (k + 1)) * w') plainB := by
        rw [List.replicate_append_replicate]
        congr 1
        have : h' - k = (h' - (k + 1)) + 1 := by omega
        rw [this, Nat.add_mul, Nat.one_mul, Nat.add_comm]
      have hlen : (preR w w' l k ++ (List.replicate w' plainB ++ List.replicate ((h' - (k + 1)) * w') plainB)).length = h' * w' := by
        rw [← hsplit]
        rw [List.length_append, hA, List.length_replicate, ← Nat.add_mul]
        congr 1; omega
      rw [ofNat_lt, decide_eq_true hk]
      simp only [cond_true, row_lo k w (by omega) (by omega), row_hi k w (by omega) (by omega), row_lo k w' (by omega) (by omega), row_hi k w' (by omega) (by omega), getD_some', toNat_ofNat', hsplit, hlen]
      rw [bnds_ok (by omega) (by omega), bnds_ok (by omega) (by omega), cutList_ok (by omega)]
      have e3 : k * w + w - k * w = w := by omega
      have e4 : k * w' + w' - k * w' = w' := by omega
      have hrow := rowOf_length hl hkh
      have er : (l.drop (k * w)).take w = rowOf w l k := rfl
      simp only [cond_true, Bool.and_self, e3, e4, er]
      obtain ⟨row, hrw⟩ : ∃ row, rowOf w l k = row := ⟨_, rfl⟩
      rw [hrw] at hrow ⊢
      rw [← List.append_assoc, ← hA]
      have hs1 : splice (preR w w' l k ++ List.replicate w' plainB ++ List.replicate ((h' - (k + 1)) * w') plainB) (preR w w' l k).length (row.take w') = preR w w' l k ++ (row.take w' ++ List.replicate (w' - w) plainB) ++ List.replicate ((h' - (k + 1)) * w') plainB := by
        unfold splice
        have e1 : (preR w w' l k ++ List.replicate w' plainB ++ List.replicate ((h' - (k + 1)) * w') plainB).take (preR w w' l k).length = preR w w' l k := by simp
        have e2 : (preR w w' l k ++ List.replicate w' plainB ++ List.replicate ((h' - (k + 1)) * w') plainB).drop ((preR w w' l k).length + (row.take w').length) = List.replicate (w' - w) plainB ++ List.replicate ((h' - (k + 1)) * w') plainB := by
          rw [List.append_assoc, ← List.drop_drop, List.drop_left, List.drop_append_of_le_length (by simp; omega)]
          congr 1
          rw [List.drop_replicate]; congr 1; simp; omega
        rw [e1, e2]
        simp only [List.append_assoc]
      rw [hs1]
      have hXl : (row.take w' ++ List.replicate (w' - w) plainB).length = w' := by simp; omega
      have hlen2 : (preR w w' l k ++ (row.take w' ++ List.replicate (w' - w) plainB) ++ List.replicate ((h' - (k + 1)) * w') plainB).length = h' * w' := by
        rw [List.length_append, List.length_append, hXl]
        rw [List.length_append, List.length_append] at hlen
        simp only [List.length_replicate] at hlen ⊢
        omega
      rw [hlen2, hA, bnds_ok (by omega) (by omega)]
      simp only [cond_true]
      rw [← hA]
      have e8 : List.take w' (List.drop (preR w w' l k).length (preR w w' l k ++ (row.take w' ++ List.replicate (w' - w) plainB) ++ List.replicate ((h' - (k + 1)) * w') plainB)) = row.take w' ++ List.replicate (w' - w) plainB := by
        have := @mid3 _ (preR w w' l k) (row.take w' ++ List.replicate (w' - w) plainB) (List.replicate ((h' - (k + 1)) * w') plainB)
        rw [hXl] at this; exact this
      rw [e8, mend_eq _ (by omega)]
      simp only [optK_s]
      have e9 : List.take w' (mend (row.take w' ++ List.replicate (w' - w) plainB)) = mend (row.take w' ++ List.replicate (w' - w) plainB) := List.take_of_length_le (by rw [mend_length, hXl]; exact Nat.le_refl _)
      rw [e9, splice3 (by rw [mend_length]), wrap_succ (by omega)]
      have hfin := ih (k + 1) (by omega) (by omega)
      rw [preR_succ, hrw] at hfin
      exact hfin
    · have : k = min h h' := by omega
      subst this
      have e : decide (Int.ofNat (min h h') < Int.ofNat (min h h')) = false := by simp
      rw [e]
      rfl
theorem plain_eq : hide cell_Plain_F = some (-1, -1, 0) := by rw [hide_eq]; rfl
/-- A size brought into the limits. -/
def lim (m : Nat) (n : Int) : Nat := (max 1 (min n m)).toNat
theorem new_lim (a b : Int) (p0 p1 p2 : Int) : hide grid_New_F a b p0 p1 p2 = some (Int.ofNat (lim 40 a), Int.ofNat (lim 60 b), List.replicate (lim 40 a * lim 60 b) (32, 0, p0, p1, p2)) := by
  have h1 : 1 ≤ lim 40 a ∧ lim 40 a ≤ 40 := by unfold lim; omega
  have h2 : 1 ≤ lim 60 b ∧ lim 60 b ≤ 60 := by unfold lim; omega
  have h := new_eq (R := Int.ofNat (lim 40 a)) (C := Int.ofNat (lim 60 b)) rfl rfl h1.1 h1.2 h2.1 h2.2 p0 p1 p2
  rw [hide_eq] at h ⊢
  unfold grid_New_F at h ⊢
  have i1 : (if (if (40 : Int) < a then (40 : Int) else a) > 1 then (if (40 : Int) < a then (40 : Int) else a) else 1) = Int.ofNat (lim 40 a) := by
    show _ = ((lim 40 a : Nat) : Int)
    unfold lim
    split <;> split <;> omega
  have i2 : (if (if (60 : Int) < b then (60 : Int) else b) > 1 then (if (60 : Int) < b then (60 : Int) else b) else 1) = Int.ofNat (lim 60 b) := by
    show _ = ((lim 60 b : Nat) : Int)
    unfold lim
    split <;> split <;> omega
  have j1 : (if (if (40 : Int) < Int.ofNat (lim 40 a) then (40 : Int) else Int.ofNat (lim 40 a)) > 1 then (if (40 : Int) < Int.ofNat (lim 40 a) then (40 : Int) else Int.ofNat (lim 40 a)) else 1) = Int.ofNat (lim 40 a) := by
    have k1 : ¬ (40 : Int) < Int.ofNat (lim 40 a) := by show ¬ (40 : Int) < ((lim 40 a : Nat) : Int); omega
    simp only [k1, if_false]
    have : ((lim 40 a : Nat) : Int) = Int.ofNat (lim 40 a) := rfl
    split <;> omega
  have j2 : (if (if (60 : Int) < Int.ofNat (lim 60 b) then (60 : Int) else Int.ofNat (lim 60 b)) > 1 then (if (60 : Int) < Int.ofNat (lim 60 b) then (60 : Int) else Int.ofNat (lim 60 b)) else 1) = Int.ofNat (lim 60 b) := by
    have k1 : ¬ (60 : Int) < Int.ofNat (lim 60 b) := by show ¬ (60 : Int) < ((lim 60 b : Nat) : Int); omega
    simp only [k1, if_false]
    have : ((lim 60 b : Nat) : Int) = Int.ofNat (lim 60 b) := rfl
    split <;> omega
  rw [i1, i2]
  rw [j1, j2] at h
  exact h
theorem resize_eq {R C : Int} {h w : Nat} (hR : R = Int.ofNat h) (hC : C = Int.ofNat w) (hh : h ≤ 40) (hw : w ≤ 60) {l : List Cell} (hl : l.length = h * w) (a b : Int) :
    hide grid_Resize_F R C l a b = some (Int.ofNat (lim 40 a), Int.ofNat (lim 60 b), resize h w l (lim 40 a) (lim 60 b)) := by
  have h1 : 1 ≤ lim 40 a ∧ lim 40 a ≤ 40 := by unfold lim; omega
  have h2 : 1 ≤ lim 60 b ∧ lim 60 b ≤ 60 := by unfold lim; omega
  rw [hide_eq]; unfold grid_Resize_F
  rw [plain_eq]
  simp only [optK_s, new_lim, hide_eq grid_Resize_L3]
  generalize lim 40 a = h' at *
  generalize lim 60 b = w' at *
  subst hR hC
  have eE : (if Int.ofNat h' < Int.ofNat h then Int.ofNat h' else Int.ofNat h) = Int.ofNat (min h h') := by
    show (if (h' : Int) < (h : Int) then (h' : Int) else (h : Int)) = ((min h h' : Nat) : Int)
    split <;> omega
  rw [eE]
  have e0 : List.replicate (h' * w') plainB = preR w w' l 0 ++ List.replicate ((h' - 0) * w') plainB := by simp [preR]
  have hloop := resize_loop hh hw h1.2 h2.2 hl (x0 := Int.ofNat h) (x5 := 0) (x6 := 0) (x9 := []) (grid_Resize_fu3 (Int.ofNat (min h h')) (Int.ofNat 0) (Int.ofNat h) (Int.ofNat w) l 0 0 (Int.ofNat h') (Int.ofNat w') [] (List.replicate (h' * w') plainB)) 0 (by omega) (by
    unfold grid_Resize_fu3
    have : (Int.ofNat (min h h')).natAbs = min h h' := rfl
    omega)
  rw [← e0] at hloop
  have : (Int.ofNat 0) = (0 : Int) := rfl
  rw [this] at hloop
  rw [hloop]
  rfl
end Go.Proofs.YtbaggedkejiakaaAbs

/- Plain laws: right rows. -/
namespace Go.Proofs.YtbaggedkejiakaaAbs
set_option linter.unusedVariables false
set_option linter.unusedSimpArgs false
open Go Go.Proofs
def kd (l : List Cell) (i : Nat) : Int := (l.getD i dC).2.1
theorem half_iff (l : List Cell) (i : Nat) : halfB l i = true ↔ (kd l i = 1 ∧ (i + 1 = l.length ∨ kd l (i + 1) ≠ 2)) ∨ (kd l i = 2 ∧ (i = 0 ∨ kd l (i - 1) ≠ 1)) := by
  unfold halfB
  show (bif kd l i == 1 then (decide (i + 1 = l.length) || (kd l (i + 1) != 2)) else bif kd l i == 2 then (decide (i = 0) || (kd l (i - 1) != 1)) else false) = true ↔ _
  by_cases h1 : kd l i = 1
  · simp [h1]
  · by_cases h2 : kd l i = 2 <;> simp [h1, h2]
def rightR (l : List Cell) : Prop := ∀ i, i < l.length → halfB l i = false
theorem mend_right {l : List Cell} (h : rightR l) : mend l = l := by
  apply List.ext_getElem (mend_length l)
  intro i h1 h2
  rw [mend_get l i h2]
  unfold mendAt
  rw [h i h2]
  simp [h2]
theorem kd_mend (l : List Cell) (i : Nat) (h : i < l.length) : kd (mend l) i = if halfB l i = true then 0 else kd l i := by
  unfold kd
  rw [mend_getD l i h]
  unfold mendAt
  cases hh : halfB l i
  · simp
  · simp [blankOf]
theorem right_mend (l : List Cell) : rightR (mend l) := by
  intro i hi
  rw [mend_length] at hi
  cases hb : halfB (mend l) i
  · rfl
  · rw [half_iff, mend_length] at hb
    exfalso
    have k0 := kd_mend l i hi
    have n0 : halfB l i = true → False := by
      intro h
      rw [if_pos h] at k0
      rcases hb with ⟨h1, _⟩ | ⟨h1, _⟩ <;> omega
    rw [if_neg n0] at k0
    rw [half_iff] at n0
    rcases hb with ⟨h1, h2⟩ | ⟨h1, h2⟩
    · rw [k0] at h1
      have a1 : i + 1 ≠ l.length := fun h => n0 (Or.inl ⟨h1, Or.inl h⟩)
      have a2 : kd l (i + 1) = 2 := by
        apply Decidable.byContradiction
        intro h
        exact n0 (Or.inl ⟨h1, Or.inr h⟩)
      rcases h2 with h2 | h2
      · exact a1 h2
      · apply h2
        rw [kd_mend l (i + 1) (by omega), if_neg, a2]
        rw [half_iff]
        rintro (⟨h3, _⟩ | ⟨_, h3 | h3⟩)
        · omega
        · omega
        · exact h3 (by simpa using h1)
    · rw [k0] at h1
      have a1 : i ≠ 0 := fun h => n0 (Or.inr ⟨h1, Or.inl h⟩)
      have a2 : kd l (i - 1) = 1 := by
        apply Decidable.byContradiction
        intro h
        exact n0 (Or.inr ⟨h1, Or.inr h⟩)
      rcases h2 with h2 | h2
      · exact a1 h2
      · apply h2
        rw [kd_mend l (i - 1) (by omega), if_neg, a2]
        rw [half_iff]
        have e : i - 1 + 1 = i := by omega
        rw [e]
        rintro (⟨_, h3 | h3⟩ | ⟨h3, _⟩)
        · omega
        · exact h3 h1
        · omega
theorem right_singles {l : List Cell} (h : ∀ x ∈ l, x.2.1 = 0) : rightR l := by
  intro i hi
  cases hb : halfB l i
  · rfl
  · rw [half_iff] at hb
    have : kd l i = 0 := by unfold kd; rw [List.getD_eq_getElem?_getD, List.getElem?_eq_getElem hi]; exact h _ (List.getElem_mem hi)
    omega
theorem right_append {l b : List Cell} (h : rightR l) (hb : ∀ x ∈ b, x.2.1 = 0) : rightR (l ++ b) := by
  intro i hi
  cases hh : halfB (l ++ b) i
  · rfl
  · exfalso
    rw [half_iff] at hh
    have g1 : ∀ j, j < l.length → kd (l ++ b) j = kd l j := fun j hj => by unfold kd; simp [List.getD_eq_getElem?_getD, List.getElem?_append_left hj]
    have g2 : ∀ j, l.length ≤ j → kd (l ++ b) j = 0 := fun j hj => by
      unfold kd
      simp only [List.getD_eq_getElem?_getD, List.getElem?_append_right hj]
      cases hq : b[j - l.length]? with
      | none => rfl
      | some v => exact hb v (List.mem_of_getElem? hq)
    by_cases hl : i < l.length
    · have n0 : ¬ halfB l i = true := by rw [h i hl]; simp
      rw [half_iff] at n0
      rw [g1 i hl] at hh
      rcases hh with ⟨h1, h2⟩ | ⟨h1, h2⟩
      · apply n0
        refine Or.inl ⟨h1, ?_⟩
        by_cases he : i + 1 = l.length
        · exact Or.inl he
        · rw [g1 (i + 1) (by omega)] at h2
          rcases h2 with h2 | h2
          · simp at h2 hi; omega
          · exact Or.inr h2
      · apply n0
        refine Or.inr ⟨h1, ?_⟩
        rcases h2 with h2 | h2
        · exact Or.inl h2
        · rw [g1 (i - 1) (by omega)] at h2; exact Or.inr h2
    · rw [g2 i (by omega)] at hh
      omega
end Go.Proofs.YtbaggedkejiakaaAbs

/- Plain laws: the document's width of a rune. -/
namespace Go.Proofs.YtbaggedkejiakaaAbs
set_option linter.unusedVariables false
set_option linter.unusedSimpArgs false
open Go Go.Proofs
theorem refw_loop (x : Int) (l : List (Int × Int)) (hl : l.length < 4611686018427387904) : ∀ (n i : Nat), i ≤ l.length → l.length - i < n →
    linguistref1_Width_L5 n x l (Int.ofNat l.length) (Int.ofNat i) = some (if (l.drop i).any (fun p => decide (p.1 ≤ x ∧ x ≤ p.2)) then .inl 2 else .inr ()) := by
  intro n
  induction n with
  | zero => intro i h1 h2; omega
  | succ n ih =>
    intro i h1 h2
    rw [linguistref1_Width_L5]
    by_cases hi : i < l.length
    · have e0 : decide ((0 : Int) ≤ Int.ofNat i) = true := by simp
      rw [ofNat_lt, e0]
      simp only [hi, decide_true, cond_true, Bool.and_self]
      rw [List.drop_eq_getElem_cons hi, List.any_cons]
      have e1 : l.getD (Int.ofNat i).toNat (0, 0) = l[i] := by simp [hi]
      rw [e1, wrap_succ (by omega), ih (i + 1) (by omega) (by omega)]
      by_cases a : l[i].1 ≤ x
      · by_cases b : x ≤ l[i].2
        · have e2 : decide (l[i].1 ≤ x ∧ x ≤ l[i].2) = true := decide_eq_true ⟨a, b⟩
          rw [e2]; simp [a, b]
        · have e2 : decide (l[i].1 ≤ x ∧ x ≤ l[i].2) = false := decide_eq_false fun k => b k.2
          rw [e2, Bool.false_or]; simp [a, b]
      · have e2 : decide (l[i].1 ≤ x ∧ x ≤ l[i].2) = false := decide_eq_false fun k => a k.1
        rw [e2, Bool.false_or]; simp [a]
    · have : i = l.length := by omega
      subst this
      simp
theorem refw_eq {x : Int} (hx : -2147483648 ≤ x ∧ x < 2147483648) : hide linguistref1_Width_F x = some (widthP x) := by
  rw [hide_eq]; unfold linguistref1_Width_F
  rw [w64 (by omega) (by omega)]
  have h := refw_loop x [((4352 : Int), (4447 : Int)), ((11904 : Int), (42191 : Int)), ((44032 : Int), (55203 : Int)), ((63744 : Int), (64255 : Int)), ((65072 : Int), (65135 : Int)), ((65280 : Int), (65376 : Int)), ((65504 : Int), (65510 : Int)), ((127744 : Int), (129791 : Int)), ((131072 : Int), (262141 : Int))] (by decide)
    (linguistref1_Width_fu5 x [((4352 : Int), (4447 : Int)), ((11904 : Int), (42191 : Int)), ((44032 : Int), (55203 : Int)), ((63744 : Int), (64255 : Int)), ((65072 : Int), (65135 : Int)), ((65280 : Int), (65376 : Int)), ((65504 : Int), (65510 : Int)), ((127744 : Int), (129791 : Int)), ((131072 : Int), (262141 : Int))] 9 0) 0 (by omega) (by unfold linguistref1_Width_fu5; simp)
  have e9 : (Int.ofNat 9 : Int) = 9 := rfl
  have e0 : (Int.ofNat 0 : Int) = 0 := rfl
  simp only [List.length_cons, List.length_nil, e0, Nat.zero_add, Nat.reduceAdd, e9] at h
  simp only [hide_eq, h]
  simp only [List.drop_zero, List.any_cons, List.any_nil, Bool.or_false, optK_s]
  have hw : (decide (4352 ≤ x ∧ x ≤ 4447) || (decide (11904 ≤ x ∧ x ≤ 42191) || (decide (44032 ≤ x ∧ x ≤ 55203) || (decide (63744 ≤ x ∧ x ≤ 64255) || (decide (65072 ≤ x ∧ x ≤ 65135) || (decide (65280 ≤ x ∧ x ≤ 65376) || (decide (65504 ≤ x ∧ x ≤ 65510) || (decide (127744 ≤ x ∧ x ≤ 129791) || decide (131072 ≤ x ∧ x ≤ 262141))))))))) = wideP x := by
    unfold wideP; simp only [Bool.or_assoc]
  rw [hw]
  have e : ∀ c : Bool, (sumK (if c = true then Sum.inl 2 else Sum.inr () : Int ⊕ Unit) (fun y2a => some y2a) fun y2b => some 1 : Option Int) = some (bif c then 2 else 1) := fun c => by cases c <;> rfl
  simp only [e]
  unfold widthP narrowP
  generalize wideP x = wp
  by_cases a1 : x < 32
  · simp [a1]
  by_cases a2 : x ≥ 127
  · by_cases a3 : x < 160
    · have : x ≤ 159 := by omega
      simp [a1, a2, a3, this]
    by_cases a4 : x ≥ 768
    · by_cases a5 : x ≤ 879
      · simp [a1, a2, a3, a4, a5]
      · by_cases a6 : x > 1114111
        · have : ¬ x ≤ 159 := by omega
          simp [a1, a2, a3, a4, a5, a6]
        · by_cases a7 : x ≥ 55296
          · by_cases a8 : x ≤ 57343
            · simp [a1, a2, a3, a4, a5, a6, a7, a8]
            · have : ¬ x ≤ 159 := by omega
              simp [a1, a2, a3, a4, a5, a6, a7, a8, this]
          · have : ¬ x ≤ 159 := by omega
            simp [a1, a2, a3, a4, a5, a6, a7, this]
    · have b1 : ¬ x ≤ 159 := by omega
      have b2 : ¬ x > 1114111 := by omega
      have b3 : ¬ x ≥ 55296 := by omega
      simp [a1, a2, a3, a4, b1, b2, b3]
  · have b2 : ¬ x > 1114111 := by omega
    have b3 : ¬ x ≥ 55296 := by omega
    have b4 : ¬ x ≥ 768 := by omega
    simp [a1, a2, b2, b3, b4]
end Go.Proofs.YtbaggedkejiakaaAbs

/- Plain laws: what put leaves as it was. -/
namespace Go.Proofs.YtbaggedkejiakaaAbs
set_option linter.unusedVariables false
set_option linter.unusedSimpArgs false
open Go Go.Proofs
theorem half_congr {l m : List Cell} (i : Nat) (hl : l.length = m.length) (h0 : kd l i = kd m i) (h1 : kd l (i + 1) = kd m (i + 1)) (h2 : i ≠ 0 → kd l (i - 1) = kd m (i - 1)) : halfB l i = halfB m i := by
  have : halfB l i = true ↔ halfB m i = true := by
    rw [half_iff, half_iff, hl, h0, h1]
    by_cases hi : i = 0
    · simp [hi]
    · rw [h2 hi]
  cases a : halfB l i <;> cases b : halfB m i <;> simp_all
theorem putRow_getD {row : List Cell} {c : Nat} {x : Int} {p : Pen} {j : Nat} (hj : j < c ∨ (c : Int) + widthP x ≤ j) (hw : widthP x = 1 ∨ widthP x = 2) : (putRow row c x p).getD j dC = row.getD j dC := by
  unfold putRow
  rcases hw with hw | hw
  · rw [if_neg (by rw [hw]; decide)]
    have : c ≠ j := by rw [hw] at hj; omega
    simp [List.getD_eq_getElem?_getD, List.getElem?_set_ne this]
  · rw [if_pos hw]
    have h1 : c ≠ j := by rw [hw] at hj; omega
    have h2 : c + 1 ≠ j := by rw [hw] at hj; omega
    simp [List.getD_eq_getElem?_getD, List.getElem?_set_ne h1, List.getElem?_set_ne h2]
theorem put_keep {row : List Cell} (h : rightR row) {c : Nat} {x : Int} {p : Pen} (hw : widthP x = 1 ∨ widthP x = 2) {i : Nat} (hi : i < row.length) (hn : i + 1 < c ∨ (c : Int) + widthP x < i) : (mend (putRow row c x p)).getD i dC = row.getD i dC := by
  rw [mend_getD _ _ (by rw [putRow_length]; exact hi)]
  have g := fun (j : Nat) (hj : j < c ∨ (c : Int) + widthP x ≤ j) => putRow_getD (row := row) (p := p) hj hw
  have k := fun (j : Nat) (hj : j < c ∨ (c : Int) + widthP x ≤ j) => show kd (putRow row c x p) j = kd row j by unfold kd; rw [g j hj]
  have e : halfB (putRow row c x p) i = false := by
    rw [half_congr i (putRow_length row c x p) (k i (by omega)) (k (i + 1) (by omega)) (fun _ => k (i - 1) (by omega))]
    exact h i hi
  unfold mendAt
  rw [e, cond_false, g i (by omega)]
theorem put_there {row : List Cell} {c : Nat} {x : Int} {p : Pen} (hw : widthP x = 1 ∨ widthP x = 2) (hc : (c : Int) + widthP x ≤ row.length) : ((mend (putRow row c x p)).getD c dC).1 = x := by
  have hcl : c < row.length := by omega
  rw [mend_getD _ _ (by rw [putRow_length]; exact hcl)]
  rcases hw with hw | hw
  · have e1 : (putRow row c x p).getD c dC = (x, 0, p) := by
      unfold putRow; rw [if_neg (by rw [hw]; decide)]; simp [List.getD_eq_getElem?_getD, hcl]
    have e : halfB (putRow row c x p) c = false := by
      cases hb : halfB (putRow row c x p) c
      · rfl
      · rw [half_iff] at hb
        have : kd (putRow row c x p) c = 0 := by unfold kd; rw [e1]
        omega
    unfold mendAt
    rw [e, cond_false, e1]
  · have hc1 : c + 1 < row.length := by omega
    have e1 : (putRow row c x p).getD c dC = (x, 1, p) := by
      unfold putRow; rw [if_pos hw]; simp [List.getD_eq_getElem?_getD, hcl, List.getElem?_set_ne]
    have e2 : (putRow row c x p).getD (c + 1) dC = (0, 2, p) := by
      unfold putRow; rw [if_pos hw]; simp [List.getD_eq_getElem?_getD, hc1]
    have e : halfB (putRow row c x p) c = false := by
      cases hb : halfB (putRow row c x p) c
      · rfl
      · rw [half_iff, putRow_length] at hb
        have k1 : kd (putRow row c x p) c = 1 := by unfold kd; rw [e1]
        have k2 : kd (putRow row c x p) (c + 1) = 2 := by unfold kd; rw [e2]
        omega
    unfold mendAt
    rw [e, cond_false, e1]
end Go.Proofs.YtbaggedkejiakaaAbs

/- Plain laws: right grids, row by row. -/
namespace Go.Proofs.YtbaggedkejiakaaAbs
set_option linter.unusedVariables false
set_option linter.unusedSimpArgs false
open Go Go.Proofs
theorem rowOf_getD {w : Nat} {l : List Cell} {r i : Nat} (hi : i < w) : (rowOf w l r).getD i dC = l.getD (r * w + i) dC := by
  unfold rowOf
  simp [List.getD_eq_getElem?_getD, List.getElem?_take_of_lt hi, List.getElem?_drop]
section
variable {h w : Nat} {l : List Cell} {r : Nat} {f : List Cell → List Cell}
theorem inRow_length (hl : l.length = h * w) (hr : r < h) (hf : (f (rowOf w l r)).length = w) : (inRow w l r f).length = h * w := by
  have := mul_bound (w := w) hr
  unfold inRow
  have hf' : (f ((l.drop (r * w)).take w)).length = w := hf
  simp only [List.length_append, List.length_take, List.length_drop, hf']
  omega
theorem inRow_same (hl : l.length = h * w) (hr : r < h) (hf : (f (rowOf w l r)).length = w) : rowOf w (inRow w l r f) r = f (rowOf w l r) := by
  have hb := mul_bound (w := w) hr
  have hA : (l.take (r * w)).length = r * w := by simp; omega
  show ((l.take (r * w) ++ f (rowOf w l r) ++ l.drop (r * w + w)).drop (r * w)).take w = _
  rw [List.append_assoc, List.drop_append_of_le_length (by omega), List.drop_of_length_le (by omega), List.nil_append, List.take_append_of_le_length (by omega), List.take_of_length_le (by omega)]
theorem inRow_other (hl : l.length = h * w) (hr : r < h) (hf : (f (rowOf w l r)).length = w) {r' : Nat} (hr' : r' < h) (hne : r' ≠ r) : rowOf w (inRow w l r f) r' = rowOf w l r' := by
  have hb := mul_bound (w := w) hr
  have hb' := mul_bound (w := w) hr'
  have hA : (l.take (r * w)).length = r * w := by simp; omega
  show ((l.take (r * w) ++ f (rowOf w l r) ++ l.drop (r * w + w)).drop (r' * w)).take w = (l.drop (r' * w)).take w
  by_cases hlt : r' < r
  · have hb2 := mul_bound (w := w) hlt
    rw [List.append_assoc, List.drop_append_of_le_length (by omega), List.take_append_of_le_length (by rw [List.length_drop]; omega), List.drop_take, List.take_take]
    congr 1
    omega
  · have hb2 := mul_bound (w := w) (show r < r' by omega)
    have hX : (l.take (r * w) ++ f (rowOf w l r)).length = r * w + w := by rw [List.length_append, hA, hf]
    rw [List.drop_append, List.drop_of_length_le (by omega), List.nil_append, List.drop_drop, hX]
    congr 2
    omega
end
def RG (h w : Nat) (l : List Cell) : Prop := l.length = h * w ∧ ∀ r, r < h → rightR (rowOf w l r)
theorem RG.inRow {h w : Nat} {l : List Cell} {r : Nat} {f : List Cell → List Cell} (k : RG h w l) (hr : r < h) (hf : (f (rowOf w l r)).length = w) (hR : rightR (f (rowOf w l r))) : RG h w (inRow w l r f) := by
  refine ⟨inRow_length k.1 hr hf, fun r' hr' => ?_⟩
  by_cases e : r' = r
  · subst e; rw [inRow_same k.1 hr hf]; exact hR
  · rw [inRow_other k.1 hr hf hr' e]; exact k.2 r' hr'
theorem RG.put {h w : Nat} {l : List Cell} (k : RG h w l) (r c x : Int) (p : Pen) : RG h w (put h w l r c x p) := by
  unfold Go.Proofs.YtbaggedkejiakaaAbs.put
  split
  · exact k
  · rename_i hn
    have hr : r.toNat < h := by omega
    exact k.inRow hr (by rw [mend_length, putRow_length, rowOf_length k.1 hr]) (right_mend _)
theorem RG.wipe {h w : Nat} {l : List Cell} (k : RG h w l) (r a b : Int) (p : Pen) : RG h w (wipe h w l r a b p) := by
  unfold Go.Proofs.YtbaggedkejiakaaAbs.wipe
  split
  · rename_i hn
    have hr : r.toNat < h := by omega
    exact k.inRow hr (by rw [mend_length, fillR_length, rowOf_length k.1 hr]) (right_mend _)
  · exact k
theorem RG.blank (h w : Nat) (p : Pen) : RG h w (List.replicate (h * w) (32, 0, p)) := by
  refine ⟨by simp, fun r hr => right_singles fun x hx => ?_⟩
  have : x ∈ List.replicate (h * w) ((32, 0, p) : Cell) := List.mem_of_mem_drop (List.mem_of_mem_take hx)
  rw [List.mem_replicate] at this
  rw [this.2]
/-- Rows tell a grid. -/
theorem rows_ext {h w : Nat} {l m : List Cell} (hl : l.length = h * w) (hm : m.length = h * w) (e : ∀ r, r < h → rowOf w l r = rowOf w m r) : l = m := by
  apply List.ext_getElem (by omega)
  intro i h1 h2
  have hw : 0 < w := by
    rcases Nat.eq_zero_or_pos w with h0 | h0
    · subst h0; simp at hl; omega
    · exact h0
  have hr : i / w < h := by rw [Nat.div_lt_iff_lt_mul hw]; omega
  have hi : i % w < w := Nat.mod_lt _ hw
  have hd : i / w * w + i % w = i := by rw [Nat.mul_comm]; exact Nat.div_add_mod i w
  have a := rowOf_getD (l := l) (r := i / w) hi
  have b := rowOf_getD (l := m) (r := i / w) hi
  rw [e _ hr, b, hd] at a
  simpa [List.getD_eq_getElem?_getD, h1, h2] using a.symm
end Go.Proofs.YtbaggedkejiakaaAbs

/- Plain laws: wiped, resized there and back. -/
namespace Go.Proofs.YtbaggedkejiakaaAbs
set_option linter.unusedVariables false
set_option linter.unusedSimpArgs false
open Go Go.Proofs
theorem wipe_none {h w : Nat} {l : List Cell} (k : RG h w l) (r m : Int) (h0 : 0 ≤ m) (p : Pen) : wipe h w l r m m p = l := by
  unfold wipe
  split
  · rename_i hn
    have hr : r.toNat < h := by omega
    have e : (wipeN w m m).2 = 0 := by unfold wipeN; simp only; omega
    have ef : mend (fillR (rowOf w l r.toNat) (wipeN w m m).1 (wipeN w m m).2 (32, 0, p)) = rowOf w l r.toNat := by
      rw [e]
      show mend (rowOf w l r.toNat) = _
      exact mend_right (k.2 _ hr)
    have hf : (mend (fillR (rowOf w l r.toNat) (wipeN w m m).1 (wipeN w m m).2 (32, 0, p))).length = w := by rw [ef, rowOf_length k.1 hr]
    have hf2 := inRow_length (f := fun row => mend (fillR row (wipeN w m m).1 (wipeN w m m).2 (32, 0, p))) k.1 hr hf
    refine rows_ext hf2 k.1 fun r' hr' => ?_
    by_cases e' : r' = r.toNat
    · subst e'; rw [inRow_same k.1 hr hf]; exact ef
    · rw [inRow_other k.1 hr hf hr' e']
  · rfl
theorem fill_all {w : Nat} {row : List Cell} (hl : row.length = w) (p : Pen) : mend (fillR row (wipeN w 0 w).1 (wipeN w 0 w).2 (32, 0, p)) = List.replicate w (32, 0, p) := by
  have e1 : (wipeN w 0 w).1 = 0 := by unfold wipeN; simp
  have e2 : (wipeN w 0 w).2 = w := by unfold wipeN; simp
  rw [e1, e2]
  have e : fillR row 0 w ((32, 0, p) : Cell) = List.replicate w (32, 0, p) := by
    apply List.ext_getElem (by rw [fillR_length, hl]; simp)
    intro i h1 h2
    have := fillR_get ((32, 0, p) : Cell) dC w row 0 i
    rw [fillR_length] at h1
    rw [if_pos (by omega)] at this
    simpa [List.getD_eq_getElem?_getD, fillR_length, h1] using this
  rw [e]
  exact mend_right (right_singles fun x hx => by rw [(List.mem_replicate.1 hx).2])
theorem rep_row {w h r : Nat} (hr : r < h) (b : Cell) : rowOf w (List.replicate (h * w) b) r = List.replicate w b := by
  have := mul_bound (w := w) hr
  unfold rowOf
  rw [List.drop_replicate, List.take_replicate]
  congr 1
  omega
theorem wipe_full {h w : Nat} {l : List Cell} (k : RG h w l) {r : Nat} (hr : r < h) (p : Pen) {r' : Nat} (hr' : r' < h) : rowOf w (wipe h w l (r : Int) 0 (w : Int) p) r' = if r' = r then List.replicate w (32, 0, p) else rowOf w l r' := by
  have hf := fill_all (rowOf_length k.1 hr) p
  unfold wipe
  rw [if_pos (by omega), Int.toNat_natCast]
  generalize hF : (fun row => mend (fillR row (wipeN w 0 w).1 (wipeN w 0 w).2 (32, 0, p))) = F
  have hF1 : F (rowOf w l r) = List.replicate w (32, 0, p) := by rw [← hF]; exact hf
  have hFl : (F (rowOf w l r)).length = w := by rw [hF1]; simp
  by_cases e : r' = r
  · rw [if_pos e, e, inRow_same k.1 hr hFl, hF1]
  · rw [if_neg e, inRow_other k.1 hr hFl hr' e]
theorem wipe_all {l : List Cell} (k : RG 2 8 l) (p : Pen) : wipe 2 8 (wipe 2 8 l 0 0 8 p) 1 0 8 p = List.replicate (2 * 8) (32, 0, p) := by
  have k1 := k.wipe 0 0 8 p
  have k2 := k1.wipe 1 0 8 p
  have a := fun {r' : Nat} (hr' : r' < 2) => wipe_full (h := 2) (w := 8) k (r := 0) (by omega) p hr'
  have b := fun {r' : Nat} (hr' : r' < 2) => wipe_full (h := 2) (w := 8) k1 (r := 1) (by omega) p hr'
  refine rows_ext k2.1 (by simp) fun r' hr' => ?_
  rw [rep_row hr']
  have b' := b hr'
  have a' := a hr'
  refine b'.trans ?_
  by_cases e : r' = 1
  · rw [if_pos e]
  · rw [if_neg e]
    refine a'.trans ?_
    rw [if_pos (by omega)]
theorem resize_back {l : List Cell} (k : RG 2 8 l) : resize 4 12 (resize 2 8 l 4 12) 2 8 = l := by
  have l0 := rowOf_length k.1 (show 0 < 2 by omega)
  have l1 := rowOf_length k.1 (show 1 < 2 by omega)
  have e12 : ∀ R : List Cell, R.length = 8 → rightR R → resizeRow 8 12 R = R ++ List.replicate 4 plainB := fun R hR hr => by
    unfold resizeRow
    rw [List.take_of_length_le (by omega)]
    exact mend_right (right_append hr fun x hx => by rw [(List.mem_replicate.1 hx).2])
  have e8 : ∀ R : List Cell, R.length = 8 → rightR R → resizeRow 12 8 (R ++ List.replicate 4 plainB) = R := fun R hR hr => by
    unfold resizeRow
    rw [List.take_append_of_le_length (by omega), List.take_of_length_le (by omega)]
    simp only [Nat.reduceSub, List.replicate_zero, List.append_nil]
    exact mend_right hr
  have big : resize 2 8 l 4 12 = (rowOf 8 l 0 ++ List.replicate 4 plainB) ++ ((rowOf 8 l 1 ++ List.replicate 4 plainB) ++ List.replicate 24 plainB) := by
    show preR 8 12 l 2 ++ List.replicate 24 plainB = _
    rw [preR_succ, preR_succ, e12 _ l0 (k.2 0 (by omega)), e12 _ l1 (k.2 1 (by omega))]
    show ([] ++ _ ++ _) ++ _ = _
    simp only [List.nil_append, List.append_assoc]
  have q0 : rowOf 12 (resize 2 8 l 4 12) 0 = rowOf 8 l 0 ++ List.replicate 4 plainB := by
    rw [big]
    show (List.drop (0 * 12) _).take 12 = _
    rw [Nat.zero_mul, List.drop_zero, List.take_append_of_le_length (by simp [l0]), List.take_of_length_le (by simp [l0])]
  have q1 : rowOf 12 (resize 2 8 l 4 12) 1 = rowOf 8 l 1 ++ List.replicate 4 plainB := by
    rw [big]
    show (List.drop (1 * 12) _).take 12 = _
    rw [Nat.one_mul, List.drop_append, List.drop_of_length_le (by simp [l0]), List.nil_append]
    have : 12 - (rowOf 8 l 0 ++ List.replicate 4 plainB).length = 0 := by simp [l0]
    rw [this, List.drop_zero, List.take_append_of_le_length (by simp [l1]), List.take_of_length_le (by simp [l1])]
  generalize hm : resize 2 8 l 4 12 = m at q0 q1
  show preR 12 8 m 2 ++ List.replicate 0 plainB = l
  rw [preR_succ, preR_succ, q0, q1, e8 _ l0 (k.2 0 (by omega)), e8 _ l1 (k.2 1 (by omega))]
  show ([] ++ _ ++ _) ++ _ = _
  simp only [List.nil_append, List.replicate_zero, List.append_nil]
  have hl := k.1
  unfold rowOf
  rw [Nat.zero_mul, List.drop_zero, Nat.one_mul, List.take_of_length_le (l := List.drop 8 l) (by rw [List.length_drop]; omega), List.take_append_drop]
end Go.Proofs.YtbaggedkejiakaaAbs

-- Written by a program of this session (dec.py); Lean checks it.
namespace Go.Proofs.YtbaggedkejiakaaAbs
open Go Go.Proofs
set_option linter.unusedVariables false
noncomputable def linguistlaw7_GridWide_F (x0 : Int) (x1 : Int) (x2 : Int) (x3 : Int) (x4 : Int) (x5 : Int) (x6 : Int) (x7 : Int) : Option (Bool) := (optK ((hide linguistkeep_Pen_Pen_F x2 x3 x4)) fun y0 => (optK ((hide linguistkeep_Pen_Pen_F x5 x6 x7)) fun y1 => (optK ((hide linguistbook_Within_F x0 (0 : Int) (6 : Int))) fun y2 => (optK ((hide linguistbook_Within_F x1 (0 : Int) (999 : Int))) fun y3 => (optK ((hide grid_New_F (1 : Int) (8 : Int) y0.fst y0.snd.fst y0.snd.snd)) fun y4 => (optK ((hide grid_Put_F y4.fst y4.snd.fst y4.snd.snd (0 : Int) y2 (IntKind.i32.wrap (IntKind.i64.wrap ((19968 : Int) + y3))) y1.fst y1.snd.fst y1.snd.snd)) fun y5 => (optK ((hide grid_At_F y5.fst y5.snd.fst y5.snd.snd (0 : Int) y2)) fun y6 => (optK ((hide grid_At_F y5.fst y5.snd.fst y5.snd.snd (0 : Int) (IntKind.i64.wrap (y2 + (1 : Int))))) fun y7 => (bif (!(y6.fst == IntKind.i32.wrap (IntKind.i64.wrap ((19968 : Int) + y3)) && (y6.snd.fst == (1 : Int) && (y6.snd.snd.fst == y1.fst && (y6.snd.snd.snd.fst == y1.snd.fst && (y6.snd.snd.snd.snd.fst == y1.snd.snd && true)))))) then (some (false)) else (bif (!(y7.fst == (0 : Int) && (y7.snd.fst == (2 : Int) && (y7.snd.snd.fst == y1.fst && (y7.snd.snd.snd.fst == y1.snd.fst && (y7.snd.snd.snd.snd.fst == y1.snd.snd && true)))))) then (some (false)) else (optK ((hide grid_Text_F y5.fst y5.snd.fst y5.snd.snd (0 : Int))) fun y8 => (optK ((hide grid_New_F (1 : Int) (8 : Int) y0.fst y0.snd.fst y0.snd.snd)) fun y9 => (optK ((hide grid_Text_F y9.fst y9.snd.fst y9.snd.snd (0 : Int))) fun y10 => (bif (y8 == y10) then (some (false)) else (optK ((hide grid_Put_F y5.fst y5.snd.fst y5.snd.snd (0 : Int) y2 (97 : Int) y0.fst y0.snd.fst y0.snd.snd)) fun y11 => (optK ((hide grid_Put_F y5.fst y5.snd.fst y5.snd.snd (0 : Int) (IntKind.i64.wrap (y2 + (1 : Int))) (98 : Int) y0.fst y0.snd.fst y0.snd.snd)) fun y12 => (optK ((hide grid_At_F y11.fst y11.snd.fst y11.snd.snd (0 : Int) (IntKind.i64.wrap (y2 + (1 : Int))))) fun y13 => (optK ((hide grid_At_F y12.fst y12.snd.fst y12.snd.snd (0 : Int) y2)) fun y14 => (optK ((hide grid_Wipe_F y5.fst y5.snd.fst y5.snd.snd (0 : Int) (IntKind.i64.wrap (y2 + (1 : Int))) (IntKind.i64.wrap (y2 + (2 : Int))) y0.fst y0.snd.fst y0.snd.snd)) fun y15 => (optK ((hide grid_At_F y15.fst y15.snd.fst y15.snd.snd (0 : Int) y2)) fun y16 => (optK ((hide grid_At_F y15.fst y15.snd.fst y15.snd.snd (0 : Int) (IntKind.i64.wrap (y2 + (1 : Int))))) fun y17 => (optK ((hide grid_Resize_F y5.fst y5.snd.fst y5.snd.snd (1 : Int) (IntKind.i64.wrap (y2 + (1 : Int))))) fun y18 => (optK ((hide grid_At_F y18.fst y18.snd.fst y18.snd.snd (0 : Int) y2)) fun y19 => (bif (y13.fst == (32 : Int) && (y13.snd.fst == (0 : Int) && (y13.snd.snd.fst == y1.fst && (y13.snd.snd.snd.fst == y1.snd.fst && (y13.snd.snd.snd.snd.fst == y1.snd.snd && true))))) then (bif (y14.fst == (32 : Int) && (y14.snd.fst == (0 : Int) && (y14.snd.snd.fst == y1.fst && (y14.snd.snd.snd.fst == y1.snd.fst && (y14.snd.snd.snd.snd.fst == y1.snd.snd && true))))) then (bif (y16.fst == (32 : Int) && (y16.snd.fst == (0 : Int) && (y16.snd.snd.fst == y1.fst && (y16.snd.snd.snd.fst == y1.snd.fst && (y16.snd.snd.snd.snd.fst == y1.snd.snd && true))))) then (bif (y17.fst == (32 : Int) && (y17.snd.fst == (0 : Int) && (y17.snd.snd.fst == y0.fst && (y17.snd.snd.snd.fst == y0.snd.fst && (y17.snd.snd.snd.snd.fst == y0.snd.snd && true))))) then (bif (y19.snd.snd.snd.snd.snd) then (bif (y19.fst == (32 : Int) && (y19.snd.fst == (0 : Int) && (y19.snd.snd.fst == y1.fst && (y19.snd.snd.snd.fst == y1.snd.fst && (y19.snd.snd.snd.snd.fst == y1.snd.snd && true))))) then (optK ((hide grid_Put_F y5.fst y5.snd.fst y5.snd.snd (0 : Int) (7 : Int) (IntKind.i32.wrap (IntKind.i64.wrap ((19968 : Int) + y3))) y0.fst y0.snd.fst y0.snd.snd)) fun y20 => (optK ((hide grid_Same_F y20.fst y20.snd.fst y20.snd.snd y5.fst y5.snd.fst y5.snd.snd)) fun y21 => (bif y21 then (some (true)) else (some (false))))) else (some (false))) else (some (false))) else (some (false))) else (some (false))) else (some (false))) else (some (false))))))))))))))))))))))))))
noncomputable def linguistlaw7_GridWide_A : SkL := (.cons (.int .i64) (.cons (.int .i64) (.cons (.agg (.cons (.int .i64) (.cons (.int .i64) (.cons (.int .i64) .nil)))) (.cons (.agg (.cons (.int .i64) (.cons (.int .i64) (.cons (.int .i64) .nil)))) .nil))))
noncomputable def linguistlaw7_GridWide_B : Sk := .bool
def linguistlaw7_GridWide_m {R : Type} (K : Bool → Option R) (o : Option (Bool)) : Option R := optK o fun y => K y
theorem linguistlaw7_GridWide_run {R : Type} (x0 : Int) (x1 : Int) (x2 : Int) (x3 : Int) (x4 : Int) (x5 : Int) (x6 : Int) (x7 : Int) (K : Bool → Option R) : acall (envL sums8 ll0 cs0 (fun _ _ => false)) 1000 7 (linguistlaw7_GridWide_A.enc (x0, (x1, ((x2, (x3, (x4, ()))), ((x5, (x6, (x7, ()))), ()))))) [] (resK linguistlaw7_GridWide_B true K) = linguistlaw7_GridWide_m K (linguistlaw7_GridWide_F x0 x1 x2 x3 x4 x5 x6 x7) := by
  refine Eq.trans (b := (optK ((hide linguistkeep_Pen_Pen_F x2 x3 x4)) fun y0 => (optK ((hide linguistkeep_Pen_Pen_F x5 x6 x7)) fun y1 => (optK ((hide linguistbook_Within_F x0 (0 : Int) (6 : Int))) fun y2 => (optK ((hide linguistbook_Within_F x1 (0 : Int) (999 : Int))) fun y3 => (optK ((hide grid_New_F (1 : Int) (8 : Int) y0.fst y0.snd.fst y0.snd.snd)) fun y4 => (optK ((hide grid_Put_F y4.fst y4.snd.fst y4.snd.snd (0 : Int) y2 (IntKind.i32.wrap (IntKind.i64.wrap ((19968 : Int) + y3))) y1.fst y1.snd.fst y1.snd.snd)) fun y5 => (optK ((hide grid_At_F y5.fst y5.snd.fst y5.snd.snd (0 : Int) y2)) fun y6 => (optK ((hide grid_At_F y5.fst y5.snd.fst y5.snd.snd (0 : Int) (IntKind.i64.wrap (y2 + (1 : Int))))) fun y7 => (bif (!(y6.fst == IntKind.i32.wrap (IntKind.i64.wrap ((19968 : Int) + y3)) && (y6.snd.fst == (1 : Int) && (y6.snd.snd.fst == y1.fst && (y6.snd.snd.snd.fst == y1.snd.fst && (y6.snd.snd.snd.snd.fst == y1.snd.snd && true)))))) then (K (false)) else (bif (!(y7.fst == (0 : Int) && (y7.snd.fst == (2 : Int) && (y7.snd.snd.fst == y1.fst && (y7.snd.snd.snd.fst == y1.snd.fst && (y7.snd.snd.snd.snd.fst == y1.snd.snd && true)))))) then (K (false)) else (optK ((hide grid_Text_F y5.fst y5.snd.fst y5.snd.snd (0 : Int))) fun y8 => (optK ((hide grid_New_F (1 : Int) (8 : Int) y0.fst y0.snd.fst y0.snd.snd)) fun y9 => (optK ((hide grid_Text_F y9.fst y9.snd.fst y9.snd.snd (0 : Int))) fun y10 => (bif (y8 == y10) then (K (false)) else (optK ((hide grid_Put_F y5.fst y5.snd.fst y5.snd.snd (0 : Int) y2 (97 : Int) y0.fst y0.snd.fst y0.snd.snd)) fun y11 => (optK ((hide grid_Put_F y5.fst y5.snd.fst y5.snd.snd (0 : Int) (IntKind.i64.wrap (y2 + (1 : Int))) (98 : Int) y0.fst y0.snd.fst y0.snd.snd)) fun y12 => (optK ((hide grid_At_F y11.fst y11.snd.fst y11.snd.snd (0 : Int) (IntKind.i64.wrap (y2 + (1 : Int))))) fun y13 => (optK ((hide grid_At_F y12.fst y12.snd.fst y12.snd.snd (0 : Int) y2)) fun y14 => (optK ((hide grid_Wipe_F y5.fst y5.snd.fst y5.snd.snd (0 : Int) (IntKind.i64.wrap (y2 + (1 : Int))) (IntKind.i64.wrap (y2 + (2 : Int))) y0.fst y0.snd.fst y0.snd.snd)) fun y15 => (optK ((hide grid_At_F y15.fst y15.snd.fst y15.snd.snd (0 : Int) y2)) fun y16 => (optK ((hide grid_At_F y15.fst y15.snd.fst y15.snd.snd (0 : Int) (IntKind.i64.wrap (y2 + (1 : Int))))) fun y17 => (optK ((hide grid_Resize_F y5.fst y5.snd.fst y5.snd.snd (1 : Int) (IntKind.i64.wrap (y2 + (1 : Int))))) fun y18 => (optK ((hide grid_At_F y18.fst y18.snd.fst y18.snd.snd (0 : Int) y2)) fun y19 => (bif (y13.fst == (32 : Int) && (y13.snd.fst == (0 : Int) && (y13.snd.snd.fst == y1.fst && (y13.snd.snd.snd.fst == y1.snd.fst && (y13.snd.snd.snd.snd.fst == y1.snd.snd && true))))) then (bif (y14.fst == (32 : Int) && (y14.snd.fst == (0 : Int) && (y14.snd.snd.fst == y1.fst && (y14.snd.snd.snd.fst == y1.snd.fst && (y14.snd.snd.snd.snd.fst == y1.snd.snd && true))))) then (bif (y16.fst == (32 : Int) && (y16.snd.fst == (0 : Int) && (y16.snd.snd.fst == y1.fst && (y16.snd.snd.snd.fst == y1.snd.fst && (y16.snd.snd.snd.snd.fst == y1.snd.snd && true))))) then (bif (y17.fst == (32 : Int) && (y17.snd.fst == (0 : Int) && (y17.snd.snd.fst == y0.fst && (y17.snd.snd.snd.fst == y0.snd.fst && (y17.snd.snd.snd.snd.fst == y0.snd.snd && true))))) then (bif (y19.snd.snd.snd.snd.snd) then (bif (y19.fst == (32 : Int) && (y19.snd.fst == (0 : Int) && (y19.snd.snd.fst == y1.fst && (y19.snd.snd.snd.fst == y1.snd.fst && (y19.snd.snd.snd.snd.fst == y1.snd.snd && true))))) then (optK ((hide grid_Put_F y5.fst y5.snd.fst y5.snd.snd (0 : Int) (7 : Int) (IntKind.i32.wrap (IntKind.i64.wrap ((19968 : Int) + y3))) y0.fst y0.snd.fst y0.snd.snd)) fun y20 => (optK ((hide grid_Same_F y20.fst y20.snd.fst y20.snd.snd y5.fst y5.snd.fst y5.snd.snd)) fun y21 => (bif y21 then (K (true)) else (K (false))))) else (K (false))) else (K (false))) else (K (false))) else (K (false))) else (K (false))) else (K (false))))))))))))))))))))))))))) (by kernel_rfl) ?_
  unfold linguistlaw7_GridWide_F
  exact (optK_push (linguistlaw7_GridWide_m K) rfl _ fun y0 => (optK_push (linguistlaw7_GridWide_m K) rfl _ fun y1 => (optK_push (linguistlaw7_GridWide_m K) rfl _ fun y2 => (optK_push (linguistlaw7_GridWide_m K) rfl _ fun y3 => (optK_push (linguistlaw7_GridWide_m K) rfl _ fun y4 => (optK_push (linguistlaw7_GridWide_m K) rfl _ fun y5 => (optK_push (linguistlaw7_GridWide_m K) rfl _ fun y6 => (optK_push (linguistlaw7_GridWide_m K) rfl _ fun y7 => (cond_push (linguistlaw7_GridWide_m K) _ rfl (cond_push (linguistlaw7_GridWide_m K) _ rfl (optK_push (linguistlaw7_GridWide_m K) rfl _ fun y8 => (optK_push (linguistlaw7_GridWide_m K) rfl _ fun y9 => (optK_push (linguistlaw7_GridWide_m K) rfl _ fun y10 => (cond_push (linguistlaw7_GridWide_m K) _ rfl (optK_push (linguistlaw7_GridWide_m K) rfl _ fun y11 => (optK_push (linguistlaw7_GridWide_m K) rfl _ fun y12 => (optK_push (linguistlaw7_GridWide_m K) rfl _ fun y13 => (optK_push (linguistlaw7_GridWide_m K) rfl _ fun y14 => (optK_push (linguistlaw7_GridWide_m K) rfl _ fun y15 => (optK_push (linguistlaw7_GridWide_m K) rfl _ fun y16 => (optK_push (linguistlaw7_GridWide_m K) rfl _ fun y17 => (optK_push (linguistlaw7_GridWide_m K) rfl _ fun y18 => (optK_push (linguistlaw7_GridWide_m K) rfl _ fun y19 => (cond_push (linguistlaw7_GridWide_m K) _ (cond_push (linguistlaw7_GridWide_m K) _ (cond_push (linguistlaw7_GridWide_m K) _ (cond_push (linguistlaw7_GridWide_m K) _ (cond_push (linguistlaw7_GridWide_m K) _ (cond_push (linguistlaw7_GridWide_m K) _ (optK_push (linguistlaw7_GridWide_m K) rfl _ fun y20 => (optK_push (linguistlaw7_GridWide_m K) rfl _ fun y21 => (cond_push (linguistlaw7_GridWide_m K) _ rfl rfl))) rfl) rfl) rfl) rfl) rfl) rfl))))))))))))))))))))))))
noncomputable def linguistlaw7_GridWide_G : GoF linguistlaw7_GridWide_A linguistlaw7_GridWide_B := fun R (x : (Int × (Int × ((Int × (Int × (Int × Unit))) × ((Int × (Int × (Int × Unit))) × Unit))))) K => linguistlaw7_GridWide_m K (hide linguistlaw7_GridWide_F x.1 x.2.1 x.2.2.1.1 x.2.2.1.2.1 x.2.2.1.2.2.1 x.2.2.2.1.1 x.2.2.2.1.2.1 x.2.2.2.1.2.2.1)
theorem linguistlaw7_GridWide_known : Known Try.prog 7 linguistlaw7_GridWide_A linguistlaw7_GridWide_B true linguistlaw7_GridWide_G := known_of (envL_ok sums8_ok ll0_ok cs0_ok) (n := 1000) rfl fun R (x : (Int × (Int × ((Int × (Int × (Int × Unit))) × ((Int × (Int × (Int × Unit))) × Unit))))) K => by
  show _ = linguistlaw7_GridWide_m K (hide linguistlaw7_GridWide_F x.1 x.2.1 x.2.2.1.1 x.2.2.1.2.1 x.2.2.1.2.2.1 x.2.2.2.1.1 x.2.2.2.1.2.1 x.2.2.2.1.2.2.1)
  rw [hide_eq]
  exact linguistlaw7_GridWide_run x.1 x.2.1 x.2.2.1.1 x.2.2.1.2.1 x.2.2.1.2.2.1 x.2.2.2.1.1 x.2.2.2.1.2.1 x.2.2.2.1.2.2.1 K
end Go.Proofs.YtbaggedkejiakaaAbs

-- Written by a program of this session (dec.py); Lean checks it.
namespace Go.Proofs.YtbaggedkejiakaaAbs
open Go Go.Proofs
set_option linter.unusedVariables false
noncomputable def grid_Newf_F (x0 : Int) (x1 : Int) (x2 : Int) (x3 : Int) (x4 : Int) : Option (Int × Int × (List (Int × Int × Int × Int × Int))) := (optK ((hide cell_Blank_F x2 x3 x4)) fun y0 => (optK ((hide slices_Repeat_api_Cell_F [(y0.fst, y0.snd.fst, y0.snd.snd.fst, y0.snd.snd.snd.fst, y0.snd.snd.snd.snd)] (IntKind.i64.wrap ((if (if (40 : Int) < x0 then (40 : Int) else x0) > (1 : Int) then if (40 : Int) < x0 then (40 : Int) else x0 else (1 : Int)) * if (if (60 : Int) < x1 then (60 : Int) else x1) > (1 : Int) then if (60 : Int) < x1 then (60 : Int) else x1 else (1 : Int))))) fun y1 => (some ((if (if (40 : Int) < x0 then (40 : Int) else x0) > (1 : Int) then if (40 : Int) < x0 then (40 : Int) else x0 else (1 : Int)), (if (if (60 : Int) < x1 then (60 : Int) else x1) > (1 : Int) then if (60 : Int) < x1 then (60 : Int) else x1 else (1 : Int)), y1))))
noncomputable def grid_Newf_A : SkL := (.cons (.int .i64) (.cons (.int .i64) (.cons (.agg (.cons (.int .i64) (.cons (.int .i64) (.cons (.int .i64) .nil)))) .nil)))
noncomputable def grid_Newf_B : Sk := (.agg (.cons (.int .i64) (.cons (.int .i64) (.cons (.list (.cons (.int .i32) (.cons (.int .i64) (.cons (.int .i64) (.cons (.int .i64) (.one (.int .i64))))))) .nil))))
def grid_Newf_m {R : Type} (K : (Int × (Int × (List (Int × Int × Int × Int × Int) × Unit))) → Option R) (o : Option (Int × Int × (List (Int × Int × Int × Int × Int)))) : Option R := optK o fun y => K (y.1, (y.2.1, (y.2.2, ())))
theorem grid_Newf_run {R : Type} (x0 : Int) (x1 : Int) (x2 : Int) (x3 : Int) (x4 : Int) (K : (Int × (Int × (List (Int × Int × Int × Int × Int) × Unit))) → Option R) : acall (envL sums8 ll0 cs0 (fun _ _ => false)) 1000 9 (grid_Newf_A.enc (x0, (x1, ((x2, (x3, (x4, ()))), ())))) [] (resK grid_Newf_B true K) = grid_Newf_m K (grid_Newf_F x0 x1 x2 x3 x4) := by
  refine Eq.trans (b := (optK ((hide cell_Blank_F x2 x3 x4)) fun y0 => (optK ((hide slices_Repeat_api_Cell_F [(y0.fst, y0.snd.fst, y0.snd.snd.fst, y0.snd.snd.snd.fst, y0.snd.snd.snd.snd)] (IntKind.i64.wrap ((if (if (40 : Int) < x0 then (40 : Int) else x0) > (1 : Int) then if (40 : Int) < x0 then (40 : Int) else x0 else (1 : Int)) * if (if (60 : Int) < x1 then (60 : Int) else x1) > (1 : Int) then if (60 : Int) < x1 then (60 : Int) else x1 else (1 : Int))))) fun y1 => (K ((if (if (40 : Int) < x0 then (40 : Int) else x0) > (1 : Int) then if (40 : Int) < x0 then (40 : Int) else x0 else (1 : Int)), ((if (if (60 : Int) < x1 then (60 : Int) else x1) > (1 : Int) then if (60 : Int) < x1 then (60 : Int) else x1 else (1 : Int)), (y1, ()))))))) (by kernel_rfl) ?_
  unfold grid_Newf_F
  exact (optK_push (grid_Newf_m K) rfl _ fun y0 => (optK_push (grid_Newf_m K) rfl _ fun y1 => rfl))
noncomputable def grid_Newf_G : GoF grid_Newf_A grid_Newf_B := fun R (x : (Int × (Int × ((Int × (Int × (Int × Unit))) × Unit)))) K => grid_Newf_m K (hide grid_Newf_F x.1 x.2.1 x.2.2.1.1 x.2.2.1.2.1 x.2.2.1.2.2.1)
theorem grid_Newf_known : Known Try.prog 9 grid_Newf_A grid_Newf_B true grid_Newf_G := known_of (envL_ok sums8_ok ll0_ok cs0_ok) (n := 1000) rfl fun R (x : (Int × (Int × ((Int × (Int × (Int × Unit))) × Unit)))) K => by
  show _ = grid_Newf_m K (hide grid_Newf_F x.1 x.2.1 x.2.2.1.1 x.2.2.1.2.1 x.2.2.1.2.2.1)
  rw [hide_eq]
  exact grid_Newf_run x.1 x.2.1 x.2.2.1.1 x.2.2.1.2.1 x.2.2.1.2.2.1 K
end Go.Proofs.YtbaggedkejiakaaAbs

-- Written by a program of this session (dec.py); Lean checks it.
namespace Go.Proofs.YtbaggedkejiakaaAbs
open Go Go.Proofs
set_option linter.unusedVariables false
noncomputable def sums10 : SumT := (9, sumH grid_Newf_A grid_Newf_B true grid_Newf_G) :: sums8
theorem sums10_ok : AllSum Try.prog sums10 := ⟨sumH_ok rfl rfl grid_Newf_known, sums8_ok⟩
end Go.Proofs.YtbaggedkejiakaaAbs

-- Written by a program of this session (dec.py); Lean checks it.
namespace Go.Proofs.YtbaggedkejiakaaAbs
open Go Go.Proofs
set_option linter.unusedVariables false
noncomputable def linguistlaw7_GridLaws_c4 : Code := ((Try.f6.body.map fun b => loopsAt b 4).getD []).headD .skip
theorem linguistlaw7_GridLaws_c4_is : (Try.f6.body.map fun b => loopsAt b 4) = some [linguistlaw7_GridLaws_c4] := by kernel_rfl
noncomputable def linguistlaw7_GridLaws_s4 : SkSt := ⟨(.gap 2 (.cons (.int .i64) (.cons (.int .i64) (.cons (.int .i64) (.cons (.int .i32) (.gap 7 (.cst (.ptr 0 0) (.cst (.ptr 1 0) (.gap 21 (.cons (.list (.one (.int .i32))) (.cons (.int .i64) (.cons (.int .i64) (.gap 138 .nil))))))))))))), (.var 23 (.cons (.int .i64) (.cons (.int .i64) (.cons (.int .i64) .nil))) (.var 26 (.cons (.int .i64) (.cons (.int .i64) (.cons (.list (.cons (.int .i32) (.cons (.int .i64) (.cons (.int .i64) (.cons (.int .i64) (.one (.int .i64))))))) .nil))) .nil))⟩
noncomputable def linguistlaw7_GridLaws_x4_0 : SkSt := ⟨(.gap 2 (.cons (.int .i64) (.cons (.int .i64) (.cons (.int .i64) (.cons (.int .i32) (.gap 7 (.cst (.ptr 0 0) (.cst (.ptr 1 0) (.gap 162 .nil))))))))), (.var 23 (.cons (.int .i64) (.cons (.int .i64) (.cons (.int .i64) .nil))) (.var 26 (.cons (.int .i64) (.cons (.int .i64) (.cons (.list (.cons (.int .i32) (.cons (.int .i64) (.cons (.int .i64) (.cons (.int .i64) (.one (.int .i64))))))) .nil))) .nil))⟩
noncomputable def linguistlaw7_GridLaws_xs4 : List (Ex × SkSt) := [(.exit 0, linguistlaw7_GridLaws_x4_0)]
noncomputable def linguistlaw7_GridLaws_L4 : Nat → Int → Int → Int → Int → List (Int) → Int → Int → Int → Int → Int → Int → Int → List (Int × Int × Int × Int × Int) → Option (Int × Int × Int × Int × Int × Int × Int × Int × Int × (List (Int × Int × Int × Int × Int)))
  | 0, _, _, _, _, _, _, _, _, _, _, _, _, _ => none
  | n + 1, a0, a1, a2, a3, a4, a5, a6, a7, a8, a9, a10, a11, a12 => (bif (decide (a6 < a5)) then (bif (decide ((0 : Int) ≤ a6) && decide (a6 < Int.ofNat a4.length) && true) then (bif (decide (a6 < (8 : Int))) then (optK ((hide linguistbook_Within_F (IntKind.i64.wrap (a6 * (3 : Int))) (0 : Int) (7 : Int))) fun y4 => (optK ((hide grid_Put_F a10 a11 a12 (a6.tmod (2 : Int)) y4 (a4.getD a6.toNat (0 : Int)) a7 a8 a9)) fun y5 => (linguistlaw7_GridLaws_L4 n a0 a1 a2 a3 a4 a5 (IntKind.i64.wrap (a6 + (1 : Int))) a7 a8 a9 (y5.fst) (y5.snd.fst) (y5.snd.snd)))) else (linguistlaw7_GridLaws_L4 n a0 a1 a2 a3 a4 a5 (IntKind.i64.wrap (a6 + (1 : Int))) a7 a8 a9 a10 a11 a12)) else none) else (some (a0, a1, a2, a3, a7, a8, a9, a10, a11, a12)))
noncomputable def linguistlaw7_GridLaws_I4 {R : Type} (K : Ex → St → Option R) : Nat → St → Option R := iterN (exec (envL sums10 ll0 cs0 (fun _ _ => false)) 6 (acall (envL sums10 ll0 cs0 (fun _ _ => false)) 1000) 0 linguistlaw7_GridLaws_c4) (normTo linguistlaw7_GridLaws_s4 0) (exitK linguistlaw7_GridLaws_xs4 0 K)
noncomputable def linguistlaw7_GridLaws_m4 {R : Type} (K : Ex → St → Option R) (o : Option (Int × Int × Int × Int × Int × Int × Int × Int × Int × (List (Int × Int × Int × Int × Int)))) : Option R := optK o fun y => K (.exit 0) (linguistlaw7_GridLaws_x4_0.enc ((y.1, (y.2.1, (y.2.2.1, (y.2.2.2.1, ())))), ((y.2.2.2.2.1, (y.2.2.2.2.2.1, (y.2.2.2.2.2.2.1, ()))), ((y.2.2.2.2.2.2.2.1, (y.2.2.2.2.2.2.2.2.1, (y.2.2.2.2.2.2.2.2.2, ()))), ()))))
theorem linguistlaw7_GridLaws_l4 {R : Type} (K : Ex → St → Option R) : ∀ (n : Nat), ∀ (a0 : Int) (a1 : Int) (a2 : Int) (a3 : Int) (a4 : List (Int)) (a5 : Int) (a6 : Int) (a7 : Int) (a8 : Int) (a9 : Int) (a10 : Int) (a11 : Int) (a12 : List (Int × Int × Int × Int × Int)), linguistlaw7_GridLaws_I4 K n (linguistlaw7_GridLaws_s4.enc ((a0, (a1, (a2, (a3, (a4, (a5, (a6, ()))))))), ((a7, (a8, (a9, ()))), ((a10, (a11, (a12, ()))), ())))) = linguistlaw7_GridLaws_m4 K (linguistlaw7_GridLaws_L4 n a0 a1 a2 a3 a4 a5 a6 a7 a8 a9 a10 a11 a12) := by
  intro n
  induction n with
  | zero => intros; rfl
  | succ n ih =>
    intro a0 a1 a2 a3 a4 a5 a6 a7 a8 a9 a10 a11 a12
    refine Eq.trans (b := (bif (decide (a6 < a5)) then (bif (decide ((0 : Int) ≤ a6) && decide (a6 < Int.ofNat a4.length) && true) then (bif (decide (a6 < (8 : Int))) then (optK ((hide linguistbook_Within_F (IntKind.i64.wrap (a6 * (3 : Int))) (0 : Int) (7 : Int))) fun y4 => (optK ((hide grid_Put_F a10 a11 a12 (a6.tmod (2 : Int)) y4 (a4.getD a6.toNat (0 : Int)) a7 a8 a9)) fun y5 => (linguistlaw7_GridLaws_I4 K n (linguistlaw7_GridLaws_s4.enc ((a0, (a1, (a2, (a3, (a4, (a5, ((IntKind.i64.wrap (a6 + (1 : Int))), ()))))))), ((a7, (a8, (a9, ()))), (((y5.fst), ((y5.snd.fst), ((y5.snd.snd), ()))), ()))))))) else (linguistlaw7_GridLaws_I4 K n (linguistlaw7_GridLaws_s4.enc ((a0, (a1, (a2, (a3, (a4, (a5, ((IntKind.i64.wrap (a6 + (1 : Int))), ()))))))), ((a7, (a8, (a9, ()))), ((a10, (a11, (a12, ()))), ())))))) else none) else (K (.exit 0) (linguistlaw7_GridLaws_x4_0.enc ((a0, (a1, (a2, (a3, ())))), ((a7, (a8, (a9, ()))), ((a10, (a11, (a12, ()))), ()))))))) (by kernel_rfl) ?_
    rw [linguistlaw7_GridLaws_L4]
    exact (cond_push (linguistlaw7_GridLaws_m4 K) _ (cond_push (linguistlaw7_GridLaws_m4 K) _ (cond_push (linguistlaw7_GridLaws_m4 K) _ (optK_push (linguistlaw7_GridLaws_m4 K) rfl _ fun y4 => (optK_push (linguistlaw7_GridLaws_m4 K) rfl _ fun y5 => (ih a0 a1 a2 a3 a4 a5 (IntKind.i64.wrap (a6 + (1 : Int))) a7 a8 a9 (y5.fst) (y5.snd.fst) (y5.snd.snd)))) (ih a0 a1 a2 a3 a4 a5 (IntKind.i64.wrap (a6 + (1 : Int))) a7 a8 a9 a10 a11 a12)) rfl) rfl)
def linguistlaw7_GridLaws_fu4 (a0 : Int) (a1 : Int) (a2 : Int) (a3 : Int) (a4 : List (Int)) (a5 : Int) (a6 : Int) (a7 : Int) (a8 : Int) (a9 : Int) (a10 : Int) (a11 : Int) (a12 : List (Int × Int × Int × Int × Int)) : Nat := Int.natAbs a0 + Int.natAbs a1 + Int.natAbs a2 + Int.natAbs a3 + List.length a4 + Int.natAbs a5 + Int.natAbs a6 + Int.natAbs a7 + Int.natAbs a8 + Int.natAbs a9 + Int.natAbs a10 + Int.natAbs a11 + List.length a12 + 2
noncomputable def linguistlaw7_GridLaws_G4 : GoL linguistlaw7_GridLaws_s4 := fun R (x : ((Int × (Int × (Int × (Int × (List (Int) × (Int × (Int × Unit))))))) × ((Int × (Int × (Int × Unit))) × ((Int × (Int × (List (Int × Int × Int × Int × Int) × Unit))) × Unit)))) K => linguistlaw7_GridLaws_m4 K (hide linguistlaw7_GridLaws_L4 (linguistlaw7_GridLaws_fu4 x.1.1 x.1.2.1 x.1.2.2.1 x.1.2.2.2.1 x.1.2.2.2.2.1 x.1.2.2.2.2.2.1 x.1.2.2.2.2.2.2.1 x.2.1.1 x.2.1.2.1 x.2.1.2.2.1 x.2.2.1.1 x.2.2.1.2.1 x.2.2.1.2.2.1) x.1.1 x.1.2.1 x.1.2.2.1 x.1.2.2.2.1 x.1.2.2.2.2.1 x.1.2.2.2.2.2.1 x.1.2.2.2.2.2.2.1 x.2.1.1 x.2.1.2.1 x.2.1.2.2.1 x.2.2.1.1 x.2.2.1.2.1 x.2.2.1.2.2.1)
theorem linguistlaw7_GridLaws_H4 : LoopOk Try.prog 6 4 (loopH linguistlaw7_GridLaws_s4 0 linguistlaw7_GridLaws_G4) := loop_known (envL_ok sums10_ok ll0_ok cs0_ok) Try.func6 rfl linguistlaw7_GridLaws_c4_is (xs := linguistlaw7_GridLaws_xs4) (fuel := fun (x : ((Int × (Int × (Int × (Int × (List (Int) × (Int × (Int × Unit))))))) × ((Int × (Int × (Int × Unit))) × ((Int × (Int × (List (Int × Int × Int × Int × Int) × Unit))) × Unit)))) => linguistlaw7_GridLaws_fu4 x.1.1 x.1.2.1 x.1.2.2.1 x.1.2.2.2.1 x.1.2.2.2.2.1 x.1.2.2.2.2.2.1 x.1.2.2.2.2.2.2.1 x.2.1.1 x.2.1.2.1 x.2.1.2.2.1 x.2.2.1.1 x.2.2.1.2.1 x.2.2.1.2.2.1) fun R (x : ((Int × (Int × (Int × (Int × (List (Int) × (Int × (Int × Unit))))))) × ((Int × (Int × (Int × Unit))) × ((Int × (Int × (List (Int × Int × Int × Int × Int) × Unit))) × Unit)))) K => by
  show linguistlaw7_GridLaws_m4 K (hide linguistlaw7_GridLaws_L4 (linguistlaw7_GridLaws_fu4 x.1.1 x.1.2.1 x.1.2.2.1 x.1.2.2.2.1 x.1.2.2.2.2.1 x.1.2.2.2.2.2.1 x.1.2.2.2.2.2.2.1 x.2.1.1 x.2.1.2.1 x.2.1.2.2.1 x.2.2.1.1 x.2.2.1.2.1 x.2.2.1.2.2.1) x.1.1 x.1.2.1 x.1.2.2.1 x.1.2.2.2.1 x.1.2.2.2.2.1 x.1.2.2.2.2.2.1 x.1.2.2.2.2.2.2.1 x.2.1.1 x.2.1.2.1 x.2.1.2.2.1 x.2.2.1.1 x.2.2.1.2.1 x.2.2.1.2.2.1) = _
  rw [hide_eq]
  exact (linguistlaw7_GridLaws_l4 K (linguistlaw7_GridLaws_fu4 x.1.1 x.1.2.1 x.1.2.2.1 x.1.2.2.2.1 x.1.2.2.2.2.1 x.1.2.2.2.2.2.1 x.1.2.2.2.2.2.2.1 x.2.1.1 x.2.1.2.1 x.2.1.2.2.1 x.2.2.1.1 x.2.2.1.2.1 x.2.2.1.2.2.1) x.1.1 x.1.2.1 x.1.2.2.1 x.1.2.2.2.1 x.1.2.2.2.2.1 x.1.2.2.2.2.2.1 x.1.2.2.2.2.2.2.1 x.2.1.1 x.2.1.2.1 x.2.1.2.2.1 x.2.2.1.1 x.2.2.1.2.1 x.2.2.1.2.2.1).symm
noncomputable def linguistlaw7_GridLaws_h4 : LoopF := loopH linguistlaw7_GridLaws_s4 0 linguistlaw7_GridLaws_G4
noncomputable def linguistlaw7_GridLaws_ll1 : LoopT := ((6, 4), linguistlaw7_GridLaws_h4) :: ll0
theorem linguistlaw7_GridLaws_ll1_ok : AllLoop Try.prog linguistlaw7_GridLaws_ll1 := ⟨linguistlaw7_GridLaws_H4, ll0_ok⟩
noncomputable def linguistlaw7_GridLaws_c15 : Code := ((Try.f6.body.map fun b => loopsAt b 15).getD []).headD .skip
theorem linguistlaw7_GridLaws_c15_is : (Try.f6.body.map fun b => loopsAt b 15) = some [linguistlaw7_GridLaws_c15] := by kernel_rfl
noncomputable def linguistlaw7_GridLaws_s15 : SkSt := ⟨(.gap 4 (.cons (.int .i64) (.cons (.int .i32) (.gap 7 (.cst (.ptr 0 0) (.cst (.ptr 1 0) (.gap 2 (.cons (.int .i64) (.cons (.int .i64) (.cst (.ptr 2 0) (.cons (.int .i64) (.gap 60 (.cons (.int .i64) (.gap 95 .nil)))))))))))))), (.var 23 (.cons (.int .i64) (.cons (.int .i64) (.cons (.int .i64) .nil))) (.var 26 (.cons (.int .i64) (.cons (.int .i64) (.cons (.list (.cons (.int .i32) (.cons (.int .i64) (.cons (.int .i64) (.cons (.int .i64) (.one (.int .i64))))))) .nil))) (.var 26 (.cons (.int .i64) (.cons (.int .i64) (.cons (.list (.cons (.int .i32) (.cons (.int .i64) (.cons (.int .i64) (.cons (.int .i64) (.one (.int .i64))))))) .nil))) .nil)))⟩
noncomputable def linguistlaw7_GridLaws_x15_0 : SkSt := ⟨(.gap 12 (.cons .bool (.gap 164 .nil))), .nil⟩
noncomputable def linguistlaw7_GridLaws_x15_1 : SkSt := ⟨(.gap 4 (.cons (.int .i64) (.cons (.int .i32) (.gap 7 (.cst (.ptr 0 0) (.gap 3 (.cons (.int .i64) (.cons (.int .i64) (.cst (.ptr 1 0) (.gap 157 .nil)))))))))), (.var 23 (.cons (.int .i64) (.cons (.int .i64) (.cons (.int .i64) .nil))) (.var 26 (.cons (.int .i64) (.cons (.int .i64) (.cons (.list (.cons (.int .i32) (.cons (.int .i64) (.cons (.int .i64) (.cons (.int .i64) (.one (.int .i64))))))) .nil))) .nil))⟩
noncomputable def linguistlaw7_GridLaws_xs15 : List (Ex × SkSt) := [(.ret, linguistlaw7_GridLaws_x15_0), (.exit 2, linguistlaw7_GridLaws_x15_1)]
noncomputable def linguistlaw7_GridLaws_L15 : Nat → Int → Int → Int → Int → Int → Int → Int → Int → Int → Int → Int → List (Int × Int × Int × Int × Int) → Int → Int → List (Int × Int × Int × Int × Int) → Option (((Bool) ⊕ (Int × Int × Int × Int × Int × Int × Int × Int × Int × (List (Int × Int × Int × Int × Int)))))
  | 0, _, _, _, _, _, _, _, _, _, _, _, _, _, _, _ => none
  | n + 1, a0, a1, a2, a3, a4, a5, a6, a7, a8, a9, a10, a11, a12, a13, a14 => (bif (decide (a5 < (16 : Int))) then (optK ((hide grid_At_F a9 a10 a11 (IntKind.i64.wrap (a5.tdiv (8 : Int))) (a5.tmod (8 : Int)))) fun y15 => (optK ((hide grid_At_F a12 a13 a14 (IntKind.i64.wrap (a5.tdiv (8 : Int))) (a5.tmod (8 : Int)))) fun y16 => (bif (IntKind.i64.wrap (a5.tdiv (8 : Int)) == a2) then (bif (decide (a5.tmod (8 : Int) ≥ IntKind.i64.wrap (a3 - (1 : Int)))) then (bif (!decide (a5.tmod (8 : Int) ≤ IntKind.i64.wrap (a3 + a4))) then (bif (!(y15.fst == y16.fst && (y15.snd.fst == y16.snd.fst && (y15.snd.snd.fst == y16.snd.snd.fst && (y15.snd.snd.snd.fst == y16.snd.snd.snd.fst && (y15.snd.snd.snd.snd.fst == y16.snd.snd.snd.snd.fst && true)))))) then (some (.inl (false))) else (linguistlaw7_GridLaws_L15 n a0 a1 a2 a3 a4 (IntKind.i64.wrap (a5 + (1 : Int))) a6 a7 a8 a9 a10 a11 a12 a13 a14)) else (linguistlaw7_GridLaws_L15 n a0 a1 a2 a3 a4 (IntKind.i64.wrap (a5 + (1 : Int))) a6 a7 a8 a9 a10 a11 a12 a13 a14)) else (bif (!(y15.fst == y16.fst && (y15.snd.fst == y16.snd.fst && (y15.snd.snd.fst == y16.snd.snd.fst && (y15.snd.snd.snd.fst == y16.snd.snd.snd.fst && (y15.snd.snd.snd.snd.fst == y16.snd.snd.snd.snd.fst && true)))))) then (some (.inl (false))) else (linguistlaw7_GridLaws_L15 n a0 a1 a2 a3 a4 (IntKind.i64.wrap (a5 + (1 : Int))) a6 a7 a8 a9 a10 a11 a12 a13 a14))) else (bif (!(y15.fst == y16.fst && (y15.snd.fst == y16.snd.fst && (y15.snd.snd.fst == y16.snd.snd.fst && (y15.snd.snd.snd.fst == y16.snd.snd.snd.fst && (y15.snd.snd.snd.snd.fst == y16.snd.snd.snd.snd.fst && true)))))) then (some (.inl (false))) else (linguistlaw7_GridLaws_L15 n a0 a1 a2 a3 a4 (IntKind.i64.wrap (a5 + (1 : Int))) a6 a7 a8 a9 a10 a11 a12 a13 a14))))) else (some (.inr (a0, a1, a2, a3, a6, a7, a8, a12, a13, a14))))
noncomputable def linguistlaw7_GridLaws_I15 {R : Type} (K : Ex → St → Option R) : Nat → St → Option R := iterN (exec (envL sums10 linguistlaw7_GridLaws_ll1 cs0 (fun _ _ => false)) 6 (acall (envL sums10 linguistlaw7_GridLaws_ll1 cs0 (fun _ _ => false)) 1000) 0 linguistlaw7_GridLaws_c15) (normTo linguistlaw7_GridLaws_s15 0) (exitK linguistlaw7_GridLaws_xs15 0 K)
noncomputable def linguistlaw7_GridLaws_m15 {R : Type} (K : Ex → St → Option R) (o : Option (((Bool) ⊕ (Int × Int × Int × Int × Int × Int × Int × Int × Int × (List (Int × Int × Int × Int × Int)))))) : Option R := optK o fun y => sumK y (fun y => K (.ret) (linguistlaw7_GridLaws_x15_0.enc ((y, ()), ()))) (fun y => K (.exit 2) (linguistlaw7_GridLaws_x15_1.enc ((y.1, (y.2.1, (y.2.2.1, (y.2.2.2.1, ())))), ((y.2.2.2.2.1, (y.2.2.2.2.2.1, (y.2.2.2.2.2.2.1, ()))), ((y.2.2.2.2.2.2.2.1, (y.2.2.2.2.2.2.2.2.1, (y.2.2.2.2.2.2.2.2.2, ()))), ())))))
theorem linguistlaw7_GridLaws_l15 {R : Type} (K : Ex → St → Option R) : ∀ (n : Nat), ∀ (a0 : Int) (a1 : Int) (a2 : Int) (a3 : Int) (a4 : Int) (a5 : Int) (a6 : Int) (a7 : Int) (a8 : Int) (a9 : Int) (a10 : Int) (a11 : List (Int × Int × Int × Int × Int)) (a12 : Int) (a13 : Int) (a14 : List (Int × Int × Int × Int × Int)), linguistlaw7_GridLaws_I15 K n (linguistlaw7_GridLaws_s15.enc ((a0, (a1, (a2, (a3, (a4, (a5, ())))))), ((a6, (a7, (a8, ()))), ((a9, (a10, (a11, ()))), ((a12, (a13, (a14, ()))), ()))))) = linguistlaw7_GridLaws_m15 K (linguistlaw7_GridLaws_L15 n a0 a1 a2 a3 a4 a5 a6 a7 a8 a9 a10 a11 a12 a13 a14) := by
  intro n
  induction n with
  | zero => intros; rfl
  | succ n ih =>
    intro a0 a1 a2 a3 a4 a5 a6 a7 a8 a9 a10 a11 a12 a13 a14
    refine Eq.trans (b := (bif (decide (a5 < (16 : Int))) then (optK ((hide grid_At_F a9 a10 a11 (IntKind.i64.wrap (a5.tdiv (8 : Int))) (a5.tmod (8 : Int)))) fun y15 => (optK ((hide grid_At_F a12 a13 a14 (IntKind.i64.wrap (a5.tdiv (8 : Int))) (a5.tmod (8 : Int)))) fun y16 => (bif (IntKind.i64.wrap (a5.tdiv (8 : Int)) == a2) then (bif (decide (a5.tmod (8 : Int) ≥ IntKind.i64.wrap (a3 - (1 : Int)))) then (bif (!decide (a5.tmod (8 : Int) ≤ IntKind.i64.wrap (a3 + a4))) then (bif (!(y15.fst == y16.fst && (y15.snd.fst == y16.snd.fst && (y15.snd.snd.fst == y16.snd.snd.fst && (y15.snd.snd.snd.fst == y16.snd.snd.snd.fst && (y15.snd.snd.snd.snd.fst == y16.snd.snd.snd.snd.fst && true)))))) then (K (.ret) (linguistlaw7_GridLaws_x15_0.enc (((false), ()), ()))) else (linguistlaw7_GridLaws_I15 K n (linguistlaw7_GridLaws_s15.enc ((a0, (a1, (a2, (a3, (a4, ((IntKind.i64.wrap (a5 + (1 : Int))), ())))))), ((a6, (a7, (a8, ()))), ((a9, (a10, (a11, ()))), ((a12, (a13, (a14, ()))), ()))))))) else (linguistlaw7_GridLaws_I15 K n (linguistlaw7_GridLaws_s15.enc ((a0, (a1, (a2, (a3, (a4, ((IntKind.i64.wrap (a5 + (1 : Int))), ())))))), ((a6, (a7, (a8, ()))), ((a9, (a10, (a11, ()))), ((a12, (a13, (a14, ()))), ()))))))) else (bif (!(y15.fst == y16.fst && (y15.snd.fst == y16.snd.fst && (y15.snd.snd.fst == y16.snd.snd.fst && (y15.snd.snd.snd.fst == y16.snd.snd.snd.fst && (y15.snd.snd.snd.snd.fst == y16.snd.snd.snd.snd.fst && true)))))) then (K (.ret) (linguistlaw7_GridLaws_x15_0.enc (((false), ()), ()))) else (linguistlaw7_GridLaws_I15 K n (linguistlaw7_GridLaws_s15.enc ((a0, (a1, (a2, (a3, (a4, ((IntKind.i64.wrap (a5 + (1 : Int))), ())))))), ((a6, (a7, (a8, ()))), ((a9, (a10, (a11, ()))), ((a12, (a13, (a14, ()))), ())))))))) else (bif (!(y15.fst == y16.fst && (y15.snd.fst == y16.snd.fst && (y15.snd.snd.fst == y16.snd.snd.fst && (y15.snd.snd.snd.fst == y16.snd.snd.snd.fst && (y15.snd.snd.snd.snd.fst == y16.snd.snd.snd.snd.fst && true)))))) then (K (.ret) (linguistlaw7_GridLaws_x15_0.enc (((false), ()), ()))) else (linguistlaw7_GridLaws_I15 K n (linguistlaw7_GridLaws_s15.enc ((a0, (a1, (a2, (a3, (a4, ((IntKind.i64.wrap (a5 + (1 : Int))), ())))))), ((a6, (a7, (a8, ()))), ((a9, (a10, (a11, ()))), ((a12, (a13, (a14, ()))), ())))))))))) else (K (.exit 2) (linguistlaw7_GridLaws_x15_1.enc ((a0, (a1, (a2, (a3, ())))), ((a6, (a7, (a8, ()))), ((a12, (a13, (a14, ()))), ()))))))) (by kernel_rfl) ?_
    rw [linguistlaw7_GridLaws_L15]
    exact (cond_push (linguistlaw7_GridLaws_m15 K) _ (optK_push (linguistlaw7_GridLaws_m15 K) rfl _ fun y15 => (optK_push (linguistlaw7_GridLaws_m15 K) rfl _ fun y16 => (cond_push (linguistlaw7_GridLaws_m15 K) _ (cond_push (linguistlaw7_GridLaws_m15 K) _ (cond_push (linguistlaw7_GridLaws_m15 K) _ (cond_push (linguistlaw7_GridLaws_m15 K) _ rfl (ih a0 a1 a2 a3 a4 (IntKind.i64.wrap (a5 + (1 : Int))) a6 a7 a8 a9 a10 a11 a12 a13 a14)) (ih a0 a1 a2 a3 a4 (IntKind.i64.wrap (a5 + (1 : Int))) a6 a7 a8 a9 a10 a11 a12 a13 a14)) (cond_push (linguistlaw7_GridLaws_m15 K) _ rfl (ih a0 a1 a2 a3 a4 (IntKind.i64.wrap (a5 + (1 : Int))) a6 a7 a8 a9 a10 a11 a12 a13 a14))) (cond_push (linguistlaw7_GridLaws_m15 K) _ rfl (ih a0 a1 a2 a3 a4 (IntKind.i64.wrap (a5 + (1 : Int))) a6 a7 a8 a9 a10 a11 a12 a13 a14))))) rfl)
def linguistlaw7_GridLaws_fu15 (a0 : Int) (a1 : Int) (a2 : Int) (a3 : Int) (a4 : Int) (a5 : Int) (a6 : Int) (a7 : Int) (a8 : Int) (a9 : Int) (a10 : Int) (a11 : List (Int × Int × Int × Int × Int)) (a12 : Int) (a13 : Int) (a14 : List (Int × Int × Int × Int × Int)) : Nat := Int.natAbs a0 + Int.natAbs a1 + Int.natAbs a2 + Int.natAbs a3 + Int.natAbs a4 + Int.natAbs a5 + Int.natAbs a6 + Int.natAbs a7 + Int.natAbs a8 + Int.natAbs a9 + Int.natAbs a10 + List.length a11 + Int.natAbs a12 + Int.natAbs a13 + List.length a14 + 2
noncomputable def linguistlaw7_GridLaws_G15 : GoL linguistlaw7_GridLaws_s15 := fun R (x : ((Int × (Int × (Int × (Int × (Int × (Int × Unit)))))) × ((Int × (Int × (Int × Unit))) × ((Int × (Int × (List (Int × Int × Int × Int × Int) × Unit))) × ((Int × (Int × (List (Int × Int × Int × Int × Int) × Unit))) × Unit))))) K => linguistlaw7_GridLaws_m15 K (hide linguistlaw7_GridLaws_L15 (linguistlaw7_GridLaws_fu15 x.1.1 x.1.2.1 x.1.2.2.1 x.1.2.2.2.1 x.1.2.2.2.2.1 x.1.2.2.2.2.2.1 x.2.1.1 x.2.1.2.1 x.2.1.2.2.1 x.2.2.1.1 x.2.2.1.2.1 x.2.2.1.2.2.1 x.2.2.2.1.1 x.2.2.2.1.2.1 x.2.2.2.1.2.2.1) x.1.1 x.1.2.1 x.1.2.2.1 x.1.2.2.2.1 x.1.2.2.2.2.1 x.1.2.2.2.2.2.1 x.2.1.1 x.2.1.2.1 x.2.1.2.2.1 x.2.2.1.1 x.2.2.1.2.1 x.2.2.1.2.2.1 x.2.2.2.1.1 x.2.2.2.1.2.1 x.2.2.2.1.2.2.1)
theorem linguistlaw7_GridLaws_H15 : LoopOk Try.prog 6 15 (loopH linguistlaw7_GridLaws_s15 0 linguistlaw7_GridLaws_G15) := loop_known (envL_ok sums10_ok linguistlaw7_GridLaws_ll1_ok cs0_ok) Try.func6 rfl linguistlaw7_GridLaws_c15_is (xs := linguistlaw7_GridLaws_xs15) (fuel := fun (x : ((Int × (Int × (Int × (Int × (Int × (Int × Unit)))))) × ((Int × (Int × (Int × Unit))) × ((Int × (Int × (List (Int × Int × Int × Int × Int) × Unit))) × ((Int × (Int × (List (Int × Int × Int × Int × Int) × Unit))) × Unit))))) => linguistlaw7_GridLaws_fu15 x.1.1 x.1.2.1 x.1.2.2.1 x.1.2.2.2.1 x.1.2.2.2.2.1 x.1.2.2.2.2.2.1 x.2.1.1 x.2.1.2.1 x.2.1.2.2.1 x.2.2.1.1 x.2.2.1.2.1 x.2.2.1.2.2.1 x.2.2.2.1.1 x.2.2.2.1.2.1 x.2.2.2.1.2.2.1) fun R (x : ((Int × (Int × (Int × (Int × (Int × (Int × Unit)))))) × ((Int × (Int × (Int × Unit))) × ((Int × (Int × (List (Int × Int × Int × Int × Int) × Unit))) × ((Int × (Int × (List (Int × Int × Int × Int × Int) × Unit))) × Unit))))) K => by
  show linguistlaw7_GridLaws_m15 K (hide linguistlaw7_GridLaws_L15 (linguistlaw7_GridLaws_fu15 x.1.1 x.1.2.1 x.1.2.2.1 x.1.2.2.2.1 x.1.2.2.2.2.1 x.1.2.2.2.2.2.1 x.2.1.1 x.2.1.2.1 x.2.1.2.2.1 x.2.2.1.1 x.2.2.1.2.1 x.2.2.1.2.2.1 x.2.2.2.1.1 x.2.2.2.1.2.1 x.2.2.2.1.2.2.1) x.1.1 x.1.2.1 x.1.2.2.1 x.1.2.2.2.1 x.1.2.2.2.2.1 x.1.2.2.2.2.2.1 x.2.1.1 x.2.1.2.1 x.2.1.2.2.1 x.2.2.1.1 x.2.2.1.2.1 x.2.2.1.2.2.1 x.2.2.2.1.1 x.2.2.2.1.2.1 x.2.2.2.1.2.2.1) = _
  rw [hide_eq]
  exact (linguistlaw7_GridLaws_l15 K (linguistlaw7_GridLaws_fu15 x.1.1 x.1.2.1 x.1.2.2.1 x.1.2.2.2.1 x.1.2.2.2.2.1 x.1.2.2.2.2.2.1 x.2.1.1 x.2.1.2.1 x.2.1.2.2.1 x.2.2.1.1 x.2.2.1.2.1 x.2.2.1.2.2.1 x.2.2.2.1.1 x.2.2.2.1.2.1 x.2.2.2.1.2.2.1) x.1.1 x.1.2.1 x.1.2.2.1 x.1.2.2.2.1 x.1.2.2.2.2.1 x.1.2.2.2.2.2.1 x.2.1.1 x.2.1.2.1 x.2.1.2.2.1 x.2.2.1.1 x.2.2.1.2.1 x.2.2.1.2.2.1 x.2.2.2.1.1 x.2.2.2.1.2.1 x.2.2.2.1.2.2.1).symm
noncomputable def linguistlaw7_GridLaws_h15 : LoopF := loopH linguistlaw7_GridLaws_s15 0 linguistlaw7_GridLaws_G15
noncomputable def linguistlaw7_GridLaws_ll2 : LoopT := ((6, 15), linguistlaw7_GridLaws_h15) :: linguistlaw7_GridLaws_ll1
theorem linguistlaw7_GridLaws_ll2_ok : AllLoop Try.prog linguistlaw7_GridLaws_ll2 := ⟨linguistlaw7_GridLaws_H15, linguistlaw7_GridLaws_ll1_ok⟩
noncomputable def linguistlaw7_GridLaws_F (x0 : Int) (x1 : Int) (x2 : Int) (x3 : List (Int)) (x4 : Int) (x5 : Int) (x6 : Int) (x7 : Int) : Option (Bool) := (optK ((hide linguistkeep_Pen_Pen_F x0 x1 x2)) fun y0 => (optK ((hide grid_Newf_F (2 : Int) (8 : Int) y0.fst y0.snd.fst y0.snd.snd)) fun y1 => (optK (hide linguistlaw7_GridLaws_L4 (linguistlaw7_GridLaws_fu4 x4 x5 x6 x7 x3 (Int.ofNat x3.length) (0 : Int) (y0.fst) (y0.snd.fst) (y0.snd.snd) (y1.fst) (y1.snd.fst) (y1.snd.snd)) x4 x5 x6 x7 x3 (Int.ofNat x3.length) (0 : Int) (y0.fst) (y0.snd.fst) (y0.snd.snd) (y1.fst) (y1.snd.fst) (y1.snd.snd)) fun y6 => (optK ((hide linguistbook_Within_F y6.fst (0 : Int) (1 : Int))) fun y7 => (optK ((hide linguistbook_Within_F y6.snd.fst (0 : Int) (7 : Int))) fun y8 => (optK ((hide grid_Put_F y6.snd.snd.snd.snd.snd.snd.snd.fst y6.snd.snd.snd.snd.snd.snd.snd.snd.fst y6.snd.snd.snd.snd.snd.snd.snd.snd.snd y7 y8 y6.snd.snd.snd.fst y6.snd.snd.snd.snd.fst y6.snd.snd.snd.snd.snd.fst y6.snd.snd.snd.snd.snd.snd.fst)) fun y9 => (optK ((hide linguistref1_Width_F y6.snd.snd.snd.fst)) fun y10 => (bif (decide (y10 < (1 : Int))) then (optK ((hide grid_Same_F y6.snd.snd.snd.snd.snd.snd.snd.fst y6.snd.snd.snd.snd.snd.snd.snd.snd.fst y6.snd.snd.snd.snd.snd.snd.snd.snd.snd y9.fst y9.snd.fst y9.snd.snd)) fun y11 => (bif y11 then (some (true)) else (some (false)))) else (bif (decide (IntKind.i64.wrap (y8 + y10) > (8 : Int))) then (optK ((hide grid_Same_F y6.snd.snd.snd.snd.snd.snd.snd.fst y6.snd.snd.snd.snd.snd.snd.snd.snd.fst y6.snd.snd.snd.snd.snd.snd.snd.snd.snd y9.fst y9.snd.fst y9.snd.snd)) fun y12 => (bif y12 then (some (true)) else (some (false)))) else (optK (hide linguistlaw7_GridLaws_L15 (linguistlaw7_GridLaws_fu15 (y6.snd.snd.fst) (y6.snd.snd.snd.fst) y7 y8 y10 (0 : Int) (y6.snd.snd.snd.snd.fst) (y6.snd.snd.snd.snd.snd.fst) (y6.snd.snd.snd.snd.snd.snd.fst) (y6.snd.snd.snd.snd.snd.snd.snd.fst) (y6.snd.snd.snd.snd.snd.snd.snd.snd.fst) (y6.snd.snd.snd.snd.snd.snd.snd.snd.snd) (y9.fst) (y9.snd.fst) (y9.snd.snd)) (y6.snd.snd.fst) (y6.snd.snd.snd.fst) y7 y8 y10 (0 : Int) (y6.snd.snd.snd.snd.fst) (y6.snd.snd.snd.snd.snd.fst) (y6.snd.snd.snd.snd.snd.snd.fst) (y6.snd.snd.snd.snd.snd.snd.snd.fst) (y6.snd.snd.snd.snd.snd.snd.snd.snd.fst) (y6.snd.snd.snd.snd.snd.snd.snd.snd.snd) (y9.fst) (y9.snd.fst) (y9.snd.snd)) fun y17 => (sumK y17 (fun y17a => (some y17a)) (fun y17b => (optK ((hide grid_At_F y17b.snd.snd.snd.snd.snd.snd.snd.fst y17b.snd.snd.snd.snd.snd.snd.snd.snd.fst y17b.snd.snd.snd.snd.snd.snd.snd.snd.snd y17b.snd.snd.fst y17b.snd.snd.snd.fst)) fun y18 => (optK ((hide grid_Resize_F y17b.snd.snd.snd.snd.snd.snd.snd.fst y17b.snd.snd.snd.snd.snd.snd.snd.snd.fst y17b.snd.snd.snd.snd.snd.snd.snd.snd.snd (4 : Int) (12 : Int))) fun y19 => (optK ((hide grid_Resize_F y19.fst y19.snd.fst y19.snd.snd (2 : Int) (8 : Int))) fun y20 => (optK ((hide linguistbook_Within_F y17b.fst (0 : Int) (8 : Int))) fun y21 => (optK ((hide grid_Wipe_F y17b.snd.snd.snd.snd.snd.snd.snd.fst y17b.snd.snd.snd.snd.snd.snd.snd.snd.fst y17b.snd.snd.snd.snd.snd.snd.snd.snd.snd (0 : Int) (0 : Int) (8 : Int) y17b.snd.snd.snd.snd.fst y17b.snd.snd.snd.snd.snd.fst y17b.snd.snd.snd.snd.snd.snd.fst)) fun y22 => (optK ((hide grid_Wipe_F y22.fst y22.snd.fst y22.snd.snd (1 : Int) (0 : Int) (8 : Int) y17b.snd.snd.snd.snd.fst y17b.snd.snd.snd.snd.snd.fst y17b.snd.snd.snd.snd.snd.snd.fst)) fun y23 => (bif (y18.snd.snd.snd.snd.snd) then (bif (y18.fst == y17b.snd.fst) then (optK ((hide grid_Same_F y20.fst y20.snd.fst y20.snd.snd y17b.snd.snd.snd.snd.snd.snd.snd.fst y17b.snd.snd.snd.snd.snd.snd.snd.snd.fst y17b.snd.snd.snd.snd.snd.snd.snd.snd.snd)) fun y24 => (bif y24 then (optK ((hide grid_Newf_F (2 : Int) (8 : Int) y17b.snd.snd.snd.snd.fst y17b.snd.snd.snd.snd.snd.fst y17b.snd.snd.snd.snd.snd.snd.fst)) fun y25 => (optK ((hide grid_Same_F y23.fst y23.snd.fst y23.snd.snd y25.fst y25.snd.fst y25.snd.snd)) fun y26 => (bif y26 then (optK ((hide grid_Wipe_F y17b.snd.snd.snd.snd.snd.snd.snd.fst y17b.snd.snd.snd.snd.snd.snd.snd.snd.fst y17b.snd.snd.snd.snd.snd.snd.snd.snd.snd y17b.snd.snd.fst y21 y21 y17b.snd.snd.snd.snd.fst y17b.snd.snd.snd.snd.snd.fst y17b.snd.snd.snd.snd.snd.snd.fst)) fun y27 => (optK ((hide grid_Same_F y27.fst y27.snd.fst y27.snd.snd y17b.snd.snd.snd.snd.snd.snd.snd.fst y17b.snd.snd.snd.snd.snd.snd.snd.snd.fst y17b.snd.snd.snd.snd.snd.snd.snd.snd.snd)) fun y28 => (bif y28 then (some (true)) else (some (false))))) else (some (false))))) else (some (false)))) else (some (false))) else (some (false)))))))))))))))))))))
noncomputable def linguistlaw7_GridLaws_A : SkL := (.cons (.agg (.cons (.int .i64) (.cons (.int .i64) (.cons (.int .i64) .nil)))) (.cons (.list (.one (.int .i32))) (.cons (.int .i64) (.cons (.int .i64) (.cons (.int .i64) (.cons (.int .i32) .nil))))))
noncomputable def linguistlaw7_GridLaws_B : Sk := .bool
def linguistlaw7_GridLaws_m {R : Type} (K : Bool → Option R) (o : Option (Bool)) : Option R := optK o fun y => K y
theorem linguistlaw7_GridLaws_run {R : Type} (x0 : Int) (x1 : Int) (x2 : Int) (x3 : List (Int)) (x4 : Int) (x5 : Int) (x6 : Int) (x7 : Int) (K : Bool → Option R) : acall (envL sums10 linguistlaw7_GridLaws_ll2 cs0 (fun _ _ => false)) 1000 6 (linguistlaw7_GridLaws_A.enc ((x0, (x1, (x2, ()))), (x3, (x4, (x5, (x6, (x7, ()))))))) [] (resK linguistlaw7_GridLaws_B true K) = linguistlaw7_GridLaws_m K (linguistlaw7_GridLaws_F x0 x1 x2 x3 x4 x5 x6 x7) := by
  refine Eq.trans (b := (optK ((hide linguistkeep_Pen_Pen_F x0 x1 x2)) fun y0 => (optK ((hide grid_Newf_F (2 : Int) (8 : Int) y0.fst y0.snd.fst y0.snd.snd)) fun y1 => (optK (hide linguistlaw7_GridLaws_L4 (linguistlaw7_GridLaws_fu4 x4 x5 x6 x7 x3 (Int.ofNat x3.length) (0 : Int) (y0.fst) (y0.snd.fst) (y0.snd.snd) (y1.fst) (y1.snd.fst) (y1.snd.snd)) x4 x5 x6 x7 x3 (Int.ofNat x3.length) (0 : Int) (y0.fst) (y0.snd.fst) (y0.snd.snd) (y1.fst) (y1.snd.fst) (y1.snd.snd)) fun y6 => (optK ((hide linguistbook_Within_F y6.fst (0 : Int) (1 : Int))) fun y7 => (optK ((hide linguistbook_Within_F y6.snd.fst (0 : Int) (7 : Int))) fun y8 => (optK ((hide grid_Put_F y6.snd.snd.snd.snd.snd.snd.snd.fst y6.snd.snd.snd.snd.snd.snd.snd.snd.fst y6.snd.snd.snd.snd.snd.snd.snd.snd.snd y7 y8 y6.snd.snd.snd.fst y6.snd.snd.snd.snd.fst y6.snd.snd.snd.snd.snd.fst y6.snd.snd.snd.snd.snd.snd.fst)) fun y9 => (optK ((hide linguistref1_Width_F y6.snd.snd.snd.fst)) fun y10 => (bif (decide (y10 < (1 : Int))) then (optK ((hide grid_Same_F y6.snd.snd.snd.snd.snd.snd.snd.fst y6.snd.snd.snd.snd.snd.snd.snd.snd.fst y6.snd.snd.snd.snd.snd.snd.snd.snd.snd y9.fst y9.snd.fst y9.snd.snd)) fun y11 => (bif y11 then (K (true)) else (K (false)))) else (bif (decide (IntKind.i64.wrap (y8 + y10) > (8 : Int))) then (optK ((hide grid_Same_F y6.snd.snd.snd.snd.snd.snd.snd.fst y6.snd.snd.snd.snd.snd.snd.snd.snd.fst y6.snd.snd.snd.snd.snd.snd.snd.snd.snd y9.fst y9.snd.fst y9.snd.snd)) fun y12 => (bif y12 then (K (true)) else (K (false)))) else (optK (hide linguistlaw7_GridLaws_L15 (linguistlaw7_GridLaws_fu15 (y6.snd.snd.fst) (y6.snd.snd.snd.fst) y7 y8 y10 (0 : Int) (y6.snd.snd.snd.snd.fst) (y6.snd.snd.snd.snd.snd.fst) (y6.snd.snd.snd.snd.snd.snd.fst) (y6.snd.snd.snd.snd.snd.snd.snd.fst) (y6.snd.snd.snd.snd.snd.snd.snd.snd.fst) (y6.snd.snd.snd.snd.snd.snd.snd.snd.snd) (y9.fst) (y9.snd.fst) (y9.snd.snd)) (y6.snd.snd.fst) (y6.snd.snd.snd.fst) y7 y8 y10 (0 : Int) (y6.snd.snd.snd.snd.fst) (y6.snd.snd.snd.snd.snd.fst) (y6.snd.snd.snd.snd.snd.snd.fst) (y6.snd.snd.snd.snd.snd.snd.snd.fst) (y6.snd.snd.snd.snd.snd.snd.snd.snd.fst) (y6.snd.snd.snd.snd.snd.snd.snd.snd.snd) (y9.fst) (y9.snd.fst) (y9.snd.snd)) fun y17 => (sumK y17 (fun y17a => (K y17a)) (fun y17b => (optK ((hide grid_At_F y17b.snd.snd.snd.snd.snd.snd.snd.fst y17b.snd.snd.snd.snd.snd.snd.snd.snd.fst y17b.snd.snd.snd.snd.snd.snd.snd.snd.snd y17b.snd.snd.fst y17b.snd.snd.snd.fst)) fun y18 => (optK ((hide grid_Resize_F y17b.snd.snd.snd.snd.snd.snd.snd.fst y17b.snd.snd.snd.snd.snd.snd.snd.snd.fst y17b.snd.snd.snd.snd.snd.snd.snd.snd.snd (4 : Int) (12 : Int))) fun y19 => (optK ((hide grid_Resize_F y19.fst y19.snd.fst y19.snd.snd (2 : Int) (8 : Int))) fun y20 => (optK ((hide linguistbook_Within_F y17b.fst (0 : Int) (8 : Int))) fun y21 => (optK ((hide grid_Wipe_F y17b.snd.snd.snd.snd.snd.snd.snd.fst y17b.snd.snd.snd.snd.snd.snd.snd.snd.fst y17b.snd.snd.snd.snd.snd.snd.snd.snd.snd (0 : Int) (0 : Int) (8 : Int) y17b.snd.snd.snd.snd.fst y17b.snd.snd.snd.snd.snd.fst y17b.snd.snd.snd.snd.snd.snd.fst)) fun y22 => (optK ((hide grid_Wipe_F y22.fst y22.snd.fst y22.snd.snd (1 : Int) (0 : Int) (8 : Int) y17b.snd.snd.snd.snd.fst y17b.snd.snd.snd.snd.snd.fst y17b.snd.snd.snd.snd.snd.snd.fst)) fun y23 => (bif (y18.snd.snd.snd.snd.snd) then (bif (y18.fst == y17b.snd.fst) then (optK ((hide grid_Same_F y20.fst y20.snd.fst y20.snd.snd y17b.snd.snd.snd.snd.snd.snd.snd.fst y17b.snd.snd.snd.snd.snd.snd.snd.snd.fst y17b.snd.snd.snd.snd.snd.snd.snd.snd.snd)) fun y24 => (bif y24 then (optK ((hide grid_Newf_F (2 : Int) (8 : Int) y17b.snd.snd.snd.snd.fst y17b.snd.snd.snd.snd.snd.fst y17b.snd.snd.snd.snd.snd.snd.fst)) fun y25 => (optK ((hide grid_Same_F y23.fst y23.snd.fst y23.snd.snd y25.fst y25.snd.fst y25.snd.snd)) fun y26 => (bif y26 then (optK ((hide grid_Wipe_F y17b.snd.snd.snd.snd.snd.snd.snd.fst y17b.snd.snd.snd.snd.snd.snd.snd.snd.fst y17b.snd.snd.snd.snd.snd.snd.snd.snd.snd y17b.snd.snd.fst y21 y21 y17b.snd.snd.snd.snd.fst y17b.snd.snd.snd.snd.snd.fst y17b.snd.snd.snd.snd.snd.snd.fst)) fun y27 => (optK ((hide grid_Same_F y27.fst y27.snd.fst y27.snd.snd y17b.snd.snd.snd.snd.snd.snd.snd.fst y17b.snd.snd.snd.snd.snd.snd.snd.snd.fst y17b.snd.snd.snd.snd.snd.snd.snd.snd.snd)) fun y28 => (bif y28 then (K (true)) else (K (false))))) else (K (false))))) else (K (false)))) else (K (false))) else (K (false)))))))))))))))))))))) (by kernel_rfl) ?_
  unfold linguistlaw7_GridLaws_F
  exact (optK_push (linguistlaw7_GridLaws_m K) rfl _ fun y0 => (optK_push (linguistlaw7_GridLaws_m K) rfl _ fun y1 => (optK_push (linguistlaw7_GridLaws_m K) rfl _ fun y6 => (optK_push (linguistlaw7_GridLaws_m K) rfl _ fun y7 => (optK_push (linguistlaw7_GridLaws_m K) rfl _ fun y8 => (optK_push (linguistlaw7_GridLaws_m K) rfl _ fun y9 => (optK_push (linguistlaw7_GridLaws_m K) rfl _ fun y10 => (cond_push (linguistlaw7_GridLaws_m K) _ (optK_push (linguistlaw7_GridLaws_m K) rfl _ fun y11 => (cond_push (linguistlaw7_GridLaws_m K) _ rfl rfl)) (cond_push (linguistlaw7_GridLaws_m K) _ (optK_push (linguistlaw7_GridLaws_m K) rfl _ fun y12 => (cond_push (linguistlaw7_GridLaws_m K) _ rfl rfl)) (optK_push (linguistlaw7_GridLaws_m K) rfl _ fun y17 => (sumK_push (linguistlaw7_GridLaws_m K) _ (fun y17a => rfl) (fun y17b => (optK_push (linguistlaw7_GridLaws_m K) rfl _ fun y18 => (optK_push (linguistlaw7_GridLaws_m K) rfl _ fun y19 => (optK_push (linguistlaw7_GridLaws_m K) rfl _ fun y20 => (optK_push (linguistlaw7_GridLaws_m K) rfl _ fun y21 => (optK_push (linguistlaw7_GridLaws_m K) rfl _ fun y22 => (optK_push (linguistlaw7_GridLaws_m K) rfl _ fun y23 => (cond_push (linguistlaw7_GridLaws_m K) _ (cond_push (linguistlaw7_GridLaws_m K) _ (optK_push (linguistlaw7_GridLaws_m K) rfl _ fun y24 => (cond_push (linguistlaw7_GridLaws_m K) _ (optK_push (linguistlaw7_GridLaws_m K) rfl _ fun y25 => (optK_push (linguistlaw7_GridLaws_m K) rfl _ fun y26 => (cond_push (linguistlaw7_GridLaws_m K) _ (optK_push (linguistlaw7_GridLaws_m K) rfl _ fun y27 => (optK_push (linguistlaw7_GridLaws_m K) rfl _ fun y28 => (cond_push (linguistlaw7_GridLaws_m K) _ rfl rfl))) rfl))) rfl)) rfl) rfl)))))))))))))))))))
noncomputable def linguistlaw7_GridLaws_G : GoF linguistlaw7_GridLaws_A linguistlaw7_GridLaws_B := fun R (x : ((Int × (Int × (Int × Unit))) × (List (Int) × (Int × (Int × (Int × (Int × Unit))))))) K => linguistlaw7_GridLaws_m K (hide linguistlaw7_GridLaws_F x.1.1 x.1.2.1 x.1.2.2.1 x.2.1 x.2.2.1 x.2.2.2.1 x.2.2.2.2.1 x.2.2.2.2.2.1)
theorem linguistlaw7_GridLaws_known : Known Try.prog 6 linguistlaw7_GridLaws_A linguistlaw7_GridLaws_B true linguistlaw7_GridLaws_G := known_of (envL_ok sums10_ok linguistlaw7_GridLaws_ll2_ok cs0_ok) (n := 1000) rfl fun R (x : ((Int × (Int × (Int × Unit))) × (List (Int) × (Int × (Int × (Int × (Int × Unit))))))) K => by
  show _ = linguistlaw7_GridLaws_m K (hide linguistlaw7_GridLaws_F x.1.1 x.1.2.1 x.1.2.2.1 x.2.1 x.2.2.1 x.2.2.2.1 x.2.2.2.2.1 x.2.2.2.2.2.1)
  rw [hide_eq]
  exact linguistlaw7_GridLaws_run x.1.1 x.1.2.1 x.1.2.2.1 x.2.1 x.2.2.1 x.2.2.2.1 x.2.2.2.2.1 x.2.2.2.2.2.1 K
end Go.Proofs.YtbaggedkejiakaaAbs

/- GridLaws: what the law's own program computes is true. -/
namespace Go.Proofs.YtbaggedkejiakaaAbs
set_option linter.unusedVariables false
set_option linter.unusedSimpArgs false
open Go Go.Proofs
theorem newf_eq {R C : Int} {h w : Nat} (hR : R = Int.ofNat h) (hC : C = Int.ofNat w) (h1 : 1 ≤ h) (hh : h ≤ 40) (w1 : 1 ≤ w) (hw : w ≤ 60) (p0 p1 p2 : Int) :
    hide grid_Newf_F R C p0 p1 p2 = some (R, C, List.replicate (h * w) (32, 0, p0, p1, p2)) := by
  have hsm := small_mul (show h ≤ 64 by omega) (show w ≤ 64 by omega)
  have hpos : 1 ≤ h * w := Nat.mul_le_mul h1 w1
  rw [hide_eq]; unfold grid_Newf_F
  simp only [blank_eq, optK_s]
  subst hR hC
  have i1 : ¬ (40 : Int) < Int.ofNat h := by simp; omega
  have i2 : ¬ (60 : Int) < Int.ofNat w := by simp; omega
  simp only [i1, i2, if_false]
  have i3 : (if Int.ofNat h > 1 then Int.ofNat h else 1) = Int.ofNat h := by
    split
    · rfl
    · rename_i k; simp at k ⊢; omega
  have i4 : (if Int.ofNat w > 1 then Int.ofNat w else 1) = Int.ofNat w := by
    split
    · rfl
    · rename_i k; simp at k ⊢; omega
  rw [i3, i4, row_lo h w (by omega) (by omega), repeat_eq _ _ hpos hsm]
  rfl


theorem laws_loop4 (x4 x5 x6 x7 p0 p1 p2 : Int) (l : List Int) (hl : l.length ≤ 9223372036854775807) : ∀ (n i : Nat) (g : List Cell), i ≤ l.length → l.length - i < n → RG 2 8 g →
    ∃ g', RG 2 8 g' ∧ linguistlaw7_GridLaws_L4 n x4 x5 x6 x7 l (Int.ofNat l.length) (Int.ofNat i) p0 p1 p2 2 8 g = some (x4, x5, x6, x7, p0, p1, p2, 2, 8, g') := by
  intro n
  induction n with
  | zero => intro i g h1 h2; omega
  | succ n ih =>
    intro i g h1 h2 hg
    rw [linguistlaw7_GridLaws_L4]
    by_cases hi : i < l.length
    · have e0 : decide ((0 : Int) ≤ Int.ofNat i) = true := by simp
      have ew : IntKind.i64.wrap (Int.ofNat i + 1) = Int.ofNat (i + 1) := by rw [w64 (by show _ ≤ (i : Int) + 1; omega) (by show (i : Int) + 1 < _; omega)]; rfl
      rw [ofNat_lt, e0, ew]
      simp only [hi, decide_true, cond_true, Bool.and_self]
      by_cases h8 : i < 8
      · have e8 : decide ((Int.ofNat i : Int) < 8) = true := by simp; omega
        obtain ⟨y, hy, y0, y1⟩ := within_eq (IntKind.i64.wrap (Int.ofNat i * 3)) 0 7 (by rw [w64 (by show _ ≤ (i : Int) * 3; omega) (by show (i : Int) * 3 < _; omega)]; show _ ≤ (i : Int) * 3; omega) (by rw [w64 (by show _ ≤ (i : Int) * 3; omega) (by show (i : Int) * 3 < _; omega)]; show (i : Int) * 3 < _; omega) (by omega) (by omega) (by omega)
        have ht : -1000 ≤ (Int.ofNat i).tmod 2 ∧ (Int.ofNat i).tmod 2 ≤ 1000 := by
          have e : (Int.ofNat i).tmod 2 = ((i % 2 : Nat) : Int) := rfl
          rw [e]; omega
        rw [e8, cond_true, hy]
        simp only [optK_s]
        rw [put_eq (R := 2) (C := 8) (h := 2) (w := 8) rfl rfl (by omega) (by omega) hg.1 ht (by omega)]
        simp only [optK_s]
        exact ih (i + 1) _ (by omega) (by omega) (hg.put _ _ _ _)
      · have e8 : decide ((Int.ofNat i : Int) < 8) = false := by simp; omega
        rw [e8, cond_false]
        exact ih (i + 1) _ (by omega) (by omega) hg
    · have : i = l.length := by omega
      subst this
      refine ⟨g, hg, ?_⟩
      simp
theorem laws_at {l : List Cell} (hl : l.length = 2 * 8) {i : Nat} (hi : i < 16) : hide grid_At_F 2 8 l (Int.ofNat (i / 8)) (Int.ofNat (i % 8)) = some ((l.getD i dC).1, (l.getD i dC).2.1, (l.getD i dC).2.2.1, (l.getD i dC).2.2.2.1, (l.getD i dC).2.2.2.2, true) := by
  rw [at_eq (R := 2) (C := 8) (h := 2) (w := 8) rfl rfl (by omega) (by omega) hl]
  unfold at_
  have h1 : (0 : Int) ≤ Int.ofNat (i / 8) ∧ Int.ofNat (i / 8) < (2 : Nat) ∧ (0 : Int) ≤ Int.ofNat (i % 8) ∧ Int.ofNat (i % 8) < (8 : Nat) := by
    refine ⟨?_, ?_, ?_, ?_⟩
    · show (0 : Int) ≤ ((i / 8 : Nat) : Int); omega
    · show ((i / 8 : Nat) : Int) < ((2 : Nat) : Int); omega
    · show (0 : Int) ≤ ((i % 8 : Nat) : Int); omega
    · show ((i % 8 : Nat) : Int) < ((8 : Nat) : Int); omega
  rw [if_pos h1]
  have e : (Int.ofNat (i / 8)).toNat * 8 + (Int.ofNat (i % 8)).toNat = i := by
    show i / 8 * 8 + i % 8 = i; omega
  rw [e]
theorem laws_loop15 (a0 a1 p0 p1 p2 : Int) (row col : Nat) (w : Int) (hrow : row ≤ 1) (hcol : col ≤ 7) (hw : 1 ≤ w ∧ w ≤ 2) (g h : List Cell) (hg : g.length = 2 * 8) (hh : h.length = 2 * 8)
    (hn : ∀ i, i < 16 → (i / 8 = row ∧ col ≤ i % 8 + 1 ∧ ((i % 8 : Nat) : Int) ≤ col + w) ∨ g.getD i dC = h.getD i dC) : ∀ (n i : Nat), i ≤ 16 → 16 - i < n →
    linguistlaw7_GridLaws_L15 n a0 a1 (Int.ofNat row) (Int.ofNat col) w (Int.ofNat i) p0 p1 p2 2 8 g 2 8 h = some (.inr (a0, a1, Int.ofNat row, Int.ofNat col, p0, p1, p2, 2, 8, h)) := by
  intro n
  induction n with
  | zero => intro i h1 h2; omega
  | succ n ih =>
    intro i h1 h2
    rw [linguistlaw7_GridLaws_L15]
    by_cases hi : i < 16
    · have e16 : decide ((Int.ofNat i : Int) < 16) = true := by simp; omega
      have et : (Int.ofNat i).tdiv 8 = Int.ofNat (i / 8) := rfl
      have em : (Int.ofNat i).tmod 8 = Int.ofNat (i % 8) := rfl
      have ew : IntKind.i64.wrap (Int.ofNat (i / 8)) = Int.ofNat (i / 8) := w64 (by show _ ≤ ((i / 8 : Nat) : Int); omega) (by show ((i / 8 : Nat) : Int) < _; omega)
      rw [e16, cond_true, et, em, ew, laws_at hg hi, laws_at hh hi, wrap_succ (by omega)]
      simp only [optK_s]
      have step := ih (i + 1) (by omega) (by omega)
      rcases hn i hi with ⟨n1, n2, n3⟩ | he
      · have c1 : (Int.ofNat (i / 8) == Int.ofNat row) = true := by rw [n1]; simp
        have c2 : decide (Int.ofNat (i % 8) ≥ IntKind.i64.wrap (Int.ofNat col - 1)) = true := by
          rw [w64 (by show _ ≤ (col : Int) - 1; omega) (by show (col : Int) - 1 < _; omega)]
          apply decide_eq_true
          show (col : Int) - 1 ≤ ((i % 8 : Nat) : Int)
          omega
        have c3 : decide (Int.ofNat (i % 8) ≤ IntKind.i64.wrap (Int.ofNat col + w)) = true := by
          rw [w64 (by show _ ≤ (col : Int) + w; omega) (by show (col : Int) + w < _; omega)]
          exact decide_eq_true n3
        rw [c1, c2, c3]
        simp only [cond_true, Bool.not_true, cond_false]
        exact step
      · rw [he]
        simp only [beq_self_eq_true, Bool.and_self, Bool.not_true, cond_false, Bool.cond_self]
        exact step
    · have : i = 16 := by omega
      subst this
      rfl
theorem gridLaws_true (x0 x1 x2 : Int) (x3 : List Int) (x4 x5 x6 x7 : Int) (h0 : in64 x0) (h1 : in64 x1) (h2 : in64 x2) (hl : x3.length ≤ 9223372036854775807) (h4 : in64 x4) (h5 : in64 x5) (h6 : in64 x6) (h7 : -2147483648 ≤ x7 ∧ x7 < 2147483648) :
    linguistlaw7_GridLaws_F x0 x1 x2 x3 x4 x5 x6 x7 = some true := by
  unfold linguistlaw7_GridLaws_F
  obtain ⟨⟨p0, p1, p2⟩, hp, _⟩ := pen_eq x0 x1 x2 h0 h1 h2
  obtain ⟨rw_, hr, r0, r1⟩ := within_eq x4 0 1 h4.1 h4.2 (by omega) (by omega) (by omega)
  obtain ⟨cl_, hc, c0, c1⟩ := within_eq x5 0 7 h5.1 h5.2 (by omega) (by omega) (by omega)
  obtain ⟨m, hm, m0, m1⟩ := within_eq x6 0 8 h6.1 h6.2 (by omega) (by omega) (by omega)
  obtain ⟨row, rfl⟩ : ∃ k : Nat, rw_ = Int.ofNat k := ⟨rw_.toNat, by show rw_ = ((rw_.toNat : Nat) : Int); omega⟩
  obtain ⟨col, rfl⟩ : ∃ k : Nat, cl_ = Int.ofNat k := ⟨cl_.toNat, by show cl_ = ((cl_.toNat : Nat) : Int); omega⟩
  have hrow : row ≤ 1 := by have : (row : Int) ≤ 1 := r1; omega
  have hcol : col ≤ 7 := by have : (col : Int) ≤ 7 := c1; omega
  have N : hide grid_Newf_F 2 8 p0 p1 p2 = some (2, 8, List.replicate (2 * 8) (32, 0, p0, p1, p2)) := newf_eq (R := 2) (C := 8) (h := 2) (w := 8) rfl rfl (by omega) (by omega) (by omega) (by omega) p0 p1 p2
  obtain ⟨g, hg, L4⟩ := laws_loop4 x4 x5 x6 x7 p0 p1 p2 x3 hl (linguistlaw7_GridLaws_fu4 x4 x5 x6 x7 x3 (Int.ofNat x3.length) 0 p0 p1 p2 2 8 (List.replicate (2 * 8) (32, 0, p0, p1, p2))) 0 (List.replicate (2 * 8) (32, 0, p0, p1, p2)) (by omega) (by unfold linguistlaw7_GridLaws_fu4; omega) (RG.blank 2 8 (p0, p1, p2))
  have L4' : hide linguistlaw7_GridLaws_L4 (linguistlaw7_GridLaws_fu4 x4 x5 x6 x7 x3 (Int.ofNat x3.length) 0 p0 p1 p2 2 8 (List.replicate (2 * 8) (32, 0, p0, p1, p2))) x4 x5 x6 x7 x3 (Int.ofNat x3.length) 0 p0 p1 p2 2 8 (List.replicate (2 * 8) (32, 0, p0, p1, p2)) = some (x4, x5, x6, x7, p0, p1, p2, 2, 8, g) := by rw [hide_eq]; exact L4
  have hput := put_eq (R := 2) (C := 8) (h := 2) (w := 8) rfl rfl (by omega) (by omega) hg.1 (r := Int.ofNat row) (c := Int.ofNat col) (x := x7) (by show -1000 ≤ (row : Int) ∧ (row : Int) ≤ 1000; omega) (by show -1000 ≤ (col : Int) ∧ (col : Int) ≤ 1000; omega) p0 p1 p2
  have hk := hg.put (Int.ofNat row) (Int.ofNat col) x7 (p0, p1, p2)
  have hwx := refw_eq h7
  have ewc : IntKind.i64.wrap (Int.ofNat col + widthP x7) = Int.ofNat col + widthP x7 := by
    have := width_cases x7
    exact w64 (by show _ ≤ (col : Int) + _; omega) (by show (col : Int) + _ < _; omega)
  have S := fun (a b : List Cell) (ha : a.length = 2 * 8) => same_eq 2 8 2 8 a b (by rw [ha]; decide)
  rw [hp]; simp only [optK_s]
  rw [N]; simp only [optK_s]
  rw [L4']; simp only [optK_s]
  rw [hr, hc]; simp only [optK_s]
  rw [hput]; simp only [optK_s]
  rw [hwx]; simp only [optK_s]
  rw [ewc]
  by_cases hw0 : widthP x7 = 0
  · have e : put 2 8 g (Int.ofNat row) (Int.ofNat col) x7 (p0, p1, p2) = g := by unfold put; rw [if_pos (Or.inl hw0)]
    rw [e, hw0, S g g hg.1]
    simp [optK_s]
  have hw12 : widthP x7 = 1 ∨ widthP x7 = 2 := by have := width_cases x7; omega
  have hd1 : decide (widthP x7 < 1) = false := decide_eq_false (by omega)
  rw [hd1, cond_false]
  by_cases hoff : Int.ofNat col + widthP x7 > 8
  · have e : put 2 8 g (Int.ofNat row) (Int.ofNat col) x7 (p0, p1, p2) = g := by unfold put; rw [if_pos (Or.inr (Or.inr (show ((8 : Nat) : Int) < Int.ofNat col + widthP x7 from hoff)))]
    have hd2 : decide (Int.ofNat col + widthP x7 > 8) = true := decide_eq_true hoff
    rw [e, hd2, cond_true, S g g hg.1]
    simp [optK_s]
  have hd2 : decide (Int.ofNat col + widthP x7 > 8) = false := decide_eq_false hoff
  rw [hd2, cond_false]
  have hoff' : (col : Int) + widthP x7 ≤ 8 := by have : ¬ ((col : Int) + widthP x7 > 8) := hoff; omega
  generalize hH : put 2 8 g (Int.ofNat row) (Int.ofNat col) x7 (p0, p1, p2) = h at *
  have hin : h = inRow 8 g row fun r => mend (putRow r col x7 (p0, p1, p2)) := by
    rw [← hH]; unfold put
    rw [if_neg (by
      have a1 : (0 : Int) ≤ Int.ofNat row := r0
      have a2 : (row : Int) < ((2 : Nat) : Int) := by omega
      have a3 : (0 : Int) ≤ Int.ofNat col := c0
      have a4 : (col : Int) < ((8 : Nat) : Int) := by omega
      rintro (a | a | a)
      · exact hw0 a
      · exact a ⟨a1, a2, a3, a4⟩
      · have : ((8 : Nat) : Int) < (col : Int) + widthP x7 := a
        omega)]
    rfl
  have hRl := rowOf_length hg.1 (show row < 2 by omega)
  have hFl : (mend (putRow (rowOf 8 g row) col x7 (p0, p1, p2))).length = 8 := by rw [mend_length, putRow_length, hRl]
  have hsame : rowOf 8 h row = mend (putRow (rowOf 8 g row) col x7 (p0, p1, p2)) := by rw [hin]; exact inRow_same (f := fun r => mend (putRow r col x7 (p0, p1, p2))) hg.1 (by omega) hFl
  have hother : ∀ r', r' < 2 → r' ≠ row → rowOf 8 h r' = rowOf 8 g r' := fun r' a b => by rw [hin]; exact inRow_other (f := fun r => mend (putRow r col x7 (p0, p1, p2))) hg.1 (by omega) hFl a b
  have hn : ∀ i, i < 16 → (i / 8 = row ∧ col ≤ i % 8 + 1 ∧ ((i % 8 : Nat) : Int) ≤ col + widthP x7) ∨ g.getD i dC = h.getD i dC := by
    intro i hi
    have e1 := rowOf_getD (w := 8) (l := g) (r := i / 8) (i := i % 8) (by omega)
    have e2 := rowOf_getD (w := 8) (l := h) (r := i / 8) (i := i % 8) (by omega)
    have e3 : i / 8 * 8 + i % 8 = i := by omega
    rw [e3] at e1 e2
    by_cases hri : i / 8 = row
    · by_cases hne : col ≤ i % 8 + 1 ∧ ((i % 8 : Nat) : Int) ≤ col + widthP x7
      · exact Or.inl ⟨hri, hne⟩
      · refine Or.inr ?_
        rw [← e1, ← e2, hri, hsame]
        exact (put_keep (hg.2 row (by omega)) hw12 (by omega) (by omega)).symm
    · refine Or.inr ?_
      rw [← e1, ← e2, hother _ (by omega) hri]
  have L15 := laws_loop15 x6 x7 p0 p1 p2 row col (widthP x7) hrow hcol (by omega) g h hg.1 hk.1 hn (linguistlaw7_GridLaws_fu15 x6 x7 (Int.ofNat row) (Int.ofNat col) (widthP x7) 0 p0 p1 p2 2 8 g 2 8 h) 0 (by omega) (by unfold linguistlaw7_GridLaws_fu15; rw [hg.1]; omega)
  have L15' : hide linguistlaw7_GridLaws_L15 (linguistlaw7_GridLaws_fu15 x6 x7 (Int.ofNat row) (Int.ofNat col) (widthP x7) 0 p0 p1 p2 2 8 g 2 8 h) x6 x7 (Int.ofNat row) (Int.ofNat col) (widthP x7) 0 p0 p1 p2 2 8 g 2 8 h = some (.inr (x6, x7, Int.ofNat row, Int.ofNat col, p0, p1, p2, 2, 8, h)) := by rw [hide_eq]; exact L15
  have hat := laws_at hk.1 (i := row * 8 + col) (by omega)
  rw [show (row * 8 + col) / 8 = row by omega, show (row * 8 + col) % 8 = col by omega] at hat
  have hx : (h.getD (row * 8 + col) dC).1 = x7 := by
    rw [← rowOf_getD (w := 8) (by omega), hsame]
    exact put_there hw12 (by rw [hRl]; omega)
  have hR1 : hide grid_Resize_F 2 8 h 4 12 = some (4, 12, resize 2 8 h 4 12) := resize_eq (R := 2) (C := 8) (h := 2) (w := 8) rfl rfl (by omega) (by omega) hk.1 4 12
  have hR2 : hide grid_Resize_F 4 12 (resize 2 8 h 4 12) 2 8 = some (2, 8, h) := by
    have := resize_eq (R := 4) (C := 12) (h := 4) (w := 12) rfl rfl (by omega) (by omega) (resize_length hk.1 4 12) 2 8
    refine this.trans ?_
    show some (Int.ofNat 2, Int.ofNat 8, resize 4 12 (resize 2 8 h 4 12) 2 8) = _
    rw [resize_back hk]; rfl
  have hW := fun (l : List Cell) (hl : l.length = 2 * 8) (r a b : Int) (ha : a ≤ 4000) => wipe_eq (R := 2) (C := 8) (h := 2) (w := 8) rfl rfl (by omega) (by omega) (by omega) hl (r := r) (a := a) (b := b) ha p0 p1 p2
  have hW1 := hW h hk.1 0 0 8 (by omega)
  have hW2 := hW _ (hk.wipe 0 0 8 (p0, p1, p2)).1 1 0 8 (by omega)
  rw [wipe_all hk] at hW2
  have hW3 := hW h hk.1 (Int.ofNat row) m m (by omega)
  rw [wipe_none hk _ _ m0] at hW3
  have hS1 := S h h hk.1
  have hS2 := S (List.replicate (2 * 8) (32, 0, p0, p1, p2)) (List.replicate (2 * 8) (32, 0, p0, p1, p2)) (by simp)
  rw [L15']; simp only [optK_s, sumK]
  simp only [hat, optK_s, hR1, hR2, hm, hW1, hW2, hW3, hx, hS1, hS2, N, beq_self_eq_true, cond_true, and_self, decide_true]
end Go.Proofs.YtbaggedkejiakaaAbs

/- GridWide: what the law's own program computes is true. -/
namespace Go.Proofs.YtbaggedkejiakaaAbs
set_option linter.unusedVariables false
set_option linter.unusedSimpArgs false
open Go Go.Proofs
def wideG (k : Nat) (p q : Pen) (x : Int) : List Cell := (List.range 8).map fun i => if i = k then (x, 1, q) else if i = k + 1 then (0, 2, q) else (32, 0, p)
theorem k_cases {k : Nat} (h : k ≤ 6) : k = 0 ∨ k = 1 ∨ k = 2 ∨ k = 3 ∨ k = 4 ∨ k = 5 ∨ k = 6 := by omega
theorem putw_eq {k : Nat} (hk : k ≤ 6) (p q : Pen) {x : Int} (hx : widthP x = 2) : put 1 8 (List.replicate 8 (32, 0, p)) 0 (Int.ofNat k) x q = wideG k p q x := by
  unfold put
  rw [if_neg (by rw [hx]; show ¬ ((2 : Int) = 0 ∨ ¬ ((0 : Int) ≤ 0 ∧ (0 : Int) < ((1 : Nat) : Int) ∧ 0 ≤ (k : Int) ∧ (k : Int) < ((8 : Nat) : Int)) ∨ ((8 : Nat) : Int) < (k : Int) + 2); omega)]
  unfold putRow
  simp only [hx, if_true]
  rcases k_cases hk with rfl | rfl | rfl | rfl | rfl | rfl | rfl <;> rfl
theorem w97 : widthP 97 = 1 := by decide
theorem w98 : widthP 98 = 1 := by decide
theorem left_at {k : Nat} (hk : k ≤ 6) (p q : Pen) (x : Int) : at_ 1 8 (put 1 8 (wideG k p q x) 0 (Int.ofNat k) 97 p) 0 (Int.ofNat (k + 1)) = (32, 0, q.1, q.2.1, q.2.2, true) := by
  unfold put putRow
  rw [if_neg (by rw [w97]; show ¬ ((1 : Int) = 0 ∨ ¬ ((0 : Int) ≤ 0 ∧ (0 : Int) < ((1 : Nat) : Int) ∧ 0 ≤ (k : Int) ∧ (k : Int) < ((8 : Nat) : Int)) ∨ ((8 : Nat) : Int) < (k : Int) + 1); omega)]
  simp only [w97]
  rcases k_cases hk with rfl | rfl | rfl | rfl | rfl | rfl | rfl <;> rfl
theorem right_at {k : Nat} (hk : k ≤ 6) (p q : Pen) (x : Int) : at_ 1 8 (put 1 8 (wideG k p q x) 0 (Int.ofNat (k + 1)) 98 p) 0 (Int.ofNat k) = (32, 0, q.1, q.2.1, q.2.2, true) := by
  unfold put putRow
  rw [if_neg (by rw [w98]; show ¬ ((1 : Int) = 0 ∨ ¬ ((0 : Int) ≤ 0 ∧ (0 : Int) < ((1 : Nat) : Int) ∧ 0 ≤ ((k + 1 : Nat) : Int) ∧ ((k + 1 : Nat) : Int) < ((8 : Nat) : Int)) ∨ ((8 : Nat) : Int) < ((k + 1 : Nat) : Int) + 1); omega)]
  simp only [w98]
  rcases k_cases hk with rfl | rfl | rfl | rfl | rfl | rfl | rfl <;> rfl
theorem wipe_at {k : Nat} (hk : k ≤ 6) (p q : Pen) (x : Int) : at_ 1 8 (wipe 1 8 (wideG k p q x) 0 (Int.ofNat (k + 1)) (Int.ofNat (k + 2)) p) 0 (Int.ofNat k) = (32, 0, q.1, q.2.1, q.2.2, true) ∧ at_ 1 8 (wipe 1 8 (wideG k p q x) 0 (Int.ofNat (k + 1)) (Int.ofNat (k + 2)) p) 0 (Int.ofNat (k + 1)) = (32, 0, p.1, p.2.1, p.2.2, true) := by
  rcases k_cases hk with rfl | rfl | rfl | rfl | rfl | rfl | rfl <;> exact ⟨rfl, rfl⟩
theorem cut_at {k : Nat} (hk : k ≤ 6) (p q : Pen) (x : Int) : at_ (lim 40 1) (lim 60 (Int.ofNat (k + 1))) (resize 1 8 (wideG k p q x) (lim 40 1) (lim 60 (Int.ofNat (k + 1)))) 0 (Int.ofNat k) = (32, 0, q.1, q.2.1, q.2.2, true) := by
  rcases k_cases hk with rfl | rfl | rfl | rfl | rfl | rfl | rfl <;> rfl
theorem wide_at {k : Nat} (hk : k ≤ 6) (p q : Pen) (x : Int) : at_ 1 8 (wideG k p q x) 0 (Int.ofNat k) = (x, 1, q.1, q.2.1, q.2.2, true) ∧ at_ 1 8 (wideG k p q x) 0 (Int.ofNat (k + 1)) = (0, 2, q.1, q.2.1, q.2.2, true) := by
  rcases k_cases hk with rfl | rfl | rfl | rfl | rfl | rfl | rfl <;> exact ⟨rfl, rfl⟩
theorem put_off {k : Nat} (p q : Pen) {x : Int} (hx : widthP x = 2) : put 1 8 (wideG k p q x) 0 7 x p = wideG k p q x := by
  unfold put
  rw [if_pos (by rw [hx]; exact .inr (.inr (by decide)))]
theorem wideG_length (k : Nat) (p q : Pen) (x : Int) : (wideG k p q x).length = 1 * 8 := by simp [wideG]
theorem enc3 {x : Int} (h1 : 19968 ≤ x) (h2 : x ≤ 20967) : (encB x).length = 3 := by
  have hw : IntKind.u32.wrap x = x := by rw [IntKind.wrap_u32]; omega
  unfold encB
  rw [hw, decide_eq_false (show ¬ x ≤ 127 by omega), decide_eq_false (show ¬ x ≤ 2047 by omega), decide_eq_true (show x < 55296 by omega)]
  rfl
theorem enc32 : encB 32 = [32] := by decide
theorem text_blank (p : Pen) : textOf (((List.replicate 8 ((32, 0, p) : Cell)).drop (0 * 8)).take 8) = [32, 32, 32, 32, 32, 32, 32, 32] := by
  simp [textOf, enc32]
theorem text_wide {k : Nat} (hk : k ≤ 6) (p q : Pen) {x : Int} (h1 : 19968 ≤ x) (h2 : x ≤ 20967) : (textOf (((wideG k p q x).drop (0 * 8)).take 8)).length = 9 := by
  have h3 := enc3 h1 h2
  rcases k_cases hk with rfl | rfl | rfl | rfl | rfl | rfl | rfl <;> simp [wideG, textOf, enc32, h3, List.range, List.range.loop]
theorem wide_x {x : Int} (h1 : 19968 ≤ x) (h2 : x ≤ 20967) : widthP x = 2 := by
  unfold widthP
  have a : narrowP x = false := by unfold narrowP; simp; omega
  have b : wideP x = true := by unfold wideP; simp; omega
  rw [a, b]; rfl
theorem gridWide_true (c n a0 a1 a2 b0 b1 b2 : Int) (hc : in64 c) (hn : in64 n) (h0 : in64 a0) (h1 : in64 a1) (h2 : in64 a2) (h3 : in64 b0) (h4 : in64 b1) (h5 : in64 b2) : linguistlaw7_GridWide_F c n a0 a1 a2 b0 b1 b2 = some true := by
  unfold linguistlaw7_GridWide_F
  obtain ⟨p, hp, _⟩ := pen_eq a0 a1 a2 h0 h1 h2
  obtain ⟨q, hq, _⟩ := pen_eq b0 b1 b2 h3 h4 h5
  obtain ⟨kk, hkk, k1, k2⟩ := within_eq c 0 6 hc.1 hc.2 (by omega) (by omega) (by omega)
  obtain ⟨m, hm, m1, m2⟩ := within_eq n 0 999 hn.1 hn.2 (by omega) (by omega) (by omega)
  obtain ⟨k, rfl⟩ : ∃ k : Nat, kk = Int.ofNat k := ⟨kk.toNat, by show kk = ((kk.toNat : Nat) : Int); omega⟩
  have hk : k ≤ 6 := by have : (k : Int) ≤ 6 := k2; omega
  have ex : IntKind.i32.wrap (IntKind.i64.wrap (19968 + m)) = 19968 + m := by rw [w64 (by omega) (by omega), w32 (by omega) (by omega)]
  obtain ⟨p0, p1, p2⟩ := p
  obtain ⟨q0, q1, q2⟩ := q
  have hx := wide_x (x := 19968 + m) (by omega) (by omega)
  have e1 : IntKind.i64.wrap (Int.ofNat k + 1) = Int.ofNat (k + 1) := wrap_succ (by omega)
  have e2 : IntKind.i64.wrap (Int.ofNat k + 2) = Int.ofNat (k + 2) := by rw [w64 (by simp; omega) (by simp; omega)]; rfl
  rw [hp, hq, hkk, hm]
  simp only [optK_s, ex, e1, e2]
  generalize hxx : 19968 + m = x at *
  have hr8 : (List.replicate 8 ((32, 0, p0, p1, p2) : Cell)).length = 1 * 8 := by simp
  have hgl := wideG_length k (p0, p1, p2) (q0, q1, q2) x
  have E1 : hide grid_New_F 1 8 p0 p1 p2 = some (1, 8, List.replicate 8 (32, 0, p0, p1, p2)) := new_eq (R := 1) (C := 8) (h := 1) (w := 8) rfl rfl (by omega) (by omega) (by omega) (by omega) p0 p1 p2
  have E2 : hide grid_Put_F 1 8 (List.replicate 8 (32, 0, p0, p1, p2)) 0 (Int.ofNat k) x q0 q1 q2 = some (1, 8, wideG k (p0, p1, p2) (q0, q1, q2) x) := by
    rw [put_eq (R := 1) (C := 8) (h := 1) (w := 8) rfl rfl (by omega) (by omega) hr8 (by omega) (by have : (k : Int) ≤ 6 := k2; show -1000 ≤ (k : Int) ∧ (k : Int) ≤ 1000; omega) q0 q1 q2, putw_eq hk (p0, p1, p2) (q0, q1, q2) hx]
  have A := fun (l : List Cell) (hl : l.length = 1 * 8) (c : Int) => at_eq (R := 1) (C := 8) (h := 1) (w := 8) rfl rfl (by omega) (by omega) hl (r := 0) (c := c)
  have E3 : hide grid_At_F 1 8 (wideG k (p0, p1, p2) (q0, q1, q2) x) 0 (Int.ofNat k) = some (x, 1, q0, q1, q2, true) := by rw [A _ hgl, (wide_at hk _ _ _).1]
  have E4 : hide grid_At_F 1 8 (wideG k (p0, p1, p2) (q0, q1, q2) x) 0 (Int.ofNat (k + 1)) = some (0, 2, q0, q1, q2, true) := by rw [A _ hgl, (wide_at hk _ _ _).2]
  have t1 := text_wide hk (p0, p1, p2) (q0, q1, q2) (x := x) (by omega) (by omega)
  have t2 := text_blank (p0, p1, p2)
  have E5 : hide grid_Text_F 1 8 (wideG k (p0, p1, p2) (q0, q1, q2) x) 0 = some (textOf (((wideG k (p0, p1, p2) (q0, q1, q2) x).drop (0 * 8)).take 8)) :=
    text_eq (R := 1) (C := 8) (h := 1) (w := 8) rfl rfl (by omega) (by omega) (by omega) hgl (r := 0) (by omega) (fun k => by rw [k] at t1; cases t1)
  have E6 : hide grid_Text_F 1 8 (List.replicate 8 (32, 0, p0, p1, p2)) 0 = some [32, 32, 32, 32, 32, 32, 32, 32] := by
    have := text_eq (R := 1) (C := 8) (h := 1) (w := 8) rfl rfl (by omega) (by omega) (by omega) hr8 (r := 0) (by omega) (by rw [t2]; simp)
    rw [t2] at this; exact this
  have E7 : (textOf (((wideG k (p0, p1, p2) (q0, q1, q2) x).drop (0 * 8)).take 8) == [32, 32, 32, 32, 32, 32, 32, 32]) = false := by
    apply beq_false_of_ne
    intro h; rw [h] at t1; cases t1
  have Pt := fun (c y : Int) (hc : -1000 ≤ c ∧ c ≤ 1000) => put_eq (R := 1) (C := 8) (h := 1) (w := 8) rfl rfl (by omega) (by omega) hgl (r := 0) (c := c) (x := y) (by omega) hc p0 p1 p2
  have hpl : ∀ (c y : Int), (put 1 8 (wideG k (p0, p1, p2) (q0, q1, q2) x) 0 c y (p0, p1, p2)).length = 1 * 8 := fun c y => by
    unfold put
    split
    · exact hgl
    · unfold inRow; simp [mend_length, putRow_length, hgl]
  have kb : -1000 ≤ (Int.ofNat k) ∧ (Int.ofNat k) ≤ 1000 := by have : (k : Int) ≤ 6 := k2; show -1000 ≤ (k : Int) ∧ (k : Int) ≤ 1000; omega
  have kb1 : -1000 ≤ (Int.ofNat (k + 1)) ∧ (Int.ofNat (k + 1)) ≤ 1000 := by show -1000 ≤ ((k + 1 : Nat) : Int) ∧ ((k + 1 : Nat) : Int) ≤ 1000; omega
  have E8 := Pt (Int.ofNat k) 97 kb
  have E9 := Pt (Int.ofNat (k + 1)) 98 kb1
  have E10 : hide grid_At_F 1 8 (put 1 8 (wideG k (p0, p1, p2) (q0, q1, q2) x) 0 (Int.ofNat k) 97 (p0, p1, p2)) 0 (Int.ofNat (k + 1)) = some (32, 0, q0, q1, q2, true) := by rw [A _ (hpl _ _), left_at hk]
  have E11 : hide grid_At_F 1 8 (put 1 8 (wideG k (p0, p1, p2) (q0, q1, q2) x) 0 (Int.ofNat (k + 1)) 98 (p0, p1, p2)) 0 (Int.ofNat k) = some (32, 0, q0, q1, q2, true) := by rw [A _ (hpl _ _), right_at hk]
  have E12 := wipe_eq (R := 1) (C := 8) (h := 1) (w := 8) rfl rfl (by omega) (by omega) (by omega) hgl (r := 0) (a := Int.ofNat (k + 1)) (b := Int.ofNat (k + 2)) (by have := kb1.2; omega) p0 p1 p2
  have hwl : (wipe 1 8 (wideG k (p0, p1, p2) (q0, q1, q2) x) 0 (Int.ofNat (k + 1)) (Int.ofNat (k + 2)) (p0, p1, p2)).length = 1 * 8 := by
    unfold wipe
    split
    · unfold inRow; simp [mend_length, fillR_length, hgl]
    · exact hgl
  have E13 : hide grid_At_F 1 8 (wipe 1 8 (wideG k (p0, p1, p2) (q0, q1, q2) x) 0 (Int.ofNat (k + 1)) (Int.ofNat (k + 2)) (p0, p1, p2)) 0 (Int.ofNat k) = some (32, 0, q0, q1, q2, true) := by rw [A _ hwl, (wipe_at hk _ _ _).1]
  have E14 : hide grid_At_F 1 8 (wipe 1 8 (wideG k (p0, p1, p2) (q0, q1, q2) x) 0 (Int.ofNat (k + 1)) (Int.ofNat (k + 2)) (p0, p1, p2)) 0 (Int.ofNat (k + 1)) = some (32, 0, p0, p1, p2, true) := by rw [A _ hwl, (wipe_at hk _ _ _).2]
  have E15 := resize_eq (R := 1) (C := 8) (h := 1) (w := 8) rfl rfl (by omega) (by omega) hgl 1 (Int.ofNat (k + 1))
  have E16 : hide grid_At_F (Int.ofNat (lim 40 1)) (Int.ofNat (lim 60 (Int.ofNat (k + 1)))) (resize 1 8 (wideG k (p0, p1, p2) (q0, q1, q2) x) (lim 40 1) (lim 60 (Int.ofNat (k + 1)))) 0 (Int.ofNat k) = some (32, 0, q0, q1, q2, true) := by
    rw [at_eq rfl rfl (by unfold lim; omega) (by unfold lim; omega) (resize_length hgl _ _), cut_at hk]
  have E17 : hide grid_Put_F 1 8 (wideG k (p0, p1, p2) (q0, q1, q2) x) 0 7 x p0 p1 p2 = some (1, 8, wideG k (p0, p1, p2) (q0, q1, q2) x) := by rw [Pt 7 x (by omega), put_off (p0, p1, p2) (q0, q1, q2) hx]
  have E18 := same_eq 1 8 1 8 (wideG k (p0, p1, p2) (q0, q1, q2) x) (wideG k (p0, p1, p2) (q0, q1, q2) x) (by rw [hgl]; decide)
  simp only [E1, optK_s, E2, E3, E4, E5, E6, E7, E8, E9, E10, E11, E12, E13, E14, E15, E16, E17, E18, beq_self_eq_true, Bool.and_self, Bool.not_true, cond_false, cond_true, and_self, decide_true]
end Go.Proofs.YtbaggedkejiakaaAbs

/- GridWide, called. -/
namespace Go.Proofs.YtbaggedkejiakaaAbs
set_option linter.unusedVariables false
open Go Go.Proofs Go.RowKit
theorem wf_in64 {x : Int} (h : (Lit.int .i64 x).wf = true) : in64 x := by
  simp [Lit.wf, IntKind.min, IntKind.max, IntKind.bits, IntKind.signed] at h
  unfold in64; omega
theorem isTrue_res : (isTrue : AV → Heap → Option Bool) = resK .bool true (fun b => some b) := by
  funext v h
  cases v <;> rfl
theorem law_res {P : Program} {E : Env} (hE : EnvOk P E) {n f : Nat} {args : List AV} {us : List Value} (e : acall (R := Bool) E n f args [] (resK .bool true (fun b => some b)) = some true) (W : World)
    (q : RelL ⟨W, fun _ => none, fun B => B < W.heap.size⟩ [] false args us) : Calls P f us.toArray W fun e W' => e = .returned (.bool true) ∧ Below W.heap.size W W' :=
  law_rows hE (by rw [isTrue_res]; exact e) W q
theorem gridWide_call (c : Int) (wc : (Lit.int .i64 c).wf = true) (n : Int) (wn : (Lit.int .i64 n).wf = true) (a0 a1 a2 : Int) (x0 : (Lit.int .i64 a0).wf = true) (x1 : (Lit.int .i64 a1).wf = true) (x2 : (Lit.int .i64 a2).wf = true)
    (b0 b1 b2 : Int) (y0 : (Lit.int .i64 b0).wf = true) (y1 : (Lit.int .i64 b1).wf = true) (y2 : (Lit.int .i64 b2).wf = true) (W : World) :
    Calls Try.prog 7 #[.int .i64 c, .int .i64 n, .agg #[.int .i64 a0, .int .i64 a1, .int .i64 a2], .agg #[.int .i64 b0, .int .i64 b1, .int .i64 b2]] W fun e W' => e = .returned (.bool true) ∧ Below W.heap.size W W' := by
  have h := linguistlaw7_GridWide_run c n a0 a1 a2 b0 b1 b2 (fun b => some b)
  rw [gridWide_true c n a0 a1 a2 b0 b1 b2 (wf_in64 wc) (wf_in64 wn) (wf_in64 x0) (wf_in64 x1) (wf_in64 x2) (wf_in64 y0) (wf_in64 y1) (wf_in64 y2)] at h
  refine law_res (us := [.int .i64 c, .int .i64 n, .agg #[.int .i64 a0, .int .i64 a1, .int .i64 a2], .agg #[.int .i64 b0, .int .i64 b1, .int .i64 b2]]) (envL_ok sums8_ok ll0_ok cs0_ok) h W ?_
  exact ⟨_, _, rfl, ⟨rfl, rfl⟩, (fun k => by cases k), _, _, rfl, ⟨rfl, rfl⟩, (fun k => by cases k),
    _, _, rfl, ⟨[.int .i64 a0, .int .i64 a1, .int .i64 a2], rfl, _, _, rfl, ⟨rfl, rfl⟩, (fun _ => rfl), _, _, rfl, ⟨rfl, rfl⟩, (fun _ => rfl), _, _, rfl, ⟨rfl, rfl⟩, (fun _ => rfl), rfl⟩, (fun k => by cases k),
    _, _, rfl, ⟨[.int .i64 b0, .int .i64 b1, .int .i64 b2], rfl, _, _, rfl, ⟨rfl, rfl⟩, (fun _ => rfl), _, _, rfl, ⟨rfl, rfl⟩, (fun _ => rfl), _, _, rfl, ⟨rfl, rfl⟩, (fun _ => rfl), rfl⟩, (fun k => by cases k), rfl⟩
end Go.Proofs.YtbaggedkejiakaaAbs

/- GridLaws, called. -/
namespace Go.Proofs.YtbaggedkejiakaaAbs
set_option linter.unusedVariables false
open Go Go.Proofs Go.RowKit
theorem wf_in32 {x : Int} (h : (Lit.int .i32 x).wf = true) : -2147483648 ≤ x ∧ x < 2147483648 := by
  simp [Lit.wf, IntKind.min, IntKind.max, IntKind.bits, IntKind.signed] at h
  omega
theorem gridLaws_run (k0 k1 k2 : Int) (runes : List Int) (r c n x : Int) (w0 : (Lit.int .i64 k0).wf = true) (w1 : (Lit.int .i64 k1).wf = true) (w2 : (Lit.int .i64 k2).wf = true)
    (w3 : List.length (α := Int) runes ≤ 9223372036854775807 ∧ ∀ y : Int, List.Mem y runes → ((Lit.int .i32 y).wf = true)) (w4 : (Lit.int .i64 r).wf = true) (w5 : (Lit.int .i64 c).wf = true) (w6 : (Lit.int .i64 n).wf = true) (w7 : (Lit.int .i32 x).wf = true) :
    acall (R := Bool) (envL sums10 linguistlaw7_GridLaws_ll2 cs0 (fun _ _ => false)) 1000 6 [.agg [.int .i64 k0, .int .i64 k1, .int .i64 k2], .list (.one (.int .i32)) runes false, .int .i64 r, .int .i64 c, .int .i64 n, .int .i32 x] [] (resK .bool true (fun b => some b)) = some true := by
  have h := linguistlaw7_GridLaws_run k0 k1 k2 runes r c n x (fun b => some b)
  rw [gridLaws_true k0 k1 k2 runes r c n x (wf_in64 w0) (wf_in64 w1) (wf_in64 w2) w3.1 (wf_in64 w4) (wf_in64 w5) (wf_in64 w6) (wf_in32 w7)] at h
  exact h
end Go.Proofs.YtbaggedkejiakaaAbs

/- Whatever reads as data is what the interpreter takes: rows of letters as arguments. -/
namespace Go.Proofs.YtbaggedkejiakaaAbs
set_option linter.unusedVariables false
open Go Go.Proofs Go.RowKit Go.ChangeShapes Go.WideShapes Go.Deep
abbrev gd (w : World) : Nat → Prop := fun B => B < w.heap.size
def OpC (P : Program) (w : World) (c : CTy) (t : TypeId) (WF : c.den → Prop) : Prop :=
  ∀ {H : Type} {enc : TypeId × Value → H} {spare : Nat → Bool} {held : Bool} {fuel : Nat} {cs : List Value} {x : DataW H × List MemPlace}, DataW.trod enc P w 0 spare held fuel t cs = some x → ∃ (a : c.den) (v : Value), cs = [v] ∧ c.rep w (gd w) a v ∧ WF a
def OpR (P : Program) (w : World) (r : Row) (t : TypeId) (WF : r.den → Prop) : Prop :=
  ∀ {H : Type} {enc : TypeId × Value → H} {spare : Nat → Bool} {held : Bool} {fuel : Nat} {cs : List Value} {x : DataW H × List MemPlace}, DataW.trod enc P w 0 spare held fuel t cs = some x → ∃ a : r.den, r.rep w (gd w) a cs ∧ WF a
section
variable {P : Program} {w : World} {t e : TypeId}
theorem OpC.int {k : IntKind} (ht : P.underlying t = some (.int k)) : OpC P w (.int k) t (fun a => (Lit.int k a).wf = true) := by
  intro H enc spare held fuel cs x h
  obtain ⟨a, rfl, _, hw⟩ := DataW.trod_int ht h
  refine ⟨a, _, rfl, ⟨rfl, ?_⟩, hw⟩
  cases k <;> first | rfl | (simp [Lit.wf, IntKind.min, IntKind.max, IntKind.bits, IntKind.signed] at hw; simp [u8ok, kindEq]; omega)
theorem OpC.bool (ht : P.underlying t = some .bool) : OpC P w .bool t (fun _ => True) := by
  intro H enc spare held fuel cs x h
  obtain ⟨a, rfl, _⟩ := DataW.trod_bool ht h
  exact ⟨a, _, rfl, rfl, trivial⟩
theorem OpC.str (ht : P.underlying t = some .string) : OpC P w .str t (fun s => ∃ b : ByteArray, bytesOf b = s ∧ b.size ≤ 9223372036854775807) := by
  intro H enc spare held fuel cs x h
  obtain ⟨a, rfl, _, hl⟩ := DataW.trod_string ht h
  refine ⟨bytesOf a, _, rfl, ⟨a, rfl, rfl⟩, a, rfl, ?_⟩
  unfold maxLen at hl
  omega
theorem cells_eq {a : Addr} {n : Nat} {cs : List Value} {c : Array Value} (h : w.cells? 0 a n = some cs) (hb : ∃ e fr, w.heap[a.block]? = some (.cells c e fr)) (hs : a.spot = none) : cs = (c.toList.drop a.off).take n := by
  obtain ⟨_, hl, hc⟩ := World.cells?_some h
  obtain ⟨e, fr, hb⟩ := hb
  apply List.ext_getElem?
  intro i
  by_cases hi : i < n
  · have h1 : w.cell? (a.add i) = c[a.off + i]? := by
      unfold World.cell? Addr.add
      by_cases h0 : i = 0
      · subst h0; simp [hb, hs]
      · simp [h0, hb]
    rw [← hc i hi, h1, List.getElem?_take_of_lt hi, List.getElem?_drop, Array.getElem?_toList]
  · rw [List.getElem?_eq_none (by omega), List.getElem?_eq_none (by simp; omega)]
theorem rows_lie {r : Row} {WF : r.den → Prop} {a : Addr} {len : Nat} (hr : 0 < r.size) (hp : 0 < len) (hx : ∀ i, i < len → ∃ (b : r.den) (cs : List Value), w.cells? 0 (a.add (i * r.size)) r.size = some cs ∧ r.rep w (gd w) b cs ∧ WF b) :
    a.spot = none ∧ a.block < w.heap.size ∧ ∃ l : List r.den, l.length = len ∧ (∀ x ∈ l, WF x) ∧ ∃ vs, RepAll (fun x cs => r.rep w (gd w) x cs) l vs ∧ Lies w a.block a.off vs := by
  obtain ⟨b0, cs0, h0, _, _⟩ := hx 0 hp
  obtain ⟨_, hl0, hc0⟩ := World.cells?_some h0
  have h00 := hc0 0 hr
  have hlt : 0 < cs0.length := by omega
  rw [List.getElem?_eq_getElem hlt] at h00
  have hbk : (∃ c e fr, w.heap[a.block]? = some (.cells c e fr)) ∧ a.spot = none := by
    have hz : (a.add (0 * r.size)).add 0 = a := by simp [Addr.add]
    rw [hz] at h00
    unfold World.cell? at h00
    split at h00
    · rename_i c e fr hb
      refine ⟨⟨c, e, fr, hb⟩, ?_⟩
      split at h00
      · cases h00
      · rename_i hn; simpa using hn
    · cases h00
  obtain ⟨⟨c, e, fr, hb⟩, hs⟩ := hbk
  have hbl : a.block < w.heap.size := (Array.getElem?_eq_some_iff.1 hb).1
  refine ⟨hs, hbl, ?_⟩
  have key : ∀ k, k ≤ len → ∃ l : List r.den, l.length = k ∧ (∀ x ∈ l, WF x) ∧ RepAll (fun x cs => r.rep w (gd w) x cs) l ((c.toList.drop a.off).take (k * r.size)) := by
    intro k
    induction k with
    | zero => intro _; exact ⟨[], rfl, (fun x hx => by cases hx), by simp [RepAll]⟩
    | succ k ih =>
      intro hk
      obtain ⟨l, hl, hw, hR⟩ := ih (by omega)
      obtain ⟨b, cs, h1, h2, h3⟩ := hx k (by omega)
      have hcs : cs = ((c.toList.drop a.off).drop (k * r.size)).take r.size := by
        have := cells_eq (c := c) h1 ⟨e, fr, by unfold Addr.add; split <;> exact hb⟩ (by unfold Addr.add; split <;> first | exact hs | rfl)
        rw [this, List.drop_drop]
        congr 2
        unfold Addr.add; split <;> simp_all
      refine ⟨l ++ [b], by simp [hl], ?_, ?_⟩
      · intro x hx'
        rcases List.mem_append.1 hx' with h | h
        · exact hw x h
        · rw [List.mem_singleton] at h; subst h; exact h3
      · have : (k + 1) * r.size = k * r.size + r.size := by rw [Nat.add_mul, Nat.one_mul]
        rw [this, List.take_add, ← hcs]
        exact RepAll.append hR ⟨cs, [], by simp, h2, rfl⟩
  obtain ⟨l, hl, hw, hR⟩ := key len (Nat.le_refl _)
  exact ⟨l, hl, hw, _, hR, c, e, fr, _, hb, (List.take_append_drop (len * r.size) _).symm⟩
theorem OpC.slice {r : Row} {WF : r.den → Prop} (ht : P.underlying t = some (.slice e)) (hr : 0 < r.size) (hc : P.cellsOf e = r.size) (he : OpR P w r e WF) : OpC P w (.slice r) t (fun l => List.length (α := r.den) l ≤ 9223372036854775807 ∧ ∀ x : r.den, List.Mem x l → WF x) := by
  intro H enc spare held fuel cs x h
  rcases open_slice ht h with ⟨rfl, _⟩ | ⟨a, len, cap, m, n, D, Pl, rfl, _, hl, hm, hmm, _, hx⟩
  · exact ⟨([] : List r.den), _, rfl, ⟨none, 0, 0, rfl, rfl, Nat.le_refl _, fun _ => rfl, Or.inl rfl⟩, by simp, fun x hx => by cases hx⟩
  · have hmle : len ≤ m := by rw [hmm]; split <;> omega
    have hmax : len ≤ 9223372036854775807 := by unfold maxLen at hm; omega
    by_cases hp : 0 < len
    · obtain ⟨hs, hb, l, hll, hw, vs, hR, hL⟩ := rows_lie (w := w) (a := a) (len := len) (WF := WF) hr hp (fun i hi => by
        obtain ⟨c, h1, h2⟩ := hx i (by omega)
        obtain ⟨b, h3, h4⟩ := he h2
        rw [hc] at h1
        exact ⟨b, c, h1, h3, h4⟩)
      refine ⟨l, _, rfl, ⟨some a, len, cap, rfl, hll.symm, hl, (fun k => by cases k), Or.inr ⟨a.block, a.off, vs, ?_, hb, hR, hL⟩⟩, by rw [hll]; exact hmax, hw⟩
      obtain ⟨B, o, s⟩ := a
      simp only at hs
      rw [hs]
    · have h0 : len = 0 := by omega
      subst h0
      exact ⟨([] : List r.den), _, rfl, ⟨some a, 0, cap, rfl, rfl, hl, (fun k => by cases k), Or.inl rfl⟩, by simp, fun x hx => by cases hx⟩
theorem OpR.one {c : CTy} {WF : c.den → Prop} (h : OpC P w c t WF) : OpR P w (.one c) t WF := by
  intro H enc spare held fuel cs x k
  obtain ⟨a, v, rfl, h1, h2⟩ := h k
  exact ⟨a, ⟨v, rfl, h1⟩, h2⟩
/-- A struct's field, out of the whole's reading. -/
theorem trod_field {H : Type} {enc : TypeId × Value → H} {spare : Nat → Bool} {held : Bool} {fuel : Nat} {cs : List Value} {x : DataW H × List MemPlace} {fs : Array Field} (ht : P.underlying t = some (.struct fs)) (h : DataW.trod enc P w 0 spare held fuel t cs = some x) :
    cs.length = P.cellsOf t ∧ ∃ n, ∀ (i : Nat) (f : Field), fs[i]? = some f → ∃ y, DataW.trod enc P w 0 spare held n f.type ((cs.drop f.offset).take (P.cellsOf f.type)) = some y := by
  obtain ⟨xs, n, _, _, hn, hl, hf⟩ := DataW.trod_struct ht h
  refine ⟨hn, n, fun i f hi => ?_⟩
  have h1 := hf i f hi
  have hlt : i < xs.length := by rw [hl]; exact (Array.getElem?_eq_some_iff.1 hi).1
  rw [List.getElem?_eq_getElem hlt] at h1
  exact ⟨_, h1⟩
end
end Go.Proofs.YtbaggedkejiakaaAbs
