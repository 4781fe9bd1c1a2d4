/- Texts of this session, joined (bundle2.py): GM3, GM4, GM5, GM6, GM7, GM8, GM9, GM10, GM11, GN1, GN2, GN3, GN4, GN5, D11, D12, WGridPlays, GC, WGridPlaysC, AbsOpen. -/
import Derived.ProofKit
import Derived.Deep.Slices
import Derived.WideShapes
import Derived.ChangeArms
import Derived.DataReads
import Derived.DataElems
import Derived.OpenShut
import Derived.Test.YtbaggedkejiakaaBunC4
/- Plain laws: cells at places, new grids, grids held against each other, numbers brought into bounds. -/
namespace Go.Proofs.YtbaggedkejiakaaAbs
set_option linter.unusedVariables false
set_option linter.unusedSimpArgs false
open Go Go.Proofs
def at_ (h w : Nat) (l : List Cell) (r c : Int) : Int × Int × Int × Int × Int × Bool :=
  if 0 ≤ r ∧ r < h ∧ 0 ≤ c ∧ c < w then (let x := l.getD (r.toNat * w + c.toNat) dC; (x.1, x.2.1, x.2.2.1, x.2.2.2.1, x.2.2.2.2, true)) else (0, 0, 0, 0, 0, false)
theorem at_eq {R C : Int} {h w : Nat} (hR : R = Int.ofNat h) (hC : C = Int.ofNat w) (hh : h ≤ 40) (hw : w ≤ 60) {l : List Cell} (hl : l.length = h * w) {r c : Int} :
    hide grid_At_F R C l r c = some (at_ h w l r c) := by
  rw [hide_eq]; unfold grid_At_F at_
  simp only [place_eq, optK_s]
  by_cases hp : 0 ≤ r ∧ r < R ∧ 0 ≤ c ∧ c < C
  · have hp' : 0 ≤ r ∧ r < (h : Int) ∧ 0 ≤ c ∧ c < (w : Int) := by rw [hR, hC] at hp; exact hp
    rw [decide_eq_true hp, if_pos hp']
    obtain ⟨rn, rfl⟩ : ∃ n : Nat, r = Int.ofNat n := ⟨r.toNat, by simp; omega⟩
    obtain ⟨cn, rfl⟩ : ∃ n : Nat, c = Int.ofNat n := ⟨c.toNat, by simp; omega⟩
    have hrn : rn < h := by have := hp'.2.1; simpa using this
    have hcn : cn < w := by have := hp'.2.2.2; simpa using this
    have hb := mul_bound (w := w) hrn
    subst hC
    simp only [row_lo rn w (by omega) (by omega), row_hi rn w (by omega) (by omega), toNat_ofNat', Bool.not_true, cond_false]
    rw [bnds_ok (by omega) (by omega), cutList_ok (by omega)]
    have e3 : rn * w + w - rn * w = w := by omega
    have hM : ((l.drop (rn * w)).take w).length = w := by simp; omega
    have e4 : decide ((0 : Int) ≤ Int.ofNat cn) = true := by simp
    rw [e3, hM, e4]
    simp only [ofNat_lt, hcn, decide_true, Bool.and_self, cond_true]
    have e5 : ((l.drop (rn * w)).take w).getD cn (0, 0, 0, 0, 0) = l.getD (rn * w + cn) dC := by
      simp only [List.getD_eq_getElem?_getD, List.getElem?_take, List.getElem?_drop, hcn, if_true]
    rw [e5]
  · have hp' : ¬ (0 ≤ r ∧ r < (h : Int) ∧ 0 ≤ c ∧ c < (w : Int)) := by rw [hR, hC] at hp; exact hp
    rw [decide_eq_false hp, if_neg hp']
    rfl

/-! ### repeated -/
theorem repeat_loop (b : Cell) (N : Nat) (hN : N < 4611686018427387904) : ∀ (n k : Nat) (l : List Cell), l.length = N → 1 ≤ k → k ≤ N → l.take k = List.replicate k b → N - k < n →
    slices_Repeat_api_Cell_L8 n (Int.ofNat k) l = some (List.replicate N b) := by
  intro n
  induction n with
  | zero => intro k l h1 h2 h3 h4 h5; omega
  | succ n ih =>
    intro k l h1 h2 h3 h4 h5
    rw [slices_Repeat_api_Cell_L8]
    rw [ofNat_lt, h1]
    by_cases hk : k < N
    · have b1 : bnds (some (Int.ofNat k)) none N = true := by simp [bnds]; omega
      have b2 : bnds none (some (Int.ofNat k)) N = true := by simp [bnds]; omega
      rw [decide_eq_true hk, b1, b2]
      have e0 : (none.getD (Int.ofNat N)).toNat = N := rfl
      simp only [cond_true, getD_some', toNat_ofNat', Nat.sub_zero, List.drop_zero, e0, h4, List.take_replicate, List.length_replicate]
      have hm : k.min (N - k) = min k (N - k) := rfl
      rw [hm, w64 (by simp; omega) (by simp; omega)]
      have e1 : Int.ofNat k + Int.ofNat (min k (N - k)) = Int.ofNat (k + min k (N - k)) := by simp
      rw [e1, Nat.min_comm (N - k) k]
      refine ih (k + min k (N - k)) _ ?_ (by omega) (by omega) ?_ (by omega)
      · unfold splice; simp; omega
      · unfold splice
        rw [h4, List.replicate_append_replicate, List.take_append_of_le_length (by simp), List.take_of_length_le (by simp)]
    · have : k = N := by omega
      subst this
      rw [decide_eq_false hk]
      rw [List.take_of_length_le (by omega)] at h4
      rw [h4]; rfl
theorem mul_hi_small (y : Int) (h0 : 0 ≤ y) (h1 : y ≤ 4096) : hide math_bits_Mul_F 1 y = some (0, y) := by
  rw [hide_eq]; unfold math_bits_Mul_F
  have a1 : bitsOp BinOp.and IntKind.u64 y 4294967295 = y := by
    have key : ∀ n : Nat, n ≤ 4096 → bitsOp BinOp.and IntKind.u64 (n : Int) 4294967295 = (n : Int) := by
      intro n hn
      have e1 : (BitVec.ofInt 64 (n : Int)) = BitVec.ofNat 64 n := by simp
      have e2 : (BitVec.ofNat 64 n &&& BitVec.ofNat 64 4294967295) = BitVec.ofNat 64 n := by
        apply BitVec.eq_of_toNat_eq
        simp only [BitVec.toNat_and, BitVec.toNat_ofNat]
        have : n % 2 ^ 64 = n := Nat.mod_eq_of_lt (by omega)
        rw [this, show (4294967295 % 2 ^ 64 : Nat) = 2 ^ 32 - 1 from rfl, Nat.and_two_pow_sub_one_eq_mod]
        exact Nat.mod_eq_of_lt (by omega)
      show IntKind.u64.wrap ((BitVec.ofInt 64 (n : Int) &&& BitVec.ofInt 64 4294967295).toNat : Int) = n
      have e3 : (BitVec.ofInt 64 4294967295) = BitVec.ofNat 64 4294967295 := rfl
      rw [e1, e3, e2, IntKind.wrap_u64]
      simp only [BitVec.toNat_ofNat]
      omega
    obtain ⟨n, rfl⟩ : ∃ n : Nat, y = (n : Int) := ⟨y.toNat, by omega⟩
    exact key n (by omega)
  have a2 : bitsOp BinOp.and IntKind.u64 1 4294967295 = 1 := by decide
  have a3 : (1 : Int).fdiv 4294967296 = 0 := by decide
  have a4 : y.fdiv 4294967296 = 0 := by
    rw [Int.fdiv_eq_ediv_of_nonneg _ (by omega)]; omega
  have a5 : IntKind.u64.wrap y = y := by rw [IntKind.wrap_u64]; omega
  have a6 : bitsOp BinOp.and IntKind.u64 0 4294967295 = 0 := by decide
  have a7 : IntKind.u64.wrap 0 = 0 := by decide
  have a8 : (0 : Int).fdiv 4294967296 = 0 := by decide
  simp only [a1, a2, a3, a4, a5, a6, a7, a8, Int.zero_mul, Int.mul_zero, Int.one_mul, Int.add_zero, Int.zero_add, Int.mul_one]
theorem repeat_eq (b : Cell) (n : Nat) (h1 : 1 ≤ n) (h2 : n ≤ 4096) : hide slices_Repeat_api_Cell_F [b] (Int.ofNat n) = some (List.replicate n b) := by
  rw [hide_eq]; unfold slices_Repeat_api_Cell_F
  have e0 : decide (Int.ofNat n < 0) = false := by simp
  rw [e0]
  simp only [cond_false, hide_eq]
  unfold slices_Repeat_api_Cell_J3
  have e1 : IntKind.u64.wrap (Int.ofNat [b].length) = 1 := by simp [IntKind.wrap_u64]
  have e2 : IntKind.u64.wrap (Int.ofNat n) = Int.ofNat n := by rw [IntKind.wrap_u64]; first | (simp; done) | (simp; omega) | (show (n : Int) % _ = n; omega)
  rw [e1, e2, mul_hi_small _ (by simp) (by first | (simp; done) | (simp; omega))]
  simp only [optK_s, hide_eq]
  have e3 : decide ((0 : Int) > 0) = false := by simp
  have e4 : decide (Int.ofNat n > 9223372036854775807) = false := by simp; omega
  rw [e3, e4]
  simp only [cond_false]
  unfold slices_Repeat_api_Cell_J6
  have e5 : IntKind.i64.wrap (Int.ofNat n) = Int.ofNat n := w64 (by first | (simp; done) | (simp; omega)) (by simp; omega)
  rw [e5]
  have e6 : decide ((0 : Int) ≤ Int.ofNat n) = true := by simp
  have e7 : decide (Int.ofNat n ≤ Int.ofNat n) = true := by simp
  have e8 : decide (Int.ofNat n ≤ 274877906944) = true := by simp; omega
  rw [e6, e7, e8]
  simp only [Bool.and_self, cond_true, hide_eq]
  have e9 : (rowN ((0 : Int), (0 : Int), (0 : Int), (0 : Int), (0 : Int)) (Int.ofNat n).toNat) = List.replicate n dC := rfl
  rw [e9]
  have e10 : [b].length.min (List.replicate n dC).length = 1 := by
    rw [List.length_replicate]; exact Nat.min_eq_left h1
  have e11 : splice (List.replicate n dC) 0 (List.take (List.replicate n dC).length [b]) = b :: List.replicate (n - 1) dC := by
    unfold splice
    simp only [List.length_replicate]
    have e12 : List.take n [b] = [b] := List.take_of_length_le (by simpa using h1)
    rw [e12]
    simp
  rw [e10, e11]
  have h := repeat_loop b n (by omega) (slices_Repeat_api_Cell_fu8 (Int.ofNat 1) (b :: List.replicate (n - 1) dC)) 1 (b :: List.replicate (n - 1) dC) (by simp; omega) (by omega) (by omega) (by simp) (by unfold slices_Repeat_api_Cell_fu8; simp; omega)
  rw [h]
  rfl
theorem new_eq {R C : Int} {h w : Nat} (hR : R = Int.ofNat h) (hC : C = Int.ofNat w) (h1 : 1 ≤ h) (hh : h ≤ 40) (w1 : 1 ≤ w) (hw : w ≤ 60) (p0 p1 p2 : Int) :
    hide grid_New_F R C p0 p1 p2 = some (R, C, List.replicate (h * w) (32, 0, p0, p1, p2)) := by
  have hsm := small_mul (show h ≤ 64 by omega) (show w ≤ 64 by omega)
  have hpos : 1 ≤ h * w := Nat.mul_le_mul h1 w1
  rw [hide_eq]; unfold grid_New_F
  simp only [blank_eq, optK_s]
  subst hR hC
  have i1 : ¬ (40 : Int) < Int.ofNat h := by simp; omega
  have i2 : ¬ (60 : Int) < Int.ofNat w := by simp; omega
  simp only [i1, i2, if_false]
  have i3 : (if Int.ofNat h > 1 then Int.ofNat h else 1) = Int.ofNat h := by
    split
    · rfl
    · rename_i k; simp at k ⊢; omega
  have i4 : (if Int.ofNat w > 1 then Int.ofNat w else 1) = Int.ofNat w := by
    split
    · rfl
    · rename_i k; simp at k ⊢; omega
  rw [i3, i4, row_lo h w (by omega) (by omega), repeat_eq _ _ hpos hsm]
  rfl

/-! ### held against each other -/
theorem cell_beq (a b : Cell) : (a.1 == b.1 && (a.2.1 == b.2.1 && (a.2.2.1 == b.2.2.1 && (a.2.2.2.1 == b.2.2.2.1 && (a.2.2.2.2 == b.2.2.2.2 && true))))) = decide (a = b) := by
  obtain ⟨a1, a2, a3, a4, a5⟩ := a
  obtain ⟨b1, b2, b3, b4, b5⟩ := b
  by_cases h : ((a1, a2, a3, a4, a5) : Cell) = (b1, b2, b3, b4, b5)
  · have k := h
    injection k with k1 k; injection k with k2 k; injection k with k3 k; injection k with k4 k5
    subst k1 k2 k3 k4 k5
    simp
  · rw [decide_eq_false h]
    simp only [Prod.mk.injEq] at h
    simp only [Bool.and_true, Bool.and_eq_false_iff, beq_eq_false_iff_ne, ne_eq]
    by_cases c1 : a1 = b1 <;> by_cases c2 : a2 = b2 <;> by_cases c3 : a3 = b3 <;> by_cases c4 : a4 = b4 <;> simp_all
theorem equal_loop (a b : List Cell) (hl : a.length = b.length) (hb : a.length < 4611686018427387904) : ∀ (n i : Nat), i ≤ a.length → a.length - i < n →
    slices_Equal_api_Cell_L4 n a b (Int.ofNat a.length) (Int.ofNat i) = some (if a.drop i = b.drop i then .inr () else .inl false) := by
  intro n
  induction n with
  | zero => intro i h1 h2; omega
  | succ n ih =>
    intro i h1 h2
    rw [slices_Equal_api_Cell_L4]
    by_cases hi : i < a.length
    · have e0 : decide ((0 : Int) ≤ Int.ofNat i) = true := by simp
      rw [ofNat_lt, ofNat_lt, e0, toNat_ofNat', cell_beq, wrap_succ (by omega), ih (i + 1) (by omega) (by omega)]
      have e2 : a.getD i dC = a[i] := by simp [hi]
      have e3 : b.getD i dC = b[i]'(by omega) := by simp [show i < b.length by omega]
      have hi2 : i < b.length := by omega
      simp only [hi, hi2, decide_true, Bool.and_self, cond_true, e2, e3]
      have hc : (a.drop i = b.drop i) ↔ (a[i] = b[i] ∧ a.drop (i + 1) = b.drop (i + 1)) := by
        rw [List.drop_eq_getElem_cons hi, List.drop_eq_getElem_cons hi2]
        exact ⟨fun k => by injection k with k1 k2; exact ⟨k1, k2⟩, fun k => by rw [k.1, k.2]⟩
      by_cases he : a[i] = b[i]
      · rw [decide_eq_true he]
        by_cases hd : a.drop (i + 1) = b.drop (i + 1)
        · rw [if_pos hd, if_pos (hc.2 ⟨he, hd⟩)]; rfl
        · rw [if_neg hd, if_neg (fun k => hd (hc.1 k).2)]; rfl
      · rw [decide_eq_false he, if_neg (fun k => he (hc.1 k).1)]; rfl
    · have : i = a.length := by omega
      subst this
      have e : decide (Int.ofNat a.length < Int.ofNat a.length) = false := by simp
      rw [e, List.drop_length, hl, List.drop_length]
      rfl
theorem equal_eq (a b : List Cell) (hb : a.length < 4611686018427387904) : hide slices_Equal_api_Cell_F a b = some (decide (a = b)) := by
  rw [hide_eq]; unfold slices_Equal_api_Cell_F
  by_cases hl : a.length = b.length
  · have : (Int.ofNat a.length != Int.ofNat b.length) = false := by rw [hl]; simp
    rw [this]
    simp only [cond_false, hide_eq]
    have h := equal_loop a b hl hb (slices_Equal_api_Cell_fu4 a b (Int.ofNat a.length) (Int.ofNat 0)) 0 (by omega) (by unfold slices_Equal_api_Cell_fu4; omega)
    rw [show (0 : Int) = Int.ofNat 0 from rfl, h]
    simp only [List.drop_zero, optK_s]
    by_cases he : a = b
    · simp [he, sumK]
    · simp [he, sumK]
  · have : (Int.ofNat a.length != Int.ofNat b.length) = true := by
      rw [bne_iff_ne]; intro k; exact hl (Int.ofNat.inj k)
    rw [this, decide_eq_false (fun k => hl (by rw [k]))]
    rfl
theorem same_eq (R C R' C' : Int) (a b : List Cell) (hb : a.length < 4611686018427387904) : hide grid_Same_F R C a R' C' b = some (decide (R = R' ∧ C = C' ∧ a = b)) := by
  rw [hide_eq]; unfold grid_Same_F
  rw [equal_eq a b hb]
  by_cases h1 : R = R'
  · by_cases h2 : C = C'
    · simp [h1, h2, optK_s]
    · have : decide (R = R' ∧ C = C' ∧ a = b) = false := decide_eq_false (fun k => h2 k.2.1)
      rw [this, show (C == C') = false from beq_false_of_ne h2, show (R == R') = true from by rw [h1]; simp]; rfl
  · have : decide (R = R' ∧ C = C' ∧ a = b) = false := decide_eq_false (fun k => h1 k.1)
    rw [this, show (R == R') = false from beq_false_of_ne h1]; rfl

/-! ### numbers brought into bounds -/
theorem within_eq (n lo hi : Int) (hn : -9223372036854775808 ≤ n) (hn2 : n < 9223372036854775808) (h0 : -1000000 ≤ lo) (h1 : lo ≤ hi) (h2 : hi < 4611686018427387904) :
    ∃ r, hide linguistbook_Within_F n lo hi = some r ∧ lo ≤ r ∧ r ≤ hi := by
  rw [hide_eq]; unfold linguistbook_Within_F
  rw [w64 (n := hi - lo) (by omega) (by omega), w64 (n := hi - lo + 1) (by omega) (by omega)]
  have e0 : (hi - lo + 1 == 0) = false := beq_false_of_ne (by omega)
  have b1 : n.tmod (hi - lo + 1) < hi - lo + 1 := Int.tmod_lt_of_pos _ (by omega)
  have b2 : -(hi - lo + 1) < n.tmod (hi - lo + 1) := by
    have := Int.lt_tmod_of_pos n (show 0 < hi - lo + 1 by omega); omega
  rw [e0]
  generalize n.tmod (hi - lo + 1) = m at *
  simp only [cond_false]
  by_cases hm : m < 0
  · rw [decide_eq_true hm]
    simp only [cond_true]
    rw [w64 (n := m + hi) (by omega) (by omega), w64 (n := m + hi - lo) (by omega) (by omega), w64 (n := m + hi - lo + 1) (by omega) (by omega), w64 (by omega) (by omega)]
    exact ⟨_, rfl, by omega, by omega⟩
  · rw [decide_eq_false hm]
    simp only [cond_false]
    rw [w64 (by omega) (by omega)]
    exact ⟨_, rfl, by omega, by omega⟩
end Go.Proofs.YtbaggedkejiakaaAbs

/- Plain laws: cells wiped, grids cut to a size, pens out of numbers. -/
namespace Go.Proofs.YtbaggedkejiakaaAbs
set_option linter.unusedVariables false
set_option linter.unusedSimpArgs false
open Go Go.Proofs
/-! ### places filled -/
def fillR {α : Type} (l : List α) (i : Nat) : Nat → α → List α
  | 0, _ => l
  | n + 1, y => fillR (l.set i y) (i + 1) n y
theorem fillR_length {α : Type} (y : α) : ∀ (n : Nat) (l : List α) (i : Nat), (fillR l i n y).length = l.length
  | 0, l, i => rfl
  | n + 1, l, i => by simp [fillR, fillR_length y n]
theorem fillR_get {α : Type} (y d : α) : ∀ (n : Nat) (l : List α) (i j : Nat), (fillR l i n y).getD j d = if i ≤ j ∧ j < i + n ∧ j < l.length then y else l.getD j d
  | 0, l, i, j => by simp [fillR]; intro h1 h2; omega
  | n + 1, l, i, j => by
    rw [fillR, fillR_get y d n]
    simp only [List.length_set]
    by_cases hj : j = i
    · subst hj
      rw [if_neg (by omega)]
      by_cases hl : j < l.length
      · rw [if_pos (by omega)]; simp [hl]
      · rw [if_neg (by omega)]; simp [List.getD_eq_getElem?_getD, hl]
    · have e : (l.set i y).getD j d = l.getD j d := by
        simp [List.getD_eq_getElem?_getD, List.getElem?_set, show ¬ i = j from fun k => hj k.symm]
      rw [e]
      by_cases h : i + 1 ≤ j ∧ j < i + 1 + n ∧ j < l.length
      · rw [if_pos h, if_pos (by omega)]
      · rw [if_neg h, if_neg (by omega)]
theorem fillR3 {α : Type} {A B : List α} (y : α) : ∀ (n c : Nat) (R : List α), c + n ≤ R.length → fillR (A ++ R ++ B) (A.length + c) n y = A ++ fillR R c n y ++ B
  | 0, c, R, h => rfl
  | n + 1, c, R, h => by
    rw [fillR, set3 c y (by omega), Nat.add_assoc, fillR3 y n (c + 1) (R.set c y) (by simp; omega)]
    rfl
def wipeN (w : Nat) (a b : Int) : Nat × Nat := ((max a 0).toNat, (min b w).toNat - (max a 0).toNat)
def wipe (h w : Nat) (l : List Cell) (r a b : Int) (p : Pen) : List Cell :=
  if 0 ≤ r ∧ r < h then inRow w l r.toNat fun row => mend (fillR row (wipeN w a b).1 (wipeN w a b).2 (32, 0, p)) else l
theorem wipe_loop {r t R C p0 p1 p2 x y : Int} {z : List Cell} {o len : Nat} (E : Int) (hE : (if C < t then C else t) = E) (hlen : E ≤ (len : Int)) (hl2 : len ≤ 4096) : ∀ (n c : Nat) (l : List Cell), E.toNat - c < n → c ≤ 4096 →
    grid_Wipe_L6 n r t o len (Int.ofNat c) R C p0 p1 p2 x y l z = some (r, R, C, x, y, fillR l (o + c) (E.toNat - c) (32, 0, p0, p1, p2), z) := by
  intro n
  induction n with
  | zero => intro c l h1 h2; omega
  | succ n ih =>
    intro c l h1 h2
    rw [grid_Wipe_L6, hE]
    by_cases hc : (Int.ofNat c) < E
    · have hc' : (c : Int) < E := hc
      have e0 : decide ((0 : Int) ≤ Int.ofNat c) = true := by simp
      have e1 : decide (Int.ofNat c < Int.ofNat len) = true := decide_eq_true (by show (c : Int) < (len : Int); omega)
      rw [decide_eq_true hc, e0, e1, blank_eq]
      simp only [cond_true, Bool.and_self, optK_s, toNat_ofNat']
      rw [wrap_succ (by omega), ih (c + 1) _ (by omega) (by omega)]
      have e2 : E.toNat - c = (E.toNat - (c + 1)) + 1 := by omega
      rw [e2, fillR]
      rfl
    · have hc' : ¬ (c : Int) < E := hc
      rw [decide_eq_false hc]
      have : E.toNat - c = 0 := by omega
      rw [this]; rfl
theorem wipe_eq {R C : Int} {h w : Nat} (hR : R = Int.ofNat h) (hC : C = Int.ofNat w) (hh : h ≤ 40) (w1 : 1 ≤ w) (hw : w ≤ 60) {l : List Cell} (hl : l.length = h * w) {r a b : Int} (ha : a ≤ 4000) (p0 p1 p2 : Int) :
    hide grid_Wipe_F R C l r a b p0 p1 p2 = some (R, C, wipe h w l r a b (p0, p1, p2)) := by
  have hsm := small_mul (show h ≤ 64 by omega) (show w ≤ 64 by omega)
  rw [hide_eq]; unfold grid_Wipe_F
  have e : (l.length.ble 274877906944) = true := Nat.ble_eq_true_of_le (by rw [hl]; omega)
  rw [e]
  simp only [cond_true, optK_s, place_eq]
  unfold wipe
  by_cases hp : 0 ≤ r ∧ r < (h : Int)
  · have hp2 : 0 ≤ r ∧ r < R ∧ (0 : Int) ≤ 0 ∧ 0 < C := by rw [hR, hC]; exact ⟨hp.1, hp.2, by omega, by show (0 : Int) < (w : Int); omega⟩
    rw [decide_eq_true hp2, if_pos hp]
    simp only [Bool.not_true, cond_false]
    obtain ⟨rn, rfl⟩ : ∃ n : Nat, r = Int.ofNat n := ⟨r.toNat, by simp; omega⟩
    have hrn : rn < h := by have := hp.2; simpa using this
    have hb := mul_bound (w := w) hrn
    subst hC
    simp only [row_lo rn w (by omega) (by omega), row_hi rn w (by omega) (by omega), getD_some', toNat_ofNat']
    rw [bnds_ok (by omega) (by omega)]
    have e3 : rn * w + w - rn * w = w := by omega
    simp only [cond_true, e3, hide_eq grid_Wipe_L6]
    have ea : (if (0 : Int) > a then 0 else a) = Int.ofNat (max a 0).toNat := by
      show _ = (((max a 0).toNat : Nat) : Int)
      split <;> omega
    have eE : (if Int.ofNat w < b then Int.ofNat w else b) = min b (w : Int) := by
      show (if (w : Int) < b then (w : Int) else b) = _
      split <;> omega
    rw [ea, wipe_loop (min b (w : Int)) eE (by omega) (by omega) _ _ _ (by unfold grid_Wipe_fu6; have : (min b (w : Int)).toNat ≤ w := (by omega); omega) (by omega)]
    simp only [optK_s, row_lo rn w (by omega) (by omega), row_hi rn w (by omega) (by omega), getD_some', toNat_ofNat', fillR_length]
    rw [bnds_ok (by omega) (by omega)]
    simp only [cond_true, e3]
    have hs := split3 l (rn * w) w (by omega)
    have hA : (l.take (rn * w)).length = rn * w := by simp; omega
    have hM : ((l.drop (rn * w)).take w).length = w := by simp; omega
    unfold inRow wipeN
    simp only [toNat_ofNat']
    generalize hAA : l.take (rn * w) = A at *
    generalize hMM : (l.drop (rn * w)).take w = M at *
    generalize hBB : l.drop (rn * w + w) = B at *
    generalize (max a 0).toNat = c at *
    subst hs
    clear hAA hMM hBB e
    rw [← hA]
    by_cases hcw : c ≤ w
    · rw [fillR3 _ _ c M (by omega)]
      generalize hX : fillR M c ((min b (w : Int)).toNat - c) (32, 0, p0, p1, p2) = X
      have hXl : X.length = w := by rw [← hX, fillR_length, hM]
      have e8 : List.take w (List.drop A.length (A ++ X ++ B)) = X := by
        have := @mid3 _ A X B
        rw [hXl] at this; exact this
      rw [e8, mend_eq _ (by omega)]
      simp only [optK_s]
      rw [List.take_of_length_le (by rw [mend_length]; omega), splice3 (by rw [mend_length])]
    · have : (min b (w : Int)).toNat - c = 0 := by omega
      rw [this]
      simp only [fillR]
      have e8 : List.take w (List.drop A.length (A ++ M ++ B)) = M := by
        have := @mid3 _ A M B
        rw [hM] at this; exact this
      rw [e8, mend_eq _ (by omega)]
      simp only [optK_s]
      rw [List.take_of_length_le (by rw [mend_length]; omega), splice3 (by rw [mend_length])]
  · have hp2 : ¬ (0 ≤ r ∧ r < R ∧ (0 : Int) ≤ 0 ∧ 0 < C) := by rw [hR]; exact fun k => hp ⟨k.1, k.2.1⟩
    rw [decide_eq_false hp2, if_neg hp]; rfl
end Go.Proofs.YtbaggedkejiakaaAbs

/- Plain laws: texts of rows, pens out of numbers. -/
namespace Go.Proofs.YtbaggedkejiakaaAbs
set_option linter.unusedVariables false
set_option linter.unusedSimpArgs false
open Go Go.Proofs
/-! ### texts -/
/-! ### pens -/
theorem colour_eq (n : Int) (h1 : -9223372036854775808 ≤ n) (h2 : n < 9223372036854775808) : ∃ v, hide linguistkeep_colour_F n = some v ∧ ((-1 ≤ v ∧ v ≤ 255) ∨ (16777216 ≤ v ∧ v < 33554432)) := by
  rw [hide_eq]; unfold linguistkeep_colour_F
  obtain ⟨a, ha, a1, a2⟩ := within_eq n 0 3 h1 h2 (by omega) (by omega) (by omega)
  rw [ha]
  have hd : -9223372036854775808 ≤ n.tdiv 4 ∧ n.tdiv 4 < 9223372036854775808 := by
    have : n.tmod 4 = n - 4 * n.tdiv 4 := Int.tmod_def _ _
    have b1 : n.tmod 4 < 4 := Int.tmod_lt_of_pos _ (by omega)
    have b2 : -4 < n.tmod 4 := by have := Int.lt_tmod_of_pos n (show (0 : Int) < 4 by omega); omega
    omega
  rw [w64 hd.1 hd.2]
  simp only [optK_s]
  cases c0 : a == 0 with
  | true => exact ⟨-1, rfl, .inl (by omega)⟩
  | false =>
    simp only [cond_false]
    cases c1 : a == 1 with
    | true =>
      obtain ⟨b, hb, b1, b2⟩ := within_eq (n.tdiv 4) 0 15 hd.1 hd.2 (by omega) (by omega) (by omega)
      exact ⟨b, by simp only [cond_true, hb, optK_s], .inl (by omega)⟩
    | false =>
      simp only [cond_false]
      cases c2 : a == 2 with
      | true =>
        obtain ⟨b, hb, b1, b2⟩ := within_eq (n.tdiv 4) 0 255 hd.1 hd.2 (by omega) (by omega) (by omega)
        exact ⟨b, by simp only [cond_true, hb, optK_s], .inl (by omega)⟩
      | false =>
        obtain ⟨b, hb, b1, b2⟩ := within_eq (n.tdiv 4) 0 16777215 hd.1 hd.2 (by omega) (by omega) (by omega)
        refine ⟨16777216 + b, by simp only [cond_false, hb, optK_s]; rw [w64 (by omega) (by omega)], .inr (by omega)⟩
def rightColour (v : Int) : Prop := (-1 ≤ v ∧ v ≤ 255) ∨ (16777216 ≤ v ∧ v < 33554432)
def rightPen (p : Pen) : Prop := rightColour p.1 ∧ rightColour p.2.1 ∧ 0 ≤ p.2.2 ∧ p.2.2 ≤ 255
def in64 (n : Int) : Prop := -9223372036854775808 ≤ n ∧ n < 9223372036854775808
theorem pen_eq (a b c : Int) (ha : in64 a) (hb : in64 b) (hc : in64 c) : ∃ p : Pen, hide linguistkeep_Pen_Pen_F a b c = some p ∧ rightPen p := by
  rw [hide_eq]; unfold linguistkeep_Pen_Pen_F
  obtain ⟨x, hx, x1⟩ := colour_eq a ha.1 ha.2
  obtain ⟨y, hy, y1⟩ := colour_eq b hb.1 hb.2
  obtain ⟨z, hz, z1, z2⟩ := within_eq c 0 255 hc.1 hc.2 (by omega) (by omega) (by omega)
  exact ⟨(x, y, z), by simp only [hx, hy, hz, optK_s], x1, y1, z1, z2⟩
end Go.Proofs.YtbaggedkejiakaaAbs

/- Plain laws: grids cut to a size. -/
namespace Go.Proofs.YtbaggedkejiakaaAbs
set_option linter.unusedVariables false
set_option linter.unusedSimpArgs false
open Go Go.Proofs
abbrev plainB : Cell := (32, 0, -1, -1, 0)
def rowOf (w : Nat) (l : List Cell) (r : Nat) : List Cell := (l.drop (r * w)).take w
def resizeRow (w w' : Nat) (row : List Cell) : List Cell := mend (row.take w' ++ List.replicate (w' - w) plainB)
def preR (w w' : Nat) (l : List Cell) (k : Nat) : List Cell := (List.range k).flatMap fun r => resizeRow w w' (rowOf w l r)
def resize (h w : Nat) (l : List Cell) (h' w' : Nat) : List Cell := preR w w' l (min h h') ++ List.replicate ((h' - min h h') * w') plainB
theorem resizeRow_length {w w' : Nat} {row : List Cell} (h : row.length = w) : (resizeRow w w' row).length = w' := by
  unfold resizeRow; rw [mend_length]; simp; omega
theorem rowOf_length {h w : Nat} {l : List Cell} (hl : l.length = h * w) {r : Nat} (hr : r < h) : (rowOf w l r).length = w := by
  have := mul_bound (w := w) hr
  unfold rowOf; simp; omega
theorem preR_succ (w w' : Nat) (l : List Cell) (k : Nat) : preR w w' l (k + 1) = preR w w' l k ++ resizeRow w w' (rowOf w l k) := by
  unfold preR; rw [List.range_succ, List.flatMap_append]; simp
theorem preR_length {h w w' : Nat} {l : List Cell} (hl : l.length = h * w) : ∀ k, k ≤ h → (preR w w' l k).length = k * w'
  | 0, _ => by simp [preR]
  | k + 1, hk => by rw [preR_succ, List.length_append, preR_length hl k (by omega), resizeRow_length (rowOf_length hl (by omega)), Nat.add_mul, Nat.one_mul]
theorem resize_length {h w : Nat} {l : List Cell} (hl : l.length = h * w) (h' w' : Nat) : (resize h w l h' w').length = h' * w' := by
  unfold resize
  rw [List.length_append, preR_length hl _ (by omega), List.length_replicate, ← Nat.add_mul]
  congr 1; omega
theorem resize_loop {h w h' w' : Nat} (hh : h ≤ 40) (hw : w ≤ 60) (hh' : h' ≤ 40) (hw' : w' ≤ 60) {l : List Cell} (hl : l.length = h * w) {x0 x5 x6 : Int} {x9 : List Cell} : ∀ (n k : Nat), k ≤ min h h' → min h h' - k < n →
    grid_Resize_L3 n (Int.ofNat (min h h')) (Int.ofNat k) x0 (Int.ofNat w) l x5 x6 (Int.ofNat h') (Int.ofNat w') x9 (preR w w' l k ++ List.replicate ((h' - k) * w') plainB) = some (x5, x6, Int.ofNat h', Int.ofNat w', x9, resize h w l h' w') := by
  intro n
  induction n with
  | zero => intro k h1 h2; omega
  | succ n ih =>
    intro k h1 h2
    rw [grid_Resize_L3]
    by_cases hk : k < min h h'
    · have hkh : k < h := by omega
      have hkh' : k < h' := by omega
      have hb := mul_bound (w := w) hkh
      have hb' := mul_bound (w := w') hkh'
      have hsm := small_mul (show h ≤ 64 by omega) (show w ≤ 64 by omega)
      have hsm' := small_mul (show h' ≤ 64 by omega) (show w' ≤ 64 by omega)
      have hA : (preR w w' l k).length = k * w' := preR_length hl k (by omega)
      have hsplit : List.replicate ((h' - k) * w') plainB = List.replicate w' plainB ++ List.replicate ((h' - (k + 1)) * w') plainB := by
        rw [List.replicate_append_replicate]
        congr 1
        have : h' - k = (h' - (k + 1)) + 1 := by omega
        rw [this, Nat.add_mul, Nat.one_mul, Nat.add_comm]
      have hlen : (preR w w' l k ++ (List.replicate w' plainB ++ List.replicate ((h' - (k + 1)) * w') plainB)).length = h' * w' := by
        rw [← hsplit]
        rw [List.length_append, hA, List.length_replicate, ← Nat.add_mul]
        congr 1; omega
      rw [ofNat_lt, decide_eq_true hk]
      simp only [cond_true, row_lo k w (by omega) (by omega), row_hi k w (by omega) (by omega), row_lo k w' (by omega) (by omega), row_hi k w' (by omega) (by omega), getD_some', toNat_ofNat', hsplit, hlen]
      rw [bnds_ok (by omega) (by omega), bnds_ok (by omega) (by omega), cutList_ok (by omega)]
      have e3 : k * w + w - k * w = w := by omega
      have e4 : k * w' + w' - k * w' = w' := by omega
      have hrow := rowOf_length hl hkh
      have er : (l.drop (k * w)).take w = rowOf w l k := rfl
      simp only [cond_true, Bool.and_self, e3, e4, er]
      obtain ⟨row, hrw⟩ : ∃ row, rowOf w l k = row := ⟨_, rfl⟩
      rw [hrw] at hrow ⊢
      rw [← List.append_assoc, ← hA]
      have hs1 : splice (preR w w' l k ++ List.replicate w' plainB ++ List.replicate ((h' - (k + 1)) * w') plainB) (preR w w' l k).length (row.take w') = preR w w' l k ++ (row.take w' ++ List.replicate (w' - w) plainB) ++ List.replicate ((h' - (k + 1)) * w') plainB := by
        unfold splice
        have e1 : (preR w w' l k ++ List.replicate w' plainB ++ List.replicate ((h' - (k + 1)) * w') plainB).take (preR w w' l k).length = preR w w' l k := by simp
        have e2 : (preR w w' l k ++ List.replicate w' plainB ++ List.replicate ((h' - (k + 1)) * w') plainB).drop ((preR w w' l k).length + (row.take w').length) = List.replicate (w' - w) plainB ++ List.replicate ((h' - (k + 1)) * w') plainB := by
          rw [List.append_assoc, ← List.drop_drop, List.drop_left, List.drop_append_of_le_length (by simp; omega)]
          congr 1
          rw [List.drop_replicate]; congr 1; simp; omega
        rw [e1, e2]
        simp only [List.append_assoc]
      rw [hs1]
      have hXl : (row.take w' ++ List.replicate (w' - w) plainB).length = w' := by simp; omega
      have hlen2 : (preR w w' l k ++ (row.take w' ++ List.replicate (w' - w) plainB) ++ List.replicate ((h' - (k + 1)) * w') plainB).length = h' * w' := by
        rw [List.length_append, List.length_append, hXl]
        rw [List.length_append, List.length_append] at hlen
        simp only [List.length_replicate] at hlen ⊢
        omega
      rw [hlen2, hA, bnds_ok (by omega) (by omega)]
      simp only [cond_true]
      rw [← hA]
      have e8 : List.take w' (List.drop (preR w w' l k).length (preR w w' l k ++ (row.take w' ++ List.replicate (w' - w) plainB) ++ List.replicate ((h' - (k + 1)) * w') plainB)) = row.take w' ++ List.replicate (w' - w) plainB := by
        have := @mid3 _ (preR w w' l k) (row.take w' ++ List.replicate (w' - w) plainB) (List.replicate ((h' - (k + 1)) * w') plainB)
        rw [hXl] at this; exact this
      rw [e8, mend_eq _ (by omega)]
      simp only [optK_s]
      have e9 : List.take w' (mend (row.take w' ++ List.replicate (w' - w) plainB)) = mend (row.take w' ++ List.replicate (w' - w) plainB) := List.take_of_length_le (by rw [mend_length, hXl]; exact Nat.le_refl _)
      rw [e9, splice3 (by rw [mend_length]), wrap_succ (by omega)]
      have hfin := ih (k + 1) (by omega) (by omega)
      rw [preR_succ, hrw] at hfin
      exact hfin
    · have : k = min h h' := by omega
      subst this
      have e : decide (Int.ofNat (min h h') < Int.ofNat (min h h')) = false := by simp
      rw [e]
      rfl
theorem plain_eq : hide cell_Plain_F = some (-1, -1, 0) := by rw [hide_eq]; rfl
/-- A size brought into the limits. -/
def lim (m : Nat) (n : Int) : Nat := (max 1 (min n m)).toNat
theorem new_lim (a b : Int) (p0 p1 p2 : Int) : hide grid_New_F a b p0 p1 p2 = some (Int.ofNat (lim 40 a), Int.ofNat (lim 60 b), List.replicate (lim 40 a * lim 60 b) (32, 0, p0, p1, p2)) := by
  have h1 : 1 ≤ lim 40 a ∧ lim 40 a ≤ 40 := by unfold lim; omega
  have h2 : 1 ≤ lim 60 b ∧ lim 60 b ≤ 60 := by unfold lim; omega
  have h := new_eq (R := Int.ofNat (lim 40 a)) (C := Int.ofNat (lim 60 b)) rfl rfl h1.1 h1.2 h2.1 h2.2 p0 p1 p2
  rw [hide_eq] at h ⊢
  unfold grid_New_F at h ⊢
  have i1 : (if (if (40 : Int) < a then (40 : Int) else a) > 1 then (if (40 : Int) < a then (40 : Int) else a) else 1) = Int.ofNat (lim 40 a) := by
    show _ = ((lim 40 a : Nat) : Int)
    unfold lim
    split <;> split <;> omega
  have i2 : (if (if (60 : Int) < b then (60 : Int) else b) > 1 then (if (60 : Int) < b then (60 : Int) else b) else 1) = Int.ofNat (lim 60 b) := by
    show _ = ((lim 60 b : Nat) : Int)
    unfold lim
    split <;> split <;> omega
  have j1 : (if (if (40 : Int) < Int.ofNat (lim 40 a) then (40 : Int) else Int.ofNat (lim 40 a)) > 1 then (if (40 : Int) < Int.ofNat (lim 40 a) then (40 : Int) else Int.ofNat (lim 40 a)) else 1) = Int.ofNat (lim 40 a) := by
    have k1 : ¬ (40 : Int) < Int.ofNat (lim 40 a) := by show ¬ (40 : Int) < ((lim 40 a : Nat) : Int); omega
    simp only [k1, if_false]
    have : ((lim 40 a : Nat) : Int) = Int.ofNat (lim 40 a) := rfl
    split <;> omega
  have j2 : (if (if (60 : Int) < Int.ofNat (lim 60 b) then (60 : Int) else Int.ofNat (lim 60 b)) > 1 then (if (60 : Int) < Int.ofNat (lim 60 b) then (60 : Int) else Int.ofNat (lim 60 b)) else 1) = Int.ofNat (lim 60 b) := by
    have k1 : ¬ (60 : Int) < Int.ofNat (lim 60 b) := by show ¬ (60 : Int) < ((lim 60 b : Nat) : Int); omega
    simp only [k1, if_false]
    have : ((lim 60 b : Nat) : Int) = Int.ofNat (lim 60 b) := rfl
    split <;> omega
  rw [i1, i2]
  rw [j1, j2] at h
  exact h
theorem resize_eq {R C : Int} {h w : Nat} (hR : R = Int.ofNat h) (hC : C = Int.ofNat w) (hh : h ≤ 40) (hw : w ≤ 60) {l : List Cell} (hl : l.length = h * w) (a b : Int) :
    hide grid_Resize_F R C l a b = some (Int.ofNat (lim 40 a), Int.ofNat (lim 60 b), resize h w l (lim 40 a) (lim 60 b)) := by
  have h1 : 1 ≤ lim 40 a ∧ lim 40 a ≤ 40 := by unfold lim; omega
  have h2 : 1 ≤ lim 60 b ∧ lim 60 b ≤ 60 := by unfold lim; omega
  rw [hide_eq]; unfold grid_Resize_F
  rw [plain_eq]
  simp only [optK_s, new_lim, hide_eq grid_Resize_L3]
  generalize lim 40 a = h' at *
  generalize lim 60 b = w' at *
  subst hR hC
  have eE : (if Int.ofNat h' < Int.ofNat h then Int.ofNat h' else Int.ofNat h) = Int.ofNat (min h h') := by
    show (if (h' : Int) < (h : Int) then (h' : Int) else (h : Int)) = ((min h h' : Nat) : Int)
    split <;> omega
  rw [eE]
  have e0 : List.replicate (h' * w') plainB = preR w w' l 0 ++ List.replicate ((h' - 0) * w') plainB := by simp [preR]
  have hloop := resize_loop hh hw h1.2 h2.2 hl (x0 := Int.ofNat h) (x5 := 0) (x6 := 0) (x9 := []) (grid_Resize_fu3 (Int.ofNat (min h h')) (Int.ofNat 0) (Int.ofNat h) (Int.ofNat w) l 0 0 (Int.ofNat h') (Int.ofNat w') [] (List.replicate (h' * w') plainB)) 0 (by omega) (by
    unfold grid_Resize_fu3
    have : (Int.ofNat (min h h')).natAbs = min h h' := rfl
    omega)
  rw [← e0] at hloop
  have : (Int.ofNat 0) = (0 : Int) := rfl
  rw [this] at hloop
  rw [hloop]
  rfl
end Go.Proofs.YtbaggedkejiakaaAbs

/- Plain laws: right rows. -/
namespace Go.Proofs.YtbaggedkejiakaaAbs
set_option linter.unusedVariables false
set_option linter.unusedSimpArgs false
open Go Go.Proofs
def kd (l : List Cell) (i : Nat) : Int := (l.getD i dC).2.1
theorem half_iff (l : List Cell) (i : Nat) : halfB l i = true ↔ (kd l i = 1 ∧ (i + 1 = l.length ∨ kd l (i + 1) ≠ 2)) ∨ (kd l i = 2 ∧ (i = 0 ∨ kd l (i - 1) ≠ 1)) := by
  unfold halfB
  show (bif kd l i == 1 then (decide (i + 1 = l.length) || (kd l (i + 1) != 2)) else bif kd l i == 2 then (decide (i = 0) || (kd l (i - 1) != 1)) else false) = true ↔ _
  by_cases h1 : kd l i = 1
  · simp [h1]
  · by_cases h2 : kd l i = 2 <;> simp [h1, h2]
def rightR (l : List Cell) : Prop := ∀ i, i < l.length → halfB l i = false
theorem kd_mend (l : List Cell) (i : Nat) (h : i < l.length) : kd (mend l) i = if halfB l i = true then 0 else kd l i := by
  unfold kd
  rw [mend_getD l i h]
  unfold mendAt
  cases hh : halfB l i
  · simp
  · simp [blankOf]
theorem right_mend (l : List Cell) : rightR (mend l) := by
  intro i hi
  rw [mend_length] at hi
  cases hb : halfB (mend l) i
  · rfl
  · rw [half_iff, mend_length] at hb
    exfalso
    have k0 := kd_mend l i hi
    have n0 : halfB l i = true → False := by
      intro h
      rw [if_pos h] at k0
      rcases hb with ⟨h1, _⟩ | ⟨h1, _⟩ <;> omega
    rw [if_neg n0] at k0
    rw [half_iff] at n0
    rcases hb with ⟨h1, h2⟩ | ⟨h1, h2⟩
    · rw [k0] at h1
      have a1 : i + 1 ≠ l.length := fun h => n0 (Or.inl ⟨h1, Or.inl h⟩)
      have a2 : kd l (i + 1) = 2 := by
        apply Decidable.byContradiction
        intro h
        exact n0 (Or.inl ⟨h1, Or.inr h⟩)
      rcases h2 with h2 | h2
      · exact a1 h2
      · apply h2
        rw [kd_mend l (i + 1) (by omega), if_neg, a2]
        rw [half_iff]
        rintro (⟨h3, _⟩ | ⟨_, h3 | h3⟩)
        · omega
        · omega
        · exact h3 (by simpa using h1)
    · rw [k0] at h1
      have a1 : i ≠ 0 := fun h => n0 (Or.inr ⟨h1, Or.inl h⟩)
      have a2 : kd l (i - 1) = 1 := by
        apply Decidable.byContradiction
        intro h
        exact n0 (Or.inr ⟨h1, Or.inr h⟩)
      rcases h2 with h2 | h2
      · exact a1 h2
      · apply h2
        rw [kd_mend l (i - 1) (by omega), if_neg, a2]
        rw [half_iff]
        have e : i - 1 + 1 = i := by omega
        rw [e]
        rintro (⟨_, h3 | h3⟩ | ⟨h3, _⟩)
        · omega
        · exact h3 h1
        · omega
theorem right_singles {l : List Cell} (h : ∀ x ∈ l, x.2.1 = 0) : rightR l := by
  intro i hi
  cases hb : halfB l i
  · rfl
  · rw [half_iff] at hb
    have : kd l i = 0 := by unfold kd; rw [List.getD_eq_getElem?_getD, List.getElem?_eq_getElem hi]; exact h _ (List.getElem_mem hi)
    omega
end Go.Proofs.YtbaggedkejiakaaAbs

/- Plain laws: the document's width of a rune. -/
namespace Go.Proofs.YtbaggedkejiakaaAbs
set_option linter.unusedVariables false
set_option linter.unusedSimpArgs false
open Go Go.Proofs
theorem refw_loop (x : Int) (l : List (Int × Int)) (hl : l.length < 4611686018427387904) : ∀ (n i : Nat), i ≤ l.length → l.length - i < n →
    linguistref1_Width_L5 n x l (Int.ofNat l.length) (Int.ofNat i) = some (if (l.drop i).any (fun p => decide (p.1 ≤ x ∧ x ≤ p.2)) then .inl 2 else .inr ()) := by
  intro n
  induction n with
  | zero => intro i h1 h2; omega
  | succ n ih =>
    intro i h1 h2
    rw [linguistref1_Width_L5]
    by_cases hi : i < l.length
    · have e0 : decide ((0 : Int) ≤ Int.ofNat i) = true := by simp
      rw [ofNat_lt, e0]
      simp only [hi, decide_true, cond_true, Bool.and_self]
      rw [List.drop_eq_getElem_cons hi, List.any_cons]
      have e1 : l.getD (Int.ofNat i).toNat (0, 0) = l[i] := by simp [hi]
      rw [e1, wrap_succ (by omega), ih (i + 1) (by omega) (by omega)]
      by_cases a : l[i].1 ≤ x
      · by_cases b : x ≤ l[i].2
        · have e2 : decide (l[i].1 ≤ x ∧ x ≤ l[i].2) = true := decide_eq_true ⟨a, b⟩
          rw [e2]; simp [a, b]
        · have e2 : decide (l[i].1 ≤ x ∧ x ≤ l[i].2) = false := decide_eq_false fun k => b k.2
          rw [e2, Bool.false_or]; simp [a, b]
      · have e2 : decide (l[i].1 ≤ x ∧ x ≤ l[i].2) = false := decide_eq_false fun k => a k.1
        rw [e2, Bool.false_or]; simp [a]
    · have : i = l.length := by omega
      subst this
      simp
theorem refw_eq {x : Int} (hx : -2147483648 ≤ x ∧ x < 2147483648) : hide linguistref1_Width_F x = some (widthP x) := by
  rw [hide_eq]; unfold linguistref1_Width_F
  rw [w64 (by omega) (by omega)]
  have h := refw_loop x [((4352 : Int), (4447 : Int)), ((11904 : Int), (42191 : Int)), ((44032 : Int), (55203 : Int)), ((63744 : Int), (64255 : Int)), ((65072 : Int), (65135 : Int)), ((65280 : Int), (65376 : Int)), ((65504 : Int), (65510 : Int)), ((127744 : Int), (129791 : Int)), ((131072 : Int), (262141 : Int))] (by decide)
    (linguistref1_Width_fu5 x [((4352 : Int), (4447 : Int)), ((11904 : Int), (42191 : Int)), ((44032 : Int), (55203 : Int)), ((63744 : Int), (64255 : Int)), ((65072 : Int), (65135 : Int)), ((65280 : Int), (65376 : Int)), ((65504 : Int), (65510 : Int)), ((127744 : Int), (129791 : Int)), ((131072 : Int), (262141 : Int))] 9 0) 0 (by omega) (by unfold linguistref1_Width_fu5; simp)
  have e9 : (Int.ofNat 9 : Int) = 9 := rfl
  have e0 : (Int.ofNat 0 : Int) = 0 := rfl
  simp only [List.length_cons, List.length_nil, e0, Nat.zero_add, Nat.reduceAdd, e9] at h
  simp only [hide_eq, h]
  simp only [List.drop_zero, List.any_cons, List.any_nil, Bool.or_false, optK_s]
  have hw : (decide (4352 ≤ x ∧ x ≤ 4447) || (decide (11904 ≤ x ∧ x ≤ 42191) || (decide (44032 ≤ x ∧ x ≤ 55203) || (decide (63744 ≤ x ∧ x ≤ 64255) || (decide (65072 ≤ x ∧ x ≤ 65135) || (decide (65280 ≤ x ∧ x ≤ 65376) || (decide (65504 ≤ x ∧ x ≤ 65510) || (decide (127744 ≤ x ∧ x ≤ 129791) || decide (131072 ≤ x ∧ x ≤ 262141))))))))) = wideP x := by
    unfold wideP; simp only [Bool.or_assoc]
  rw [hw]
  have e : ∀ c : Bool, (sumK (if c = true then Sum.inl 2 else Sum.inr () : Int ⊕ Unit) (fun y2a => some y2a) fun y2b => some 1 : Option Int) = some (bif c then 2 else 1) := fun c => by cases c <;> rfl
  simp only [e]
  unfold widthP narrowP
  generalize wideP x = wp
  by_cases a1 : x < 32
  · simp [a1]
  by_cases a2 : x ≥ 127
  · by_cases a3 : x < 160
    · have : x ≤ 159 := by omega
      simp [a1, a2, a3, this]
    by_cases a4 : x ≥ 768
    · by_cases a5 : x ≤ 879
      · simp [a1, a2, a3, a4, a5]
      · by_cases a6 : x > 1114111
        · have : ¬ x ≤ 159 := by omega
          simp [a1, a2, a3, a4, a5, a6]
        · by_cases a7 : x ≥ 55296
          · by_cases a8 : x ≤ 57343
            · simp [a1, a2, a3, a4, a5, a6, a7, a8]
            · have : ¬ x ≤ 159 := by omega
              simp [a1, a2, a3, a4, a5, a6, a7, a8, this]
          · have : ¬ x ≤ 159 := by omega
            simp [a1, a2, a3, a4, a5, a6, a7, this]
    · have b1 : ¬ x ≤ 159 := by omega
      have b2 : ¬ x > 1114111 := by omega
      have b3 : ¬ x ≥ 55296 := by omega
      simp [a1, a2, a3, a4, b1, b2, b3]
  · have b2 : ¬ x > 1114111 := by omega
    have b3 : ¬ x ≥ 55296 := by omega
    have b4 : ¬ x ≥ 768 := by omega
    simp [a1, a2, b2, b3, b4]
end Go.Proofs.YtbaggedkejiakaaAbs

/- Plain laws: what put leaves as it was. -/
namespace Go.Proofs.YtbaggedkejiakaaAbs
set_option linter.unusedVariables false
set_option linter.unusedSimpArgs false
open Go Go.Proofs
end Go.Proofs.YtbaggedkejiakaaAbs

/- Plain laws: right grids, row by row. -/
namespace Go.Proofs.YtbaggedkejiakaaAbs
set_option linter.unusedVariables false
set_option linter.unusedSimpArgs false
open Go Go.Proofs
section
variable {h w : Nat} {l : List Cell} {r : Nat} {f : List Cell → List Cell}
theorem inRow_length (hl : l.length = h * w) (hr : r < h) (hf : (f (rowOf w l r)).length = w) : (inRow w l r f).length = h * w := by
  have := mul_bound (w := w) hr
  unfold inRow
  have hf' : (f ((l.drop (r * w)).take w)).length = w := hf
  simp only [List.length_append, List.length_take, List.length_drop, hf']
  omega
theorem inRow_same (hl : l.length = h * w) (hr : r < h) (hf : (f (rowOf w l r)).length = w) : rowOf w (inRow w l r f) r = f (rowOf w l r) := by
  have hb := mul_bound (w := w) hr
  have hA : (l.take (r * w)).length = r * w := by simp; omega
  show ((l.take (r * w) ++ f (rowOf w l r) ++ l.drop (r * w + w)).drop (r * w)).take w = _
  rw [List.append_assoc, List.drop_append_of_le_length (by omega), List.drop_of_length_le (by omega), List.nil_append, List.take_append_of_le_length (by omega), List.take_of_length_le (by omega)]
theorem inRow_other (hl : l.length = h * w) (hr : r < h) (hf : (f (rowOf w l r)).length = w) {r' : Nat} (hr' : r' < h) (hne : r' ≠ r) : rowOf w (inRow w l r f) r' = rowOf w l r' := by
  have hb := mul_bound (w := w) hr
  have hb' := mul_bound (w := w) hr'
  have hA : (l.take (r * w)).length = r * w := by simp; omega
  show ((l.take (r * w) ++ f (rowOf w l r) ++ l.drop (r * w + w)).drop (r' * w)).take w = (l.drop (r' * w)).take w
  by_cases hlt : r' < r
  · have hb2 := mul_bound (w := w) hlt
    rw [List.append_assoc, List.drop_append_of_le_length (by omega), List.take_append_of_le_length (by rw [List.length_drop]; omega), List.drop_take, List.take_take]
    congr 1
    omega
  · have hb2 := mul_bound (w := w) (show r < r' by omega)
    have hX : (l.take (r * w) ++ f (rowOf w l r)).length = r * w + w := by rw [List.length_append, hA, hf]
    rw [List.drop_append, List.drop_of_length_le (by omega), List.nil_append, List.drop_drop, hX]
    congr 2
    omega
end
def RG (h w : Nat) (l : List Cell) : Prop := l.length = h * w ∧ ∀ r, r < h → rightR (rowOf w l r)
theorem RG.inRow {h w : Nat} {l : List Cell} {r : Nat} {f : List Cell → List Cell} (k : RG h w l) (hr : r < h) (hf : (f (rowOf w l r)).length = w) (hR : rightR (f (rowOf w l r))) : RG h w (inRow w l r f) := by
  refine ⟨inRow_length k.1 hr hf, fun r' hr' => ?_⟩
  by_cases e : r' = r
  · subst e; rw [inRow_same k.1 hr hf]; exact hR
  · rw [inRow_other k.1 hr hf hr' e]; exact k.2 r' hr'
theorem RG.put {h w : Nat} {l : List Cell} (k : RG h w l) (r c x : Int) (p : Pen) : RG h w (put h w l r c x p) := by
  unfold Go.Proofs.YtbaggedkejiakaaAbs.put
  split
  · exact k
  · rename_i hn
    have hr : r.toNat < h := by omega
    exact k.inRow hr (by rw [mend_length, putRow_length, rowOf_length k.1 hr]) (right_mend _)
theorem RG.wipe {h w : Nat} {l : List Cell} (k : RG h w l) (r a b : Int) (p : Pen) : RG h w (wipe h w l r a b p) := by
  unfold Go.Proofs.YtbaggedkejiakaaAbs.wipe
  split
  · rename_i hn
    have hr : r.toNat < h := by omega
    exact k.inRow hr (by rw [mend_length, fillR_length, rowOf_length k.1 hr]) (right_mend _)
  · exact k
theorem RG.blank (h w : Nat) (p : Pen) : RG h w (List.replicate (h * w) (32, 0, p)) := by
  refine ⟨by simp, fun r hr => right_singles fun x hx => ?_⟩
  have : x ∈ List.replicate (h * w) ((32, 0, p) : Cell) := List.mem_of_mem_drop (List.mem_of_mem_take hx)
  rw [List.mem_replicate] at this
  rw [this.2]
end Go.Proofs.YtbaggedkejiakaaAbs

/- Plain laws: wiped, resized there and back. -/
namespace Go.Proofs.YtbaggedkejiakaaAbs
set_option linter.unusedVariables false
set_option linter.unusedSimpArgs false
open Go Go.Proofs
theorem rep_row {w h r : Nat} (hr : r < h) (b : Cell) : rowOf w (List.replicate (h * w) b) r = List.replicate w b := by
  have := mul_bound (w := w) hr
  unfold rowOf
  rw [List.drop_replicate, List.take_replicate]
  congr 1
  omega
end Go.Proofs.YtbaggedkejiakaaAbs

/- Plain laws: rows whose cells may be. -/
namespace Go.Proofs.YtbaggedkejiakaaAbs
set_option linter.unusedVariables false
set_option linter.unusedSimpArgs false
open Go Go.Proofs
theorem getD_set {α : Type} (l : List α) (i j : Nat) (y d : α) : (l.set i y).getD j d = if i = j ∧ j < l.length then y else l.getD j d := by
  by_cases h : i = j
  · subst h
    by_cases hl : i < l.length
    · simp [hl]
    · simp [List.getD_eq_getElem?_getD, hl]
  · rw [if_neg (fun k => h k.1)]
    simp [List.getD_eq_getElem?_getD, List.getElem?_set_ne h]
theorem getD_append_l {α : Type} {a b : List α} {i : Nat} (d : α) (h : i < a.length) : (a ++ b).getD i d = a.getD i d := by
  simp [List.getD_eq_getElem?_getD, List.getElem?_append_left h]
theorem getD_append_r {α : Type} {a b : List α} {i : Nat} (d : α) (h : a.length ≤ i) : (a ++ b).getD i d = b.getD (i - a.length) d := by
  simp [List.getD_eq_getElem?_getD, List.getElem?_append_right h]
theorem getD_take {α : Type} {a : List α} {i n : Nat} (d : α) (h : i < n) : (a.take n).getD i d = a.getD i d := by
  simp [List.getD_eq_getElem?_getD, List.getElem?_take_of_lt h]
theorem getD_rep {α : Type} {i n : Nat} (y d : α) (h : i < n) : (List.replicate n y).getD i d = y := by
  simp [List.getD_eq_getElem?_getD, List.getElem?_replicate, h]
theorem ext_getD {α : Type} {a b : List α} (d : α) (hl : a.length = b.length) (h : ∀ i, i < a.length → a.getD i d = b.getD i d) : a = b := by
  apply List.ext_getElem hl
  intro i h1 h2
  have := h i h1
  simpa [List.getD_eq_getElem?_getD, h1, h2] using this
def cellS (x : Cell) : Prop := rightPen x.2.2 ∧ ((x.2.1 = 0 ∧ widthP x.1 = 1) ∨ (x.2.1 = 1 ∧ widthP x.1 = 2) ∨ (x.2.1 = 2 ∧ x.1 = 0))
def lk (x y : Cell) : Prop := x.2.1 = 1 → y.2.1 = 2 → y.2.2 = x.2.2
def Semi (l : List Cell) : Prop := ∀ i, i < l.length → cellS (l.getD i dC) ∧ (i + 1 < l.length → lk (l.getD i dC) (l.getD (i + 1) dC))
theorem cellS_single {x : Int} {p : Pen} (hw : widthP x = 1) (hp : rightPen p) : cellS (x, 0, p) := ⟨hp, .inl ⟨rfl, hw⟩⟩
theorem width_blank : widthP 32 = 1 := by decide
theorem cellS_blank {p : Pen} (hp : rightPen p) : cellS (32, 0, p) := cellS_single width_blank hp
theorem rightPen_plain : rightPen (-1, -1, 0) := by unfold rightPen rightColour; simp
/-- Single cells may stand in place of others. -/
theorem semi_mix {l m : List Cell} (hl : m.length = l.length) (h : Semi l) (hm : ∀ i, i < m.length → m.getD i dC = l.getD i dC ∨ (cellS (m.getD i dC) ∧ (m.getD i dC).2.1 = 0)) : Semi m := by
  intro i hi
  have a := hm i hi
  refine ⟨?_, fun hi1 => ?_⟩
  · rcases a with a | a
    · rw [a]; exact (h i (by omega)).1
    · exact a.1
  · have b := hm (i + 1) hi1
    intro k1 k2
    rcases a with a | a
    · rcases b with b | b
      · rw [a] at k1 ⊢; rw [b] at k2 ⊢
        exact (h i (by omega)).2 (by omega) k1 k2
      · rw [b.2] at k2; cases k2
    · rw [a.2] at k1; cases k1
theorem semi_mend {l : List Cell} (h : Semi l) : Semi (mend l) := by
  refine semi_mix (mend_length l) h fun i hi => ?_
  rw [mend_length] at hi
  rw [mend_getD l i hi]
  unfold mendAt
  cases halfB l i
  · exact .inl rfl
  · exact .inr ⟨cellS_blank (h i hi).1.1, rfl⟩
theorem semi_set {l : List Cell} (h : Semi l) (c : Nat) {x : Int} {p : Pen} (hw : widthP x = 1) (hp : rightPen p) : Semi (l.set c (x, 0, p)) := by
  refine semi_mix (by simp) h fun i hi => ?_
  rw [getD_set]
  split
  · exact .inr ⟨cellS_single hw hp, rfl⟩
  · exact .inl rfl
theorem semi_fill {l : List Cell} (h : Semi l) (i n : Nat) {p : Pen} (hp : rightPen p) : Semi (fillR l i n (32, 0, p)) := by
  refine semi_mix (by rw [fillR_length]) h fun j hj => ?_
  rw [fillR_get]
  split
  · exact .inr ⟨cellS_blank hp, rfl⟩
  · exact .inl rfl
theorem semi_put {l : List Cell} (h : Semi l) (c : Nat) {x : Int} {p : Pen} (hw : widthP x = 1 ∨ widthP x = 2) (hp : rightPen p) : Semi (putRow l c x p) := by
  unfold putRow
  rcases hw with hw | hw
  · rw [if_neg (by rw [hw]; decide)]
    exact semi_set h c hw hp
  · rw [if_pos hw]
    intro i hi
    simp only [List.length_set] at hi
    have g : ∀ j, ((l.set c (x, 1, p)).set (c + 1) (0, 2, p)).getD j dC = if c + 1 = j ∧ j < l.length then (0, 2, p) else if c = j ∧ j < l.length then (x, 1, p) else l.getD j dC := fun j => by
      rw [getD_set, getD_set, List.length_set]
    simp only [List.length_set]
    refine ⟨?_, fun hi1 => ?_⟩
    · rw [g]
      split
      · exact ⟨hp, .inr (.inr ⟨rfl, rfl⟩)⟩
      · split
        · exact ⟨hp, .inr (.inl ⟨rfl, hw⟩)⟩
        · exact (h i hi).1
    · rw [g, g]
      by_cases a1 : c + 1 = i
      · rw [if_pos ⟨a1, hi⟩]; intro k; cases k
      · rw [if_neg (fun k => a1 k.1)]
        by_cases a2 : c = i
        · subst a2
          rw [if_pos ⟨rfl, hi⟩, if_pos ⟨rfl, hi1⟩]; intro _ _; rfl
        · rw [if_neg (fun k => a2 k.1), if_neg (fun k => a2 (by omega))]
          by_cases a3 : c = i + 1
          · rw [if_pos ⟨a3, hi1⟩]; intro _ k; cases k
          · rw [if_neg (fun k => a3 k.1)]; exact (h i hi).2 hi1
theorem semi_take {l : List Cell} (h : Semi l) (n : Nat) : Semi (l.take n) := by
  intro i hi
  rw [List.length_take] at hi
  rw [getD_take _ (by omega)]
  refine ⟨(h i (by omega)).1, fun hi1 => ?_⟩
  rw [List.length_take] at hi1
  rw [getD_take _ (by omega)]
  exact (h i (by omega)).2 (by omega)
theorem semi_append {a b : List Cell} (ha : Semi a) (hb : Semi b) (hj : 1 ≤ a.length → 1 ≤ b.length → lk (a.getD (a.length - 1) dC) (b.getD 0 dC)) : Semi (a ++ b) := by
  intro i hi
  rw [List.length_append] at hi
  by_cases h1 : i < a.length
  · rw [getD_append_l _ h1]
    refine ⟨(ha i h1).1, fun hi1 => ?_⟩
    rw [List.length_append] at hi1
    by_cases h2 : i + 1 < a.length
    · rw [getD_append_l _ h2]; exact (ha i h1).2 h2
    · have e : a.length = i + 1 := by omega
      rw [getD_append_r _ (by omega), e, Nat.sub_self]
      have := hj (by omega) (by omega)
      rw [e] at this
      exact this
  · rw [getD_append_r _ (by omega)]
    refine ⟨(hb _ (by omega)).1, fun hi1 => ?_⟩
    rw [List.length_append] at hi1
    rw [getD_append_r _ (by omega), show i + 1 - a.length = i - a.length + 1 by omega]
    exact (hb _ (by omega)).2 (by omega)
theorem semi_rep (n : Nat) {p : Pen} (hp : rightPen p) : Semi (List.replicate n ((32, 0, p) : Cell)) := by
  intro i hi
  rw [List.length_replicate] at hi
  rw [getD_rep _ _ hi]
  exact ⟨cellS_blank hp, fun _ k => by cases k⟩
theorem semi_append_rep {a : List Cell} (ha : Semi a) (n : Nat) {p : Pen} (hp : rightPen p) : Semi (a ++ List.replicate n ((32, 0, p) : Cell)) := by
  refine semi_append ha (semi_rep n hp) fun _ h2 _ k => ?_
  rw [List.length_replicate] at h2
  rw [getD_rep _ _ h2] at k; cases k
/-! ### grids that may be -/
def GG (h w : Nat) (l : List Cell) : Prop := RG h w l ∧ ∀ r, r < h → Semi (rowOf w l r)
theorem GG.inRow {h w : Nat} {l : List Cell} {r : Nat} {f : List Cell → List Cell} (k : GG h w l) (hr : r < h) (hf : (f (rowOf w l r)).length = w) (hR : rightR (f (rowOf w l r))) (hS : Semi (f (rowOf w l r))) : GG h w (inRow w l r f) := by
  refine ⟨k.1.inRow hr hf hR, fun r' hr' => ?_⟩
  by_cases e : r' = r
  · subst e; rw [inRow_same k.1.1 hr hf]; exact hS
  · rw [inRow_other k.1.1 hr hf hr' e]; exact k.2 r' hr'
theorem GG.put {h w : Nat} {l : List Cell} (k : GG h w l) (r c x : Int) {p : Pen} (hp : rightPen p) : GG h w (put h w l r c x p) := by
  unfold Go.Proofs.YtbaggedkejiakaaAbs.put
  split
  · exact k
  · rename_i hn
    have hr : r.toNat < h := by omega
    have hw : widthP x = 1 ∨ widthP x = 2 := by have := width_cases x; omega
    exact k.inRow hr (by rw [mend_length, putRow_length, rowOf_length k.1.1 hr]) (right_mend _) (semi_mend (semi_put (k.2 _ hr) _ hw hp))
theorem GG.wipe {h w : Nat} {l : List Cell} (k : GG h w l) (r a b : Int) {p : Pen} (hp : rightPen p) : GG h w (wipe h w l r a b p) := by
  unfold Go.Proofs.YtbaggedkejiakaaAbs.wipe
  split
  · rename_i hn
    have hr : r.toNat < h := by omega
    exact k.inRow hr (by rw [mend_length, fillR_length, rowOf_length k.1.1 hr]) (right_mend _) (semi_mend (semi_fill (k.2 _ hr) _ _ hp))
  · exact k
theorem GG.blank (h w : Nat) {p : Pen} (hp : rightPen p) : GG h w (List.replicate (h * w) (32, 0, p)) := by
  refine ⟨RG.blank h w p, fun r hr => ?_⟩
  rw [rep_row hr]; exact semi_rep w hp
theorem resize_row {h w h' w' : Nat} {l : List Cell} (hl : l.length = h * w) {r : Nat} (hr : r < h') : rowOf w' (resize h w l h' w') r = if r < h then resizeRow w w' (rowOf w l r) else List.replicate w' plainB := by
  have key : ∀ k, k ≤ h → ∀ r, r < k → ∀ X, rowOf w' (preR w w' l k ++ X) r = resizeRow w w' (rowOf w l r) := by
    intro k
    induction k with
    | zero => intro _ r hr; omega
    | succ k ih =>
      intro hk r hr X
      rw [preR_succ, List.append_assoc]
      by_cases hrk : r < k
      · exact ih (by omega) r hrk _
      · have : r = k := by omega
        subst this
        unfold rowOf
        have e1 := preR_length (w' := w') hl r (by omega)
        rw [List.drop_append_of_le_length (by omega), List.drop_of_length_le (by omega), List.nil_append]
        have e2 : (resizeRow w w' (rowOf w l r)).length = w' := resizeRow_length (rowOf_length hl (by omega))
        have e3 : (resizeRow w w' (List.take w (List.drop (r * w) l))).length = w' := e2
        rw [List.take_append_of_le_length (by omega), List.take_of_length_le (by omega)]
  unfold resize
  by_cases hrh : r < h
  · rw [if_pos hrh]
    exact key (min h h') (by omega) r (by omega) _
  · rw [if_neg hrh]
    have e1 := preR_length (w' := w') hl (min h h') (by omega)
    have hm : min h h' = h := by omega
    rw [hm] at e1 ⊢
    have hb := mul_bound (w := w') (show r - h < h' - h by omega)
    have hb2 : r * w' = h * w' + (r - h) * w' := by rw [← Nat.add_mul]; congr 1; omega
    unfold rowOf
    rw [List.drop_append, List.drop_of_length_le (by omega), List.nil_append, e1, List.drop_replicate, List.take_replicate]
    congr 1
    omega
theorem resizeRow_ok {w w' : Nat} {row : List Cell} (hS : Semi row) : rightR (resizeRow w w' row) ∧ Semi (resizeRow w w' row) := by
  unfold resizeRow
  exact ⟨right_mend _, semi_mend (semi_append_rep (semi_take hS w') _ rightPen_plain)⟩
theorem GG.resize {h w : Nat} {l : List Cell} (k : GG h w l) (h' w' : Nat) : GG h' w' (resize h w l h' w') := by
  refine ⟨⟨resize_length k.1.1 h' w', fun r hr => ?_⟩, fun r hr => ?_⟩
  · rw [resize_row k.1.1 hr]
    split
    · rename_i hh; exact (resizeRow_ok (k.2 r hh)).1
    · exact right_singles fun x hx => by rw [(List.mem_replicate.1 hx).2]
  · rw [resize_row k.1.1 hr]
    split
    · rename_i hh; exact (resizeRow_ok (k.2 r hh)).2
    · exact semi_rep w' rightPen_plain
end Go.Proofs.YtbaggedkejiakaaAbs

/- Plain laws: grids held right; grids made of numbers. -/
namespace Go.Proofs.YtbaggedkejiakaaAbs
set_option linter.unusedVariables false
set_option linter.unusedSimpArgs false
open Go Go.Proofs
theorem color_eq {v : Int} (h : rightColour v) : hide cell_color_F v = some true := by
  rw [hide_eq]; unfold cell_color_F
  unfold rightColour at h
  by_cases h1 : v ≥ -1
  · by_cases h2 : v ≤ 255
    · simp [h1, h2]
    · have a1 : v ≥ 16777216 := by omega
      have a2 : v < 33554432 := by omega
      simp [h1, h2, a1, a2]
  · omega
theorem cellRight_eq {a b c : Int} (h : rightPen (a, b, c)) : hide cell_Right_F a b c = some true := by
  rw [hide_eq]; unfold cell_Right_F
  obtain ⟨h1, h2, h3, h4⟩ := h
  have h3' : (0 : Int) ≤ c := h3
  have h4' : c ≤ 255 := h4
  rw [color_eq h1, color_eq h2]
  simp [optK_s, h3', h4']
theorem may_eq {l : List Cell} (hl : l.length < 4611686018427387904) (hS : Semi l) (hR : rightR l) {i : Nat} (hi : i < l.length) : hide grid_may_F l (Int.ofNat i) = some true := by
  rw [hide_eq]; unfold grid_may_F
  have e0 : decide ((0 : Int) ≤ Int.ofNat i) = true := by simp
  rw [ofNat_lt, e0, toNat_ofNat', width_eq, half_eq l i hl hi, hR i hi]
  obtain ⟨⟨p1, p2⟩, p3⟩ := hS i hi
  have hh := hR i hi
  rw [show ((0 : Int), (0 : Int), (0 : Int), (0 : Int), (0 : Int)) = dC from rfl]
  have hn : kd l i = 1 → i + 1 < l.length ∧ kd l (i + 1) = 2 := by
    intro k
    have : ¬ halfB l i = true := by rw [hh]; simp
    rw [half_iff] at this
    refine ⟨?_, ?_⟩
    · rcases Nat.lt_or_ge (i + 1) l.length with h | h
      · exact h
      · exact absurd (.inl ⟨k, .inl (by omega)⟩) this
    · exact Decidable.byContradiction fun h => this (.inl ⟨k, .inr h⟩)
  unfold kd at hn
  have hp : hide cell_Right_F (l.getD i dC).2.2.1 (l.getD i dC).2.2.2.1 (l.getD i dC).2.2.2.2 = some true := cellRight_eq p1
  rw [hp]
  simp only [hi, decide_true, cond_true, Bool.and_self, optK_s]
  rcases p2 with ⟨k1, k2⟩ | ⟨k1, k2⟩ | ⟨k1, k2⟩
  · rw [k1, k2]; rfl
  · obtain ⟨n1, n2⟩ := hn k1
    have e1 := p3 n1 k1 n2
    have e2 : decide ((0 : Int) ≤ Int.ofNat (i + 1)) = true := decide_eq_true (by show (0 : Int) ≤ ((i + 1 : Nat) : Int); omega)
    rw [k1, k2, wrap_succ (by omega), ofNat_lt, e2, toNat_ofNat', e1]
    simp [n1]
  · rw [k1, k2]; rfl
theorem wrap_nat {q : Nat} (h : q < 4611686018427387904) : IntKind.i64.wrap (Int.ofNat q) = Int.ofNat q := w64 (by show _ ≤ (q : Int); omega) (by show (q : Int) < _; omega)
theorem right_loop {h w : Nat} {l : List Cell} (k : GG h w l) (hh : h ≤ 40) (w1 : 1 ≤ w) (hw : w ≤ 60) : ∀ (n i : Nat), i ≤ h * w → h * w - i < n →
    grid_Right_L4 n (Int.ofNat (h * w)) (Int.ofNat i) (Int.ofNat h) (Int.ofNat w) l = some (.inr ()) := by
  have hsm := small_mul (show h ≤ 64 by omega) (show w ≤ 64 by omega)
  intro n
  induction n with
  | zero => intro i h1 h2; omega
  | succ n ih =>
    intro i h1 h2
    rw [grid_Right_L4, ofNat_lt]
    by_cases hi : i < h * w
    · have hr : i / w < h := by rw [Nat.div_lt_iff_lt_mul (by omega)]; omega
      have hc : i % w < w := Nat.mod_lt _ (by omega)
      have e1 : (Int.ofNat i).tdiv (Int.ofNat w) = Int.ofNat (i / w) := rfl
      have e2 : (Int.ofNat i).tmod (Int.ofNat w) = Int.ofNat (i % w) := rfl
      have e3 : (Int.ofNat w == 0) = false := beq_false_of_ne (by show (w : Int) ≠ 0; omega)
      have e4 : IntKind.i64.wrap (Int.ofNat (i / w)) = Int.ofNat (i / w) := wrap_nat (by omega)
      have hb := mul_bound (w := w) hr
      have hl := k.1.1
      have hM := rowOf_length hl hr
      rw [e1, e2, e3, e4, row_lo (i / w) w (by omega) (by omega), row_hi (i / w) w (by omega) (by omega), bnds_ok (by omega) (by omega), cutList_ok (by omega)]
      have e5 : i / w * w + w - i / w * w = w := by omega
      rw [e5, show (l.drop (i / w * w)).take w = rowOf w l (i / w) from rfl, may_eq (by omega) (k.2 _ hr) (k.1.2 _ hr) (by omega), wrap_succ (by omega), ih (i + 1) (by omega) (by omega)]
      simp [hi, optK_s]
    · rw [decide_eq_false hi]; rfl
theorem gridRight_eq {R C : Int} {h w : Nat} (hR : R = Int.ofNat h) (hC : C = Int.ofNat w) (h1 : 1 ≤ h) (hh : h ≤ 40) (w1 : 1 ≤ w) (hw : w ≤ 60) {l : List Cell} (k : GG h w l) : hide grid_Right_F R C l = some true := by
  subst hR hC
  rw [hide_eq]; unfold grid_Right_F
  have e1 : decide (Int.ofNat h < 1) = false := decide_eq_false (by show ¬ (h : Int) < 1; omega)
  have e2 : decide (Int.ofNat h > 40) = false := decide_eq_false (by show ¬ (h : Int) > 40; omega)
  have e3 : decide (Int.ofNat w < 1) = false := decide_eq_false (by show ¬ (w : Int) < 1; omega)
  have e4 : decide (Int.ofNat w > 60) = false := decide_eq_false (by show ¬ (w : Int) > 60; omega)
  have hl := right_loop k hh w1 hw (grid_Right_fu4 (Int.ofNat (h * w)) (Int.ofNat 0) (Int.ofNat h) (Int.ofNat w) l) 0 (by omega) (by unfold grid_Right_fu4; have : (Int.ofNat (h * w)).natAbs = h * w := rfl; omega)
  have z : Int.ofNat 0 = 0 := rfl
  rw [z] at hl
  rw [e1, e2, e3, e4, k.1.1, row_lo h w (by omega) (by omega), hide_eq grid_Right_L4, hl]
  simp [optK_s, sumK]

/-! ### books -/
theorem bookSame_loop (a b : List Cell) (hl : a.length = b.length) (hb : a.length < 4611686018427387904) : ∀ (n i : Nat), i ≤ a.length → a.length - i < n →
    linguistbook_Same_api_Cell_L4 n a b (Int.ofNat i) = some (if a.drop i = b.drop i then .inr () else .inl false) := by
  intro n
  induction n with
  | zero => intro i h1 h2; omega
  | succ n ih =>
    intro i h1 h2
    rw [linguistbook_Same_api_Cell_L4]
    by_cases hi : i < a.length
    · have e0 : decide ((0 : Int) ≤ Int.ofNat i) = true := by simp
      rw [ofNat_lt, ofNat_lt, e0, toNat_ofNat', cell_beq, wrap_succ (by omega), ih (i + 1) (by omega) (by omega)]
      have e2 : a.getD i dC = a[i] := by simp [hi]
      have e3 : b.getD i dC = b[i]'(by omega) := by simp [show i < b.length by omega]
      have hi2 : i < b.length := by omega
      simp only [hi, hi2, decide_true, Bool.and_self, cond_true, e2, e3]
      have hc : (a.drop i = b.drop i) ↔ (a[i] = b[i] ∧ a.drop (i + 1) = b.drop (i + 1)) := by
        rw [List.drop_eq_getElem_cons hi, List.drop_eq_getElem_cons hi2]
        exact ⟨fun k => by injection k with k1 k2; exact ⟨k1, k2⟩, fun k => by rw [k.1, k.2]⟩
      by_cases he : a[i] = b[i]
      · rw [decide_eq_true he]
        by_cases hd : a.drop (i + 1) = b.drop (i + 1)
        · rw [if_pos hd, if_pos (hc.2 ⟨he, hd⟩)]; rfl
        · rw [if_neg hd, if_neg (fun k => hd (hc.1 k).2)]; rfl
      · rw [decide_eq_false he, if_neg (fun k => he (hc.1 k).1)]; rfl
    · have : i = a.length := by omega
      subst this
      have e : decide (Int.ofNat a.length < Int.ofNat a.length) = false := by simp
      rw [e, List.drop_length, hl, List.drop_length]
      rfl
theorem bookSame_eq (a b : List Cell) (hb : a.length < 4611686018427387904) : hide linguistbook_Same_api_Cell_F a b = some (decide (a = b)) := by
  rw [hide_eq]; unfold linguistbook_Same_api_Cell_F
  by_cases hl : a.length = b.length
  · have : (Int.ofNat a.length != Int.ofNat b.length) = false := by rw [hl]; simp
    rw [this]
    simp only [cond_false, hide_eq]
    have h := bookSame_loop a b hl hb (linguistbook_Same_api_Cell_fu4 a b (Int.ofNat 0)) 0 (by omega) (by unfold linguistbook_Same_api_Cell_fu4; omega)
    rw [show (0 : Int) = Int.ofNat 0 from rfl, h]
    simp only [List.drop_zero, optK_s]
    by_cases he : a = b
    · simp [he, sumK]
    · simp [he, sumK]
  · have : (Int.ofNat a.length != Int.ofNat b.length) = true := by
      rw [bne_iff_ne]; intro k; exact hl (Int.ofNat.inj k)
    rw [this, decide_eq_false (fun k => hl (by rw [k]))]
    rfl

/-! ### grids out of numbers -/
end Go.Proofs.YtbaggedkejiakaaAbs

/- Plain laws: the document's own grids: made, mended, set, wiped. -/
namespace Go.Proofs.YtbaggedkejiakaaAbs
set_option linter.unusedVariables false
set_option linter.unusedSimpArgs false
open Go Go.Proofs
theorem refNew_loop {a5 a6 a7 a8 p0 p1 p2 : Int} {a9 : List Cell} {N : Nat} (hN : N ≤ 4096) : ∀ (n i : Nat), i ≤ N → N - i < n →
    linguistref7_New_L3 n (Int.ofNat N) (Int.ofNat i) p0 p1 p2 a5 a6 a7 a8 a9 (List.replicate i (32, 0, p0, p1, p2)) = some (a5, a6, a7, a8, a9, List.replicate N (32, 0, p0, p1, p2)) := by
  intro n
  induction n with
  | zero => intro i h1 h2; omega
  | succ n ih =>
    intro i h1 h2
    rw [linguistref7_New_L3, ofNat_lt]
    by_cases hi : i < N
    · have l1 : (i + 1).ble 274877906944 = true := Nat.ble_eq_true_of_le (by omega)
      rw [decide_eq_true hi, wrap_succ (by omega)]
      simp only [List.length_replicate, List.length_cons, List.length_nil, Nat.zero_add, l1, Bool.and_self, cond_true]
      have := ih (i + 1) (by omega) (by omega)
      rw [List.replicate_succ'] at this
      exact this
    · have : i = N := by omega
      subst this
      rw [decide_eq_false hi]; rfl
theorem refNew_eq {h w : Nat} (hh : h ≤ 60) (hw : w ≤ 60) (p0 p1 p2 : Int) : hide linguistref7_New_F (Int.ofNat h) (Int.ofNat w) p0 p1 p2 = some (Int.ofNat h, Int.ofNat w, List.replicate (h * w) (32, 0, p0, p1, p2)) := by
  have hsm := small_mul (show h ≤ 64 by omega) (show w ≤ 64 by omega)
  rw [hide_eq]; unfold linguistref7_New_F
  rw [row_lo h w (by omega) (by omega), hide_eq]
  have := refNew_loop (a5 := 0) (a6 := 0) (a7 := Int.ofNat h) (a8 := Int.ofNat w) (p0 := p0) (p1 := p1) (p2 := p2) (a9 := []) hsm (linguistref7_New_fu3 (Int.ofNat (h * w)) 0 p0 p1 p2 0 0 (Int.ofNat h) (Int.ofNat w) [] []) 0 (by omega) (by unfold linguistref7_New_fu3; have : (Int.ofNat (h * w)).natAbs = h * w := rfl; omega)
  rw [show (0 : Int) = Int.ofNat 0 from rfl] at *
  rw [List.replicate_zero] at this
  rw [this]; rfl
theorem refMend_step (n : Nat) (l acc : List Cell) (i : Nat) (hl : l.length ≤ 4096) (ha : acc.length = l.length) (hi : i < l.length) :
    linguistref7_Mend_L3 (n + 1) l l (Int.ofNat l.length) (Int.ofNat i) acc = linguistref7_Mend_L3 n l l (Int.ofNat l.length) (Int.ofNat (i + 1)) (bif halfB l i then acc.set i (blankOf (l.getD i dC)) else acc) := by
  rw [linguistref7_Mend_L3]
  have e0 : decide ((0 : Int) ≤ Int.ofNat i) = true := by simp
  have e1 : (Int.ofNat i).toNat = i := rfl
  have e2 : (Int.ofNat (i + 1)).toNat = i + 1 := rfl
  have e3 : decide ((0 : Int) ≤ Int.ofNat (i + 1)) = true := decide_eq_true (by show (0 : Int) ≤ ((i + 1 : Nat) : Int); omega)
  rw [wrap_succ (by omega)]
  simp only [ofNat_lt, e0, e1, e2, e3, ha, hi, decide_true, Bool.and_self, cond_true]
  rw [show ((0 : Int), (0 : Int), (0 : Int), (0 : Int), (0 : Int)) = dC from rfl]
  have eB : ((32 : Int), (0 : Int), (l.getD i dC).2.2.1, (l.getD i dC).2.2.2.1, (l.getD i dC).2.2.2.2) = blankOf (l.getD i dC) := rfl
  rw [eB]
  unfold halfB
  by_cases k1 : (l.getD i dC).2.1 = 1
  · have q1 : ((l.getD i dC).2.1 == 1) = true := by rw [k1]; rfl
    have q2 : ((l.getD i dC).2.1 == 2) = false := by rw [k1]; rfl
    simp only [q1, q2, cond_true, cond_false]
    by_cases h2 : i + 1 = l.length
    · have : (Int.ofNat (i + 1) == Int.ofNat l.length) = true := by rw [h2]; simp
      have t2 : decide (i + 1 = l.length) = true := decide_eq_true h2
      simp only [this, t2, cond_true, Bool.true_or]
    · have h3 : (Int.ofNat (i + 1) == Int.ofNat l.length) = false := beq_false_of_ne fun k => h2 (Int.ofNat.inj k)
      have h4 : i + 1 < l.length := by omega
      simp only [h3, h4, h2, cond_true, cond_false, decide_true, decide_false, Bool.false_or]
      cases (l.getD (i + 1) dC).2.1 != 2 <;> rfl
  · have q1 : ((l.getD i dC).2.1 == 1) = false := beq_false_of_ne k1
    simp only [q1, cond_false]
    by_cases k2 : (l.getD i dC).2.1 = 2
    · have q2 : ((l.getD i dC).2.1 == 2) = true := by rw [k2]; rfl
      simp only [q2, cond_true]
      by_cases h3 : i = 0
      · subst h3; rfl
      · have h4 : (Int.ofNat i == (0 : Int)) = false := beq_false_of_ne fun k => h3 (Int.ofNat.inj k)
        have e4 : IntKind.i64.wrap (Int.ofNat i - 1) = Int.ofNat (i - 1) := by
          rw [w64 (by simp; omega) (by simp; omega)]; simp; omega
        have e5 : decide ((0 : Int) ≤ Int.ofNat (i - 1)) = true := by simp
        have h5 : i - 1 < l.length := by omega
        rw [h4, e4]
        simp only [toNat_ofNat', ofNat_lt, e5, h5, h3, cond_true, cond_false, decide_true, decide_false, Bool.and_self, Bool.false_or]
        cases (l.getD (i - 1) dC).2.1 != 1 <;> rfl
    · have q2 : ((l.getD i dC).2.1 == 2) = false := beq_false_of_ne k2
      simp only [q2, cond_false]
theorem refMend_loop (l : List Cell) (hl : l.length ≤ 4096) : ∀ (n i : Nat), i ≤ l.length → l.length - i < n →
    linguistref7_Mend_L3 n l l (Int.ofNat l.length) (Int.ofNat i) ((mend l).take i ++ l.drop i) = some (mend l) := by
  intro n
  induction n with
  | zero => intro i h1 h2; omega
  | succ n ih =>
    intro i h1 h2
    by_cases hi : i < l.length
    · rw [refMend_step n l _ i hl (by simp [mend_length]; omega) hi]
      have e4 := mend_get l i hi
      unfold mendAt at e4
      have e2 : l.getD i dC = l[i] := by simp [hi]
      cases hh : halfB l i with
      | true =>
        rw [hh] at e4
        simp only [cond_true] at e4 ⊢
        rw [take_set_drop (mend l) l i _ hi (mend_length l) e4]
        exact ih (i + 1) (by omega) (by omega)
      | false =>
        rw [hh] at e4
        simp only [cond_false] at e4 ⊢
        rw [take_keep_drop (mend l) l i hi (mend_length l) (by rw [e4, e2])]
        exact ih (i + 1) (by omega) (by omega)
    · have : i = l.length := by omega
      subst this
      rw [linguistref7_Mend_L3]
      have e : decide (Int.ofNat l.length < Int.ofNat l.length) = false := by simp
      rw [e, List.drop_length, List.append_nil, List.take_of_length_le (by rw [mend_length]; exact Nat.le_refl _)]
      rfl
theorem refMend_eq (l : List Cell) (hl : l.length ≤ 4096) : hide linguistref7_Mend_F l = some (mend l) := by
  rw [hide_eq]; unfold linguistref7_Mend_F
  have e : (l.length.ble 274877906944) = true := Nat.ble_eq_true_of_le (by omega)
  rw [e]
  simp only [hide_eq, cond_true, Bool.and_self]
  have := refMend_loop l hl (linguistref7_Mend_fu3 l l (Int.ofNat l.length) (Int.ofNat 0) l) 0 (by omega) (by unfold linguistref7_Mend_fu3; omega)
  simp only [List.take_zero, List.drop_zero, List.nil_append] at this
  rw [show (0 : Int) = Int.ofNat 0 from rfl, this]
  rfl
theorem refSet_loop {R a6 a7 : Int} {a9 A M B row : List Cell} {r w : Nat} (hA : A.length = r * w) (hrow : row.length = w) (hM : M.length = w) (hr : r ≤ 60) (hw : w ≤ 60) : ∀ (n i : Nat), i ≤ w → w - i < n →
    linguistref7_set_L3 n (Int.ofNat r) row (Int.ofNat w) (Int.ofNat i) R (Int.ofNat w) a6 a7 (A ++ (row.take i ++ M.drop i) ++ B) a9 = some (R, Int.ofNat w, a6, a7, A ++ row ++ B, a9) := by
  have hsm := small_mul (show r ≤ 64 by omega) (show w ≤ 64 by omega)
  intro n
  induction n with
  | zero => intro i h1 h2; omega
  | succ n ih =>
    intro i h1 h2
    rw [linguistref7_set_L3, ofNat_lt]
    by_cases hi : i < w
    · have e0 : decide ((0 : Int) ≤ Int.ofNat i) = true := by simp
      have e1 : (Int.ofNat i).toNat = i := rfl
      have e2 : IntKind.i64.wrap (Int.ofNat (r * w) + Int.ofNat i) = Int.ofNat (r * w + i) := w64 (by show _ ≤ ((r * w : Nat) : Int) + (i : Int); omega) (by show ((r * w : Nat) : Int) + (i : Int) < _; omega)
      have e3 : decide ((0 : Int) ≤ Int.ofNat (r * w + i)) = true := decide_eq_true (by show (0 : Int) ≤ ((r * w + i : Nat) : Int); omega)
      have e4 : (Int.ofNat (r * w + i)).toNat = A.length + i := by rw [hA]; rfl
      have hl : (A ++ (row.take i ++ M.drop i) ++ B).length = r * w + w + B.length := by simp; omega
      have e5 : r * w + i < r * w + w + B.length := by omega
      rw [decide_eq_true hi, row_lo r w (by omega) (by omega), e2, e4, hl]
      simp only [ofNat_lt, e0, e1, e3, e5, hrow, hi, decide_true, Bool.and_self, cond_true]
      have e6 : row[i]'(by omega) = ((row.getD i dC).1, (row.getD i dC).2.1, (row.getD i dC).2.2.1, (row.getD i dC).2.2.2.1, (row.getD i dC).2.2.2.2) := by
        have : row.getD i dC = row[i]'(by omega) := by simp [show i < row.length by omega]
        rw [this]
      rw [set3 i _ (by simp; omega), take_set_drop row M i _ (by omega) (by omega) e6, wrap_succ (by omega)]
      exact ih (i + 1) (by omega) (by omega)
    · have : i = w := by omega
      subst this
      rw [decide_eq_false hi, List.take_of_length_le (by omega), List.drop_of_length_le (by omega), List.append_nil]
      rfl
theorem refSet_eq {R C : Int} {h w : Nat} (hR : R = Int.ofNat h) (hC : C = Int.ofNat w) (hh : h ≤ 60) (hw : w ≤ 60) {l : List Cell} (hl : l.length = h * w) {r : Nat} (hr : r < h) {row : List Cell} (hrow : row.length = w) :
    hide linguistref7_set_F R C l (Int.ofNat r) row = some (R, C, inRow w l r fun _ => row) := by
  have hsm := small_mul (show h ≤ 64 by omega) (show w ≤ 64 by omega)
  have hb := mul_bound (w := w) hr
  subst hC
  rw [hide_eq]; unfold linguistref7_set_F
  have e : (l.length.ble 274877906944) = true := Nat.ble_eq_true_of_le (by omega)
  rw [e]
  simp only [hide_eq, cond_true, Bool.and_self]
  have hs := split3 l (r * w) w (by omega)
  have hA : (l.take (r * w)).length = r * w := by simp; omega
  have hM : ((l.drop (r * w)).take w).length = w := by simp; omega
  have k := refSet_loop (R := R) (a6 := 0) (a7 := 0) (a9 := []) (B := l.drop (r * w + w)) hA hrow hM (by omega) hw (linguistref7_set_fu3 (Int.ofNat r) row (Int.ofNat w) 0 R (Int.ofNat w) 0 0 l []) 0 (by omega) (by unfold linguistref7_set_fu3; have : (Int.ofNat w).natAbs = w := rfl; omega)
  rw [List.take_zero, List.drop_zero, List.nil_append, ← hs] at k
  rw [hrow]
  rw [show (0 : Int) = Int.ofNat 0 from rfl] at *
  rw [k]; rfl
theorem refWipe_loop {r R C p0 p1 p2 x y : Int} {l z : List Cell} {w : Nat} {E : Int} (hE : E ≤ w) (hw : w ≤ 4096) : ∀ (n c : Nat) (row : List Cell), row.length = w → E.toNat - c < n → c ≤ 4096 →
    linguistref7_Wipe_L6 n r E (Int.ofNat c) R C l p0 p1 p2 x y row z = some (r, R, C, l, x, y, fillR row c (E.toNat - c) (32, 0, p0, p1, p2), z) := by
  intro n
  induction n with
  | zero => intro c l h0 h1 h2; omega
  | succ n ih =>
    intro c l h0 h1 h2
    rw [linguistref7_Wipe_L6]
    by_cases hc : (Int.ofNat c) < E
    · have hc' : (c : Int) < E := hc
      have e0 : decide ((0 : Int) ≤ Int.ofNat c) = true := by simp
      have e1 : decide (Int.ofNat c < Int.ofNat l.length) = true := decide_eq_true (by show (c : Int) < (l.length : Int); omega)
      rw [decide_eq_true hc, e0, e1]
      simp only [cond_true, Bool.and_self, optK_s, toNat_ofNat']
      rw [wrap_succ (by omega), ih (c + 1) _ (by simp; omega) (by omega) (by omega)]
      have e2 : E.toNat - c = (E.toNat - (c + 1)) + 1 := by omega
      rw [e2, fillR]
    · have hc' : ¬ (c : Int) < E := hc
      rw [decide_eq_false hc]
      have : E.toNat - c = 0 := by omega
      rw [this]; rfl
theorem refWipe_eq {R C : Int} {h w : Nat} (hR : R = Int.ofNat h) (hC : C = Int.ofNat w) (hh : h ≤ 40) (w1 : 1 ≤ w) (hw : w ≤ 60) {l : List Cell} (hl : l.length = h * w) {r a b : Int} (ha : a ≤ 4000) (p0 p1 p2 : Int) :
    hide linguistref7_Wipe_F R C l r a b p0 p1 p2 = some (R, C, wipe h w l r a b (p0, p1, p2)) := by
  have hsm := small_mul (show h ≤ 64 by omega) (show w ≤ 64 by omega)
  rw [hide_eq]; unfold linguistref7_Wipe_F wipe
  by_cases hp : 0 ≤ r ∧ r < (h : Int)
  · have c1 : decide (r < 0) = false := decide_eq_false (by omega)
    have c2 : decide (r ≥ R) = false := decide_eq_false (by rw [hR]; show ¬ (r ≥ (h : Int)); omega)
    obtain ⟨rn, rfl⟩ : ∃ n : Nat, r = Int.ofNat n := ⟨r.toNat, by simp; omega⟩
    have hrn : rn < h := by have := hp.2; simpa using this
    have hb := mul_bound (w := w) hrn
    subst hC
    rw [c1, c2, if_pos hp, row_lo rn w (by omega) (by omega), row_hi rn w (by omega) (by omega), bnds_ok (by omega) (by omega), cutList_ok (by omega)]
    have e3 : rn * w + w - rn * w = w := by omega
    have hM : ((l.drop (rn * w)).take w).length = w := by simp; omega
    have e : (w.ble 274877906944) = true := Nat.ble_eq_true_of_le (by omega)
    have ea : (if (0 : Int) > a then 0 else a) = Int.ofNat (max a 0).toNat := by
      show _ = (((max a 0).toNat : Nat) : Int)
      split <;> omega
    have eE : (if Int.ofNat w < b then Int.ofNat w else b) = min b (w : Int) := by
      show (if (w : Int) < b then (w : Int) else b) = _
      split <;> omega
    rw [e3, hM, e, ea, eE]
    simp only [hide_eq linguistref7_Wipe_L6, cond_true, cond_false, Bool.and_self]
    rw [refWipe_loop (w := w) (by omega) (by omega) _ _ _ hM (by unfold linguistref7_Wipe_fu6; have : (min b (w : Int)).toNat ≤ w := (by omega); omega) (by omega)]
    simp only [optK_s]
    rw [refMend_eq _ (by rw [fillR_length]; omega)]
    simp only [optK_s]
    rw [refSet_eq hR rfl (by omega) hw hl hrn (by rw [mend_length, fillR_length]; exact hM)]
    rfl
  · rw [if_neg hp]
    by_cases c1 : r < 0
    · rw [decide_eq_true c1]; rfl
    · have c2 : decide (r ≥ R) = true := decide_eq_true (by rw [hR]; show r ≥ (h : Int); omega)
      rw [c2]; cases decide (r < 0) <;> rfl
end Go.Proofs.YtbaggedkejiakaaAbs

/- Plain laws: the document's own grids: what is put, cut to a size. -/
namespace Go.Proofs.YtbaggedkejiakaaAbs
set_option linter.unusedVariables false
set_option linter.unusedSimpArgs false
open Go Go.Proofs
theorem right_1 {l : List Cell} (h : rightR l) {i : Nat} (hi : i < l.length) (k : kd l i = 1) : i + 1 < l.length ∧ kd l (i + 1) = 2 := by
  have : ¬ halfB l i = true := by rw [h i hi]; simp
  rw [half_iff] at this
  refine ⟨?_, Decidable.byContradiction fun q => this (.inl ⟨k, .inr q⟩)⟩
  rcases Nat.lt_or_ge (i + 1) l.length with a | a
  · exact a
  · exact absurd (.inl ⟨k, .inl (by omega)⟩) this
theorem right_2 {l : List Cell} (h : rightR l) {i : Nat} (hi : i < l.length) (k : kd l i = 2) : 1 ≤ i ∧ kd l (i - 1) = 1 := by
  have : ¬ halfB l i = true := by rw [h i hi]; simp
  rw [half_iff] at this
  refine ⟨?_, Decidable.byContradiction fun q => this (.inr ⟨k, .inr q⟩)⟩
  rcases Nat.eq_zero_or_pos i with a | a
  · exact absurd (.inr ⟨k, .inl a⟩) this
  · exact a
/-- What the document does to a row in place of mending. -/
def refPutRow (row : List Cell) (c : Nat) (x : Int) (p : Pen) (n : Nat) : List Cell :=
  let l := putRow row c x p
  let l := if 0 < c ∧ kd row c = 2 then l.set (c - 1) (blankOf (row.getD (c - 1) dC)) else l
  if c + n < row.length ∧ kd row (c + n - 1) = 1 then l.set (c + n) (blankOf (row.getD (c + n) dC)) else l
theorem putRow_at {row : List Cell} {c : Nat} {x : Int} {p : Pen} {n : Nat} (hn : widthP x = (n : Int)) (h12 : n = 1 ∨ n = 2) (hc : c + n ≤ row.length) (j : Nat) :
    (putRow row c x p).getD j dC = if j = c then (x, (n : Int) - 1, p) else if n = 2 ∧ j = c + 1 then (0, 2, p) else row.getD j dC := by
  unfold putRow
  rcases h12 with h | h
  · subst h
    rw [if_neg (by rw [hn]; decide), getD_set]
    by_cases e : j = c
    · rw [if_pos ⟨e.symm, by omega⟩, if_pos e]; rfl
    · rw [if_neg (fun k => e k.1.symm), if_neg e, if_neg (fun k => by omega)]
  · subst h
    rw [if_pos (show widthP x = 2 from hn), getD_set, getD_set, List.length_set]
    by_cases e : j = c
    · rw [if_neg (fun k => by omega), if_pos ⟨e.symm, by omega⟩, if_pos e]; rfl
    · rw [if_neg (c := j = c) e]
      by_cases e2 : j = c + 1
      · rw [if_pos ⟨e2.symm, by omega⟩, if_pos ⟨rfl, e2⟩]
      · rw [if_neg (fun k => e2 k.1.symm), if_neg (fun k => e k.1.symm), if_neg (fun k => e2 k.2)]
theorem putRow_ref {row : List Cell} (hR : rightR row) {c : Nat} {x : Int} {p : Pen} {n : Nat} (hn : widthP x = (n : Int)) (h12 : n = 1 ∨ n = 2) (hc : c + n ≤ row.length) : mend (putRow row c x p) = refPutRow row c x p n := by
  have P := putRow_at (p := p) hn h12 hc
  have K : ∀ j, kd (putRow row c x p) j = if j = c then (n : Int) - 1 else if n = 2 ∧ j = c + 1 then 2 else kd row j := fun j => by
    unfold kd; rw [P]; split
    · rfl
    · split <;> rfl
  have L : (putRow row c x p).length = row.length := putRow_length row c x p
  refine ext_getD dC ?_ fun i hi => ?_
  · rw [mend_length, L]; unfold refPutRow; simp only; split <;> split <;> simp [L]
  rw [mend_length, L] at hi
  rw [mend_getD _ _ (by omega)]
  have RHS : (refPutRow row c x p n).getD i dC = if c + n < row.length ∧ kd row (c + n - 1) = 1 ∧ i = c + n then blankOf (row.getD i dC) else if 0 < c ∧ kd row c = 2 ∧ i + 1 = c then blankOf (row.getD i dC) else (putRow row c x p).getD i dC := by
    unfold refPutRow
    simp only
    by_cases a : c + n < row.length ∧ kd row (c + n - 1) = 1
    · rw [if_pos a, getD_set]
      by_cases a' : i = c + n
      · subst a'
        rw [if_pos ⟨rfl, by split <;> simp [L] <;> omega⟩, if_pos ⟨a.1, a.2, rfl⟩]
      · rw [if_neg (fun k => a' k.1.symm), if_neg (c := c + n < row.length ∧ kd row (c + n - 1) = 1 ∧ i = c + n) (fun k => a' k.2.2)]
        by_cases b : 0 < c ∧ kd row c = 2
        · rw [if_pos b, getD_set]
          by_cases b' : i + 1 = c
          · rw [if_pos ⟨by omega, by omega⟩, if_pos ⟨b.1, b.2, b'⟩, show c - 1 = i by omega]
          · rw [if_neg (fun k => b' (by omega)), if_neg (fun k => b' k.2.2)]
        · rw [if_neg b, if_neg (fun k => b ⟨k.1, k.2.1⟩)]
    · rw [if_neg a, if_neg (c := c + n < row.length ∧ kd row (c + n - 1) = 1 ∧ i = c + n) (fun k => a ⟨k.1, k.2.1⟩)]
      by_cases b : 0 < c ∧ kd row c = 2
      · rw [if_pos b, getD_set]
        by_cases b' : i + 1 = c
        · rw [if_pos ⟨by omega, by omega⟩, if_pos ⟨b.1, b.2, b'⟩, show c - 1 = i by omega]
        · rw [if_neg (fun k => b' (by omega)), if_neg (fun k => b' k.2.2)]
      · rw [if_neg b, if_neg (fun k => b ⟨k.1, k.2.1⟩)]
  rw [RHS]
  unfold mendAt
  have H := half_iff (putRow row c x p) i
  rw [L] at H
  -- when a half stands alone
  have key : halfB (putRow row c x p) i = true ↔ (c + n < row.length ∧ kd row (c + n - 1) = 1 ∧ i = c + n) ∨ (0 < c ∧ kd row c = 2 ∧ i + 1 = c) := by
    rw [H, K i, K (i + 1), K (i - 1)]
    by_cases i1 : i = c
    · subst i1
      rw [if_pos rfl, if_neg (by omega : ¬ i + 1 = i)]
      constructor
      · rintro (⟨a, b⟩ | ⟨a, b⟩)
        · exfalso
          have n2 : n = 2 := by omega
          rw [if_pos ⟨n2, rfl⟩] at b
          rcases b with b | b
          · omega
          · exact b rfl
        · omega
      · rintro (⟨a, b, d⟩ | ⟨a, b, d⟩) <;> omega
    · rw [if_neg i1]
      by_cases i2 : n = 2 ∧ i = c + 1
      · rw [if_pos i2]
        constructor
        · rintro (⟨a, b⟩ | ⟨a, b⟩)
          · cases a
          · exfalso
            have : i - 1 = c := by omega
            rw [if_pos this] at b
            rcases b with b | b
            · omega
            · apply b; omega
        · rintro (⟨a, b, d⟩ | ⟨a, b, d⟩) <;> omega
      · rw [if_neg i2]
        by_cases i3 : i + 1 = c
        · rw [if_pos i3]
          constructor
          · rintro (⟨a, b⟩ | ⟨a, b⟩)
            · right
              have := right_1 hR hi a
              rw [i3] at this
              exact ⟨by omega, this.2, i3⟩
            · exfalso
              have := right_2 hR hi a
              rw [if_neg (by omega : ¬ i - 1 = c), if_neg (fun k => by omega : ¬ (n = 2 ∧ i - 1 = c + 1))] at b
              rcases b with b | b
              · omega
              · exact b this.2
          · rintro (⟨a, b, d⟩ | ⟨a, b, d⟩)
            · omega
            · left
              have := right_2 hR (by omega) b
              rw [show c - 1 = i by omega] at this
              exact ⟨this.2, .inr (by omega)⟩
        · rw [if_neg i3, if_neg (fun k => i1 (by omega) : ¬ (n = 2 ∧ i + 1 = c + 1))]
          by_cases i4 : i = c + n
          · have e : (if i - 1 = c then (n : Int) - 1 else if n = 2 ∧ i - 1 = c + 1 then 2 else kd row (i - 1)) ≠ 1 := by
              by_cases q : i - 1 = c
              · rw [if_pos q]; omega
              · rw [if_neg q, if_pos (by omega)]; decide
            constructor
            · rintro (⟨a, b⟩ | ⟨a, b⟩)
              · exfalso
                have := right_1 hR hi a
                rcases b with b | b
                · omega
                · exact b this.2
              · left
                have := right_2 hR hi a
                rw [show i - 1 = c + n - 1 by omega] at this
                exact ⟨by omega, this.2, i4⟩
            · rintro (⟨a, b, d⟩ | ⟨a, b, d⟩)
              · right
                have := right_1 hR (by omega) b
                rw [show c + n - 1 + 1 = i by omega] at this
                exact ⟨this.2, .inr e⟩
              · omega
          · have e : 1 ≤ i → (if i - 1 = c then (n : Int) - 1 else if n = 2 ∧ i - 1 = c + 1 then 2 else kd row (i - 1)) = kd row (i - 1) := fun q => by
              rw [if_neg (by omega), if_neg (by omega)]
            constructor
            · rintro (⟨a, b⟩ | ⟨a, b⟩)
              · exfalso
                have := right_1 hR hi a
                rcases b with b | b
                · omega
                · exact b this.2
              · exfalso
                have := right_2 hR hi a
                rcases b with b | b
                · omega
                · rw [e (by omega)] at b; exact b this.2
            · rintro (⟨a, b, d⟩ | ⟨a, b, d⟩) <;> omega
  by_cases q : halfB (putRow row c x p) i = true
  · rw [q, cond_true]
    have e : (putRow row c x p).getD i dC = row.getD i dC := by
      rw [P]
      rcases key.1 q with ⟨a, b, d⟩ | ⟨a, b, d⟩
      · rw [if_neg (by omega), if_neg (by omega)]
      · rw [if_neg (by omega), if_neg (by omega)]
    rw [e]
    rcases key.1 q with a | a
    · rw [if_pos a]
    · by_cases b : c + n < row.length ∧ kd row (c + n - 1) = 1 ∧ i = c + n
      · rw [if_pos b]
      · rw [if_neg b, if_pos a]
  · have q' : halfB (putRow row c x p) i = false := by cases h : halfB (putRow row c x p) i <;> simp_all
    rw [q', cond_false, if_neg (fun k => q (key.2 (.inl k))), if_neg (fun k => q (key.2 (.inr k)))]
end Go.Proofs.YtbaggedkejiakaaAbs

/- Plain laws: the document's own put and resize, called. -/
namespace Go.Proofs.YtbaggedkejiakaaAbs
set_option linter.unusedVariables false
set_option linter.unusedSimpArgs false
open Go Go.Proofs
theorem refPut_14 {R : Int} {h w : Nat} (hR : R = Int.ofNat h) (hh : h ≤ 60) (hw : w ≤ 60) {l row : List Cell} (hl : l.length = h * w) {r : Nat} (hr : r < h) (hrow : row.length = w) :
    linguistref7_Put_J14 (Int.ofNat r) R (Int.ofNat w) l 0 0 row [] = some (R, Int.ofNat w, inRow w l r fun _ => row) := by
  unfold linguistref7_Put_J14
  rw [refSet_eq hR rfl hh hw hl hr hrow]; rfl
theorem refPut_12 {R : Int} {h w : Nat} (hR : R = Int.ofNat h) (hh : h ≤ 60) (hw : w ≤ 60) {l row old : List Cell} (hl : l.length = h * w) {r : Nat} (hr : r < h) (hrow : row.length = w) (hold : old.length = w) {c n : Nat} (h1 : 1 ≤ n) (hn : n ≤ 2) (hc : c + n ≤ w) :
    linguistref7_Put_J12 (Int.ofNat r) (Int.ofNat c) (Int.ofNat n) old R (Int.ofNat w) l 0 0 row [] = some (R, Int.ofNat w, inRow w l r fun _ => if c + n < w ∧ kd old (c + n - 1) = 1 then row.set (c + n) (blankOf (old.getD (c + n) dC)) else row) := by
  unfold linguistref7_Put_J12
  have e1 : IntKind.i64.wrap (Int.ofNat c + Int.ofNat n) = Int.ofNat (c + n) := w64 (by show _ ≤ (c : Int) + (n : Int); omega) (by show (c : Int) + (n : Int) < _; omega)
  have e2 : IntKind.i64.wrap (Int.ofNat (c + n) - 1) = Int.ofNat (c + n - 1) := by
    rw [w64 (by show _ ≤ ((c + n : Nat) : Int) - 1; omega) (by show ((c + n : Nat) : Int) - 1 < _; omega)]
    show ((c + n : Nat) : Int) - 1 = ((c + n - 1 : Nat) : Int); omega
  have e3 : decide ((0 : Int) ≤ Int.ofNat (c + n)) = true := decide_eq_true (by show (0 : Int) ≤ ((c + n : Nat) : Int); omega)
  have e4 : decide ((0 : Int) ≤ Int.ofNat (c + n - 1)) = true := decide_eq_true (by show (0 : Int) ≤ ((c + n - 1 : Nat) : Int); omega)
  have e5 : c + n - 1 < w := by omega
  rw [e1, e2, hold, hrow]
  simp only [ofNat_lt, e3, e4, e5, toNat_ofNat', decide_true, Bool.and_self, cond_true, hide_eq linguistref7_Put_J14]
  by_cases a : c + n < w
  · simp only [a, decide_true, Bool.and_self, cond_true, true_and]
    by_cases b : kd old (c + n - 1) = 1
    · have b' : ((old.getD (c + n - 1) (0, 0, 0, 0, 0)).2.1 == 1) = true := by
        have : (old.getD (c + n - 1) (0, 0, 0, 0, 0)).2.1 = 1 := b
        rw [this]; rfl
      rw [b', if_pos b]
      have k := refPut_14 hR hh hw hl hr (row := row.set (c + n) (blankOf (old.getD (c + n) dC))) (by simp; exact hrow)
      unfold blankOf at k
      simp only [cond_true]
      rw [k]; rfl
    · have b' : ((old.getD (c + n - 1) (0, 0, 0, 0, 0)).2.1 == 1) = false := beq_false_of_ne b
      rw [b', if_neg b]
      simp only [cond_false]
      rw [refPut_14 hR hh hw hl hr hrow]; rfl
  · simp only [a, decide_false, cond_false, false_and, if_false]
    rw [refPut_14 hR hh hw hl hr hrow]; rfl
theorem refPut_9 {R : Int} {h w : Nat} (hR : R = Int.ofNat h) (hh : h ≤ 60) (hw : w ≤ 60) {l row : List Cell} (hl : l.length = h * w) {r : Nat} (hr : r < h) (hrow : row.length = w) {c n : Nat} (h1 : 1 ≤ n) (hn : n ≤ 2) (hc : c + n ≤ w) :
    linguistref7_Put_J9 (Int.ofNat r) (Int.ofNat c) (Int.ofNat n) R (Int.ofNat w) l 0 0 row [] = some (R, Int.ofNat w, inRow w l r fun old =>
      let m := if 0 < c ∧ kd old c = 2 then row.set (c - 1) (blankOf (old.getD (c - 1) dC)) else row
      if c + n < w ∧ kd old (c + n - 1) = 1 then m.set (c + n) (blankOf (old.getD (c + n) dC)) else m) := by
  have hb := mul_bound (w := w) hr
  unfold linguistref7_Put_J9
  have hsm := small_mul (show h ≤ 64 by omega) (show w ≤ 64 by omega)
  rw [row_lo r w (by omega) (by omega), row_hi r w (by omega) (by omega), bnds_ok (by omega) (by omega), cutList_ok (by omega)]
  have e3 : r * w + w - r * w = w := by omega
  have hold : (rowOf w l r).length = w := rowOf_length hl hr
  rw [e3, show (l.drop (r * w)).take w = rowOf w l r from rfl, hold, hrow]
  have key : (inRow w l r fun old =>
      let m := if 0 < c ∧ kd old c = 2 then row.set (c - 1) (blankOf (old.getD (c - 1) dC)) else row
      if c + n < w ∧ kd old (c + n - 1) = 1 then m.set (c + n) (blankOf (old.getD (c + n) dC)) else m) = inRow w l r fun _ =>
        if c + n < w ∧ kd (rowOf w l r) (c + n - 1) = 1 then (if 0 < c ∧ kd (rowOf w l r) c = 2 then row.set (c - 1) (blankOf ((rowOf w l r).getD (c - 1) dC)) else row).set (c + n) (blankOf ((rowOf w l r).getD (c + n) dC)) else (if 0 < c ∧ kd (rowOf w l r) c = 2 then row.set (c - 1) (blankOf ((rowOf w l r).getD (c - 1) dC)) else row) := rfl
  rw [key]
  generalize rowOf w l r = old at *
  have J := fun (m : List Cell) (hm : m.length = w) => refPut_12 hR hh hw hl hr hm hold h1 hn hc
  simp only [hide_eq linguistref7_Put_J12, cond_true, Bool.and_self, ofNat_lt, toNat_ofNat']
  have e4 : decide ((0 : Int) ≤ Int.ofNat c) = true := by simp
  have e5 : c < w := by omega
  by_cases a : 0 < c
  · have a' : decide (Int.ofNat c > 0) = true := decide_eq_true (by show (c : Int) > 0; omega)
    have e2 : IntKind.i64.wrap (Int.ofNat c - 1) = Int.ofNat (c - 1) := by
      rw [w64 (by show _ ≤ (c : Int) - 1; omega) (by show (c : Int) - 1 < _; omega)]
      show (c : Int) - 1 = ((c - 1 : Nat) : Int); omega
    have e6 : decide ((0 : Int) ≤ Int.ofNat (c - 1)) = true := decide_eq_true (by show (0 : Int) ≤ ((c - 1 : Nat) : Int); omega)
    have e7 : c - 1 < w := by omega
    rw [a', e2]
    simp only [e4, e5, e6, e7, ofNat_lt, toNat_ofNat', decide_true, cond_true, Bool.and_self]
    by_cases b : kd old c = 2
    · have b' : ((old.getD c (0, 0, 0, 0, 0)).2.1 == 2) = true := by
        have : (old.getD c (0, 0, 0, 0, 0)).2.1 = 2 := b
        rw [this]; rfl
      have k := J (row.set (c - 1) (blankOf (old.getD (c - 1) dC))) (by simp; exact hrow)
      have em : (if 0 < c ∧ kd old c = 2 then row.set (c - 1) (blankOf (old.getD (c - 1) dC)) else row) = row.set (c - 1) (blankOf (old.getD (c - 1) dC)) := if_pos ⟨a, b⟩
      rw [em, b']
      simp only [cond_true]
      unfold blankOf at k ⊢
      rw [k]; rfl
    · have b' : ((old.getD c (0, 0, 0, 0, 0)).2.1 == 2) = false := beq_false_of_ne b
      have em : (if 0 < c ∧ kd old c = 2 then row.set (c - 1) (blankOf (old.getD (c - 1) dC)) else row) = row := if_neg (fun k => b k.2)
      rw [em, b']
      simp only [cond_false]
      rw [J row hrow]; rfl
  · have a' : decide (Int.ofNat c > 0) = false := decide_eq_false (by show ¬ (c : Int) > 0; omega)
    have em : (if 0 < c ∧ kd old c = 2 then row.set (c - 1) (blankOf (old.getD (c - 1) dC)) else row) = row := if_neg (fun k => a k.1)
    rw [em, a']
    simp only [cond_false]
    rw [J row hrow]; rfl
theorem inRow_congr {w : Nat} {l : List Cell} {r : Nat} {f g : List Cell → List Cell} (e : f (rowOf w l r) = g (rowOf w l r)) : inRow w l r f = inRow w l r g := by
  show l.take (r * w) ++ f (rowOf w l r) ++ _ = l.take (r * w) ++ g (rowOf w l r) ++ _
  rw [e]
theorem refPut_eq {R C : Int} {h w : Nat} (hR : R = Int.ofNat h) (hC : C = Int.ofNat w) (hh : h ≤ 40) (hw : w ≤ 60) {l : List Cell} (k : RG h w l) {r c x : Int} (hx : -2147483648 ≤ x ∧ x < 2147483648) (hr : -1000 ≤ r ∧ r ≤ 1000) (hc : -1000 ≤ c ∧ c ≤ 1000) (p0 p1 p2 : Int) :
    hide linguistref7_Put_F R C l r c x p0 p1 p2 = some (R, C, put h w l r c x (p0, p1, p2)) := by
  have hl := k.1
  have hsm := small_mul (show h ≤ 64 by omega) (show w ≤ 64 by omega)
  rw [hide_eq]; unfold linguistref7_Put_F
  rw [refw_eq hx]
  simp only [optK_s]
  unfold put
  by_cases q : widthP x = 0 ∨ ¬ (0 ≤ r ∧ r < (h : Int) ∧ 0 ≤ c ∧ c < (w : Int)) ∨ (w : Int) < c + widthP x
  · rw [if_pos q]
    have wc := width_cases x
    have e2 : IntKind.i64.wrap (c + widthP x) = c + widthP x := w64 (by omega) (by omega)
    rw [e2]
    by_cases c1 : r < 0
    · rw [decide_eq_true c1]; rfl
    · rw [decide_eq_false c1]
      by_cases c2 : r ≥ R
      · rw [decide_eq_true c2]; rfl
      · rw [decide_eq_false c2]
        by_cases c3 : c < 0
        · rw [decide_eq_true c3]; rfl
        · rw [decide_eq_false c3]
          by_cases c4 : widthP x < 1
          · rw [decide_eq_true c4]; rfl
          · rw [decide_eq_false c4]
            have c5 : c + widthP x > C := by
              have hR' : R = (h : Int) := hR
              have hC' : C = (w : Int) := hC
              omega
            rw [decide_eq_true c5]; rfl
  · rw [if_neg q]
    have q1 : ¬ widthP x = 0 := fun a => q (.inl a)
    have q2 : 0 ≤ r ∧ r < (h : Int) ∧ 0 ≤ c ∧ c < (w : Int) := Decidable.byContradiction fun a => q (.inr (.inl a))
    have q3 : ¬ (w : Int) < c + widthP x := fun a => q (.inr (.inr a))
    have hR' : R = (h : Int) := hR
    have hC' : C = (w : Int) := hC
    obtain ⟨n, hn, h12⟩ : ∃ n : Nat, widthP x = (n : Int) ∧ (n = 1 ∨ n = 2) := by
      rcases width_cases x with a | a | a
      · exact absurd a q1
      · exact ⟨1, a, .inl rfl⟩
      · exact ⟨2, a, .inr rfl⟩
    obtain ⟨rn, rfl⟩ : ∃ n : Nat, r = Int.ofNat n := ⟨r.toNat, by show r = ((r.toNat : Nat) : Int); omega⟩
    obtain ⟨cn, rfl⟩ : ∃ n : Nat, c = Int.ofNat n := ⟨c.toNat, by show c = ((c.toNat : Nat) : Int); omega⟩
    have hrn : rn < h := by have : (rn : Int) < (h : Int) := q2.2.1; omega
    have hcn : cn + n ≤ w := by have : ¬ (w : Int) < (cn : Int) + widthP x := q3; omega
    have hb := mul_bound (w := w) hrn
    have c1 : decide (Int.ofNat rn < 0) = false := decide_eq_false (by show ¬ (rn : Int) < 0; omega)
    have c2 : decide (Int.ofNat rn ≥ R) = false := decide_eq_false (by show ¬ (rn : Int) ≥ R; omega)
    have c3 : decide (Int.ofNat cn < 0) = false := decide_eq_false (by show ¬ (cn : Int) < 0; omega)
    have c4 : decide (widthP x < 1) = false := decide_eq_false (by omega)
    have e2 : IntKind.i64.wrap (Int.ofNat cn + widthP x) = Int.ofNat cn + widthP x := w64 (by show _ ≤ (cn : Int) + _; omega) (by show (cn : Int) + _ < _; omega)
    have c5 : decide (Int.ofNat cn + widthP x > C) = false := decide_eq_false (by show ¬ (cn : Int) + _ > C; omega)
    rw [c1, c2, c3, c4, e2, c5]
    clear c1 c2 c3 c4 e2 c5
    subst hC
    have hold : (rowOf w l rn).length = w := rowOf_length hl hrn
    rw [row_lo rn w (by omega) (by omega), row_hi rn w (by omega) (by omega), bnds_ok (by omega) (by omega), cutList_ok (by omega)]
    have e3 : rn * w + w - rn * w = w := by omega
    rw [e3, show (l.drop (rn * w)).take w = rowOf w l rn from rfl]
    have hfin : ∀ row : List Cell, row = putRow (rowOf w l rn) cn x (p0, p1, p2) → linguistref7_Put_J9 (Int.ofNat rn) (Int.ofNat cn) (widthP x) R (Int.ofNat w) l 0 0 row [] = some (R, Int.ofNat w, inRow w l rn fun row => mend (putRow row cn x (p0, p1, p2))) := by
      intro row hrow
      have J := refPut_9 hR (by omega) hw hl hrn (row := row) (by rw [hrow, putRow_length]; exact hold) (c := cn) (n := n) (by omega) (by omega) hcn
      rw [show Int.ofNat n = widthP x from hn.symm] at J
      rw [J]
      have e := putRow_ref (k.2 rn hrn) (p := (p0, p1, p2)) hn h12 (by rw [hold]; exact hcn)
      unfold refPutRow at e
      rw [hold, ← hrow] at e
      refine congrArg (fun z => some (R, Int.ofNat w, z)) (inRow_congr ?_)
      subst hrow
      exact e.symm
    have l1 : (w.ble 274877906944) = true := Nat.ble_eq_true_of_le (by omega)
    have e4 : decide ((0 : Int) ≤ Int.ofNat cn) = true := by simp
    have e5 : cn < w := by omega
    rw [hold, l1]
    simp only [e4, e5, ofNat_lt, toNat_ofNat', decide_true, cond_true, cond_false, Bool.and_self, Bool.and_true, List.length_set, hold, hide_eq linguistref7_Put_J9]
    rcases h12 with h | h
    · subst h
      have w1 : (widthP x == 2) = false := beq_false_of_ne (by omega)
      rw [w1]
      simp only [cond_false]
      rw [hfin _ (by unfold putRow; rw [if_neg (by omega)])]
      rfl
    · subst h
      have w1 : (widthP x == 2) = true := by rw [hn]; rfl
      have e6 : IntKind.i64.wrap (Int.ofNat cn + 1) = Int.ofNat (cn + 1) := wrap_succ (by omega)
      have e7 : decide ((0 : Int) ≤ Int.ofNat (cn + 1)) = true := decide_eq_true (by show (0 : Int) ≤ ((cn + 1 : Nat) : Int); omega)
      have e8 : cn + 1 < w := by omega
      have e9 : ((rowOf w l rn).set cn (x, 0, p0, p1, p2)).getD cn (0, 0, 0, 0, 0) = (x, 0, p0, p1, p2) := by rw [getD_set, if_pos ⟨rfl, by omega⟩]
      rw [w1, e6]
      simp only [cond_true, e7, e8, ofNat_lt, toNat_ofNat', decide_true, Bool.and_self, e9, List.set_set]
      rw [hfin _ (by unfold putRow; rw [if_pos (by rw [hn]; rfl)])]
      rfl
theorem refResize_inner {a0 a2 R a7 a8 a9 a10 : Int} {a11 a13 l : List Cell} {h w w' r : Nat} (hl : l.length = h * w) (hr : r < h) (hh : h ≤ 60) (hw : w ≤ 60) : ∀ (n c : Nat) (row : List Cell), row.length = w' → c ≤ min w w' → min w w' - c < n → row = (rowOf w l r).take c ++ List.replicate (w' - c) plainB →
    linguistref7_Resize_L7 n a0 (Int.ofNat w') (Int.ofNat r) (Int.ofNat c) R (Int.ofNat w) l a7 a8 a9 a10 a11 row a13 = some (a0, Int.ofNat w', Int.ofNat r, R, Int.ofNat w, l, a7, a8, a9, a10, a11, (rowOf w l r).take w' ++ List.replicate (w' - w) plainB, a13) := by
  have hsm := small_mul (show h ≤ 64 by omega) (show w ≤ 64 by omega)
  have hb := mul_bound (w := w) hr
  have hold : (rowOf w l r).length = w := rowOf_length hl hr
  have eE : (if Int.ofNat w < Int.ofNat w' then Int.ofNat w else Int.ofNat w') = Int.ofNat (min w w') := by
    show (if (w : Int) < (w' : Int) then (w : Int) else (w' : Int)) = ((min w w' : Nat) : Int)
    split <;> omega
  intro n
  induction n with
  | zero => intro c row h0 h1 h2; omega
  | succ n ih =>
    intro c row h0 h1 h2 h3
    rw [linguistref7_Resize_L7, eE, ofNat_lt]
    by_cases hc : c < min w w'
    · have e4 : decide ((0 : Int) ≤ Int.ofNat c) = true := by simp
      have e3 : r * w + w - r * w = w := by omega
      have e5 : c < w := by omega
      have e6 : c < w' := by omega
      rw [decide_eq_true hc, row_lo r w (by omega) (by omega), row_hi r w (by omega) (by omega), bnds_ok (by omega) (by omega), cutList_ok (by omega), e3, show (l.drop (r * w)).take w = rowOf w l r from rfl, hold, h0, wrap_succ (by omega)]
      simp only [e4, e5, e6, ofNat_lt, toNat_ofNat', decide_true, cond_true, Bool.and_self]
      refine ih (c + 1) _ (by simp; exact h0) (by omega) (by omega) ?_
      subst h3
      have e7 : ((rowOf w l r).take c).length = c := by simp; omega
      have e8 : w' - c = (w' - (c + 1)) + 1 := by omega
      have e9 : ((rowOf w l r).getD c dC) = (rowOf w l r)[c]'(by omega) := by simp [show c < (rowOf w l r).length by omega]
      rw [List.set_append_right _ _ (by omega), e7, Nat.sub_self, e8, List.replicate_succ, List.set_cons_zero, ← List.take_append_getElem (l := rowOf w l r) (i := c) (by omega), ← e9, List.append_assoc]
      rfl
    · rw [decide_eq_false hc]
      have : row = (rowOf w l r).take w' ++ List.replicate (w' - w) plainB := by
        rw [h3]
        by_cases q : w ≤ w'
        · rw [List.take_of_length_le (by omega), List.take_of_length_le (by omega)]
          congr 2; omega
        · have e1 : c = w' := by omega
          rw [e1]; congr 2; omega
      rw [this]; rfl
theorem preR_set {h w h' w' : Nat} {l : List Cell} (hl : l.length = h * w) {k : Nat} (hk : k < h) (hk' : k < h') {X : List Cell} (hX : X = resizeRow w w' (rowOf w l k)) :
    inRow w' (preR w w' l k ++ List.replicate ((h' - k) * w') plainB) k (fun _ => X) = preR w w' l (k + 1) ++ List.replicate ((h' - (k + 1)) * w') plainB := by
  have e1 := preR_length (w' := w') hl k (by omega)
  have e2 : h' - k = (h' - (k + 1)) + 1 := by omega
  have e3 : (preR w w' l k ++ List.replicate ((h' - k) * w') plainB).take (k * w') = preR w w' l k := by rw [← e1, List.take_left]
  have e4 : (preR w w' l k ++ List.replicate ((h' - k) * w') plainB).drop (k * w' + w') = List.replicate ((h' - (k + 1)) * w') plainB := by
    rw [← List.drop_drop, ← e1, List.drop_left, List.drop_replicate]
    congr 1
    rw [e2, Nat.add_mul, Nat.one_mul, Nat.add_sub_cancel]
  show (preR w w' l k ++ List.replicate ((h' - k) * w') plainB).take (k * w') ++ X ++ (preR w w' l k ++ List.replicate ((h' - k) * w') plainB).drop (k * w' + w') = _
  rw [e3, e4, preR_succ, hX]
theorem refResize_loop {h w h' w' : Nat} (hh : h ≤ 40) (hw : w ≤ 60) (hh' : h' ≤ 40) (hw' : w' ≤ 60) {l : List Cell} (hl : l.length = h * w) : ∀ (n k : Nat), k ≤ min h h' → min h h' - k < n →
    linguistref7_Resize_L3 n (Int.ofNat h') (Int.ofNat w') (Int.ofNat k) (Int.ofNat h) (Int.ofNat w) l 0 0 (Int.ofNat h') (Int.ofNat w') (preR w w' l k ++ List.replicate ((h' - k) * w') plainB) [] = some (0, 0, Int.ofNat h', Int.ofNat w', resize h w l h' w', []) := by
  have eE : (if Int.ofNat h < Int.ofNat h' then Int.ofNat h else Int.ofNat h') = Int.ofNat (min h h') := by
    show (if (h : Int) < (h' : Int) then (h : Int) else (h' : Int)) = ((min h h' : Nat) : Int)
    split <;> omega
  have hsm := small_mul (show h ≤ 64 by omega) (show w ≤ 64 by omega)
  have hsm' := small_mul (show h' ≤ 64 by omega) (show w' ≤ 64 by omega)
  intro n
  induction n with
  | zero => intro k h1 h2; omega
  | succ n ih =>
    intro k h1 h2
    rw [linguistref7_Resize_L3, eE, ofNat_lt]
    by_cases hk : k < min h h'
    · have hkh : k < h := by omega
      have hkh' : k < h' := by omega
      have hb' := mul_bound (w := w') hkh'
      have hA : (preR w w' l k).length = k * w' := preR_length hl k (by omega)
      have hlen : (preR w w' l k ++ List.replicate ((h' - k) * w') plainB).length = h' * w' := by
        rw [List.length_append, hA, List.length_replicate, ← Nat.add_mul]
        congr 1; omega
      have e3 : k * w' + w' - k * w' = w' := by omega
      have hcut : ((preR w w' l k ++ List.replicate ((h' - k) * w') plainB).drop (k * w')).take w' = List.replicate w' plainB := by
        rw [← hA, List.drop_left, List.take_replicate]
        congr 1
        have e2 : h' - k = (h' - (k + 1)) + 1 := by omega
        rw [e2, Nat.add_mul, Nat.one_mul]; omega
      have l1 : (w'.ble 274877906944) = true := Nat.ble_eq_true_of_le (by omega)
      rw [decide_eq_true hk, row_lo k w' (by omega) (by omega), row_hi k w' (by omega) (by omega), hlen, bnds_ok (by omega) (by omega), cutList_ok (by omega), e3, hcut, List.length_replicate, l1]
      have I := refResize_inner (a0 := Int.ofNat h') (a2 := 0) (R := Int.ofNat h) (a7 := 0) (a8 := 0) (a9 := Int.ofNat h') (a10 := Int.ofNat w') (a11 := preR w w' l k ++ List.replicate ((h' - k) * w') plainB) (a13 := []) hl hkh (by omega) hw (w' := w') (linguistref7_Resize_fu7 (Int.ofNat h') (Int.ofNat w') (Int.ofNat k) (Int.ofNat 0) (Int.ofNat h) (Int.ofNat w) l 0 0 (Int.ofNat h') (Int.ofNat w') (preR w w' l k ++ List.replicate ((h' - k) * w') plainB) (List.replicate w' plainB) []) 0 (List.replicate w' plainB) (by simp) (by omega) (by unfold linguistref7_Resize_fu7; omega) (by simp)
      have z : Int.ofNat 0 = 0 := rfl
      rw [z] at I
      simp only [hide_eq linguistref7_Resize_L7, cond_true, Bool.and_self, I, optK_s]
      have hrl : (rowOf w l k).length = w := rowOf_length hl hkh
      rw [refMend_eq _ (by simp; omega)]
      simp only [optK_s]
      have hX : mend ((rowOf w l k).take w' ++ List.replicate (w' - w) plainB) = resizeRow w w' (rowOf w l k) := rfl
      rw [refSet_eq rfl rfl (by omega) (by omega) hlen hkh' (by rw [mend_length]; simp; omega)]
      simp only [optK_s]
      rw [preR_set hl hkh hkh' hX, wrap_succ (by omega)]
      exact ih (k + 1) (by omega) (by omega)
    · have : k = min h h' := by omega
      rw [decide_eq_false hk]
      subst this
      rfl
theorem refResize_eq {R C : Int} {h w : Nat} (hR : R = Int.ofNat h) (hC : C = Int.ofNat w) (hh : h ≤ 40) (hw : w ≤ 60) {l : List Cell} (hl : l.length = h * w) {h' w' : Nat} (hh' : h' ≤ 40) (hw' : w' ≤ 60) :
    hide linguistref7_Resize_F R C l (Int.ofNat h') (Int.ofNat w') = some (Int.ofNat h', Int.ofNat w', resize h w l h' w') := by
  subst hR hC
  rw [hide_eq]; unfold linguistref7_Resize_F
  rw [refNew_eq (by omega) (by omega)]
  simp only [optK_s, hide_eq]
  have k := refResize_loop hh hw hh' hw' hl (linguistref7_Resize_fu3 (Int.ofNat h') (Int.ofNat w') 0 (Int.ofNat h) (Int.ofNat w) l 0 0 (Int.ofNat h') (Int.ofNat w') (List.replicate (h' * w') plainB) []) 0 (by omega) (by unfold linguistref7_Resize_fu3; omega)
  have e0 : preR w w' l 0 ++ List.replicate ((h' - 0) * w') plainB = List.replicate (h' * w') plainB := by simp [preR]
  rw [e0, show Int.ofNat 0 = 0 from rfl] at k
  rw [k]; rfl
end Go.Proofs.YtbaggedkejiakaaAbs

-- Written by a program of this session (dec.py); Lean checks it.
namespace Go.Proofs.YtbaggedkejiakaaAbs
open Go Go.Proofs
set_option linter.unusedVariables false
end Go.Proofs.YtbaggedkejiakaaAbs

-- Written by a program of this session (dec.py); Lean checks it.
namespace Go.Proofs.YtbaggedkejiakaaAbs
open Go Go.Proofs
set_option linter.unusedVariables false
noncomputable def linguistlaw7_GridPlays_b19 : Code := ((Try.f5.body.map fun b => tailsAt b 19).getD []).headD .skip
theorem linguistlaw7_GridPlays_b19_is : (Try.f5.body.map fun b => tailsAt b 19) = some [linguistlaw7_GridPlays_b19] := by kernel_rfl
noncomputable def linguistlaw7_GridPlays_t19 : SkSt := ⟨(.gap 3 (.cons (.list (.cons (.int .i64) (.cons (.int .i64) (.cons (.int .i64) (.cons (.int .i64) (.cons (.int .i32) (.cons (.int .i64) (.cons (.int .i64) (.one (.int .i64)))))))))) (.gap 7 (.cst (.ptr 0 0) (.cst (.ptr 1 0) (.cons (.int .i64) (.gap 1 (.cst (.own 2 32 (.cons (.int .i32) (.cons (.int .i64) (.cons (.int .i64) (.cons (.int .i64) (.one (.int .i64))))))) (.cst (.ptr 3 0) (.cons (.int .i64) (.cons (.int .i64) (.gap 182 .nil)))))))))))), (.var 26 (.cons (.int .i64) (.cons (.int .i64) (.cons (.list (.cons (.int .i32) (.cons (.int .i64) (.cons (.int .i64) (.cons (.int .i64) (.one (.int .i64))))))) .nil))) (.var 26 (.cons (.int .i64) (.cons (.int .i64) (.cons (.list (.cons (.int .i32) (.cons (.int .i64) (.cons (.int .i64) (.cons (.int .i64) (.one (.int .i64))))))) .nil))) (.arr 32 (.cons (.int .i32) (.cons (.int .i64) (.cons (.int .i64) (.cons (.int .i64) (.one (.int .i64)))))) (.var 26 (.cons (.int .i64) (.cons (.int .i64) (.cons (.list (.cons (.int .i32) (.cons (.int .i64) (.cons (.int .i64) (.cons (.int .i64) (.one (.int .i64))))))) .nil))) .nil))))⟩
noncomputable def linguistlaw7_GridPlays_y19_0 : SkSt := ⟨(.gap 8 (.cons .bool (.gap 192 .nil))), .nil⟩
noncomputable def linguistlaw7_GridPlays_y19_1 : SkSt := ⟨(.gap 3 (.cons (.list (.cons (.int .i64) (.cons (.int .i64) (.cons (.int .i64) (.cons (.int .i64) (.cons (.int .i32) (.cons (.int .i64) (.cons (.int .i64) (.one (.int .i64)))))))))) (.gap 7 (.cst (.ptr 0 0) (.cst (.ptr 1 0) (.cons (.int .i64) (.gap 187 .nil))))))), (.var 26 (.cons (.int .i64) (.cons (.int .i64) (.cons (.list (.cons (.int .i32) (.cons (.int .i64) (.cons (.int .i64) (.cons (.int .i64) (.one (.int .i64))))))) .nil))) (.var 26 (.cons (.int .i64) (.cons (.int .i64) (.cons (.list (.cons (.int .i32) (.cons (.int .i64) (.cons (.int .i64) (.cons (.int .i64) (.one (.int .i64))))))) .nil))) .nil))⟩
noncomputable def linguistlaw7_GridPlays_ys19 : List (Ex × SkSt) := [(.ret, linguistlaw7_GridPlays_y19_0), (.normal, linguistlaw7_GridPlays_y19_1)]
noncomputable def linguistlaw7_GridPlays_J19 (a0 : List (Int × Int × Int × Int × Int × Int × Int × Int)) (a1 : Int) (a2 : Int) (a3 : Int) (a4 : Int) (a5 : Int) (a6 : List (Int × Int × Int × Int × Int)) (a7 : Int) (a8 : Int) (a9 : List (Int × Int × Int × Int × Int)) (a10 : List (Int × Int × Int × Int × Int)) (a11 : Int) (a12 : Int) (a13 : List (Int × Int × Int × Int × Int)) : Option (((Bool) ⊕ ((List (Int × Int × Int × Int × Int × Int × Int × Int)) × Int × Int × Int × (List (Int × Int × Int × Int × Int)) × Int × Int × (List (Int × Int × Int × Int × Int))))) := (optK ((hide grid_At_F a4 a5 a6 a2 a3)) fun y30 => (bif (decide (a2 ≥ (0 : Int))) then (bif (decide (a2 < a7)) then (bif (decide (a3 ≥ (0 : Int))) then (optK ((hide linguistlaw7_same_F a4 a5 a6 a7 a8 a9)) fun y31 => (bif (!y31) then (some (.inl (false))) else (optK ((hide grid_Right_F a4 a5 a6)) fun y32 => (bif (!y32) then (some (.inl (false))) else (optK ((hide grid_Same_F a4 a5 a6 a7 a8 a9)) fun y33 => (bif (!y33) then (some (.inl (false))) else (bif (!y30.2.2.2.2.2 == decide (a3 < a8)) then (some (.inl (false))) else (bif (decide (a3 < a8)) then (bif (decide ((0 : Int) ≤ IntKind.i64.wrap (IntKind.i64.wrap (a2 * a8) + a3)) && decide (IntKind.i64.wrap (IntKind.i64.wrap (a2 * a8) + a3) < Int.ofNat a9.length) && true) then (bif (!(y30.1 == (a9.getD (IntKind.i64.wrap (IntKind.i64.wrap (a2 * a8) + a3)).toNat ((0 : Int), (0 : Int), (0 : Int), (0 : Int), (0 : Int))).1 && (y30.2.1 == (a9.getD (IntKind.i64.wrap (IntKind.i64.wrap (a2 * a8) + a3)).toNat ((0 : Int), (0 : Int), (0 : Int), (0 : Int), (0 : Int))).2.1 && (y30.2.2.1 == (a9.getD (IntKind.i64.wrap (IntKind.i64.wrap (a2 * a8) + a3)).toNat ((0 : Int), (0 : Int), (0 : Int), (0 : Int), (0 : Int))).2.2.1 && (y30.2.2.2.1 == (a9.getD (IntKind.i64.wrap (IntKind.i64.wrap (a2 * a8) + a3)).toNat ((0 : Int), (0 : Int), (0 : Int), (0 : Int), (0 : Int))).2.2.2.1 && (y30.2.2.2.2.1 == (a9.getD (IntKind.i64.wrap (IntKind.i64.wrap (a2 * a8) + a3)).toNat ((0 : Int), (0 : Int), (0 : Int), (0 : Int), (0 : Int))).2.2.2.2 && true)))))) then (some (.inl (false))) else (optK ((hide linguistbook_Same_api_Cell_F a13 a10)) fun y34 => (bif (!y34) then (some (.inl (false))) else (some (.inr (a0, a1, a4, a5, a6, a7, a8, a9)))))) else none) else (optK ((hide linguistbook_Same_api_Cell_F a13 a10)) fun y35 => (bif (!y35) then (some (.inl (false))) else (some (.inr (a0, a1, a4, a5, a6, a7, a8, a9))))))))))))) else (optK ((hide linguistlaw7_same_F a4 a5 a6 a7 a8 a9)) fun y36 => (bif (!y36) then (some (.inl (false))) else (optK ((hide grid_Right_F a4 a5 a6)) fun y37 => (bif (!y37) then (some (.inl (false))) else (optK ((hide grid_Same_F a4 a5 a6 a7 a8 a9)) fun y38 => (bif (!y38) then (some (.inl (false))) else (bif (!y30.2.2.2.2.2 == false) then (some (.inl (false))) else (optK ((hide linguistbook_Same_api_Cell_F a13 a10)) fun y39 => (bif (!y39) then (some (.inl (false))) else (some (.inr (a0, a1, a4, a5, a6, a7, a8, a9))))))))))))) else (optK ((hide linguistlaw7_same_F a4 a5 a6 a7 a8 a9)) fun y40 => (bif (!y40) then (some (.inl (false))) else (optK ((hide grid_Right_F a4 a5 a6)) fun y41 => (bif (!y41) then (some (.inl (false))) else (optK ((hide grid_Same_F a4 a5 a6 a7 a8 a9)) fun y42 => (bif (!y42) then (some (.inl (false))) else (bif (!y30.2.2.2.2.2 == false) then (some (.inl (false))) else (optK ((hide linguistbook_Same_api_Cell_F a13 a10)) fun y43 => (bif (!y43) then (some (.inl (false))) else (some (.inr (a0, a1, a4, a5, a6, a7, a8, a9))))))))))))) else (optK ((hide linguistlaw7_same_F a4 a5 a6 a7 a8 a9)) fun y44 => (bif (!y44) then (some (.inl (false))) else (optK ((hide grid_Right_F a4 a5 a6)) fun y45 => (bif (!y45) then (some (.inl (false))) else (optK ((hide grid_Same_F a4 a5 a6 a7 a8 a9)) fun y46 => (bif (!y46) then (some (.inl (false))) else (bif (!y30.2.2.2.2.2 == false) then (some (.inl (false))) else (optK ((hide linguistbook_Same_api_Cell_F a13 a10)) fun y47 => (bif (!y47) then (some (.inl (false))) else (some (.inr (a0, a1, a4, a5, a6, a7, a8, a9))))))))))))))
noncomputable def linguistlaw7_GridPlays_k19 {R : Type} (K : Ex → St → Option R) (o : Option (((Bool) ⊕ ((List (Int × Int × Int × Int × Int × Int × Int × Int)) × Int × Int × Int × (List (Int × Int × Int × Int × Int)) × Int × Int × (List (Int × Int × Int × Int × Int)))))) : Option R := optK o fun y => sumK y (fun y => K (.ret) (linguistlaw7_GridPlays_y19_0.enc ((y, ()), ()))) (fun y => K (.normal) (linguistlaw7_GridPlays_y19_1.enc ((y.1, (y.2.1, ())), ((y.2.2.1, (y.2.2.2.1, (y.2.2.2.2.1, ()))), ((y.2.2.2.2.2.1, (y.2.2.2.2.2.2.1, (y.2.2.2.2.2.2.2, ()))), ())))))
theorem linguistlaw7_GridPlays_j19 {R : Type} (K : Ex → St → Option R) (a0 : List (Int × Int × Int × Int × Int × Int × Int × Int)) (a1 : Int) (a2 : Int) (a3 : Int) (a4 : Int) (a5 : Int) (a6 : List (Int × Int × Int × Int × Int)) (a7 : Int) (a8 : Int) (a9 : List (Int × Int × Int × Int × Int)) (a10 : List (Int × Int × Int × Int × Int)) (a11 : Int) (a12 : Int) (a13 : List (Int × Int × Int × Int × Int)) : exec (envL sums10 ll0 cs0 (fun _ _ => false)) 5 (acall (envL sums10 ll0 cs0 (fun _ _ => false)) 1000) 0 linguistlaw7_GridPlays_b19 (linguistlaw7_GridPlays_t19.enc ((a0, (a1, (a2, (a3, ())))), ((a4, (a5, (a6, ()))), ((a7, (a8, (a9, ()))), (a10, ((a11, (a12, (a13, ()))), ())))))) (exitK linguistlaw7_GridPlays_ys19 0 K) = linguistlaw7_GridPlays_k19 K (linguistlaw7_GridPlays_J19 a0 a1 a2 a3 a4 a5 a6 a7 a8 a9 a10 a11 a12 a13) := by
    refine Eq.trans (b := (optK ((hide grid_At_F a4 a5 a6 a2 a3)) fun y30 => (bif (decide (a2 ≥ (0 : Int))) then (bif (decide (a2 < a7)) then (bif (decide (a3 ≥ (0 : Int))) then (optK ((hide linguistlaw7_same_F a4 a5 a6 a7 a8 a9)) fun y31 => (bif (!y31) then (K (.ret) (linguistlaw7_GridPlays_y19_0.enc (((false), ()), ()))) else (optK ((hide grid_Right_F a4 a5 a6)) fun y32 => (bif (!y32) then (K (.ret) (linguistlaw7_GridPlays_y19_0.enc (((false), ()), ()))) else (optK ((hide grid_Same_F a4 a5 a6 a7 a8 a9)) fun y33 => (bif (!y33) then (K (.ret) (linguistlaw7_GridPlays_y19_0.enc (((false), ()), ()))) else (bif (!y30.2.2.2.2.2 == decide (a3 < a8)) then (K (.ret) (linguistlaw7_GridPlays_y19_0.enc (((false), ()), ()))) else (bif (decide (a3 < a8)) then (bif (decide ((0 : Int) ≤ IntKind.i64.wrap (IntKind.i64.wrap (a2 * a8) + a3)) && decide (IntKind.i64.wrap (IntKind.i64.wrap (a2 * a8) + a3) < Int.ofNat a9.length) && true) then (bif (!(y30.1 == (a9.getD (IntKind.i64.wrap (IntKind.i64.wrap (a2 * a8) + a3)).toNat ((0 : Int), (0 : Int), (0 : Int), (0 : Int), (0 : Int))).1 && (y30.2.1 == (a9.getD (IntKind.i64.wrap (IntKind.i64.wrap (a2 * a8) + a3)).toNat ((0 : Int), (0 : Int), (0 : Int), (0 : Int), (0 : Int))).2.1 && (y30.2.2.1 == (a9.getD (IntKind.i64.wrap (IntKind.i64.wrap (a2 * a8) + a3)).toNat ((0 : Int), (0 : Int), (0 : Int), (0 : Int), (0 : Int))).2.2.1 && (y30.2.2.2.1 == (a9.getD (IntKind.i64.wrap (IntKind.i64.wrap (a2 * a8) + a3)).toNat ((0 : Int), (0 : Int), (0 : Int), (0 : Int), (0 : Int))).2.2.2.1 && (y30.2.2.2.2.1 == (a9.getD (IntKind.i64.wrap (IntKind.i64.wrap (a2 * a8) + a3)).toNat ((0 : Int), (0 : Int), (0 : Int), (0 : Int), (0 : Int))).2.2.2.2 && true)))))) then (K (.ret) (linguistlaw7_GridPlays_y19_0.enc (((false), ()), ()))) else (optK ((hide linguistbook_Same_api_Cell_F a13 a10)) fun y34 => (bif (!y34) then (K (.ret) (linguistlaw7_GridPlays_y19_0.enc (((false), ()), ()))) else (K (.normal) (linguistlaw7_GridPlays_y19_1.enc ((a0, (a1, ())), ((a4, (a5, (a6, ()))), ((a7, (a8, (a9, ()))), ())))))))) else none) else (optK ((hide linguistbook_Same_api_Cell_F a13 a10)) fun y35 => (bif (!y35) then (K (.ret) (linguistlaw7_GridPlays_y19_0.enc (((false), ()), ()))) else (K (.normal) (linguistlaw7_GridPlays_y19_1.enc ((a0, (a1, ())), ((a4, (a5, (a6, ()))), ((a7, (a8, (a9, ()))), ()))))))))))))))) else (optK ((hide linguistlaw7_same_F a4 a5 a6 a7 a8 a9)) fun y36 => (bif (!y36) then (K (.ret) (linguistlaw7_GridPlays_y19_0.enc (((false), ()), ()))) else (optK ((hide grid_Right_F a4 a5 a6)) fun y37 => (bif (!y37) then (K (.ret) (linguistlaw7_GridPlays_y19_0.enc (((false), ()), ()))) else (optK ((hide grid_Same_F a4 a5 a6 a7 a8 a9)) fun y38 => (bif (!y38) then (K (.ret) (linguistlaw7_GridPlays_y19_0.enc (((false), ()), ()))) else (bif (!y30.2.2.2.2.2 == false) then (K (.ret) (linguistlaw7_GridPlays_y19_0.enc (((false), ()), ()))) else (optK ((hide linguistbook_Same_api_Cell_F a13 a10)) fun y39 => (bif (!y39) then (K (.ret) (linguistlaw7_GridPlays_y19_0.enc (((false), ()), ()))) else (K (.normal) (linguistlaw7_GridPlays_y19_1.enc ((a0, (a1, ())), ((a4, (a5, (a6, ()))), ((a7, (a8, (a9, ()))), ()))))))))))))))) else (optK ((hide linguistlaw7_same_F a4 a5 a6 a7 a8 a9)) fun y40 => (bif (!y40) then (K (.ret) (linguistlaw7_GridPlays_y19_0.enc (((false), ()), ()))) else (optK ((hide grid_Right_F a4 a5 a6)) fun y41 => (bif (!y41) then (K (.ret) (linguistlaw7_GridPlays_y19_0.enc (((false), ()), ()))) else (optK ((hide grid_Same_F a4 a5 a6 a7 a8 a9)) fun y42 => (bif (!y42) then (K (.ret) (linguistlaw7_GridPlays_y19_0.enc (((false), ()), ()))) else (bif (!y30.2.2.2.2.2 == false) then (K (.ret) (linguistlaw7_GridPlays_y19_0.enc (((false), ()), ()))) else (optK ((hide linguistbook_Same_api_Cell_F a13 a10)) fun y43 => (bif (!y43) then (K (.ret) (linguistlaw7_GridPlays_y19_0.enc (((false), ()), ()))) else (K (.normal) (linguistlaw7_GridPlays_y19_1.enc ((a0, (a1, ())), ((a4, (a5, (a6, ()))), ((a7, (a8, (a9, ()))), ()))))))))))))))) else (optK ((hide linguistlaw7_same_F a4 a5 a6 a7 a8 a9)) fun y44 => (bif (!y44) then (K (.ret) (linguistlaw7_GridPlays_y19_0.enc (((false), ()), ()))) else (optK ((hide grid_Right_F a4 a5 a6)) fun y45 => (bif (!y45) then (K (.ret) (linguistlaw7_GridPlays_y19_0.enc (((false), ()), ()))) else (optK ((hide grid_Same_F a4 a5 a6 a7 a8 a9)) fun y46 => (bif (!y46) then (K (.ret) (linguistlaw7_GridPlays_y19_0.enc (((false), ()), ()))) else (bif (!y30.2.2.2.2.2 == false) then (K (.ret) (linguistlaw7_GridPlays_y19_0.enc (((false), ()), ()))) else (optK ((hide linguistbook_Same_api_Cell_F a13 a10)) fun y47 => (bif (!y47) then (K (.ret) (linguistlaw7_GridPlays_y19_0.enc (((false), ()), ()))) else (K (.normal) (linguistlaw7_GridPlays_y19_1.enc ((a0, (a1, ())), ((a4, (a5, (a6, ()))), ((a7, (a8, (a9, ()))), ()))))))))))))))))) (by kernel_rfl) ?_
    unfold linguistlaw7_GridPlays_J19
    exact (optK_push (linguistlaw7_GridPlays_k19 K) rfl _ fun y30 => (cond_push (linguistlaw7_GridPlays_k19 K) _ (cond_push (linguistlaw7_GridPlays_k19 K) _ (cond_push (linguistlaw7_GridPlays_k19 K) _ (optK_push (linguistlaw7_GridPlays_k19 K) rfl _ fun y31 => (cond_push (linguistlaw7_GridPlays_k19 K) _ rfl (optK_push (linguistlaw7_GridPlays_k19 K) rfl _ fun y32 => (cond_push (linguistlaw7_GridPlays_k19 K) _ rfl (optK_push (linguistlaw7_GridPlays_k19 K) rfl _ fun y33 => (cond_push (linguistlaw7_GridPlays_k19 K) _ rfl (cond_push (linguistlaw7_GridPlays_k19 K) _ rfl (cond_push (linguistlaw7_GridPlays_k19 K) _ (cond_push (linguistlaw7_GridPlays_k19 K) _ (cond_push (linguistlaw7_GridPlays_k19 K) _ rfl (optK_push (linguistlaw7_GridPlays_k19 K) rfl _ fun y34 => (cond_push (linguistlaw7_GridPlays_k19 K) _ rfl rfl))) rfl) (optK_push (linguistlaw7_GridPlays_k19 K) rfl _ fun y35 => (cond_push (linguistlaw7_GridPlays_k19 K) _ rfl rfl)))))))))) (optK_push (linguistlaw7_GridPlays_k19 K) rfl _ fun y36 => (cond_push (linguistlaw7_GridPlays_k19 K) _ rfl (optK_push (linguistlaw7_GridPlays_k19 K) rfl _ fun y37 => (cond_push (linguistlaw7_GridPlays_k19 K) _ rfl (optK_push (linguistlaw7_GridPlays_k19 K) rfl _ fun y38 => (cond_push (linguistlaw7_GridPlays_k19 K) _ rfl (cond_push (linguistlaw7_GridPlays_k19 K) _ rfl (optK_push (linguistlaw7_GridPlays_k19 K) rfl _ fun y39 => (cond_push (linguistlaw7_GridPlays_k19 K) _ rfl rfl)))))))))) (optK_push (linguistlaw7_GridPlays_k19 K) rfl _ fun y40 => (cond_push (linguistlaw7_GridPlays_k19 K) _ rfl (optK_push (linguistlaw7_GridPlays_k19 K) rfl _ fun y41 => (cond_push (linguistlaw7_GridPlays_k19 K) _ rfl (optK_push (linguistlaw7_GridPlays_k19 K) rfl _ fun y42 => (cond_push (linguistlaw7_GridPlays_k19 K) _ rfl (cond_push (linguistlaw7_GridPlays_k19 K) _ rfl (optK_push (linguistlaw7_GridPlays_k19 K) rfl _ fun y43 => (cond_push (linguistlaw7_GridPlays_k19 K) _ rfl rfl)))))))))) (optK_push (linguistlaw7_GridPlays_k19 K) rfl _ fun y44 => (cond_push (linguistlaw7_GridPlays_k19 K) _ rfl (optK_push (linguistlaw7_GridPlays_k19 K) rfl _ fun y45 => (cond_push (linguistlaw7_GridPlays_k19 K) _ rfl (optK_push (linguistlaw7_GridPlays_k19 K) rfl _ fun y46 => (cond_push (linguistlaw7_GridPlays_k19 K) _ rfl (cond_push (linguistlaw7_GridPlays_k19 K) _ rfl (optK_push (linguistlaw7_GridPlays_k19 K) rfl _ fun y47 => (cond_push (linguistlaw7_GridPlays_k19 K) _ rfl rfl)))))))))))
noncomputable def linguistlaw7_GridPlays_D19 : GoL linguistlaw7_GridPlays_t19 := fun R (x : ((List (Int × Int × Int × Int × Int × Int × Int × Int) × (Int × (Int × (Int × Unit)))) × ((Int × (Int × (List (Int × Int × Int × Int × Int) × Unit))) × ((Int × (Int × (List (Int × Int × Int × Int × Int) × Unit))) × (List (Int × Int × Int × Int × Int) × ((Int × (Int × (List (Int × Int × Int × Int × Int) × Unit))) × Unit)))))) K => linguistlaw7_GridPlays_k19 K (hide linguistlaw7_GridPlays_J19 x.1.1 x.1.2.1 x.1.2.2.1 x.1.2.2.2.1 x.2.1.1 x.2.1.2.1 x.2.1.2.2.1 x.2.2.1.1 x.2.2.1.2.1 x.2.2.1.2.2.1 x.2.2.2.1 x.2.2.2.2.1.1 x.2.2.2.2.1.2.1 x.2.2.2.2.1.2.2.1)
theorem linguistlaw7_GridPlays_C19 : CutOk Try.prog 5 19 (loopH linguistlaw7_GridPlays_t19 0 linguistlaw7_GridPlays_D19) := cut_known (envL_ok sums10_ok ll0_ok cs0_ok) (N := 1000) Try.func5 rfl linguistlaw7_GridPlays_b19_is (xs := linguistlaw7_GridPlays_ys19) fun R (x : ((List (Int × Int × Int × Int × Int × Int × Int × Int) × (Int × (Int × (Int × Unit)))) × ((Int × (Int × (List (Int × Int × Int × Int × Int) × Unit))) × ((Int × (Int × (List (Int × Int × Int × Int × Int) × Unit))) × (List (Int × Int × Int × Int × Int) × ((Int × (Int × (List (Int × Int × Int × Int × Int) × Unit))) × Unit)))))) K => by
  show linguistlaw7_GridPlays_k19 K (hide linguistlaw7_GridPlays_J19 x.1.1 x.1.2.1 x.1.2.2.1 x.1.2.2.2.1 x.2.1.1 x.2.1.2.1 x.2.1.2.2.1 x.2.2.1.1 x.2.2.1.2.1 x.2.2.1.2.2.1 x.2.2.2.1 x.2.2.2.2.1.1 x.2.2.2.2.1.2.1 x.2.2.2.2.1.2.2.1) = _
  rw [hide_eq]
  exact (linguistlaw7_GridPlays_j19 K x.1.1 x.1.2.1 x.1.2.2.1 x.1.2.2.2.1 x.2.1.1 x.2.1.2.1 x.2.1.2.2.1 x.2.2.1.1 x.2.2.1.2.1 x.2.2.1.2.2.1 x.2.2.2.1 x.2.2.2.2.1.1 x.2.2.2.2.1.2.1 x.2.2.2.2.1.2.2.1).symm
noncomputable def linguistlaw7_GridPlays_d19 : LoopF := loopH linguistlaw7_GridPlays_t19 0 linguistlaw7_GridPlays_D19
noncomputable def linguistlaw7_GridPlays_cs1 : LoopT := ((5, 19), linguistlaw7_GridPlays_d19) :: cs0
theorem linguistlaw7_GridPlays_cs1_ok : AllCut Try.prog linguistlaw7_GridPlays_cs1 := ⟨linguistlaw7_GridPlays_C19, cs0_ok⟩
noncomputable def linguistlaw7_GridPlays_c4 : Code := ((Try.f5.body.map fun b => loopsAt b 4).getD []).headD .skip
theorem linguistlaw7_GridPlays_c4_is : (Try.f5.body.map fun b => loopsAt b 4) = some [linguistlaw7_GridPlays_c4] := by kernel_rfl
noncomputable def linguistlaw7_GridPlays_s4 : SkSt := ⟨(.gap 3 (.cons (.list (.cons (.int .i64) (.cons (.int .i64) (.cons (.int .i64) (.cons (.int .i64) (.cons (.int .i32) (.cons (.int .i64) (.cons (.int .i64) (.one (.int .i64)))))))))) (.gap 7 (.cst (.ptr 0 0) (.cst (.ptr 1 0) (.cons (.int .i64) (.gap 187 .nil))))))), (.var 26 (.cons (.int .i64) (.cons (.int .i64) (.cons (.list (.cons (.int .i32) (.cons (.int .i64) (.cons (.int .i64) (.cons (.int .i64) (.one (.int .i64))))))) .nil))) (.var 26 (.cons (.int .i64) (.cons (.int .i64) (.cons (.list (.cons (.int .i32) (.cons (.int .i64) (.cons (.int .i64) (.cons (.int .i64) (.one (.int .i64))))))) .nil))) .nil))⟩
noncomputable def linguistlaw7_GridPlays_x4_0 : SkSt := ⟨(.gap 8 (.cons .bool (.gap 192 .nil))), .nil⟩
noncomputable def linguistlaw7_GridPlays_x4_1 : SkSt := ⟨(.gap 201 .nil), .nil⟩
noncomputable def linguistlaw7_GridPlays_xs4 : List (Ex × SkSt) := [(.ret, linguistlaw7_GridPlays_x4_0), (.exit 0, linguistlaw7_GridPlays_x4_1)]
noncomputable def linguistlaw7_GridPlays_L4 : Nat → List (Int × Int × Int × Int × Int × Int × Int × Int) → Int → Int → Int → List (Int × Int × Int × Int × Int) → Int → Int → List (Int × Int × Int × Int × Int) → Option (((Bool) ⊕ (Unit)))
  | 0, _, _, _, _, _, _, _, _ => none
  | n + 1, a0, a1, a2, a3, a4, a5, a6, a7 => (bif (decide (a1 < Int.ofNat a0.length)) then (bif (decide (a1 < (30 : Int))) then (bif (decide ((0 : Int) ≤ a1) && decide (a1 < Int.ofNat a0.length) && true) then (bif (a4.length.ble (274877906944 : Nat) && true) then (optK ((hide linguistbook_Within_F (a0.getD a1.toNat ((0 : Int), (0 : Int), (0 : Int), (0 : Int), (0 : Int), (0 : Int), (0 : Int), (0 : Int))).2.1 (-1 : Int) a5)) fun y61 => (optK ((hide linguistbook_Within_F (a0.getD a1.toNat ((0 : Int), (0 : Int), (0 : Int), (0 : Int), (0 : Int), (0 : Int), (0 : Int), (0 : Int))).2.2.1 (-2 : Int) (IntKind.i64.wrap (a6 + (1 : Int))))) fun y62 => (bif ((a0.getD a1.toNat ((0 : Int), (0 : Int), (0 : Int), (0 : Int), (0 : Int), (0 : Int), (0 : Int), (0 : Int))).1 == (1 : Int)) then (optK ((hide linguistkeep_Pen_Pen_F (a0.getD a1.toNat ((0 : Int), (0 : Int), (0 : Int), (0 : Int), (0 : Int), (0 : Int), (0 : Int), (0 : Int))).2.2.2.2.2.1 (a0.getD a1.toNat ((0 : Int), (0 : Int), (0 : Int), (0 : Int), (0 : Int), (0 : Int), (0 : Int), (0 : Int))).2.2.2.2.2.2.1 (a0.getD a1.toNat ((0 : Int), (0 : Int), (0 : Int), (0 : Int), (0 : Int), (0 : Int), (0 : Int), (0 : Int))).2.2.2.2.2.2.2)) fun y63 => (optK ((hide grid_Put_F a2 a3 a4 y61 y62 (a0.getD a1.toNat ((0 : Int), (0 : Int), (0 : Int), (0 : Int), (0 : Int), (0 : Int), (0 : Int), (0 : Int))).2.2.2.2.1 y63.1 y63.2.1 y63.2.2)) fun y64 => (optK ((hide linguistkeep_Pen_Pen_F (a0.getD a1.toNat ((0 : Int), (0 : Int), (0 : Int), (0 : Int), (0 : Int), (0 : Int), (0 : Int), (0 : Int))).2.2.2.2.2.1 (a0.getD a1.toNat ((0 : Int), (0 : Int), (0 : Int), (0 : Int), (0 : Int), (0 : Int), (0 : Int), (0 : Int))).2.2.2.2.2.2.1 (a0.getD a1.toNat ((0 : Int), (0 : Int), (0 : Int), (0 : Int), (0 : Int), (0 : Int), (0 : Int), (0 : Int))).2.2.2.2.2.2.2)) fun y65 => (optK ((hide linguistref7_Put_F a5 a6 a7 y61 y62 (a0.getD a1.toNat ((0 : Int), (0 : Int), (0 : Int), (0 : Int), (0 : Int), (0 : Int), (0 : Int), (0 : Int))).2.2.2.2.1 y65.1 y65.2.1 y65.2.2)) fun y66 => (optK (hide linguistlaw7_GridPlays_J19 a0 a1 y61 y62 (y64.1) (y64.2.1) (y64.2.2) (y66.1) (y66.2.1) (y66.2.2) a4 a2 a3 a4) fun y67 => (sumK y67 (fun y67a => (some (.inl y67a))) (fun y67b => (linguistlaw7_GridPlays_L4 n (y67b.1) (IntKind.i64.wrap (y67b.2.1 + (1 : Int))) (y67b.2.2.1) (y67b.2.2.2.1) (y67b.2.2.2.2.1) (y67b.2.2.2.2.2.1) (y67b.2.2.2.2.2.2.1) (y67b.2.2.2.2.2.2.2))))))))) else (bif ((a0.getD a1.toNat ((0 : Int), (0 : Int), (0 : Int), (0 : Int), (0 : Int), (0 : Int), (0 : Int), (0 : Int))).1 == (2 : Int)) then (optK ((hide linguistbook_Within_F (a0.getD a1.toNat ((0 : Int), (0 : Int), (0 : Int), (0 : Int), (0 : Int), (0 : Int), (0 : Int), (0 : Int))).2.2.2.1 (-2 : Int) (IntKind.i64.wrap (a6 + (2 : Int))))) fun y68 => (optK ((hide linguistkeep_Pen_Pen_F (a0.getD a1.toNat ((0 : Int), (0 : Int), (0 : Int), (0 : Int), (0 : Int), (0 : Int), (0 : Int), (0 : Int))).2.2.2.2.2.1 (a0.getD a1.toNat ((0 : Int), (0 : Int), (0 : Int), (0 : Int), (0 : Int), (0 : Int), (0 : Int), (0 : Int))).2.2.2.2.2.2.1 (a0.getD a1.toNat ((0 : Int), (0 : Int), (0 : Int), (0 : Int), (0 : Int), (0 : Int), (0 : Int), (0 : Int))).2.2.2.2.2.2.2)) fun y69 => (optK ((hide grid_Wipe_F a2 a3 a4 y61 y62 y68 y69.1 y69.2.1 y69.2.2)) fun y70 => (optK ((hide linguistkeep_Pen_Pen_F (a0.getD a1.toNat ((0 : Int), (0 : Int), (0 : Int), (0 : Int), (0 : Int), (0 : Int), (0 : Int), (0 : Int))).2.2.2.2.2.1 (a0.getD a1.toNat ((0 : Int), (0 : Int), (0 : Int), (0 : Int), (0 : Int), (0 : Int), (0 : Int), (0 : Int))).2.2.2.2.2.2.1 (a0.getD a1.toNat ((0 : Int), (0 : Int), (0 : Int), (0 : Int), (0 : Int), (0 : Int), (0 : Int), (0 : Int))).2.2.2.2.2.2.2)) fun y71 => (optK ((hide linguistref7_Wipe_F a5 a6 a7 y61 y62 y68 y71.1 y71.2.1 y71.2.2)) fun y72 => (optK (hide linguistlaw7_GridPlays_J19 a0 a1 y61 y62 (y70.1) (y70.2.1) (y70.2.2) (y72.1) (y72.2.1) (y72.2.2) a4 a2 a3 a4) fun y73 => (sumK y73 (fun y73a => (some (.inl y73a))) (fun y73b => (linguistlaw7_GridPlays_L4 n (y73b.1) (IntKind.i64.wrap (y73b.2.1 + (1 : Int))) (y73b.2.2.1) (y73b.2.2.2.1) (y73b.2.2.2.2.1) (y73b.2.2.2.2.2.1) (y73b.2.2.2.2.2.2.1) (y73b.2.2.2.2.2.2.2)))))))))) else (bif ((a0.getD a1.toNat ((0 : Int), (0 : Int), (0 : Int), (0 : Int), (0 : Int), (0 : Int), (0 : Int), (0 : Int))).1 == (3 : Int)) then (optK ((hide linguistbook_Within_F (a0.getD a1.toNat ((0 : Int), (0 : Int), (0 : Int), (0 : Int), (0 : Int), (0 : Int), (0 : Int), (0 : Int))).2.1 (1 : Int) (6 : Int))) fun y74 => (optK ((hide linguistbook_Within_F (a0.getD a1.toNat ((0 : Int), (0 : Int), (0 : Int), (0 : Int), (0 : Int), (0 : Int), (0 : Int), (0 : Int))).2.2.2.1 (1 : Int) (10 : Int))) fun y75 => (optK ((hide grid_Resize_F a2 a3 a4 y74 y75)) fun y76 => (optK ((hide linguistref7_Resize_F a5 a6 a7 y74 y75)) fun y77 => (optK (hide linguistlaw7_GridPlays_J19 a0 a1 y61 y62 (y76.1) (y76.2.1) (y76.2.2) (y77.1) (y77.2.1) (y77.2.2) a4 a2 a3 a4) fun y78 => (sumK y78 (fun y78a => (some (.inl y78a))) (fun y78b => (linguistlaw7_GridPlays_L4 n (y78b.1) (IntKind.i64.wrap (y78b.2.1 + (1 : Int))) (y78b.2.2.1) (y78b.2.2.2.1) (y78b.2.2.2.2.1) (y78b.2.2.2.2.2.1) (y78b.2.2.2.2.2.2.1) (y78b.2.2.2.2.2.2.2))))))))) else (optK (hide linguistlaw7_GridPlays_J19 a0 a1 y61 y62 a2 a3 a4 a5 a6 a7 a4 a2 a3 a4) fun y79 => (sumK y79 (fun y79a => (some (.inl y79a))) (fun y79b => (linguistlaw7_GridPlays_L4 n (y79b.1) (IntKind.i64.wrap (y79b.2.1 + (1 : Int))) (y79b.2.2.1) (y79b.2.2.2.1) (y79b.2.2.2.2.1) (y79b.2.2.2.2.2.1) (y79b.2.2.2.2.2.2.1) (y79b.2.2.2.2.2.2.2)))))))))) else none) else none) else (some (.inr ()))) else (some (.inr ())))
noncomputable def linguistlaw7_GridPlays_I4 {R : Type} (K : Ex → St → Option R) : Nat → St → Option R := iterN (exec (envL sums10 ll0 linguistlaw7_GridPlays_cs1 (fun _ _ => false)) 5 (acall (envL sums10 ll0 linguistlaw7_GridPlays_cs1 (fun _ _ => false)) 1000) 0 linguistlaw7_GridPlays_c4) (normTo linguistlaw7_GridPlays_s4 0) (exitK linguistlaw7_GridPlays_xs4 0 K)
noncomputable def linguistlaw7_GridPlays_m4 {R : Type} (K : Ex → St → Option R) (o : Option (((Bool) ⊕ (Unit)))) : Option R := optK o fun y => sumK y (fun y => K (.ret) (linguistlaw7_GridPlays_x4_0.enc ((y, ()), ()))) (fun y => K (.exit 0) (linguistlaw7_GridPlays_x4_1.enc ((), ())))
theorem linguistlaw7_GridPlays_l4 {R : Type} (K : Ex → St → Option R) : ∀ (n : Nat), ∀ (a0 : List (Int × Int × Int × Int × Int × Int × Int × Int)) (a1 : Int) (a2 : Int) (a3 : Int) (a4 : List (Int × Int × Int × Int × Int)) (a5 : Int) (a6 : Int) (a7 : List (Int × Int × Int × Int × Int)), linguistlaw7_GridPlays_I4 K n (linguistlaw7_GridPlays_s4.enc ((a0, (a1, ())), ((a2, (a3, (a4, ()))), ((a5, (a6, (a7, ()))), ())))) = linguistlaw7_GridPlays_m4 K (linguistlaw7_GridPlays_L4 n a0 a1 a2 a3 a4 a5 a6 a7) := by
  intro n
  induction n with
  | zero => intros; rfl
  | succ n ih =>
    intro a0 a1 a2 a3 a4 a5 a6 a7
    refine Eq.trans (b := (bif (decide (a1 < Int.ofNat a0.length)) then (bif (decide (a1 < (30 : Int))) then (bif (decide ((0 : Int) ≤ a1) && decide (a1 < Int.ofNat a0.length) && true) then (bif (a4.length.ble (274877906944 : Nat) && true) then (optK ((hide linguistbook_Within_F (a0.getD a1.toNat ((0 : Int), (0 : Int), (0 : Int), (0 : Int), (0 : Int), (0 : Int), (0 : Int), (0 : Int))).2.1 (-1 : Int) a5)) fun y61 => (optK ((hide linguistbook_Within_F (a0.getD a1.toNat ((0 : Int), (0 : Int), (0 : Int), (0 : Int), (0 : Int), (0 : Int), (0 : Int), (0 : Int))).2.2.1 (-2 : Int) (IntKind.i64.wrap (a6 + (1 : Int))))) fun y62 => (bif ((a0.getD a1.toNat ((0 : Int), (0 : Int), (0 : Int), (0 : Int), (0 : Int), (0 : Int), (0 : Int), (0 : Int))).1 == (1 : Int)) then (optK ((hide linguistkeep_Pen_Pen_F (a0.getD a1.toNat ((0 : Int), (0 : Int), (0 : Int), (0 : Int), (0 : Int), (0 : Int), (0 : Int), (0 : Int))).2.2.2.2.2.1 (a0.getD a1.toNat ((0 : Int), (0 : Int), (0 : Int), (0 : Int), (0 : Int), (0 : Int), (0 : Int), (0 : Int))).2.2.2.2.2.2.1 (a0.getD a1.toNat ((0 : Int), (0 : Int), (0 : Int), (0 : Int), (0 : Int), (0 : Int), (0 : Int), (0 : Int))).2.2.2.2.2.2.2)) fun y63 => (optK ((hide grid_Put_F a2 a3 a4 y61 y62 (a0.getD a1.toNat ((0 : Int), (0 : Int), (0 : Int), (0 : Int), (0 : Int), (0 : Int), (0 : Int), (0 : Int))).2.2.2.2.1 y63.1 y63.2.1 y63.2.2)) fun y64 => (optK ((hide linguistkeep_Pen_Pen_F (a0.getD a1.toNat ((0 : Int), (0 : Int), (0 : Int), (0 : Int), (0 : Int), (0 : Int), (0 : Int), (0 : Int))).2.2.2.2.2.1 (a0.getD a1.toNat ((0 : Int), (0 : Int), (0 : Int), (0 : Int), (0 : Int), (0 : Int), (0 : Int), (0 : Int))).2.2.2.2.2.2.1 (a0.getD a1.toNat ((0 : Int), (0 : Int), (0 : Int), (0 : Int), (0 : Int), (0 : Int), (0 : Int), (0 : Int))).2.2.2.2.2.2.2)) fun y65 => (optK ((hide linguistref7_Put_F a5 a6 a7 y61 y62 (a0.getD a1.toNat ((0 : Int), (0 : Int), (0 : Int), (0 : Int), (0 : Int), (0 : Int), (0 : Int), (0 : Int))).2.2.2.2.1 y65.1 y65.2.1 y65.2.2)) fun y66 => (optK (hide linguistlaw7_GridPlays_J19 a0 a1 y61 y62 (y64.1) (y64.2.1) (y64.2.2) (y66.1) (y66.2.1) (y66.2.2) a4 a2 a3 a4) fun y67 => (sumK y67 (fun y67a => (K (.ret) (linguistlaw7_GridPlays_x4_0.enc ((y67a, ()), ())))) (fun y67b => (linguistlaw7_GridPlays_I4 K n (linguistlaw7_GridPlays_s4.enc (((y67b.1), ((IntKind.i64.wrap (y67b.2.1 + (1 : Int))), ())), (((y67b.2.2.1), ((y67b.2.2.2.1), ((y67b.2.2.2.2.1), ()))), (((y67b.2.2.2.2.2.1), ((y67b.2.2.2.2.2.2.1), ((y67b.2.2.2.2.2.2.2), ()))), ())))))))))))) else (bif ((a0.getD a1.toNat ((0 : Int), (0 : Int), (0 : Int), (0 : Int), (0 : Int), (0 : Int), (0 : Int), (0 : Int))).1 == (2 : Int)) then (optK ((hide linguistbook_Within_F (a0.getD a1.toNat ((0 : Int), (0 : Int), (0 : Int), (0 : Int), (0 : Int), (0 : Int), (0 : Int), (0 : Int))).2.2.2.1 (-2 : Int) (IntKind.i64.wrap (a6 + (2 : Int))))) fun y68 => (optK ((hide linguistkeep_Pen_Pen_F (a0.getD a1.toNat ((0 : Int), (0 : Int), (0 : Int), (0 : Int), (0 : Int), (0 : Int), (0 : Int), (0 : Int))).2.2.2.2.2.1 (a0.getD a1.toNat ((0 : Int), (0 : Int), (0 : Int), (0 : Int), (0 : Int), (0 : Int), (0 : Int), (0 : Int))).2.2.2.2.2.2.1 (a0.getD a1.toNat ((0 : Int), (0 : Int), (0 : Int), (0 : Int), (0 : Int), (0 : Int), (0 : Int), (0 : Int))).2.2.2.2.2.2.2)) fun y69 => (optK ((hide grid_Wipe_F a2 a3 a4 y61 y62 y68 y69.1 y69.2.1 y69.2.2)) fun y70 => (optK ((hide linguistkeep_Pen_Pen_F (a0.getD a1.toNat ((0 : Int), (0 : Int), (0 : Int), (0 : Int), (0 : Int), (0 : Int), (0 : Int), (0 : Int))).2.2.2.2.2.1 (a0.getD a1.toNat ((0 : Int), (0 : Int), (0 : Int), (0 : Int), (0 : Int), (0 : Int), (0 : Int), (0 : Int))).2.2.2.2.2.2.1 (a0.getD a1.toNat ((0 : Int), (0 : Int), (0 : Int), (0 : Int), (0 : Int), (0 : Int), (0 : Int), (0 : Int))).2.2.2.2.2.2.2)) fun y71 => (optK ((hide linguistref7_Wipe_F a5 a6 a7 y61 y62 y68 y71.1 y71.2.1 y71.2.2)) fun y72 => (optK (hide linguistlaw7_GridPlays_J19 a0 a1 y61 y62 (y70.1) (y70.2.1) (y70.2.2) (y72.1) (y72.2.1) (y72.2.2) a4 a2 a3 a4) fun y73 => (sumK y73 (fun y73a => (K (.ret) (linguistlaw7_GridPlays_x4_0.enc ((y73a, ()), ())))) (fun y73b => (linguistlaw7_GridPlays_I4 K n (linguistlaw7_GridPlays_s4.enc (((y73b.1), ((IntKind.i64.wrap (y73b.2.1 + (1 : Int))), ())), (((y73b.2.2.1), ((y73b.2.2.2.1), ((y73b.2.2.2.2.1), ()))), (((y73b.2.2.2.2.2.1), ((y73b.2.2.2.2.2.2.1), ((y73b.2.2.2.2.2.2.2), ()))), ()))))))))))))) else (bif ((a0.getD a1.toNat ((0 : Int), (0 : Int), (0 : Int), (0 : Int), (0 : Int), (0 : Int), (0 : Int), (0 : Int))).1 == (3 : Int)) then (optK ((hide linguistbook_Within_F (a0.getD a1.toNat ((0 : Int), (0 : Int), (0 : Int), (0 : Int), (0 : Int), (0 : Int), (0 : Int), (0 : Int))).2.1 (1 : Int) (6 : Int))) fun y74 => (optK ((hide linguistbook_Within_F (a0.getD a1.toNat ((0 : Int), (0 : Int), (0 : Int), (0 : Int), (0 : Int), (0 : Int), (0 : Int), (0 : Int))).2.2.2.1 (1 : Int) (10 : Int))) fun y75 => (optK ((hide grid_Resize_F a2 a3 a4 y74 y75)) fun y76 => (optK ((hide linguistref7_Resize_F a5 a6 a7 y74 y75)) fun y77 => (optK (hide linguistlaw7_GridPlays_J19 a0 a1 y61 y62 (y76.1) (y76.2.1) (y76.2.2) (y77.1) (y77.2.1) (y77.2.2) a4 a2 a3 a4) fun y78 => (sumK y78 (fun y78a => (K (.ret) (linguistlaw7_GridPlays_x4_0.enc ((y78a, ()), ())))) (fun y78b => (linguistlaw7_GridPlays_I4 K n (linguistlaw7_GridPlays_s4.enc (((y78b.1), ((IntKind.i64.wrap (y78b.2.1 + (1 : Int))), ())), (((y78b.2.2.1), ((y78b.2.2.2.1), ((y78b.2.2.2.2.1), ()))), (((y78b.2.2.2.2.2.1), ((y78b.2.2.2.2.2.2.1), ((y78b.2.2.2.2.2.2.2), ()))), ())))))))))))) else (optK (hide linguistlaw7_GridPlays_J19 a0 a1 y61 y62 a2 a3 a4 a5 a6 a7 a4 a2 a3 a4) fun y79 => (sumK y79 (fun y79a => (K (.ret) (linguistlaw7_GridPlays_x4_0.enc ((y79a, ()), ())))) (fun y79b => (linguistlaw7_GridPlays_I4 K n (linguistlaw7_GridPlays_s4.enc (((y79b.1), ((IntKind.i64.wrap (y79b.2.1 + (1 : Int))), ())), (((y79b.2.2.1), ((y79b.2.2.2.1), ((y79b.2.2.2.2.1), ()))), (((y79b.2.2.2.2.2.1), ((y79b.2.2.2.2.2.2.1), ((y79b.2.2.2.2.2.2.2), ()))), ()))))))))))))) else none) else none) else (K (.exit 0) (linguistlaw7_GridPlays_x4_1.enc ((), ())))) else (K (.exit 0) (linguistlaw7_GridPlays_x4_1.enc ((), ()))))) (by kernel_rfl) ?_
    rw [linguistlaw7_GridPlays_L4]
    exact (cond_push (linguistlaw7_GridPlays_m4 K) _ (cond_push (linguistlaw7_GridPlays_m4 K) _ (cond_push (linguistlaw7_GridPlays_m4 K) _ (cond_push (linguistlaw7_GridPlays_m4 K) _ (optK_push (linguistlaw7_GridPlays_m4 K) rfl _ fun y61 => (optK_push (linguistlaw7_GridPlays_m4 K) rfl _ fun y62 => (cond_push (linguistlaw7_GridPlays_m4 K) _ (optK_push (linguistlaw7_GridPlays_m4 K) rfl _ fun y63 => (optK_push (linguistlaw7_GridPlays_m4 K) rfl _ fun y64 => (optK_push (linguistlaw7_GridPlays_m4 K) rfl _ fun y65 => (optK_push (linguistlaw7_GridPlays_m4 K) rfl _ fun y66 => (optK_push (linguistlaw7_GridPlays_m4 K) rfl _ fun y67 => (sumK_push (linguistlaw7_GridPlays_m4 K) _ (fun y67a => rfl) (fun y67b => (ih (y67b.1) (IntKind.i64.wrap (y67b.2.1 + (1 : Int))) (y67b.2.2.1) (y67b.2.2.2.1) (y67b.2.2.2.2.1) (y67b.2.2.2.2.2.1) (y67b.2.2.2.2.2.2.1) (y67b.2.2.2.2.2.2.2))))))))) (cond_push (linguistlaw7_GridPlays_m4 K) _ (optK_push (linguistlaw7_GridPlays_m4 K) rfl _ fun y68 => (optK_push (linguistlaw7_GridPlays_m4 K) rfl _ fun y69 => (optK_push (linguistlaw7_GridPlays_m4 K) rfl _ fun y70 => (optK_push (linguistlaw7_GridPlays_m4 K) rfl _ fun y71 => (optK_push (linguistlaw7_GridPlays_m4 K) rfl _ fun y72 => (optK_push (linguistlaw7_GridPlays_m4 K) rfl _ fun y73 => (sumK_push (linguistlaw7_GridPlays_m4 K) _ (fun y73a => rfl) (fun y73b => (ih (y73b.1) (IntKind.i64.wrap (y73b.2.1 + (1 : Int))) (y73b.2.2.1) (y73b.2.2.2.1) (y73b.2.2.2.2.1) (y73b.2.2.2.2.2.1) (y73b.2.2.2.2.2.2.1) (y73b.2.2.2.2.2.2.2)))))))))) (cond_push (linguistlaw7_GridPlays_m4 K) _ (optK_push (linguistlaw7_GridPlays_m4 K) rfl _ fun y74 => (optK_push (linguistlaw7_GridPlays_m4 K) rfl _ fun y75 => (optK_push (linguistlaw7_GridPlays_m4 K) rfl _ fun y76 => (optK_push (linguistlaw7_GridPlays_m4 K) rfl _ fun y77 => (optK_push (linguistlaw7_GridPlays_m4 K) rfl _ fun y78 => (sumK_push (linguistlaw7_GridPlays_m4 K) _ (fun y78a => rfl) (fun y78b => (ih (y78b.1) (IntKind.i64.wrap (y78b.2.1 + (1 : Int))) (y78b.2.2.1) (y78b.2.2.2.1) (y78b.2.2.2.2.1) (y78b.2.2.2.2.2.1) (y78b.2.2.2.2.2.2.1) (y78b.2.2.2.2.2.2.2))))))))) (optK_push (linguistlaw7_GridPlays_m4 K) rfl _ fun y79 => (sumK_push (linguistlaw7_GridPlays_m4 K) _ (fun y79a => rfl) (fun y79b => (ih (y79b.1) (IntKind.i64.wrap (y79b.2.1 + (1 : Int))) (y79b.2.2.1) (y79b.2.2.2.1) (y79b.2.2.2.2.1) (y79b.2.2.2.2.2.1) (y79b.2.2.2.2.2.2.1) (y79b.2.2.2.2.2.2.2)))))))))) rfl) rfl) rfl) rfl)
def linguistlaw7_GridPlays_fu4 (a0 : List (Int × Int × Int × Int × Int × Int × Int × Int)) (a1 : Int) (a2 : Int) (a3 : Int) (a4 : List (Int × Int × Int × Int × Int)) (a5 : Int) (a6 : Int) (a7 : List (Int × Int × Int × Int × Int)) : Nat := List.length a0 + Int.natAbs a1 + Int.natAbs a2 + Int.natAbs a3 + List.length a4 + Int.natAbs a5 + Int.natAbs a6 + List.length a7 + 5000
noncomputable def linguistlaw7_GridPlays_G4 : GoL linguistlaw7_GridPlays_s4 := fun R (x : ((List (Int × Int × Int × Int × Int × Int × Int × Int) × (Int × Unit)) × ((Int × (Int × (List (Int × Int × Int × Int × Int) × Unit))) × ((Int × (Int × (List (Int × Int × Int × Int × Int) × Unit))) × Unit)))) K => linguistlaw7_GridPlays_m4 K (hide linguistlaw7_GridPlays_L4 (linguistlaw7_GridPlays_fu4 x.1.1 x.1.2.1 x.2.1.1 x.2.1.2.1 x.2.1.2.2.1 x.2.2.1.1 x.2.2.1.2.1 x.2.2.1.2.2.1) x.1.1 x.1.2.1 x.2.1.1 x.2.1.2.1 x.2.1.2.2.1 x.2.2.1.1 x.2.2.1.2.1 x.2.2.1.2.2.1)
theorem linguistlaw7_GridPlays_H4 : LoopOk Try.prog 5 4 (loopH linguistlaw7_GridPlays_s4 0 linguistlaw7_GridPlays_G4) := loop_known (envL_ok sums10_ok ll0_ok linguistlaw7_GridPlays_cs1_ok) Try.func5 rfl linguistlaw7_GridPlays_c4_is (xs := linguistlaw7_GridPlays_xs4) (fuel := fun (x : ((List (Int × Int × Int × Int × Int × Int × Int × Int) × (Int × Unit)) × ((Int × (Int × (List (Int × Int × Int × Int × Int) × Unit))) × ((Int × (Int × (List (Int × Int × Int × Int × Int) × Unit))) × Unit)))) => linguistlaw7_GridPlays_fu4 x.1.1 x.1.2.1 x.2.1.1 x.2.1.2.1 x.2.1.2.2.1 x.2.2.1.1 x.2.2.1.2.1 x.2.2.1.2.2.1) fun R (x : ((List (Int × Int × Int × Int × Int × Int × Int × Int) × (Int × Unit)) × ((Int × (Int × (List (Int × Int × Int × Int × Int) × Unit))) × ((Int × (Int × (List (Int × Int × Int × Int × Int) × Unit))) × Unit)))) K => by
  show linguistlaw7_GridPlays_m4 K (hide linguistlaw7_GridPlays_L4 (linguistlaw7_GridPlays_fu4 x.1.1 x.1.2.1 x.2.1.1 x.2.1.2.1 x.2.1.2.2.1 x.2.2.1.1 x.2.2.1.2.1 x.2.2.1.2.2.1) x.1.1 x.1.2.1 x.2.1.1 x.2.1.2.1 x.2.1.2.2.1 x.2.2.1.1 x.2.2.1.2.1 x.2.2.1.2.2.1) = _
  rw [hide_eq]
  exact (linguistlaw7_GridPlays_l4 K (linguistlaw7_GridPlays_fu4 x.1.1 x.1.2.1 x.2.1.1 x.2.1.2.1 x.2.1.2.2.1 x.2.2.1.1 x.2.2.1.2.1 x.2.2.1.2.2.1) x.1.1 x.1.2.1 x.2.1.1 x.2.1.2.1 x.2.1.2.2.1 x.2.2.1.1 x.2.2.1.2.1 x.2.2.1.2.2.1).symm
noncomputable def linguistlaw7_GridPlays_h4 : LoopF := loopH linguistlaw7_GridPlays_s4 0 linguistlaw7_GridPlays_G4
noncomputable def linguistlaw7_GridPlays_ll2 : LoopT := ((5, 4), linguistlaw7_GridPlays_h4) :: ll0
theorem linguistlaw7_GridPlays_ll2_ok : AllLoop Try.prog linguistlaw7_GridPlays_ll2 := ⟨linguistlaw7_GridPlays_H4, ll0_ok⟩
noncomputable def linguistlaw7_GridPlays_F (x0 : Int) (x1 : Int) (x2 : Int) (x3 : Int) (x4 : Int) (x5 : List (Int × Int × Int × Int × Int × Int × Int × Int)) : Option (Bool) := (optK ((hide linguistbook_Within_F x0 (1 : Int) (5 : Int))) fun y0 => (optK ((hide linguistbook_Within_F x1 (1 : Int) (9 : Int))) fun y1 => (optK ((hide linguistkeep_Pen_Pen_F x2 x3 x4)) fun y2 => (optK ((hide grid_Newf_F y0 y1 y2.1 y2.2.1 y2.2.2)) fun y3 => (optK ((hide linguistkeep_Pen_Pen_F x2 x3 x4)) fun y4 => (optK ((hide linguistref7_New_F y0 y1 y4.1 y4.2.1 y4.2.2)) fun y5 => (optK (hide linguistlaw7_GridPlays_L4 (linguistlaw7_GridPlays_fu4 x5 (0 : Int) (y3.1) (y3.2.1) (y3.2.2) (y5.1) (y5.2.1) (y5.2.2)) x5 (0 : Int) (y3.1) (y3.2.1) (y3.2.2) (y5.1) (y5.2.1) (y5.2.2)) fun y80 => (sumK y80 (fun y80a => (some y80a)) (fun y80b => (some (true)))))))))))
noncomputable def linguistlaw7_GridPlays_A : SkL := (.cons (.int .i64) (.cons (.int .i64) (.cons (.agg (.cons (.int .i64) (.cons (.int .i64) (.cons (.int .i64) .nil)))) (.cons (.list (.cons (.int .i64) (.cons (.int .i64) (.cons (.int .i64) (.cons (.int .i64) (.cons (.int .i32) (.cons (.int .i64) (.cons (.int .i64) (.one (.int .i64)))))))))) .nil))))
noncomputable def linguistlaw7_GridPlays_B : Sk := .bool
def linguistlaw7_GridPlays_m {R : Type} (K : Bool → Option R) (o : Option (Bool)) : Option R := optK o fun y => K y
theorem linguistlaw7_GridPlays_run {R : Type} (x0 : Int) (x1 : Int) (x2 : Int) (x3 : Int) (x4 : Int) (x5 : List (Int × Int × Int × Int × Int × Int × Int × Int)) (K : Bool → Option R) : acall (envL sums10 linguistlaw7_GridPlays_ll2 linguistlaw7_GridPlays_cs1 (fun _ _ => false)) 1000 5 (linguistlaw7_GridPlays_A.enc (x0, (x1, ((x2, (x3, (x4, ()))), (x5, ()))))) [] (resK linguistlaw7_GridPlays_B true K) = linguistlaw7_GridPlays_m K (linguistlaw7_GridPlays_F x0 x1 x2 x3 x4 x5) := by
  refine Eq.trans (b := (optK ((hide linguistbook_Within_F x0 (1 : Int) (5 : Int))) fun y0 => (optK ((hide linguistbook_Within_F x1 (1 : Int) (9 : Int))) fun y1 => (optK ((hide linguistkeep_Pen_Pen_F x2 x3 x4)) fun y2 => (optK ((hide grid_Newf_F y0 y1 y2.1 y2.2.1 y2.2.2)) fun y3 => (optK ((hide linguistkeep_Pen_Pen_F x2 x3 x4)) fun y4 => (optK ((hide linguistref7_New_F y0 y1 y4.1 y4.2.1 y4.2.2)) fun y5 => (optK (hide linguistlaw7_GridPlays_L4 (linguistlaw7_GridPlays_fu4 x5 (0 : Int) (y3.1) (y3.2.1) (y3.2.2) (y5.1) (y5.2.1) (y5.2.2)) x5 (0 : Int) (y3.1) (y3.2.1) (y3.2.2) (y5.1) (y5.2.1) (y5.2.2)) fun y80 => (sumK y80 (fun y80a => (K y80a)) (fun y80b => (K (true)))))))))))) (by kernel_rfl) ?_
  unfold linguistlaw7_GridPlays_F
  exact (optK_push (linguistlaw7_GridPlays_m K) rfl _ fun y0 => (optK_push (linguistlaw7_GridPlays_m K) rfl _ fun y1 => (optK_push (linguistlaw7_GridPlays_m K) rfl _ fun y2 => (optK_push (linguistlaw7_GridPlays_m K) rfl _ fun y3 => (optK_push (linguistlaw7_GridPlays_m K) rfl _ fun y4 => (optK_push (linguistlaw7_GridPlays_m K) rfl _ fun y5 => (optK_push (linguistlaw7_GridPlays_m K) rfl _ fun y80 => (sumK_push (linguistlaw7_GridPlays_m K) _ (fun y80a => rfl) (fun y80b => rfl)))))))))
end Go.Proofs.YtbaggedkejiakaaAbs

/- GridPlays: what the law's own program computes is true. -/
namespace Go.Proofs.YtbaggedkejiakaaAbs
set_option linter.unusedVariables false
set_option linter.unusedSimpArgs false
open Go Go.Proofs
theorem newf_eq {R C : Int} {h w : Nat} (hR : R = Int.ofNat h) (hC : C = Int.ofNat w) (h1 : 1 ≤ h) (hh : h ≤ 40) (w1 : 1 ≤ w) (hw : w ≤ 60) (p0 p1 p2 : Int) :
    hide grid_Newf_F R C p0 p1 p2 = some (R, C, List.replicate (h * w) (32, 0, p0, p1, p2)) := by
  have hsm := small_mul (show h ≤ 64 by omega) (show w ≤ 64 by omega)
  have hpos : 1 ≤ h * w := Nat.mul_le_mul h1 w1
  rw [hide_eq]; unfold grid_Newf_F
  simp only [blank_eq, optK_s]
  subst hR hC
  have i1 : ¬ (40 : Int) < Int.ofNat h := by simp; omega
  have i2 : ¬ (60 : Int) < Int.ofNat w := by simp; omega
  simp only [i1, i2, if_false]
  have i3 : (if Int.ofNat h > 1 then Int.ofNat h else 1) = Int.ofNat h := by
    split
    · rfl
    · rename_i k; simp at k ⊢; omega
  have i4 : (if Int.ofNat w > 1 then Int.ofNat w else 1) = Int.ofNat w := by
    split
    · rfl
    · rename_i k; simp at k ⊢; omega
  rw [i3, i4, row_lo h w (by omega) (by omega), repeat_eq _ _ hpos hsm]
  rfl
abbrev Ask := Int × Int × Int × Int × Int × Int × Int × Int
def askOk (q : Ask) : Prop := in64 q.1 ∧ in64 q.2.1 ∧ in64 q.2.2.1 ∧ in64 q.2.2.2.1 ∧ (-2147483648 ≤ q.2.2.2.2.1 ∧ q.2.2.2.2.1 < 2147483648) ∧ in64 q.2.2.2.2.2.1 ∧ in64 q.2.2.2.2.2.2.1 ∧ in64 q.2.2.2.2.2.2.2
theorem plays_19 {a0 : List Ask} {a1 x y : Int} {h w : Nat} {l m : List Cell} (k : GG h w l) (h1 : 1 ≤ h) (hh : h ≤ 10) (w1 : 1 ≤ w) (hw : w ≤ 10) (hm : m.length ≤ 4096) {r c : Int} (hr : -100 ≤ r ∧ r ≤ 100) (hc : -100 ≤ c ∧ c ≤ 100) :
    linguistlaw7_GridPlays_J19 a0 a1 r c (Int.ofNat h) (Int.ofNat w) l (Int.ofNat h) (Int.ofNat w) l m x y m = some (.inr (a0, a1, Int.ofNat h, Int.ofNat w, l, Int.ofNat h, Int.ofNat w, l)) := by
  have hl := k.1.1
  have hsm : h * w ≤ 100 := Nat.mul_le_mul hh hw
  unfold linguistlaw7_GridPlays_J19
  have A := at_eq (R := Int.ofNat h) (C := Int.ofNat w) rfl rfl (by omega) (by omega) hl (r := r) (c := c)
  have S : hide linguistlaw7_same_F (Int.ofNat h) (Int.ofNat w) l (Int.ofNat h) (Int.ofNat w) l = some true := by
    rw [hide_eq]; unfold linguistlaw7_same_F
    rw [bookSame_eq _ _ (by omega)]; simp [optK_s]
  have Rt := gridRight_eq (R := Int.ofNat h) (C := Int.ofNat w) rfl rfl h1 (by omega) w1 (by omega) k
  have Sm := same_eq (Int.ofNat h) (Int.ofNat w) (Int.ofNat h) (Int.ofNat w) l l (by omega)
  have B := bookSame_eq m m (by omega)
  simp only [and_self, decide_true] at Sm B
  rw [A]
  simp only [S, Rt, Sm, B, optK_s, Bool.not_true, cond_false]
  by_cases hp : 0 ≤ r ∧ r < (h : Int) ∧ 0 ≤ c ∧ c < (w : Int)
  · obtain ⟨rn, rfl⟩ : ∃ n : Nat, r = Int.ofNat n := ⟨r.toNat, by show r = ((r.toNat : Nat) : Int); omega⟩
    obtain ⟨cn, rfl⟩ : ∃ n : Nat, c = Int.ofNat n := ⟨c.toNat, by show c = ((c.toNat : Nat) : Int); omega⟩
    have hrn : rn < h := by have : (rn : Int) < (h : Int) := hp.2.1; omega
    have hcn : cn < w := by have : (cn : Int) < (w : Int) := hp.2.2.2; omega
    have hb := mul_bound (w := w) hrn
    have c1 : decide (Int.ofNat rn ≥ 0) = true := decide_eq_true hp.1
    have c2 : decide (Int.ofNat rn < Int.ofNat h) = true := decide_eq_true hp.2.1
    have c3 : decide (Int.ofNat cn ≥ 0) = true := decide_eq_true hp.2.2.1
    have c4 : decide (Int.ofNat cn < Int.ofNat w) = true := decide_eq_true hp.2.2.2
    have e2 : IntKind.i64.wrap (Int.ofNat (rn * w) + Int.ofNat cn) = Int.ofNat (rn * w + cn) := w64 (by show _ ≤ ((rn * w : Nat) : Int) + (cn : Int); omega) (by show ((rn * w : Nat) : Int) + (cn : Int) < _; omega)
    have e3 : decide ((0 : Int) ≤ Int.ofNat (rn * w + cn)) = true := decide_eq_true (by show (0 : Int) ≤ ((rn * w + cn : Nat) : Int); omega)
    have e4 : rn * w + cn < h * w := by omega
    rw [c1, c2, c3, c4, row_lo rn w (by omega) (by omega), e2, hl]
    unfold at_
    rw [if_pos hp]
    simp only [toNat_ofNat', ofNat_lt, e3, e4, decide_true, Bool.and_self, cond_true, beq_self_eq_true, Bool.not_true, cond_false]
  · unfold at_
    rw [if_neg hp]
    by_cases d1 : r ≥ 0
    · by_cases d2 : r < Int.ofNat h
      · by_cases d3 : c ≥ 0
        · have d4 : ¬ c < Int.ofNat w := fun d4 => hp ⟨d1, d2, d3, d4⟩
          rw [decide_eq_true d1, decide_eq_true d2, decide_eq_true d3, decide_eq_false d4]; rfl
        · rw [decide_eq_true d1, decide_eq_true d2, decide_eq_false d3]; rfl
      · rw [decide_eq_true d1, decide_eq_false d2]; rfl
    · rw [decide_eq_false d1]; rfl
theorem plays_loop {q : List Ask} (hq : ∀ a, a ∈ q → askOk a) : ∀ (n i : Nat) (h w : Nat) (l : List Cell), 1 ≤ h → h ≤ 6 → 1 ≤ w → w ≤ 10 → GG h w l → i ≤ q.length → i ≤ 30 → 30 - i < n →
    linguistlaw7_GridPlays_L4 n q (Int.ofNat i) (Int.ofNat h) (Int.ofNat w) l (Int.ofNat h) (Int.ofNat w) l = some (.inr ()) := by
  intro n
  induction n with
  | zero => intro i h w l h1 hh w1 hw k h2 h3 h4; omega
  | succ n ih =>
    intro i h w l h1 hh w1 hw k h2 h3 h4
    rw [linguistlaw7_GridPlays_L4, ofNat_lt]
    by_cases hi : i < q.length
    · rw [decide_eq_true hi]
      by_cases h30 : i < 30
      · have hl := k.1.1
        have hsm : h * w ≤ 60 := Nat.mul_le_mul hh hw
        have e30 : decide (Int.ofNat i < 30) = true := decide_eq_true (by show (i : Int) < 30; omega)
        have e0 : decide ((0 : Int) ≤ Int.ofNat i) = true := by simp
        have eb : (l.length.ble 274877906944) = true := Nat.ble_eq_true_of_le (by omega)
        have hmem : q.getD i (0, 0, 0, 0, 0, 0, 0, 0) ∈ q := by
          rw [List.getD_eq_getElem?_getD, List.getElem?_eq_getElem hi]; exact List.getElem_mem hi
        obtain ⟨a1, a2, a3, a4, a5, a6, a7, a8⟩ := hq _ hmem
        rw [e30, e0, toNat_ofNat', eb]
        generalize q.getD i (0, 0, 0, 0, 0, 0, 0, 0) = a at *
        have ew1 : IntKind.i64.wrap (Int.ofNat w + 1) = Int.ofNat w + 1 := w64 (by show _ ≤ (w : Int) + 1; omega) (by show (w : Int) + 1 < _; omega)
        have ew2 : IntKind.i64.wrap (Int.ofNat w + 2) = Int.ofNat w + 2 := w64 (by show _ ≤ (w : Int) + 2; omega) (by show (w : Int) + 2 < _; omega)
        have hwI : Int.ofNat w = (w : Int) := rfl
        have hhI : Int.ofNat h = (h : Int) := rfl
        obtain ⟨r, hr, r0, r1⟩ := within_eq a.2.1 (-1) (Int.ofNat h) a2.1 a2.2 (by omega) (by omega) (by omega)
        obtain ⟨c, hc, c0, c1⟩ := within_eq a.2.2.1 (-2) (Int.ofNat w + 1) a3.1 a3.2 (by omega) (by omega) (by omega)
        obtain ⟨⟨p0, p1, p2⟩, hp, hpr⟩ := pen_eq a.2.2.2.2.2.1 a.2.2.2.2.2.2.1 a.2.2.2.2.2.2.2 a6 a7 a8
        obtain ⟨m, hm, m0, m1⟩ := within_eq a.2.2.2.1 (-2) (Int.ofNat w + 2) a4.1 a4.2 (by omega) (by omega) (by omega)
        rw [ew1, ew2, hr, hc]
        simp only [cond_true, Bool.and_self, optK_s]
        have J := fun (h' w' : Nat) (l' : List Cell) (g1 : 1 ≤ h') (g2 : h' ≤ 6) (g3 : 1 ≤ w') (g4 : w' ≤ 10) (k' : GG h' w' l') => plays_19 (a0 := q) (a1 := Int.ofNat i) (x := Int.ofNat h) (y := Int.ofNat w) (m := l) k' g1 (by omega) g3 (by omega) (by omega) (r := r) (c := c) (by omega) (by omega)
        have step := fun (h' w' : Nat) (l' : List Cell) (g1 : 1 ≤ h') (g2 : h' ≤ 6) (g3 : 1 ≤ w') (g4 : w' ≤ 10) (k' : GG h' w' l') => ih (i + 1) h' w' l' g1 g2 g3 g4 k' (by omega) (by omega) (by omega)
        simp only [hide_eq linguistlaw7_GridPlays_J19]
        cases t1 : a.1 == 1 with
        | true =>
          simp only [cond_true]
          rw [hp]
          simp only [optK_s]
          rw [put_eq (h := h) (w := w) rfl rfl (by omega) (by omega) hl (by omega) (by omega) p0 p1 p2]
          simp only [optK_s]
          rw [refPut_eq (h := h) (w := w) rfl rfl (by omega) (by omega) k.1 a5 (by omega) (by omega) p0 p1 p2]
          simp only [optK_s]
          have k' := k.put r c a.2.2.2.2.1 (p := (p0, p1, p2)) hpr
          rw [J h w _ h1 hh w1 hw k']
          simp only [optK_s, sumK]
          rw [wrap_succ (by omega)]
          exact step h w _ h1 hh w1 hw k'
        | false =>
          simp only [cond_false]
          cases t2 : a.1 == 2 with
          | true =>
            simp only [cond_true]
            rw [hm, hp]
            simp only [optK_s]
            rw [wipe_eq (h := h) (w := w) rfl rfl (by omega) (by omega) (by omega) hl (by omega) p0 p1 p2]
            simp only [optK_s]
            rw [refWipe_eq (h := h) (w := w) rfl rfl (by omega) (by omega) (by omega) hl (by omega) p0 p1 p2]
            simp only [optK_s]
            have k' := k.wipe r c m (p := (p0, p1, p2)) hpr
            rw [J h w _ h1 hh w1 hw k']
            simp only [optK_s, sumK]
            rw [wrap_succ (by omega)]
            exact step h w _ h1 hh w1 hw k'
          | false =>
            simp only [cond_false]
            cases t3 : a.1 == 3 with
            | true =>
              obtain ⟨y, hy, y0, y1⟩ := within_eq a.2.1 1 6 a2.1 a2.2 (by omega) (by omega) (by omega)
              obtain ⟨z, hz, z0, z1⟩ := within_eq a.2.2.2.1 1 10 a4.1 a4.2 (by omega) (by omega) (by omega)
              obtain ⟨h', rfl⟩ : ∃ n : Nat, y = Int.ofNat n := ⟨y.toNat, by show y = ((y.toNat : Nat) : Int); omega⟩
              obtain ⟨w', rfl⟩ : ∃ n : Nat, z = Int.ofNat n := ⟨z.toNat, by show z = ((z.toNat : Nat) : Int); omega⟩
              have y0' : (1 : Int) ≤ (h' : Int) := y0
              have y1' : (h' : Int) ≤ 6 := y1
              have z0' : (1 : Int) ≤ (w' : Int) := z0
              have z1' : (w' : Int) ≤ 10 := z1
              have l1 : lim 40 (Int.ofNat h') = h' := by unfold lim; show (max 1 (min (h' : Int) 40)).toNat = h'; omega
              have l2 : lim 60 (Int.ofNat w') = w' := by unfold lim; show (max 1 (min (w' : Int) 60)).toNat = w'; omega
              have q1 := resize_eq (h := h) (w := w) rfl rfl (by omega) (by omega) hl (Int.ofNat h') (Int.ofNat w')
              rw [l1, l2] at q1
              simp only [cond_true]
              rw [hy, hz]
              simp only [optK_s]
              rw [q1]
              simp only [optK_s]
              rw [refResize_eq (h := h) (w := w) rfl rfl (by omega) (by omega) hl (by omega) (by omega)]
              simp only [optK_s]
              have k' := k.resize h' w'
              rw [J h' w' _ (by omega) (by omega) (by omega) (by omega) k']
              simp only [optK_s, sumK]
              rw [wrap_succ (by omega)]
              exact step h' w' _ (by omega) (by omega) (by omega) (by omega) k'
            | false =>
              simp only [cond_false]
              rw [J h w _ h1 hh w1 hw k]
              simp only [optK_s, sumK]
              rw [wrap_succ (by omega)]
              exact step h w _ h1 hh w1 hw k
      · have e30 : decide (Int.ofNat i < 30) = false := decide_eq_false (by show ¬ (i : Int) < 30; omega)
        rw [e30]; rfl
    · rw [decide_eq_false hi]; rfl
theorem gridPlays_true (x0 x1 x2 x3 x4 : Int) (q : List Ask) (h0 : in64 x0) (h1 : in64 x1) (h2 : in64 x2) (h3 : in64 x3) (h4 : in64 x4) (hq : ∀ a, a ∈ q → askOk a) : linguistlaw7_GridPlays_F x0 x1 x2 x3 x4 q = some true := by
  unfold linguistlaw7_GridPlays_F
  obtain ⟨a, ha, a1, a2⟩ := within_eq x0 1 5 h0.1 h0.2 (by omega) (by omega) (by omega)
  obtain ⟨b, hb, b1, b2⟩ := within_eq x1 1 9 h1.1 h1.2 (by omega) (by omega) (by omega)
  obtain ⟨⟨p0, p1, p2⟩, hp, hpr⟩ := pen_eq x2 x3 x4 h2 h3 h4
  obtain ⟨h, rfl⟩ : ∃ h : Nat, a = Int.ofNat h := ⟨a.toNat, by show a = ((a.toNat : Nat) : Int); omega⟩
  obtain ⟨w, rfl⟩ : ∃ w : Nat, b = Int.ofNat w := ⟨b.toNat, by show b = ((b.toNat : Nat) : Int); omega⟩
  have a1' : (1 : Int) ≤ (h : Int) := a1
  have a2' : (h : Int) ≤ 5 := a2
  have b1' : (1 : Int) ≤ (w : Int) := b1
  have b2' : (w : Int) ≤ 9 := b2
  rw [ha, hb, hp]
  simp only [optK_s]
  rw [newf_eq (h := h) (w := w) rfl rfl (by omega) (by omega) (by omega) (by omega), refNew_eq (by omega) (by omega)]
  simp only [optK_s, hide_eq]
  have L := plays_loop hq (linguistlaw7_GridPlays_fu4 q 0 (Int.ofNat h) (Int.ofNat w) (List.replicate (h * w) (32, 0, p0, p1, p2)) (Int.ofNat h) (Int.ofNat w) (List.replicate (h * w) (32, 0, p0, p1, p2))) 0 h w (List.replicate (h * w) (32, 0, p0, p1, p2)) (by omega) (by omega) (by omega) (by omega) (GG.blank h w (p := (p0, p1, p2)) hpr) (by omega) (by omega) (by unfold linguistlaw7_GridPlays_fu4; omega)
  rw [show Int.ofNat 0 = 0 from rfl] at L
  rw [L]; rfl
end Go.Proofs.YtbaggedkejiakaaAbs

/- What is known of letters. -/
namespace Go.Proofs.YtbaggedkejiakaaAbs
set_option linter.unusedVariables false
open Go Go.Proofs Go.RowKit
theorem isTrue_res : (isTrue : AV → Heap → Option Bool) = resK .bool true (fun b => some b) := by
  funext v h
  cases v <;> rfl
theorem law_res {P : Program} {E : Env} (hE : EnvOk P E) {n f : Nat} {args : List AV} {us : List Value} (e : acall (R := Bool) E n f args [] (resK .bool true (fun b => some b)) = some true) (W : World)
    (q : RelL ⟨W, fun _ => none, fun B => B < W.heap.size⟩ [] false args us) : Calls P f us.toArray W fun e W' => e = .returned (.bool true) ∧ Below W.heap.size W W' :=
  law_rows hE (by rw [isTrue_res]; exact e) W q
theorem wf_in64 {x : Int} (h : (Lit.int .i64 x).wf = true) : in64 x := by
  simp [Lit.wf, IntKind.min, IntKind.max, IntKind.bits, IntKind.signed] at h
  unfold in64; omega
theorem wf_in32 {x : Int} (h : (Lit.int .i32 x).wf = true) : -2147483648 ≤ x ∧ x < 2147483648 := by
  simp [Lit.wf, IntKind.min, IntKind.max, IntKind.bits, IntKind.signed] at h
  omega
end Go.Proofs.YtbaggedkejiakaaAbs

/- GridPlays, called. -/
namespace Go.Proofs.YtbaggedkejiakaaAbs
set_option linter.unusedVariables false
set_option maxRecDepth 100000
open Go Go.Proofs Go.RowKit
theorem gridPlays_run (x0 : Int) (x1 : Int) (x2 : Int) (x3 : Int) (x4 : Int) (x5 : List (Int × Int × Int × Int × Int × Int × Int × Int)) (w0 : (Lit.int .i64 x0).wf = true) (w1 : (Lit.int .i64 x1).wf = true) (w2 : (Lit.int .i64 x2).wf = true) (w3 : (Lit.int .i64 x3).wf = true) (w4 : (Lit.int .i64 x4).wf = true) (w5 : (List.length (α := Int × Int × Int × Int × Int × Int × Int × Int) x5 ≤ 9223372036854775807 ∧ ∀ y : Int × Int × Int × Int × Int × Int × Int × Int, List.Mem y x5 → ((Lit.int .i64 y.1).wf = true ∧ (Lit.int .i64 y.2.1).wf = true ∧ (Lit.int .i64 y.2.2.1).wf = true ∧ (Lit.int .i64 y.2.2.2.1).wf = true ∧ (Lit.int .i32 y.2.2.2.2.1).wf = true ∧ (Lit.int .i64 y.2.2.2.2.2.1).wf = true ∧ (Lit.int .i64 y.2.2.2.2.2.2.1).wf = true ∧ (Lit.int .i64 y.2.2.2.2.2.2.2).wf = true))) :
    acall (R := Bool) (envL sums10 linguistlaw7_GridPlays_ll2 linguistlaw7_GridPlays_cs1 (fun _ _ => false)) 1000 5 [.int .i64 x0, .int .i64 x1, .agg [.int .i64 x2, .int .i64 x3, .int .i64 x4], .list (.cons (.int .i64) (.cons (.int .i64) (.cons (.int .i64) (.cons (.int .i64) (.cons (.int .i32) (.cons (.int .i64) (.cons (.int .i64) (.one (.int .i64))))))))) x5 false] [] (resK .bool true (fun b => some b)) = some true := by
  have h := linguistlaw7_GridPlays_run x0 x1 x2 x3 x4 x5 (fun b => some b)
  rw [gridPlays_true x0 x1 x2 x3 x4 x5 (wf_in64 w0) (wf_in64 w1) (wf_in64 w2) (wf_in64 w3) (wf_in64 w4) (fun a ha => by obtain ⟨a1, a2, a3, a4, a5, a6, a7, a8⟩ := w5.2 a ha; exact ⟨wf_in64 a1, wf_in64 a2, wf_in64 a3, wf_in64 a4, wf_in32 a5, wf_in64 a6, wf_in64 a7, wf_in64 a8⟩)] at h
  exact h
end Go.Proofs.YtbaggedkejiakaaAbs

/- Whatever reads as data is what the interpreter takes: rows of letters as arguments. -/
namespace Go.Proofs.YtbaggedkejiakaaAbs
set_option linter.unusedVariables false
open Go Go.Proofs Go.RowKit Go.ChangeShapes Go.WideShapes Go.Deep
abbrev gd (w : World) : Nat → Prop := fun B => B < w.heap.size
def OpC (P : Program) (w : World) (c : CTy) (t : TypeId) (WF : c.den → Prop) : Prop :=
  ∀ {H : Type} {enc : TypeId × Value → H} {spare : Nat → Bool} {held : Bool} {fuel : Nat} {cs : List Value} {x : DataW H × List MemPlace}, DataW.trod enc P w 0 spare held fuel t cs = some x → ∃ (a : c.den) (v : Value), cs = [v] ∧ c.rep w (gd w) a v ∧ WF a
def OpR (P : Program) (w : World) (r : Row) (t : TypeId) (WF : r.den → Prop) : Prop :=
  ∀ {H : Type} {enc : TypeId × Value → H} {spare : Nat → Bool} {held : Bool} {fuel : Nat} {cs : List Value} {x : DataW H × List MemPlace}, DataW.trod enc P w 0 spare held fuel t cs = some x → ∃ a : r.den, r.rep w (gd w) a cs ∧ WF a
section
variable {P : Program} {w : World} {t e : TypeId}
theorem OpC.int {k : IntKind} (ht : P.underlying t = some (.int k)) : OpC P w (.int k) t (fun a => (Lit.int k a).wf = true) := by
  intro H enc spare held fuel cs x h
  obtain ⟨a, rfl, _, hw⟩ := DataW.trod_int ht h
  refine ⟨a, _, rfl, ⟨rfl, ?_⟩, hw⟩
  cases k <;> first | rfl | (simp [Lit.wf, IntKind.min, IntKind.max, IntKind.bits, IntKind.signed] at hw; simp [u8ok, kindEq]; omega)
theorem OpC.bool (ht : P.underlying t = some .bool) : OpC P w .bool t (fun _ => True) := by
  intro H enc spare held fuel cs x h
  obtain ⟨a, rfl, _⟩ := DataW.trod_bool ht h
  exact ⟨a, _, rfl, rfl, trivial⟩
theorem OpC.str (ht : P.underlying t = some .string) : OpC P w .str t (fun s => ∃ b : ByteArray, bytesOf b = s ∧ b.size ≤ 9223372036854775807) := by
  intro H enc spare held fuel cs x h
  obtain ⟨a, rfl, _, hl⟩ := DataW.trod_string ht h
  refine ⟨bytesOf a, _, rfl, ⟨a, rfl, rfl⟩, a, rfl, ?_⟩
  unfold maxLen at hl
  omega
theorem cells_eq {a : Addr} {n : Nat} {cs : List Value} {c : Array Value} (h : w.cells? 0 a n = some cs) (hb : ∃ e fr, w.heap[a.block]? = some (.cells c e fr)) (hs : a.spot = none) : cs = (c.toList.drop a.off).take n := by
  obtain ⟨_, hl, hc⟩ := World.cells?_some h
  obtain ⟨e, fr, hb⟩ := hb
  apply List.ext_getElem?
  intro i
  by_cases hi : i < n
  · have h1 : w.cell? (a.add i) = c[a.off + i]? := by
      unfold World.cell? Addr.add
      by_cases h0 : i = 0
      · subst h0; simp [hb, hs]
      · simp [h0, hb]
    rw [← hc i hi, h1, List.getElem?_take_of_lt hi, List.getElem?_drop, Array.getElem?_toList]
  · rw [List.getElem?_eq_none (by omega), List.getElem?_eq_none (by simp; omega)]
theorem rows_lie {r : Row} {WF : r.den → Prop} {a : Addr} {len : Nat} (hr : 0 < r.size) (hp : 0 < len) (hx : ∀ i, i < len → ∃ (b : r.den) (cs : List Value), w.cells? 0 (a.add (i * r.size)) r.size = some cs ∧ r.rep w (gd w) b cs ∧ WF b) :
    a.spot = none ∧ a.block < w.heap.size ∧ ∃ l : List r.den, l.length = len ∧ (∀ x ∈ l, WF x) ∧ ∃ vs, RepAll (fun x cs => r.rep w (gd w) x cs) l vs ∧ Lies w a.block a.off vs := by
  obtain ⟨b0, cs0, h0, _, _⟩ := hx 0 hp
  obtain ⟨_, hl0, hc0⟩ := World.cells?_some h0
  have h00 := hc0 0 hr
  have hlt : 0 < cs0.length := by omega
  rw [List.getElem?_eq_getElem hlt] at h00
  have hbk : (∃ c e fr, w.heap[a.block]? = some (.cells c e fr)) ∧ a.spot = none := by
    have hz : (a.add (0 * r.size)).add 0 = a := by simp [Addr.add]
    rw [hz] at h00
    unfold World.cell? at h00
    split at h00
    · rename_i c e fr hb
      refine ⟨⟨c, e, fr, hb⟩, ?_⟩
      split at h00
      · cases h00
      · rename_i hn; simpa using hn
    · cases h00
  obtain ⟨⟨c, e, fr, hb⟩, hs⟩ := hbk
  have hbl : a.block < w.heap.size := (Array.getElem?_eq_some_iff.1 hb).1
  refine ⟨hs, hbl, ?_⟩
  have key : ∀ k, k ≤ len → ∃ l : List r.den, l.length = k ∧ (∀ x ∈ l, WF x) ∧ RepAll (fun x cs => r.rep w (gd w) x cs) l ((c.toList.drop a.off).take (k * r.size)) := by
    intro k
    induction k with
    | zero => intro _; exact ⟨[], rfl, (fun x hx => by cases hx), by simp [RepAll]⟩
    | succ k ih =>
      intro hk
      obtain ⟨l, hl, hw, hR⟩ := ih (by omega)
      obtain ⟨b, cs, h1, h2, h3⟩ := hx k (by omega)
      have hcs : cs = ((c.toList.drop a.off).drop (k * r.size)).take r.size := by
        have := cells_eq (c := c) h1 ⟨e, fr, by unfold Addr.add; split <;> exact hb⟩ (by unfold Addr.add; split <;> first | exact hs | rfl)
        rw [this, List.drop_drop]
        congr 2
        unfold Addr.add; split <;> simp_all
      refine ⟨l ++ [b], by simp [hl], ?_, ?_⟩
      · intro x hx'
        rcases List.mem_append.1 hx' with h | h
        · exact hw x h
        · rw [List.mem_singleton] at h; subst h; exact h3
      · have : (k + 1) * r.size = k * r.size + r.size := by rw [Nat.add_mul, Nat.one_mul]
        rw [this, List.take_add, ← hcs]
        exact RepAll.append hR ⟨cs, [], by simp, h2, rfl⟩
  obtain ⟨l, hl, hw, hR⟩ := key len (Nat.le_refl _)
  exact ⟨l, hl, hw, _, hR, c, e, fr, _, hb, (List.take_append_drop (len * r.size) _).symm⟩
theorem OpC.slice {r : Row} {WF : r.den → Prop} (ht : P.underlying t = some (.slice e)) (hr : 0 < r.size) (hc : P.cellsOf e = r.size) (he : OpR P w r e WF) : OpC P w (.slice r) t (fun l => List.length (α := r.den) l ≤ 9223372036854775807 ∧ ∀ x : r.den, List.Mem x l → WF x) := by
  intro H enc spare held fuel cs x h
  rcases open_slice ht h with ⟨rfl, _⟩ | ⟨a, len, cap, m, n, D, Pl, rfl, _, hl, hm, hmm, _, hx⟩
  · exact ⟨([] : List r.den), _, rfl, ⟨none, 0, 0, rfl, rfl, Nat.le_refl _, fun _ => rfl, Or.inl rfl⟩, by simp, fun x hx => by cases hx⟩
  · have hmle : len ≤ m := by rw [hmm]; split <;> omega
    have hmax : len ≤ 9223372036854775807 := by unfold maxLen at hm; omega
    by_cases hp : 0 < len
    · obtain ⟨hs, hb, l, hll, hw, vs, hR, hL⟩ := rows_lie (w := w) (a := a) (len := len) (WF := WF) hr hp (fun i hi => by
        obtain ⟨c, h1, h2⟩ := hx i (by omega)
        obtain ⟨b, h3, h4⟩ := he h2
        rw [hc] at h1
        exact ⟨b, c, h1, h3, h4⟩)
      refine ⟨l, _, rfl, ⟨some a, len, cap, rfl, hll.symm, hl, (fun k => by cases k), Or.inr ⟨a.block, a.off, vs, ?_, hb, hR, hL⟩⟩, by rw [hll]; exact hmax, hw⟩
      obtain ⟨B, o, s⟩ := a
      simp only at hs
      rw [hs]
    · have h0 : len = 0 := by omega
      subst h0
      exact ⟨([] : List r.den), _, rfl, ⟨some a, 0, cap, rfl, rfl, hl, (fun k => by cases k), Or.inl rfl⟩, by simp, fun x hx => by cases hx⟩
theorem OpR.one {c : CTy} {WF : c.den → Prop} (h : OpC P w c t WF) : OpR P w (.one c) t WF := by
  intro H enc spare held fuel cs x k
  obtain ⟨a, v, rfl, h1, h2⟩ := h k
  exact ⟨a, ⟨v, rfl, h1⟩, h2⟩
/-- A struct's field, out of the whole's reading. -/
theorem trod_field {H : Type} {enc : TypeId × Value → H} {spare : Nat → Bool} {held : Bool} {fuel : Nat} {cs : List Value} {x : DataW H × List MemPlace} {fs : Array Field} (ht : P.underlying t = some (.struct fs)) (h : DataW.trod enc P w 0 spare held fuel t cs = some x) :
    cs.length = P.cellsOf t ∧ ∃ n, ∀ (i : Nat) (f : Field), fs[i]? = some f → ∃ y, DataW.trod enc P w 0 spare held n f.type ((cs.drop f.offset).take (P.cellsOf f.type)) = some y := by
  obtain ⟨xs, n, _, _, hn, hl, hf⟩ := DataW.trod_struct ht h
  refine ⟨hn, n, fun i f hi => ?_⟩
  have h1 := hf i f hi
  have hlt : i < xs.length := by rw [hl]; exact (Array.getElem?_eq_some_iff.1 hi).1
  rw [List.getElem?_eq_getElem hlt] at h1
  exact ⟨_, h1⟩
end
end Go.Proofs.YtbaggedkejiakaaAbs
