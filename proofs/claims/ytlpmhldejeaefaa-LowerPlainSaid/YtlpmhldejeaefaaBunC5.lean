/- Texts of this session, joined (bundle2.py): GL1, GL2, GL3, D9, WLowerPlain, WLowerPlainC, AbsOpen. -/
import Derived.ProofKit
import Derived.Deep.Slices
import Derived.WideShapes
import Derived.ChangeArms
import Derived.DataReads
import Derived.DataElems
import Derived.OpenShut
import Derived.Test.YtlpmhldejeaefaaBunC4
/- Plain laws: colours and runes lowered. -/
namespace Go.Proofs.YtlpmhldejeaefaaAbs
set_option linter.unusedVariables false
set_option linter.unusedSimpArgs false
open Go Go.Proofs
/-! ### where a rune stands -/
def ixOf : List Int → Int → Nat → Option Nat
  | [], _, _ => none
  | a :: l, x, i => if a = x then some i else ixOf l x (i + 1)
theorem ixOf_bound : ∀ (l : List Int) (x : Int) (i j : Nat), ixOf l x i = some j → i ≤ j ∧ j < i + l.length
  | [], _, _, _, h => by cases h
  | a :: l, x, i, j, h => by
    rw [ixOf] at h
    split at h
    · injection h with h; subst h; simp
    · have := ixOf_bound l x (i + 1) j h; simp; omega
def DrawnL : List Int := [9670, 9618, 9225, 9228, 9229, 9226, 176, 177, 9252, 9227, 9496, 9488, 9484, 9492, 9532, 9146, 9147, 9472, 9148, 9149, 9500, 9508, 9524, 9516, 9474, 8804, 8805, 960, 8800, 163, 183]
def PlainL : List Int := [42, 35, 72, 70, 67, 76, 111, 43, 78, 86, 43, 43, 43, 43, 43, 45, 45, 45, 45, 95, 43, 43, 43, 43, 124, 60, 62, 112, 33, 76, 46]
def drawnAt (x : Int) : Option Nat := ixOf DrawnL x 0
theorem drawn_eq : hide charset_Drawn_F = some DrawnL := by rw [hide_eq]; rfl
theorem getD_at {l : List Int} {i : Nat} (h : i < l.length) : l.drop i = l.getD i 0 :: l.drop (i + 1) := by
  rw [List.drop_eq_getElem_cons h]; simp [h]
theorem indexR_loop (l : List Int) (x : Int) (hl : l.length < 1000000) : ∀ (n i : Nat), i ≤ l.length → l.length - i < n →
    slices_Index_rune_L2 n l x (Int.ofNat l.length) (Int.ofNat i) = some (match ixOf (l.drop i) x i with
      | some j => .inl (Int.ofNat j)
      | none => .inr ()) := by
  intro n
  induction n with
  | zero => intro i h1 h2; omega
  | succ n ih =>
    intro i h1 h2
    rw [slices_Index_rune_L2, ofNat_lt]
    by_cases hi : i < l.length
    · have e0 : decide ((0 : Int) ≤ Int.ofNat i) = true := by simp
      rw [decide_eq_true hi, e0, toNat_ofNat', wrap_succ (by omega), getD_at hi, ixOf]
      simp only [cond_true, Bool.and_self]
      by_cases c : l.getD i 0 = x
      · rw [show (x == l.getD i 0) = true by rw [c]; simp, if_pos c]; rfl
      · rw [show (x == l.getD i 0) = false from beq_false_of_ne (fun k => c k.symm), if_neg c]
        exact ih (i + 1) (by omega) (by omega)
    · have : i = l.length := by omega
      subst this
      rw [decide_eq_false hi, List.drop_length]; rfl
theorem undraw_eq (x : Int) : ∃ b : Int, hide charset_Undraw_F x = some (b, (drawnAt x).isSome) ∧ ∀ j, drawnAt x = some j → b = 96 + (j : Int) ∧ j < 31 := by
  rw [hide_eq]; unfold charset_Undraw_F
  have L : hide slices_Index_rune_F DrawnL x = some (match drawnAt x with
      | some j => Int.ofNat j
      | none => -1) := by
    rw [hide_eq]; unfold slices_Index_rune_F
    rw [hide_eq]
    have h := indexR_loop DrawnL x (by decide) (slices_Index_rune_fu2 DrawnL x (Int.ofNat DrawnL.length) (Int.ofNat 0)) 0 (by omega) (by unfold slices_Index_rune_fu2; omega)
    rw [show Int.ofNat 0 = 0 from rfl, List.drop_zero] at h
    rw [h]
    unfold drawnAt
    cases ixOf DrawnL x 0 <;> rfl
  rw [drawn_eq]
  simp only [optK_s]
  rw [L]
  cases hd : drawnAt x with
  | none => exact ⟨0, rfl, fun j h => by cases h⟩
  | some j =>
    have hb := ixOf_bound DrawnL x 0 j hd
    have hj : j < 31 := by have : DrawnL.length = 31 := rfl; omega
    refine ⟨96 + (j : Int), ?_, fun i h => by injection h with h; subst h; exact ⟨rfl, hj⟩⟩
    simp only [optK_s]
    have e : IntKind.u8.wrap (IntKind.i64.wrap (96 + Int.ofNat j)) = 96 + (j : Int) := by
      rw [w64 (by show _ ≤ 96 + (j : Int); omega) (by show 96 + (j : Int) < _; omega), IntKind.wrap_u8]
      show (96 + (j : Int)) % _ = _
      omega
    rw [decide_eq_false (by show ¬ (j : Int) < 0; omega : ¬ Int.ofNat j < 0), e]; rfl
/-- A rune's plain byte. -/
def plByte (x : Int) : Int := if 32 ≤ x ∧ x ≤ 126 then x else match drawnAt x with
  | some j => PlainL.getD j 0
  | none => 63
theorem plain_E (x : Int) : hide charset_Plain_F x = some (plByte x) := by
  rw [hide_eq]; unfold charset_Plain_F plByte
  obtain ⟨b, hu, hb⟩ := undraw_eq x
  rw [hu]
  have key : optK (some (b, (drawnAt x).isSome)) (fun y0 => bif y0.2 then (bif decide (0 ≤ IntKind.u8.wrap (y0.1 - 96)) && decide (IntKind.u8.wrap (y0.1 - 96) < 31) then some (PlainL.getD (IntKind.u8.wrap (y0.1 - 96)).toNat 0) else none) else some 63) = some (match drawnAt x with
      | some j => PlainL.getD j 0
      | none => 63) := by
    cases hd : drawnAt x with
    | none => rfl
    | some j =>
      obtain ⟨e, hj⟩ := hb j hd
      have e2 : IntKind.u8.wrap (b - 96) = (j : Int) := by rw [IntKind.wrap_u8]; omega
      simp only [optK_s, e2]
      rw [decide_eq_true (by omega : (0 : Int) ≤ (j : Int)), decide_eq_true (by omega : (j : Int) < 31)]
      rfl
  by_cases h1 : 32 ≤ x
  · by_cases h2 : x ≤ 126
    · rw [decide_eq_true (show x ≥ 32 from h1), decide_eq_true h2, if_pos ⟨h1, h2⟩]
      have : IntKind.u8.wrap x = x := by rw [IntKind.wrap_u8]; omega
      rw [this]; rfl
    · rw [decide_eq_true (show x ≥ 32 from h1), decide_eq_false h2, if_neg (fun k => h2 k.2)]
      exact key
  · rw [decide_eq_false (show ¬ x ≥ 32 from h1), if_neg (fun k => h1 k.1)]
    exact key
theorem plByte_bounds (x : Int) : 32 ≤ plByte x ∧ plByte x ≤ 126 := by
  unfold plByte
  split
  · assumption
  · split
    · rename_i j hj
      have hb := ixOf_bound DrawnL x 0 j hj
      have hl : j < 31 := by have : DrawnL.length = 31 := rfl; omega
      have key : ∀ j, j < 31 → 32 ≤ PlainL.getD j 0 ∧ PlainL.getD j 0 ≤ 126 := by decide
      exact key j hl
    · omega
/-- A rune as a target has it. -/
def lowR (d x : Int) : Int := if (drawnAt x).isSome = true ∧ (d = 1 ∨ d = 2) then x else plByte x
theorem lowR_E (d x : Int) : hide lower_Rune_F d x = some (lowR d x) := by
  rw [hide_eq]; unfold lower_Rune_F lowR
  obtain ⟨b, hu, _⟩ := undraw_eq x
  have pb := plByte_bounds x
  rw [hu, plain_E]
  simp only [optK_s]
  rw [w32 (by omega) (by omega)]
  cases (drawnAt x).isSome
  · rw [if_neg (fun k => by cases k.1)]; rfl
  · by_cases h1 : d = 1
    · rw [if_pos ⟨rfl, .inl h1⟩, h1]; rfl
    · by_cases h2 : d = 2
      · rw [if_pos ⟨rfl, .inr h2⟩, h2]; rfl
      · rw [if_neg (fun k => k.2.elim h1 h2), show (d == 1) = false from beq_false_of_ne h1, show (d == 2) = false from beq_false_of_ne h2]; rfl
/-! ### colours -/
def Pal8 : List (Int × Int × Int) := [((0 : Int), (0 : Int), (0 : Int)), ((205 : Int), (0 : Int), (0 : Int)), ((0 : Int), (205 : Int), (0 : Int)), ((205 : Int), (205 : Int), (0 : Int)), ((0 : Int), (0 : Int), (238 : Int)), ((205 : Int), (0 : Int), (205 : Int)), ((0 : Int), (205 : Int), (205 : Int)), ((229 : Int), (229 : Int), (229 : Int))]
def dist (r g b : Int) (i : Nat) : Int := IntKind.i64.wrap (IntKind.i64.wrap (IntKind.i64.wrap (IntKind.i64.wrap (r - (Pal8.getD i (0, 0, 0)).1) * IntKind.i64.wrap (r - (Pal8.getD i (0, 0, 0)).1)) + IntKind.i64.wrap (IntKind.i64.wrap (g - (Pal8.getD i (0, 0, 0)).2.1) * IntKind.i64.wrap (g - (Pal8.getD i (0, 0, 0)).2.1))) + IntKind.i64.wrap (IntKind.i64.wrap (b - (Pal8.getD i (0, 0, 0)).2.2) * IntKind.i64.wrap (b - (Pal8.getD i (0, 0, 0)).2.2)))
def nearGo (D : Nat → Int) : Nat → Nat → Nat → Nat
  | 0, _, j => j
  | c + 1, i, j => if D i < D j then nearGo D c (i + 1) i else nearGo D c (i + 1) j
theorem nearGo_lt (D : Nat → Int) : ∀ (c i j : Nat), i + c ≤ 8 → j < 8 → nearGo D c i j < 8
  | 0, _, j, _, h => h
  | c + 1, i, j, h1, h2 => by
    rw [nearGo]; split
    · exact nearGo_lt D c (i + 1) i (by omega) (by omega)
    · exact nearGo_lt D c (i + 1) j (by omega) h2
theorem rgb_8 (i : Nat) (hi : i < 8) : hide color_RGB_F (Int.ofNat i) = some ((Pal8.getD i (0, 0, 0)).1, (Pal8.getD i (0, 0, 0)).2.1, (Pal8.getD i (0, 0, 0)).2.2, true) := by
  rw [hide_eq]
  have key : ∀ i, i < 8 → color_RGB_F (Int.ofNat i) = some ((Pal8.getD i (0, 0, 0)).1, (Pal8.getD i (0, 0, 0)).2.1, (Pal8.getD i (0, 0, 0)).2.2, true) := by
    intro i hi
    rcases i with _ | _ | _ | _ | _ | _ | _ | _ | i <;> first | rfl | omega
  exact key i hi
theorem refRgb_8 (i : Nat) (hi : i < 8) : hide linguistref1_RGB_F (Int.ofNat i) = some ((Pal8.getD i (0, 0, 0)).1, (Pal8.getD i (0, 0, 0)).2.1, (Pal8.getD i (0, 0, 0)).2.2, true) := by
  rw [hide_eq]
  have key : ∀ i, i < 8 → linguistref1_RGB_F (Int.ofNat i) = some ((Pal8.getD i (0, 0, 0)).1, (Pal8.getD i (0, 0, 0)).2.1, (Pal8.getD i (0, 0, 0)).2.2, true) := by
    intro i hi
    rcases i with _ | _ | _ | _ | _ | _ | _ | _ | i <;> first | rfl | omega
  exact key i hi
theorem and255 {n : Int} (h0 : 0 ≤ n) (h1 : n < 33554432) : bitsOp BinOp.and IntKind.i64 n 255 = n % 256 := by
  obtain ⟨n, rfl⟩ : ∃ k : Nat, n = (k : Int) := ⟨n.toNat, by omega⟩
  have e1 : (BitVec.ofInt 64 (n : Int)) = BitVec.ofNat 64 n := by simp
  have e2 : (BitVec.ofNat 64 n &&& BitVec.ofNat 64 255) = BitVec.ofNat 64 (n % 256) := by
    apply BitVec.eq_of_toNat_eq
    simp only [BitVec.toNat_and, BitVec.toNat_ofNat]
    have a : n % 2 ^ 64 = n := Nat.mod_eq_of_lt (by omega)
    rw [a, show (255 % 2 ^ 64 : Nat) = 2 ^ 8 - 1 from rfl, Nat.and_two_pow_sub_one_eq_mod]
    omega
  show IntKind.i64.wrap (((BitVec.ofInt 64 (n : Int) &&& BitVec.ofInt 64 255).toNat : Nat) : Int) = _
  have e3 : (BitVec.ofInt 64 255) = BitVec.ofNat 64 255 := rfl
  rw [e1, e3, e2, BitVec.toNat_ofNat]
  have a : n % 256 % 2 ^ 64 = n % 256 := Nat.mod_eq_of_lt (by omega)
  rw [a, w64 (by omega) (by omega)]
  omega
theorem rgb_same {x : Int} (h : rightColour x) : hide color_RGB_F x = hide linguistref1_RGB_F x := by
  rw [hide_eq, hide_eq]; unfold color_RGB_F linguistref1_RGB_F
  have e : decide (x ≥ 256) = decide (x > 255) := by
    by_cases c : x ≥ 256
    · rw [decide_eq_true c, decide_eq_true (by omega : x > 255)]
    · rw [decide_eq_false c, decide_eq_false (by omega : ¬ x > 255)]
  rw [e]
  rcases h with h | h
  · rw [decide_eq_false (by omega : ¬ x ≥ 16777216)]; rfl
  · have f1 : x.fdiv 65536 = x / 65536 := Int.fdiv_eq_ediv_of_nonneg _ (by omega)
    have f2 : x.fdiv 256 = x / 256 := Int.fdiv_eq_ediv_of_nonneg _ (by omega)
    have t1 : x.tdiv 65536 = x / 65536 := Int.tdiv_eq_ediv_of_nonneg (by omega)
    have t2 : x.tdiv 256 = x / 256 := Int.tdiv_eq_ediv_of_nonneg (by omega)
    rw [decide_eq_true h.1, decide_eq_true h.2]
    simp only [cond_true]
    rw [f1, f2, t1, t2, and255 (n := x / 65536) (by omega) (by omega), and255 (n := x / 256) (by omega) (by omega), and255 (n := x) (by omega) (by omega), w64 (n := x / 65536) (by omega) (by omega), w64 (n := x / 256) (by omega) (by omega)]
    rw [Int.tmod_eq_emod_of_nonneg (a := x / 65536) (by omega), Int.tmod_eq_emod_of_nonneg (a := x / 256) (by omega), Int.tmod_eq_emod_of_nonneg (a := x) (by omega)]
theorem rgb_ex {x : Int} (h : rightColour x) (hx : 0 ≤ x) : ∃ r g b, hide linguistref1_RGB_F x = some (r, g, b, true) := by
  rw [hide_eq]; unfold linguistref1_RGB_F
  rcases h with h | h
  · rw [decide_eq_false (by omega : ¬ x ≥ 16777216), decide_eq_false (by omega : ¬ x < 0), decide_eq_false (by omega : ¬ x > 255)]
    simp only [cond_false]
    by_cases c : x < 16
    · rw [decide_eq_true c, decide_eq_true hx]
      exact ⟨_, _, _, rfl⟩
    · rw [decide_eq_false c]
      by_cases d : x < 232
      · rw [decide_eq_true d]
        simp only [cond_true, cond_false]
        have e0 : IntKind.i64.wrap (x - 16) = x - 16 := w64 (by omega) (by omega)
        have t1 : (x - 16).tdiv 36 = (x - 16) / 36 := Int.tdiv_eq_ediv_of_nonneg (by omega)
        have t2 : (x - 16).tdiv 6 = (x - 16) / 6 := Int.tdiv_eq_ediv_of_nonneg (by omega)
        have m1 : ((x - 16) / 6).tmod 6 = (x - 16) / 6 % 6 := Int.tmod_eq_emod_of_nonneg (by omega)
        have m2 : (x - 16).tmod 6 = (x - 16) % 6 := Int.tmod_eq_emod_of_nonneg (by omega)
        rw [e0, t1, t2, w64 (n := (x - 16) / 36) (by omega) (by omega), w64 (n := (x - 16) / 6) (by omega) (by omega), m1, m2]
        rw [decide_eq_true (by omega : 0 ≤ (x - 16) / 36), decide_eq_true (by omega : (x - 16) / 36 < 6), decide_eq_true (by omega : 0 ≤ (x - 16) / 6 % 6), decide_eq_true (by omega : (x - 16) / 6 % 6 < 6), decide_eq_true (by omega : 0 ≤ (x - 16) % 6), decide_eq_true (by omega : (x - 16) % 6 < 6)]
        exact ⟨_, _, _, rfl⟩
      · rw [decide_eq_false d]
        exact ⟨_, _, _, rfl⟩
  · rw [decide_eq_true h.1, decide_eq_true h.2]
    exact ⟨_, _, _, rfl⟩
theorem far_8 {x r g b : Int} (hx : hide color_RGB_F x = some (r, g, b, true)) (i : Nat) (hi : i < 8) : hide color_Far_F x (Int.ofNat i) = some (dist r g b i) := by
  rw [hide_eq]; unfold color_Far_F
  rw [hx, rgb_8 i hi]
  rfl
theorem near_loop {x r g b : Int} (hx : hide color_RGB_F x = some (r, g, b, true)) : ∀ (n i j : Nat), i ≤ 8 → j < 8 → 8 - i < n →
    color_Nearest_L6 n x (Int.ofNat j) 8 (Int.ofNat i) = some (Int.ofNat (nearGo (dist r g b) (8 - i) i j)) := by
  intro n
  induction n with
  | zero => intro i j h1 h2 h3; omega
  | succ n ih =>
    intro i j h1 h2 h3
    rw [color_Nearest_L6]
    by_cases hi : i < 8
    · rw [decide_eq_true (show Int.ofNat i < 8 by show (i : Int) < 8; omega), far_8 hx i hi, far_8 hx j h2, wrap_succ (by omega), show 8 - i = (8 - (i + 1)) + 1 by omega, nearGo]
      simp only [cond_true, optK_s]
      by_cases c : dist r g b i < dist r g b j
      · rw [decide_eq_true c, if_pos c]; exact ih (i + 1) i (by omega) hi (by omega)
      · rw [decide_eq_false c, if_neg c]; exact ih (i + 1) j (by omega) h2 (by omega)
    · have : i = 8 := by omega
      subst this
      rfl
theorem refNear_loop {r g b : Int} : ∀ (n i j : Nat), 1 ≤ i → i ≤ 8 → j < 8 → 8 - i < n →
    linguistref1_Nearest_L6 n r g b (Int.ofNat j) (dist r g b j) 8 (Int.ofNat i) = some (Int.ofNat (nearGo (dist r g b) (8 - i) i j)) := by
  intro n
  induction n with
  | zero => intro i j h0 h1 h2 h3; omega
  | succ n ih =>
    intro i j h0 h1 h2 h3
    rw [linguistref1_Nearest_L6]
    by_cases hi : i < 8
    · rw [decide_eq_true (show Int.ofNat i < 8 by show (i : Int) < 8; omega), refRgb_8 i hi, wrap_succ (by omega), show 8 - i = (8 - (i + 1)) + 1 by omega, nearGo, show (Int.ofNat i == 0) = false from beq_false_of_ne (by show (i : Int) ≠ 0; omega)]
      simp only [cond_true, cond_false, optK_s]
      show (bif decide (dist r g b i < dist r g b j) then _ else _) = _
      by_cases c : dist r g b i < dist r g b j
      · rw [decide_eq_true c, if_pos c]; exact ih (i + 1) i (by omega) (by omega) hi (by omega)
      · rw [decide_eq_false c, if_neg c]; exact ih (i + 1) j (by omega) (by omega) h2 (by omega)
    · have : i = 8 := by omega
      subst this
      rfl
/-- A colour as a Linux console has it. -/
theorem lower_ex {x : Int} (h : rightColour x) : ∃ v, hide color_Lower_F x 8 = some v ∧ hide linguistref1_Lower_F x 8 = some v ∧ (-1 ≤ v ∧ v ≤ 7) ∧ (x < 8 → v = x) := by
  have hx1 : -1 ≤ x := by rcases h with h | h <;> omega
  rw [hide_eq, hide_eq]; unfold color_Lower_F linguistref1_Lower_F
  by_cases c0 : x < 0
  · rw [decide_eq_true c0]; exact ⟨x, rfl, rfl, by omega, fun _ => rfl⟩
  · rw [decide_eq_false c0]
    by_cases c8 : x < 8
    · rw [decide_eq_true c8]; exact ⟨x, rfl, rfl, by omega, fun _ => rfl⟩
    · rw [decide_eq_false c8]
      obtain ⟨r, g, b, hr⟩ := rgb_ex h (by omega)
      have hc : hide color_RGB_F x = some (r, g, b, true) := by rw [rgb_same h, hr]
      have n0 := near_loop hc (color_Nearest_fu6 x (Int.ofNat 0) 8 (Int.ofNat 0)) 0 0 (by omega) (by omega) (by unfold color_Nearest_fu6; omega)
      obtain ⟨f, hf⟩ : ∃ f, linguistref1_Nearest_fu6 r g b 0 0 8 0 = f + 1 := ⟨linguistref1_Nearest_fu6 r g b 0 0 8 0 - 1, by unfold linguistref1_Nearest_fu6; omega⟩
      have hf9 : 9 ≤ f := by unfold linguistref1_Nearest_fu6 at hf; omega
      have n1 := refNear_loop (r := r) (g := g) (b := b) f 1 0 (by omega) (by omega) (by omega) (by omega)
      have lt := nearGo_lt (dist r g b) 8 0 0 (by omega) (by omega)
      have same : nearGo (dist r g b) 8 0 0 = nearGo (dist r g b) 7 1 0 := by
        rw [nearGo, if_neg (by omega)]
      refine ⟨Int.ofNat (nearGo (dist r g b) 8 0 0), ?_, ?_, ?_, fun q => by omega⟩
      · have N : hide color_Nearest_F x 8 = some (Int.ofNat (nearGo (dist r g b) 8 0 0)) := by
          rw [hide_eq]; unfold color_Nearest_F
          rw [hc]
          simp only [optK_s, hide_eq color_Nearest_L6]
          have n0' : color_Nearest_L6 (color_Nearest_fu6 x 0 8 0) x 0 8 0 = some (Int.ofNat (nearGo (dist r g b) 8 0 0)) := n0
          rw [n0']; rfl
        rw [N]; rfl
      · have N : hide linguistref1_Nearest_F x 8 = some (Int.ofNat (nearGo (dist r g b) 8 0 0)) := by
          rw [hide_eq]; unfold linguistref1_Nearest_F
          rw [hr]
          simp only [optK_s, hide_eq linguistref1_Nearest_L6]
          rw [hf, linguistref1_Nearest_L6]
          have q := refRgb_8 0 (by omega)
          have q' : hide linguistref1_RGB_F 0 = some ((Pal8.getD 0 (0, 0, 0)).1, (Pal8.getD 0 (0, 0, 0)).2.1, (Pal8.getD 0 (0, 0, 0)).2.2, true) := q
          rw [q', same]
          have n1' : linguistref1_Nearest_L6 f r g b 0 (dist r g b 0) 8 1 = some (Int.ofNat (nearGo (dist r g b) 7 1 0)) := n1
          show optK (linguistref1_Nearest_L6 f r g b 0 (dist r g b 0) 8 1) (fun y => some y) = _
          rw [n1']; rfl
        rw [N]; rfl
      · show -1 ≤ ((nearGo (dist r g b) 8 0 0 : Nat) : Int) ∧ ((nearGo (dist r g b) 8 0 0 : Nat) : Int) ≤ 7
        omega
noncomputable def lowC (x : Int) : Int := (color_Lower_F x 8).getD 0
theorem lowC_eq {x : Int} (h : rightColour x) : hide color_Lower_F x 8 = some (lowC x) ∧ hide linguistref1_Lower_F x 8 = some (lowC x) ∧ (-1 ≤ lowC x ∧ lowC x ≤ 7) ∧ (x < 8 → lowC x = x) := by
  obtain ⟨v, h1, h2, h3, h4⟩ := lower_ex h
  have e : lowC x = v := by unfold lowC; rw [← hide_eq color_Lower_F, h1]; rfl
  rw [e]; exact ⟨h1, h2, h3, h4⟩
end Go.Proofs.YtlpmhldejeaefaaAbs

/- Plain laws: pens, cells, views lowered. -/
namespace Go.Proofs.YtlpmhldejeaefaaAbs
set_option linter.unusedVariables false
set_option linter.unusedSimpArgs false
open Go Go.Proofs
noncomputable def lowP (d : Int) (p : Pen) : Pen := if d = 2 then (lowC p.1, lowC p.2.1, bitsOp BinOp.and IntKind.i64 p.2.2 57) else if d = 1 then (-1, -1, bitsOp BinOp.and IntKind.i64 p.2.2 57) else (-1, -1, 0)
theorem cellPlain_eq : hide cell_Plain_F = some (-1, -1, 0) := by rw [hide_eq]; rfl
theorem lowP_E (d : Int) {p : Pen} (h : rightPen p) : hide lower_Pen_F d p.1 p.2.1 p.2.2 = some (lowP d p) := by
  rw [hide_eq]; unfold lower_Pen_F lowP
  obtain ⟨a, _, _, _⟩ := lowC_eq h.1
  obtain ⟨b, _, _, _⟩ := lowC_eq h.2.1
  rw [cellPlain_eq, a, b]
  by_cases h2 : d = 2
  · subst h2; rfl
  · rw [show (d == 2) = false from beq_false_of_ne h2, if_neg h2]
    by_cases h1 : d = 1
    · subst h1; rfl
    · rw [show (d == 1) = false from beq_false_of_ne h1, if_neg h1]; rfl
noncomputable def lowX (d : Int) (c : Cell) : Cell := (if c.2.1 = 2 then 32 else lowR d c.1, 0, lowP d c.2.2)
theorem lowX_E (d : Int) {c : Cell} (h : rightPen c.2.2) : hide lower_Cell_F d c.1 c.2.1 c.2.2.1 c.2.2.2.1 c.2.2.2.2 = some (lowX d c) := by
  rw [hide_eq]; unfold lower_Cell_F lowX
  have J : ∀ x : Int, lower_Cell_J4 d x c.1 c.2.1 c.2.2.1 c.2.2.2.1 c.2.2.2.2 0 0 0 0 0 = some (x, 0, lowP d c.2.2) := fun x => by
    unfold lower_Cell_J4
    rw [lowP_E d h]; rfl
  rw [lowR_E]
  simp only [optK_s, hide_eq lower_Cell_J4]
  rw [J, J]
  by_cases h2 : c.2.1 = 2
  · rw [show (c.2.1 == 2) = true by rw [h2]; rfl, if_pos h2]; rfl
  · rw [show (c.2.1 == 2) = false from beq_false_of_ne h2, if_neg h2]; rfl
def pensOk (l : List Cell) : Prop := ∀ i, i < l.length → rightPen (l.getD i dC).2.2
theorem view_loop {a0 : Int} {a1 : Int} {a2 : Int} {a3 : Int} {a4 : Int} {a5 : List (Int × Int × Int × Int × Int)} {a6 : Int} {a7 : Int} {a8 : Bool} {a9 : Int} {a10 : Int} {a11 : Int} {a12 : Int} {a13 : Int} {a14 : Int} {a15 : Int} {a16 : Int} {a17 : Int} {a18 : Bool} {a19 : Bool} {a20 : Bool} {a21 : Bool} {a22 : Bool} {a23 : Int} {a24 : Int} {a25 : Int} {a26 : Int} {a27 : Int} {a28 : Int} {a29 : Int} {a30 : Int} {a31 : Bool} {a32 : Int} {a33 : Int} {a34 : Int} {a35 : Int} {a36 : Bool} {a37 : Int} {a38 : Int} {a39 : List (Int × Int × Int × Int × Int)} {a40 : List (Int × Int × Int × Int × Int)} {l : List Cell} (hp : pensOk l) (hl : l.length < 1000000) : ∀ (n i : Nat), i ≤ l.length → l.length - i < n →
    lower_View_L4 n a0 (Int.ofNat l.length) (Int.ofNat i) a3 a4 a5 a6 a7 a8 a9 a10 a11 a12 a13 a14 a15 a16 a17 a18 a19 a20 a21 a22 a23 a24 a25 a26 a27 a28 a29 a30 a31 a32 a33 a34 a35 a36 a37 a38 ((l.map (lowX a0)).take i ++ l.drop i) a40 = some (a0, a3, a4, a5, a6, a7, a8, a9, a10, a11, a12, a13, a14, a15, a16, a17, a18, a19, a20, a21, a22, a23, a24, a25, a26, a27, a28, a29, a30, a31, a32, a33, a34, a35, a36, a37, a38, a40, l.map (lowX a0)) := by
  intro n
  induction n with
  | zero => intro i h1 h2; omega
  | succ n ih =>
    intro i h1 h2
    rw [lower_View_L4, ofNat_lt]
    by_cases hi : i < l.length
    · have e0 : decide ((0 : Int) ≤ Int.ofNat i) = true := by simp
      have e3 : ((l.map (lowX a0)).take i ++ l.drop i).length = l.length := by simp; omega
      have e4 : ((l.map (lowX a0)).take i ++ l.drop i).getD i (0, 0, 0, 0, 0) = l.getD i dC := by
        have e7 : ((l.map (lowX a0)).take i).length = i := by rw [List.length_take, List.length_map]; omega
        rw [getD_append_r (0, 0, 0, 0, 0) (show ((l.map (lowX a0)).take i).length ≤ i by omega), getD_drop, e7, Nat.sub_self, Nat.add_zero]
      rw [decide_eq_true hi, e0, toNat_ofNat', e3, ofNat_lt, decide_eq_true hi, e4, lowX_E a0 (hp i hi), wrap_succ (by omega)]
      simp only [cond_true, Bool.and_self, optK_s]
      have e5 : (l.map (lowX a0))[i]'(by simp; exact hi) = ((lowX a0 (l.getD i dC)).1, (lowX a0 (l.getD i dC)).2.1, (lowX a0 (l.getD i dC)).2.2.1, (lowX a0 (l.getD i dC)).2.2.2.1, (lowX a0 (l.getD i dC)).2.2.2.2) := by
        have : l.getD i dC = l[i] := by simp [hi]
        rw [List.getElem_map, this]
      rw [take_set_drop (l.map (lowX a0)) l i _ hi (by simp) e5]
      exact ih (i + 1) (by omega) (by omega)
    · have : i = l.length := by omega
      subst this
      rw [decide_eq_false hi, List.drop_length, List.append_nil, List.take_of_length_le (by simp)]
      rfl
theorem view_fu {a0 : Int} {a1 : Int} {a2 : Int} {a3 : Int} {a4 : Int} {a5 : List (Int × Int × Int × Int × Int)} {a6 : Int} {a7 : Int} {a8 : Bool} {a9 : Int} {a10 : Int} {a11 : Int} {a12 : Int} {a13 : Int} {a14 : Int} {a15 : Int} {a16 : Int} {a17 : Int} {a18 : Bool} {a19 : Bool} {a20 : Bool} {a21 : Bool} {a22 : Bool} {a23 : Int} {a24 : Int} {a25 : Int} {a26 : Int} {a27 : Int} {a28 : Int} {a29 : Int} {a30 : Int} {a31 : Bool} {a32 : Int} {a33 : Int} {a34 : Int} {a35 : Int} {a36 : Bool} {a37 : Int} {a38 : Int} {a39 : List (Int × Int × Int × Int × Int)} {a40 : List (Int × Int × Int × Int × Int)} : 4096 < lower_View_fu4 a0 a1 a2 a3 a4 a5 a6 a7 a8 a9 a10 a11 a12 a13 a14 a15 a16 a17 a18 a19 a20 a21 a22 a23 a24 a25 a26 a27 a28 a29 a30 a31 a32 a33 a34 a35 a36 a37 a38 a39 a40 := Nat.lt_of_lt_of_le (show 4096 < 5000 by decide) (Nat.le_add_left 5000 _)
abbrev VT := Int × Int × List Cell × Int × Int × Bool
noncomputable def viewS (d : Int) (s : ST) : VT := (s.1, s.2.1, s.2.2.1.map (lowX d), s.2.2.2.1, s.2.2.2.2.1, s.2.2.2.2.2.2.2.2.2.2.2.2.2.2.2.2.2.1 || (d != 2))
theorem view_E (d : Int) {s : ST} (hp : pensOk s.2.2.1) (hl : s.2.2.1.length ≤ 4096) : hide lower_View_F d s.1 s.2.1 s.2.2.1 s.2.2.2.1 s.2.2.2.2.1 s.2.2.2.2.2.1 s.2.2.2.2.2.2.1 s.2.2.2.2.2.2.2.1 s.2.2.2.2.2.2.2.2.1 s.2.2.2.2.2.2.2.2.2.1 s.2.2.2.2.2.2.2.2.2.2.1 s.2.2.2.2.2.2.2.2.2.2.2.1 s.2.2.2.2.2.2.2.2.2.2.2.2.1 s.2.2.2.2.2.2.2.2.2.2.2.2.2.1 s.2.2.2.2.2.2.2.2.2.2.2.2.2.2.1 s.2.2.2.2.2.2.2.2.2.2.2.2.2.2.2.1 s.2.2.2.2.2.2.2.2.2.2.2.2.2.2.2.2.1 s.2.2.2.2.2.2.2.2.2.2.2.2.2.2.2.2.2.1 s.2.2.2.2.2.2.2.2.2.2.2.2.2.2.2.2.2.2.1 s.2.2.2.2.2.2.2.2.2.2.2.2.2.2.2.2.2.2.2.1 s.2.2.2.2.2.2.2.2.2.2.2.2.2.2.2.2.2.2.2.2.1 s.2.2.2.2.2.2.2.2.2.2.2.2.2.2.2.2.2.2.2.2.2.1 s.2.2.2.2.2.2.2.2.2.2.2.2.2.2.2.2.2.2.2.2.2.2.1 s.2.2.2.2.2.2.2.2.2.2.2.2.2.2.2.2.2.2.2.2.2.2.2.1 s.2.2.2.2.2.2.2.2.2.2.2.2.2.2.2.2.2.2.2.2.2.2.2.2.1 s.2.2.2.2.2.2.2.2.2.2.2.2.2.2.2.2.2.2.2.2.2.2.2.2.2.1 s.2.2.2.2.2.2.2.2.2.2.2.2.2.2.2.2.2.2.2.2.2.2.2.2.2.2.1 s.2.2.2.2.2.2.2.2.2.2.2.2.2.2.2.2.2.2.2.2.2.2.2.2.2.2.2.1 s.2.2.2.2.2.2.2.2.2.2.2.2.2.2.2.2.2.2.2.2.2.2.2.2.2.2.2.2 = some (viewS d s) := by
  rw [hide_eq]; unfold lower_View_F
  rw [Nat.ble_eq_true_of_le (by omega)]
  simp only [cond_true, hide_eq lower_View_L4]
  generalize hf : lower_View_fu4 d (Int.ofNat s.2.2.1.length) 0 s.1 s.2.1 s.2.2.1 s.2.2.2.1 s.2.2.2.2.1 s.2.2.2.2.2.1 s.2.2.2.2.2.2.1 s.2.2.2.2.2.2.2.1 s.2.2.2.2.2.2.2.2.1 s.2.2.2.2.2.2.2.2.2.1 s.2.2.2.2.2.2.2.2.2.2.1 s.2.2.2.2.2.2.2.2.2.2.2.1 s.2.2.2.2.2.2.2.2.2.2.2.2.1 s.2.2.2.2.2.2.2.2.2.2.2.2.2.1 s.2.2.2.2.2.2.2.2.2.2.2.2.2.2.1 s.2.2.2.2.2.2.2.2.2.2.2.2.2.2.2.1 s.2.2.2.2.2.2.2.2.2.2.2.2.2.2.2.2.1 s.2.2.2.2.2.2.2.2.2.2.2.2.2.2.2.2.2.1 s.2.2.2.2.2.2.2.2.2.2.2.2.2.2.2.2.2.2.1 s.2.2.2.2.2.2.2.2.2.2.2.2.2.2.2.2.2.2.2.1 s.2.2.2.2.2.2.2.2.2.2.2.2.2.2.2.2.2.2.2.2.1 s.2.2.2.2.2.2.2.2.2.2.2.2.2.2.2.2.2.2.2.2.2.1 s.2.2.2.2.2.2.2.2.2.2.2.2.2.2.2.2.2.2.2.2.2.2.1 s.2.2.2.2.2.2.2.2.2.2.2.2.2.2.2.2.2.2.2.2.2.2.2.1 s.2.2.2.2.2.2.2.2.2.2.2.2.2.2.2.2.2.2.2.2.2.2.2.2.1 s.2.2.2.2.2.2.2.2.2.2.2.2.2.2.2.2.2.2.2.2.2.2.2.2.2.1 s.2.2.2.2.2.2.2.2.2.2.2.2.2.2.2.2.2.2.2.2.2.2.2.2.2.2.1 s.2.2.2.2.2.2.2.2.2.2.2.2.2.2.2.2.2.2.2.2.2.2.2.2.2.2.2.1 s.2.2.2.2.2.2.2.2.2.2.2.2.2.2.2.2.2.2.2.2.2.2.2.2.2.2.2.2 0 0 0 0 false s.1 s.2.1 s.2.2.1 [] = f
  have hf2 : 4096 < f := by rw [← hf]; exact view_fu
  have L := view_loop (a0 := d) (a1 := 0) (a2 := 0) (a3 := s.1) (a4 := s.2.1) (a5 := s.2.2.1) (a6 := s.2.2.2.1) (a7 := s.2.2.2.2.1) (a8 := s.2.2.2.2.2.1) (a9 := s.2.2.2.2.2.2.1) (a10 := s.2.2.2.2.2.2.2.1) (a11 := s.2.2.2.2.2.2.2.2.1) (a12 := s.2.2.2.2.2.2.2.2.2.1) (a13 := s.2.2.2.2.2.2.2.2.2.2.1) (a14 := s.2.2.2.2.2.2.2.2.2.2.2.1) (a15 := s.2.2.2.2.2.2.2.2.2.2.2.2.1) (a16 := s.2.2.2.2.2.2.2.2.2.2.2.2.2.1) (a17 := s.2.2.2.2.2.2.2.2.2.2.2.2.2.2.1) (a18 := s.2.2.2.2.2.2.2.2.2.2.2.2.2.2.2.1) (a19 := s.2.2.2.2.2.2.2.2.2.2.2.2.2.2.2.2.1) (a20 := s.2.2.2.2.2.2.2.2.2.2.2.2.2.2.2.2.2.1) (a21 := s.2.2.2.2.2.2.2.2.2.2.2.2.2.2.2.2.2.2.1) (a22 := s.2.2.2.2.2.2.2.2.2.2.2.2.2.2.2.2.2.2.2.1) (a23 := s.2.2.2.2.2.2.2.2.2.2.2.2.2.2.2.2.2.2.2.2.1) (a24 := s.2.2.2.2.2.2.2.2.2.2.2.2.2.2.2.2.2.2.2.2.2.1) (a25 := s.2.2.2.2.2.2.2.2.2.2.2.2.2.2.2.2.2.2.2.2.2.2.1) (a26 := s.2.2.2.2.2.2.2.2.2.2.2.2.2.2.2.2.2.2.2.2.2.2.2.1) (a27 := s.2.2.2.2.2.2.2.2.2.2.2.2.2.2.2.2.2.2.2.2.2.2.2.2.1) (a28 := s.2.2.2.2.2.2.2.2.2.2.2.2.2.2.2.2.2.2.2.2.2.2.2.2.2.1) (a29 := s.2.2.2.2.2.2.2.2.2.2.2.2.2.2.2.2.2.2.2.2.2.2.2.2.2.2.1) (a30 := s.2.2.2.2.2.2.2.2.2.2.2.2.2.2.2.2.2.2.2.2.2.2.2.2.2.2.2.1) (a31 := s.2.2.2.2.2.2.2.2.2.2.2.2.2.2.2.2.2.2.2.2.2.2.2.2.2.2.2.2) (a32 := 0) (a33 := 0) (a34 := 0) (a35 := 0) (a36 := false) (a37 := s.1) (a38 := s.2.1) (a39 := []) (a40 := []) (l := s.2.2.1) hp (by omega) f 0 (by omega) (by omega)
  rw [show Int.ofNat 0 = 0 from rfl] at L
  simp only [List.take_zero, List.drop_zero, List.nil_append] at L
  rw [L]
  simp only [optK_s]
  unfold viewS
  cases s.2.2.2.2.2.2.2.2.2.2.2.2.2.2.2.2.2.1 <;> rfl
end Go.Proofs.YtlpmhldejeaefaaAbs

/- Plain laws: what is lowered once more; cells that are unlike. -/
namespace Go.Proofs.YtlpmhldejeaefaaAbs
set_option linter.unusedVariables false
set_option linter.unusedSimpArgs false
open Go Go.Proofs
theorem and57 (n : Nat) (hn : n < 256) : bitsOp BinOp.and IntKind.i64 (n : Int) 57 = ((n &&& 57 : Nat) : Int) := by
  have e1 : (BitVec.ofInt 64 (n : Int)) = BitVec.ofNat 64 n := by simp
  have hle : n &&& 57 ≤ 57 := Nat.and_le_right
  show IntKind.i64.wrap (((BitVec.ofInt 64 (n : Int) &&& BitVec.ofInt 64 57).toNat : Nat) : Int) = _
  have e3 : (BitVec.ofInt 64 57) = BitVec.ofNat 64 57 := rfl
  rw [e1, e3, BitVec.toNat_and, BitVec.toNat_ofNat, BitVec.toNat_ofNat]
  have a : n % 2 ^ 64 = n := Nat.mod_eq_of_lt (by omega)
  rw [a, show (57 % 2 ^ 64 : Nat) = 57 from rfl, w64 (by omega) (by omega)]
theorem and57_ex {n : Int} (h0 : 0 ≤ n) (h1 : n ≤ 255) : ∃ m : Nat, bitsOp BinOp.and IntKind.i64 n 57 = (m : Int) ∧ m ≤ 57 ∧ bitsOp BinOp.and IntKind.i64 (m : Int) 57 = (m : Int) := by
  obtain ⟨k, rfl⟩ : ∃ k : Nat, n = (k : Int) := ⟨n.toNat, by omega⟩
  have hle : k &&& 57 ≤ 57 := Nat.and_le_right
  refine ⟨k &&& 57, and57 k (by omega), hle, ?_⟩
  rw [and57 _ (by omega), Nat.and_assoc, Nat.and_self]
theorem lowC_small {x : Int} (h : -1 ≤ x) (h8 : x < 8) : lowC x = x := (lowC_eq (.inl ⟨h, by omega⟩)).2.2.2 h8
theorem lowR_ascii {d x : Int} (h0 : 32 ≤ x) (h1 : x ≤ 126) : lowR d x = x := by
  unfold lowR
  split
  · rfl
  · unfold plByte; rw [if_pos ⟨h0, h1⟩]
/-! ### how far two are apart -/
def diffN : List Cell → List Cell → Nat
  | a :: l, b :: m => (if a = b then 0 else 1) + diffN l m
  | _, _ => 0
theorem diff_self : ∀ l : List Cell, diffN l l = 0
  | [] => rfl
  | a :: l => by rw [diffN, if_pos rfl, diff_self l]
theorem apart_loop {a4 a5 a7 a8 : Int} {a9 : Bool} {l m : List Cell} (hlm : l.length = m.length) (hl : l.length < 1000000) : ∀ (n i c : Nat), i ≤ l.length → c ≤ i → l.length - i < n →
    lower_Apart_L5 n (Int.ofNat c) l (Int.ofNat l.length) (Int.ofNat i) a4 a5 m a7 a8 a9 = some (Int.ofNat (c + diffN (l.drop i) (m.drop i))) := by
  intro n
  induction n with
  | zero => intro i c h1 h2 h3; omega
  | succ n ih =>
    intro i c h1 h2 h3
    rw [lower_Apart_L5, ofNat_lt]
    by_cases hi : i < l.length
    · have hi2 : i < m.length := by omega
      have e0 : decide ((0 : Int) ≤ Int.ofNat i) = true := by simp
      have a1 : l.drop i = l.getD i dC :: l.drop (i + 1) := by rw [List.drop_eq_getElem_cons hi]; simp [hi]
      have a2 : m.drop i = m.getD i dC :: m.drop (i + 1) := by rw [List.drop_eq_getElem_cons hi2]; simp [hi2]
      rw [decide_eq_true hi, e0, ofNat_lt, decide_eq_true hi2, toNat_ofNat', cell_beq, wrap_succ (by omega), wrap_succ (by omega), a1, a2, diffN]
      simp only [cond_true, Bool.and_self]
      by_cases q : l.getD i dC = m.getD i dC
      · rw [decide_eq_true q, if_pos q, Nat.zero_add]
        exact ih (i + 1) c (by omega) (by omega) (by omega)
      · rw [decide_eq_false q, if_neg q, ← Nat.add_assoc]
        exact ih (i + 1) (c + 1) (by omega) (by omega) (by omega)
    · have : i = l.length := by omega
      subst this
      rw [decide_eq_false hi, List.drop_length, hlm, List.drop_length]
      rfl
theorem apart_eq {R C R' C' r c r' c' : Int} {s s' : Bool} {l m : List Cell} (hR : R = R') (hC : C = C') (hlm : l.length = m.length) (hl : l.length ≤ 4096) : hide lower_Apart_F R C l r c s R' C' m r' c' s' = some (Int.ofNat (diffN l m)) := by
  subst hR hC
  rw [hide_eq]; unfold lower_Apart_F
  have e1 : (R != R) = false := by simp
  have e2 : (C != C) = false := by simp
  have e3 : (Int.ofNat l.length != Int.ofNat m.length) = false := by rw [hlm]; simp
  rw [e1, e2, e3, hide_eq]
  have h := apart_loop (a4 := R) (a5 := C) (a7 := r') (a8 := c') (a9 := s') hlm (by omega) (lower_Apart_fu5 0 l (Int.ofNat l.length) 0 R C m r' c' s') 0 0 (by omega) (by omega) (by unfold lower_Apart_fu5; omega)
  rw [show Int.ofNat 0 = 0 from rfl, List.drop_zero, List.drop_zero, Nat.zero_add] at h
  simp only [cond_false]
  rw [h]; rfl
end Go.Proofs.YtlpmhldejeaefaaAbs

-- Written by a program of this session (dec.py); Lean checks it.
namespace Go.Proofs.YtlpmhldejeaefaaAbs
open Go Go.Proofs
set_option linter.unusedVariables false
set_option maxHeartbeats 2000000
noncomputable def linguistlaw18_LowerPlain_c7 : Code := ((Try.f7.body.map fun b => loopsAt b 7).getD []).headD .skip
theorem linguistlaw18_LowerPlain_c7_is : (Try.f7.body.map fun b => loopsAt b 7) = some [linguistlaw18_LowerPlain_c7] := by kernel_rfl
noncomputable def linguistlaw18_LowerPlain_s7 : SkSt := ⟨(.gap 1 (.cons (.list (.one (.int .u8))) (.gap 1 (.cons (.int .i64) (.gap 5 (.cons (.int .i64) (.cst (.ptr 0 0) (.cst (.ptr 1 0) (.cons (.int .i64) (.gap 71 .nil)))))))))), (.var 23 (.cons (.int .i64) (.cons (.int .i64) (.cons (.int .i64) .nil))) (.var 48 (.cons (.int .i64) (.cons (.int .i64) (.cons (.list (.cons (.int .i32) (.cons (.int .i64) (.cons (.int .i64) (.cons (.int .i64) (.one (.int .i64))))))) (.cons (.int .i64) (.cons (.int .i64) (.cons .bool (.cons (.int .i64) (.cons (.int .i64) (.cons (.int .i64) (.cons (.int .i64) (.cons (.int .i64) (.cons (.int .u64) (.cons (.int .u8) (.cons (.int .u8) (.cons (.int .i64) (.cons .bool (.cons .bool (.cons .bool (.cons .bool (.cons .bool (.cons (.int .i64) (.cons (.int .i64) (.cons (.int .i64) (.cons (.int .i64) (.cons (.int .i64) (.cons (.int .u8) (.cons (.int .u8) (.cons (.int .i64) (.cons .bool .nil))))))))))))))))))))))))))))) .nil))⟩
noncomputable def linguistlaw18_LowerPlain_x7_0 : SkSt := ⟨(.gap 3 (.cons (.int .i64) (.gap 5 (.cons (.int .i64) (.gap 1 (.cst (.ptr 0 0) (.gap 72 .nil))))))), (.var 48 (.cons (.int .i64) (.cons (.int .i64) (.cons (.list (.cons (.int .i32) (.cons (.int .i64) (.cons (.int .i64) (.cons (.int .i64) (.one (.int .i64))))))) (.cons (.int .i64) (.cons (.int .i64) (.cons .bool (.cons (.int .i64) (.cons (.int .i64) (.cons (.int .i64) (.cons (.int .i64) (.cons (.int .i64) (.cons (.int .u64) (.cons (.int .u8) (.cons (.int .u8) (.cons (.int .i64) (.cons .bool (.cons .bool (.cons .bool (.cons .bool (.cons .bool (.cons (.int .i64) (.cons (.int .i64) (.cons (.int .i64) (.cons (.int .i64) (.cons (.int .i64) (.cons (.int .u8) (.cons (.int .u8) (.cons (.int .i64) (.cons .bool .nil))))))))))))))))))))))))))))) .nil)⟩
noncomputable def linguistlaw18_LowerPlain_xs7 : List (Ex × SkSt) := [(.exit 0, linguistlaw18_LowerPlain_x7_0)]
noncomputable def linguistlaw18_LowerPlain_L7 : Nat → List (Int) → Int → Int → Int → Int → Int → Int → Int → Int → List (Int × Int × Int × Int × Int) → Int → Int → Bool → Int → Int → Int → Int → Int → Int → Int → Int → Int → Bool → Bool → Bool → Bool → Bool → Int → Int → Int → Int → Int → Int → Int → Int → Bool → Option (Int × Int × Int × Int × (List (Int × Int × Int × Int × Int)) × Int × Int × Bool × Int × Int × Int × Int × Int × Int × Int × Int × Int × Bool × Bool × Bool × Bool × Bool × Int × Int × Int × Int × Int × Int × Int × Int × Bool)
  | 0, _, _, _, _, _, _, _, _, _, _, _, _, _, _, _, _, _, _, _, _, _, _, _, _, _, _, _, _, _, _, _, _, _, _, _, _ => none
  | n + 1, a0, a1, a2, a3, a4, a5, a6, a7, a8, a9, a10, a11, a12, a13, a14, a15, a16, a17, a18, a19, a20, a21, a22, a23, a24, a25, a26, a27, a28, a29, a30, a31, a32, a33, a34, a35 => (bif (decide (a3 < Int.ofNat a0.length)) then (bif (decide (a3 < (9 : Int))) then (bif (decide ((0 : Int) ≤ a3) && decide (a3 < Int.ofNat a0.length) && true) then (optK ((hide linguistbook_Within_F (IntKind.i64.wrap (a0.getD a3.toNat (0 : Int))) (32 : Int) (126 : Int))) fun y5 => (optK ((hide linguistref7_Put_F a7 a8 a9 (0 : Int) a3 (IntKind.i32.wrap y5) a4 a5 a6)) fun y6 => (linguistlaw18_LowerPlain_L7 n a0 a1 a2 (IntKind.i64.wrap (a3 + (1 : Int))) a4 a5 a6 (y6.1) (y6.2.1) (y6.2.2) a10 a11 a12 a13 a14 a15 a16 a17 a18 a19 a20 a21 a22 a23 a24 a25 a26 a27 a28 a29 a30 a31 a32 a33 a34 a35))) else none) else (some (a1, a2, a7, a8, a9, a10, a11, a12, a13, a14, a15, a16, a17, a18, a19, a20, a21, a22, a23, a24, a25, a26, a27, a28, a29, a30, a31, a32, a33, a34, a35))) else (some (a1, a2, a7, a8, a9, a10, a11, a12, a13, a14, a15, a16, a17, a18, a19, a20, a21, a22, a23, a24, a25, a26, a27, a28, a29, a30, a31, a32, a33, a34, a35)))
noncomputable def linguistlaw18_LowerPlain_I7 {R : Type} (K : Ex → St → Option R) : Nat → St → Option R := iterN (exec (envL sums8 ll0 cs0 (fun _ _ => false)) 7 (acall (envL sums8 ll0 cs0 (fun _ _ => false)) 1000) 0 linguistlaw18_LowerPlain_c7) (normTo linguistlaw18_LowerPlain_s7 0) (exitK linguistlaw18_LowerPlain_xs7 0 K)
noncomputable def linguistlaw18_LowerPlain_m7 {R : Type} (K : Ex → St → Option R) (o : Option (Int × Int × Int × Int × (List (Int × Int × Int × Int × Int)) × Int × Int × Bool × Int × Int × Int × Int × Int × Int × Int × Int × Int × Bool × Bool × Bool × Bool × Bool × Int × Int × Int × Int × Int × Int × Int × Int × Bool)) : Option R := optK o fun y => K (.exit 0) (linguistlaw18_LowerPlain_x7_0.enc ((y.1, (y.2.1, ())), ((y.2.2.1, (y.2.2.2.1, (y.2.2.2.2.1, (y.2.2.2.2.2.1, (y.2.2.2.2.2.2.1, (y.2.2.2.2.2.2.2.1, (y.2.2.2.2.2.2.2.2.1, (y.2.2.2.2.2.2.2.2.2.1, (y.2.2.2.2.2.2.2.2.2.2.1, (y.2.2.2.2.2.2.2.2.2.2.2.1, (y.2.2.2.2.2.2.2.2.2.2.2.2.1, (y.2.2.2.2.2.2.2.2.2.2.2.2.2.1, (y.2.2.2.2.2.2.2.2.2.2.2.2.2.2.1, (y.2.2.2.2.2.2.2.2.2.2.2.2.2.2.2.1, (y.2.2.2.2.2.2.2.2.2.2.2.2.2.2.2.2.1, (y.2.2.2.2.2.2.2.2.2.2.2.2.2.2.2.2.2.1, (y.2.2.2.2.2.2.2.2.2.2.2.2.2.2.2.2.2.2.1, (y.2.2.2.2.2.2.2.2.2.2.2.2.2.2.2.2.2.2.2.1, (y.2.2.2.2.2.2.2.2.2.2.2.2.2.2.2.2.2.2.2.2.1, (y.2.2.2.2.2.2.2.2.2.2.2.2.2.2.2.2.2.2.2.2.2.1, (y.2.2.2.2.2.2.2.2.2.2.2.2.2.2.2.2.2.2.2.2.2.2.1, (y.2.2.2.2.2.2.2.2.2.2.2.2.2.2.2.2.2.2.2.2.2.2.2.1, (y.2.2.2.2.2.2.2.2.2.2.2.2.2.2.2.2.2.2.2.2.2.2.2.2.1, (y.2.2.2.2.2.2.2.2.2.2.2.2.2.2.2.2.2.2.2.2.2.2.2.2.2.1, (y.2.2.2.2.2.2.2.2.2.2.2.2.2.2.2.2.2.2.2.2.2.2.2.2.2.2.1, (y.2.2.2.2.2.2.2.2.2.2.2.2.2.2.2.2.2.2.2.2.2.2.2.2.2.2.2.1, (y.2.2.2.2.2.2.2.2.2.2.2.2.2.2.2.2.2.2.2.2.2.2.2.2.2.2.2.2.1, (y.2.2.2.2.2.2.2.2.2.2.2.2.2.2.2.2.2.2.2.2.2.2.2.2.2.2.2.2.2.1, (y.2.2.2.2.2.2.2.2.2.2.2.2.2.2.2.2.2.2.2.2.2.2.2.2.2.2.2.2.2.2, ()))))))))))))))))))))))))))))), ())))
theorem linguistlaw18_LowerPlain_l7 {R : Type} (K : Ex → St → Option R) : ∀ (n : Nat), ∀ (a0 : List (Int)) (a1 : Int) (a2 : Int) (a3 : Int) (a4 : Int) (a5 : Int) (a6 : Int) (a7 : Int) (a8 : Int) (a9 : List (Int × Int × Int × Int × Int)) (a10 : Int) (a11 : Int) (a12 : Bool) (a13 : Int) (a14 : Int) (a15 : Int) (a16 : Int) (a17 : Int) (a18 : Int) (a19 : Int) (a20 : Int) (a21 : Int) (a22 : Bool) (a23 : Bool) (a24 : Bool) (a25 : Bool) (a26 : Bool) (a27 : Int) (a28 : Int) (a29 : Int) (a30 : Int) (a31 : Int) (a32 : Int) (a33 : Int) (a34 : Int) (a35 : Bool), linguistlaw18_LowerPlain_I7 K n (linguistlaw18_LowerPlain_s7.enc ((a0, (a1, (a2, (a3, ())))), ((a4, (a5, (a6, ()))), ((a7, (a8, (a9, (a10, (a11, (a12, (a13, (a14, (a15, (a16, (a17, (a18, (a19, (a20, (a21, (a22, (a23, (a24, (a25, (a26, (a27, (a28, (a29, (a30, (a31, (a32, (a33, (a34, (a35, ()))))))))))))))))))))))))))))), ())))) = linguistlaw18_LowerPlain_m7 K (linguistlaw18_LowerPlain_L7 n a0 a1 a2 a3 a4 a5 a6 a7 a8 a9 a10 a11 a12 a13 a14 a15 a16 a17 a18 a19 a20 a21 a22 a23 a24 a25 a26 a27 a28 a29 a30 a31 a32 a33 a34 a35) := by
  intro n
  induction n with
  | zero => intros; rfl
  | succ n ih =>
    intro a0 a1 a2 a3 a4 a5 a6 a7 a8 a9 a10 a11 a12 a13 a14 a15 a16 a17 a18 a19 a20 a21 a22 a23 a24 a25 a26 a27 a28 a29 a30 a31 a32 a33 a34 a35
    rw [linguistlaw18_LowerPlain_L7]
    exact Eq.trans (by kernel_rfl) (cond_push (linguistlaw18_LowerPlain_m7 K) _ (cond_push (linguistlaw18_LowerPlain_m7 K) _ (cond_push (linguistlaw18_LowerPlain_m7 K) _ (optK_push (linguistlaw18_LowerPlain_m7 K) rfl _ fun y5 => (optK_push (linguistlaw18_LowerPlain_m7 K) rfl _ fun y6 => (ih a0 a1 a2 (IntKind.i64.wrap (a3 + (1 : Int))) a4 a5 a6 (y6.1) (y6.2.1) (y6.2.2) a10 a11 a12 a13 a14 a15 a16 a17 a18 a19 a20 a21 a22 a23 a24 a25 a26 a27 a28 a29 a30 a31 a32 a33 a34 a35))) rfl) rfl) rfl)
def linguistlaw18_LowerPlain_fu7 (a0 : List (Int)) (a1 : Int) (a2 : Int) (a3 : Int) (a4 : Int) (a5 : Int) (a6 : Int) (a7 : Int) (a8 : Int) (a9 : List (Int × Int × Int × Int × Int)) (a10 : Int) (a11 : Int) (a12 : Bool) (a13 : Int) (a14 : Int) (a15 : Int) (a16 : Int) (a17 : Int) (a18 : Int) (a19 : Int) (a20 : Int) (a21 : Int) (a22 : Bool) (a23 : Bool) (a24 : Bool) (a25 : Bool) (a26 : Bool) (a27 : Int) (a28 : Int) (a29 : Int) (a30 : Int) (a31 : Int) (a32 : Int) (a33 : Int) (a34 : Int) (a35 : Bool) : Nat := List.length a0 + Int.natAbs a1 + Int.natAbs a2 + Int.natAbs a3 + Int.natAbs a4 + Int.natAbs a5 + Int.natAbs a6 + Int.natAbs a7 + Int.natAbs a8 + List.length a9 + Int.natAbs a10 + Int.natAbs a11 + 0 + Int.natAbs a13 + Int.natAbs a14 + Int.natAbs a15 + Int.natAbs a16 + Int.natAbs a17 + Int.natAbs a18 + Int.natAbs a19 + Int.natAbs a20 + Int.natAbs a21 + 0 + 0 + 0 + 0 + 0 + Int.natAbs a27 + Int.natAbs a28 + Int.natAbs a29 + Int.natAbs a30 + Int.natAbs a31 + Int.natAbs a32 + Int.natAbs a33 + Int.natAbs a34 + 0 + 5000
noncomputable def linguistlaw18_LowerPlain_G7 : GoL linguistlaw18_LowerPlain_s7 := fun R (x : ((List (Int) × (Int × (Int × (Int × Unit)))) × ((Int × (Int × (Int × Unit))) × ((Int × (Int × (List (Int × Int × Int × Int × Int) × (Int × (Int × (Bool × (Int × (Int × (Int × (Int × (Int × (Int × (Int × (Int × (Int × (Bool × (Bool × (Bool × (Bool × (Bool × (Int × (Int × (Int × (Int × (Int × (Int × (Int × (Int × (Bool × Unit))))))))))))))))))))))))))))) × Unit)))) K => linguistlaw18_LowerPlain_m7 K (hide linguistlaw18_LowerPlain_L7 (linguistlaw18_LowerPlain_fu7 x.1.1 x.1.2.1 x.1.2.2.1 x.1.2.2.2.1 x.2.1.1 x.2.1.2.1 x.2.1.2.2.1 x.2.2.1.1 x.2.2.1.2.1 x.2.2.1.2.2.1 x.2.2.1.2.2.2.1 x.2.2.1.2.2.2.2.1 x.2.2.1.2.2.2.2.2.1 x.2.2.1.2.2.2.2.2.2.1 x.2.2.1.2.2.2.2.2.2.2.1 x.2.2.1.2.2.2.2.2.2.2.2.1 x.2.2.1.2.2.2.2.2.2.2.2.2.1 x.2.2.1.2.2.2.2.2.2.2.2.2.2.1 x.2.2.1.2.2.2.2.2.2.2.2.2.2.2.1 x.2.2.1.2.2.2.2.2.2.2.2.2.2.2.2.1 x.2.2.1.2.2.2.2.2.2.2.2.2.2.2.2.2.1 x.2.2.1.2.2.2.2.2.2.2.2.2.2.2.2.2.2.1 x.2.2.1.2.2.2.2.2.2.2.2.2.2.2.2.2.2.2.1 x.2.2.1.2.2.2.2.2.2.2.2.2.2.2.2.2.2.2.2.1 x.2.2.1.2.2.2.2.2.2.2.2.2.2.2.2.2.2.2.2.2.1 x.2.2.1.2.2.2.2.2.2.2.2.2.2.2.2.2.2.2.2.2.2.1 x.2.2.1.2.2.2.2.2.2.2.2.2.2.2.2.2.2.2.2.2.2.2.1 x.2.2.1.2.2.2.2.2.2.2.2.2.2.2.2.2.2.2.2.2.2.2.2.1 x.2.2.1.2.2.2.2.2.2.2.2.2.2.2.2.2.2.2.2.2.2.2.2.2.1 x.2.2.1.2.2.2.2.2.2.2.2.2.2.2.2.2.2.2.2.2.2.2.2.2.2.1 x.2.2.1.2.2.2.2.2.2.2.2.2.2.2.2.2.2.2.2.2.2.2.2.2.2.2.1 x.2.2.1.2.2.2.2.2.2.2.2.2.2.2.2.2.2.2.2.2.2.2.2.2.2.2.2.1 x.2.2.1.2.2.2.2.2.2.2.2.2.2.2.2.2.2.2.2.2.2.2.2.2.2.2.2.2.1 x.2.2.1.2.2.2.2.2.2.2.2.2.2.2.2.2.2.2.2.2.2.2.2.2.2.2.2.2.2.1 x.2.2.1.2.2.2.2.2.2.2.2.2.2.2.2.2.2.2.2.2.2.2.2.2.2.2.2.2.2.2.1 x.2.2.1.2.2.2.2.2.2.2.2.2.2.2.2.2.2.2.2.2.2.2.2.2.2.2.2.2.2.2.2.1) x.1.1 x.1.2.1 x.1.2.2.1 x.1.2.2.2.1 x.2.1.1 x.2.1.2.1 x.2.1.2.2.1 x.2.2.1.1 x.2.2.1.2.1 x.2.2.1.2.2.1 x.2.2.1.2.2.2.1 x.2.2.1.2.2.2.2.1 x.2.2.1.2.2.2.2.2.1 x.2.2.1.2.2.2.2.2.2.1 x.2.2.1.2.2.2.2.2.2.2.1 x.2.2.1.2.2.2.2.2.2.2.2.1 x.2.2.1.2.2.2.2.2.2.2.2.2.1 x.2.2.1.2.2.2.2.2.2.2.2.2.2.1 x.2.2.1.2.2.2.2.2.2.2.2.2.2.2.1 x.2.2.1.2.2.2.2.2.2.2.2.2.2.2.2.1 x.2.2.1.2.2.2.2.2.2.2.2.2.2.2.2.2.1 x.2.2.1.2.2.2.2.2.2.2.2.2.2.2.2.2.2.1 x.2.2.1.2.2.2.2.2.2.2.2.2.2.2.2.2.2.2.1 x.2.2.1.2.2.2.2.2.2.2.2.2.2.2.2.2.2.2.2.1 x.2.2.1.2.2.2.2.2.2.2.2.2.2.2.2.2.2.2.2.2.1 x.2.2.1.2.2.2.2.2.2.2.2.2.2.2.2.2.2.2.2.2.2.1 x.2.2.1.2.2.2.2.2.2.2.2.2.2.2.2.2.2.2.2.2.2.2.1 x.2.2.1.2.2.2.2.2.2.2.2.2.2.2.2.2.2.2.2.2.2.2.2.1 x.2.2.1.2.2.2.2.2.2.2.2.2.2.2.2.2.2.2.2.2.2.2.2.2.1 x.2.2.1.2.2.2.2.2.2.2.2.2.2.2.2.2.2.2.2.2.2.2.2.2.2.1 x.2.2.1.2.2.2.2.2.2.2.2.2.2.2.2.2.2.2.2.2.2.2.2.2.2.2.1 x.2.2.1.2.2.2.2.2.2.2.2.2.2.2.2.2.2.2.2.2.2.2.2.2.2.2.2.1 x.2.2.1.2.2.2.2.2.2.2.2.2.2.2.2.2.2.2.2.2.2.2.2.2.2.2.2.2.1 x.2.2.1.2.2.2.2.2.2.2.2.2.2.2.2.2.2.2.2.2.2.2.2.2.2.2.2.2.2.1 x.2.2.1.2.2.2.2.2.2.2.2.2.2.2.2.2.2.2.2.2.2.2.2.2.2.2.2.2.2.2.1 x.2.2.1.2.2.2.2.2.2.2.2.2.2.2.2.2.2.2.2.2.2.2.2.2.2.2.2.2.2.2.2.1)
theorem linguistlaw18_LowerPlain_H7 : LoopOk Try.prog 7 7 (loopH linguistlaw18_LowerPlain_s7 0 linguistlaw18_LowerPlain_G7) := loop_known (envL_ok sums8_ok ll0_ok cs0_ok) Try.func7 rfl linguistlaw18_LowerPlain_c7_is (xs := linguistlaw18_LowerPlain_xs7) (fuel := fun (x : ((List (Int) × (Int × (Int × (Int × Unit)))) × ((Int × (Int × (Int × Unit))) × ((Int × (Int × (List (Int × Int × Int × Int × Int) × (Int × (Int × (Bool × (Int × (Int × (Int × (Int × (Int × (Int × (Int × (Int × (Int × (Bool × (Bool × (Bool × (Bool × (Bool × (Int × (Int × (Int × (Int × (Int × (Int × (Int × (Int × (Bool × Unit))))))))))))))))))))))))))))) × Unit)))) => linguistlaw18_LowerPlain_fu7 x.1.1 x.1.2.1 x.1.2.2.1 x.1.2.2.2.1 x.2.1.1 x.2.1.2.1 x.2.1.2.2.1 x.2.2.1.1 x.2.2.1.2.1 x.2.2.1.2.2.1 x.2.2.1.2.2.2.1 x.2.2.1.2.2.2.2.1 x.2.2.1.2.2.2.2.2.1 x.2.2.1.2.2.2.2.2.2.1 x.2.2.1.2.2.2.2.2.2.2.1 x.2.2.1.2.2.2.2.2.2.2.2.1 x.2.2.1.2.2.2.2.2.2.2.2.2.1 x.2.2.1.2.2.2.2.2.2.2.2.2.2.1 x.2.2.1.2.2.2.2.2.2.2.2.2.2.2.1 x.2.2.1.2.2.2.2.2.2.2.2.2.2.2.2.1 x.2.2.1.2.2.2.2.2.2.2.2.2.2.2.2.2.1 x.2.2.1.2.2.2.2.2.2.2.2.2.2.2.2.2.2.1 x.2.2.1.2.2.2.2.2.2.2.2.2.2.2.2.2.2.2.1 x.2.2.1.2.2.2.2.2.2.2.2.2.2.2.2.2.2.2.2.1 x.2.2.1.2.2.2.2.2.2.2.2.2.2.2.2.2.2.2.2.2.1 x.2.2.1.2.2.2.2.2.2.2.2.2.2.2.2.2.2.2.2.2.2.1 x.2.2.1.2.2.2.2.2.2.2.2.2.2.2.2.2.2.2.2.2.2.2.1 x.2.2.1.2.2.2.2.2.2.2.2.2.2.2.2.2.2.2.2.2.2.2.2.1 x.2.2.1.2.2.2.2.2.2.2.2.2.2.2.2.2.2.2.2.2.2.2.2.2.1 x.2.2.1.2.2.2.2.2.2.2.2.2.2.2.2.2.2.2.2.2.2.2.2.2.2.1 x.2.2.1.2.2.2.2.2.2.2.2.2.2.2.2.2.2.2.2.2.2.2.2.2.2.2.1 x.2.2.1.2.2.2.2.2.2.2.2.2.2.2.2.2.2.2.2.2.2.2.2.2.2.2.2.1 x.2.2.1.2.2.2.2.2.2.2.2.2.2.2.2.2.2.2.2.2.2.2.2.2.2.2.2.2.1 x.2.2.1.2.2.2.2.2.2.2.2.2.2.2.2.2.2.2.2.2.2.2.2.2.2.2.2.2.2.1 x.2.2.1.2.2.2.2.2.2.2.2.2.2.2.2.2.2.2.2.2.2.2.2.2.2.2.2.2.2.2.1 x.2.2.1.2.2.2.2.2.2.2.2.2.2.2.2.2.2.2.2.2.2.2.2.2.2.2.2.2.2.2.2.1) fun R (x : ((List (Int) × (Int × (Int × (Int × Unit)))) × ((Int × (Int × (Int × Unit))) × ((Int × (Int × (List (Int × Int × Int × Int × Int) × (Int × (Int × (Bool × (Int × (Int × (Int × (Int × (Int × (Int × (Int × (Int × (Int × (Bool × (Bool × (Bool × (Bool × (Bool × (Int × (Int × (Int × (Int × (Int × (Int × (Int × (Int × (Bool × Unit))))))))))))))))))))))))))))) × Unit)))) K => by
  show linguistlaw18_LowerPlain_m7 K (hide linguistlaw18_LowerPlain_L7 (linguistlaw18_LowerPlain_fu7 x.1.1 x.1.2.1 x.1.2.2.1 x.1.2.2.2.1 x.2.1.1 x.2.1.2.1 x.2.1.2.2.1 x.2.2.1.1 x.2.2.1.2.1 x.2.2.1.2.2.1 x.2.2.1.2.2.2.1 x.2.2.1.2.2.2.2.1 x.2.2.1.2.2.2.2.2.1 x.2.2.1.2.2.2.2.2.2.1 x.2.2.1.2.2.2.2.2.2.2.1 x.2.2.1.2.2.2.2.2.2.2.2.1 x.2.2.1.2.2.2.2.2.2.2.2.2.1 x.2.2.1.2.2.2.2.2.2.2.2.2.2.1 x.2.2.1.2.2.2.2.2.2.2.2.2.2.2.1 x.2.2.1.2.2.2.2.2.2.2.2.2.2.2.2.1 x.2.2.1.2.2.2.2.2.2.2.2.2.2.2.2.2.1 x.2.2.1.2.2.2.2.2.2.2.2.2.2.2.2.2.2.1 x.2.2.1.2.2.2.2.2.2.2.2.2.2.2.2.2.2.2.1 x.2.2.1.2.2.2.2.2.2.2.2.2.2.2.2.2.2.2.2.1 x.2.2.1.2.2.2.2.2.2.2.2.2.2.2.2.2.2.2.2.2.1 x.2.2.1.2.2.2.2.2.2.2.2.2.2.2.2.2.2.2.2.2.2.1 x.2.2.1.2.2.2.2.2.2.2.2.2.2.2.2.2.2.2.2.2.2.2.1 x.2.2.1.2.2.2.2.2.2.2.2.2.2.2.2.2.2.2.2.2.2.2.2.1 x.2.2.1.2.2.2.2.2.2.2.2.2.2.2.2.2.2.2.2.2.2.2.2.2.1 x.2.2.1.2.2.2.2.2.2.2.2.2.2.2.2.2.2.2.2.2.2.2.2.2.2.1 x.2.2.1.2.2.2.2.2.2.2.2.2.2.2.2.2.2.2.2.2.2.2.2.2.2.2.1 x.2.2.1.2.2.2.2.2.2.2.2.2.2.2.2.2.2.2.2.2.2.2.2.2.2.2.2.1 x.2.2.1.2.2.2.2.2.2.2.2.2.2.2.2.2.2.2.2.2.2.2.2.2.2.2.2.2.1 x.2.2.1.2.2.2.2.2.2.2.2.2.2.2.2.2.2.2.2.2.2.2.2.2.2.2.2.2.2.1 x.2.2.1.2.2.2.2.2.2.2.2.2.2.2.2.2.2.2.2.2.2.2.2.2.2.2.2.2.2.2.1 x.2.2.1.2.2.2.2.2.2.2.2.2.2.2.2.2.2.2.2.2.2.2.2.2.2.2.2.2.2.2.2.1) x.1.1 x.1.2.1 x.1.2.2.1 x.1.2.2.2.1 x.2.1.1 x.2.1.2.1 x.2.1.2.2.1 x.2.2.1.1 x.2.2.1.2.1 x.2.2.1.2.2.1 x.2.2.1.2.2.2.1 x.2.2.1.2.2.2.2.1 x.2.2.1.2.2.2.2.2.1 x.2.2.1.2.2.2.2.2.2.1 x.2.2.1.2.2.2.2.2.2.2.1 x.2.2.1.2.2.2.2.2.2.2.2.1 x.2.2.1.2.2.2.2.2.2.2.2.2.1 x.2.2.1.2.2.2.2.2.2.2.2.2.2.1 x.2.2.1.2.2.2.2.2.2.2.2.2.2.2.1 x.2.2.1.2.2.2.2.2.2.2.2.2.2.2.2.1 x.2.2.1.2.2.2.2.2.2.2.2.2.2.2.2.2.1 x.2.2.1.2.2.2.2.2.2.2.2.2.2.2.2.2.2.1 x.2.2.1.2.2.2.2.2.2.2.2.2.2.2.2.2.2.2.1 x.2.2.1.2.2.2.2.2.2.2.2.2.2.2.2.2.2.2.2.1 x.2.2.1.2.2.2.2.2.2.2.2.2.2.2.2.2.2.2.2.2.1 x.2.2.1.2.2.2.2.2.2.2.2.2.2.2.2.2.2.2.2.2.2.1 x.2.2.1.2.2.2.2.2.2.2.2.2.2.2.2.2.2.2.2.2.2.2.1 x.2.2.1.2.2.2.2.2.2.2.2.2.2.2.2.2.2.2.2.2.2.2.2.1 x.2.2.1.2.2.2.2.2.2.2.2.2.2.2.2.2.2.2.2.2.2.2.2.2.1 x.2.2.1.2.2.2.2.2.2.2.2.2.2.2.2.2.2.2.2.2.2.2.2.2.2.1 x.2.2.1.2.2.2.2.2.2.2.2.2.2.2.2.2.2.2.2.2.2.2.2.2.2.2.1 x.2.2.1.2.2.2.2.2.2.2.2.2.2.2.2.2.2.2.2.2.2.2.2.2.2.2.2.1 x.2.2.1.2.2.2.2.2.2.2.2.2.2.2.2.2.2.2.2.2.2.2.2.2.2.2.2.2.1 x.2.2.1.2.2.2.2.2.2.2.2.2.2.2.2.2.2.2.2.2.2.2.2.2.2.2.2.2.2.1 x.2.2.1.2.2.2.2.2.2.2.2.2.2.2.2.2.2.2.2.2.2.2.2.2.2.2.2.2.2.2.1 x.2.2.1.2.2.2.2.2.2.2.2.2.2.2.2.2.2.2.2.2.2.2.2.2.2.2.2.2.2.2.2.1) = _
  rw [hide_eq]
  exact (linguistlaw18_LowerPlain_l7 K (linguistlaw18_LowerPlain_fu7 x.1.1 x.1.2.1 x.1.2.2.1 x.1.2.2.2.1 x.2.1.1 x.2.1.2.1 x.2.1.2.2.1 x.2.2.1.1 x.2.2.1.2.1 x.2.2.1.2.2.1 x.2.2.1.2.2.2.1 x.2.2.1.2.2.2.2.1 x.2.2.1.2.2.2.2.2.1 x.2.2.1.2.2.2.2.2.2.1 x.2.2.1.2.2.2.2.2.2.2.1 x.2.2.1.2.2.2.2.2.2.2.2.1 x.2.2.1.2.2.2.2.2.2.2.2.2.1 x.2.2.1.2.2.2.2.2.2.2.2.2.2.1 x.2.2.1.2.2.2.2.2.2.2.2.2.2.2.1 x.2.2.1.2.2.2.2.2.2.2.2.2.2.2.2.1 x.2.2.1.2.2.2.2.2.2.2.2.2.2.2.2.2.1 x.2.2.1.2.2.2.2.2.2.2.2.2.2.2.2.2.2.1 x.2.2.1.2.2.2.2.2.2.2.2.2.2.2.2.2.2.2.1 x.2.2.1.2.2.2.2.2.2.2.2.2.2.2.2.2.2.2.2.1 x.2.2.1.2.2.2.2.2.2.2.2.2.2.2.2.2.2.2.2.2.1 x.2.2.1.2.2.2.2.2.2.2.2.2.2.2.2.2.2.2.2.2.2.1 x.2.2.1.2.2.2.2.2.2.2.2.2.2.2.2.2.2.2.2.2.2.2.1 x.2.2.1.2.2.2.2.2.2.2.2.2.2.2.2.2.2.2.2.2.2.2.2.1 x.2.2.1.2.2.2.2.2.2.2.2.2.2.2.2.2.2.2.2.2.2.2.2.2.1 x.2.2.1.2.2.2.2.2.2.2.2.2.2.2.2.2.2.2.2.2.2.2.2.2.2.1 x.2.2.1.2.2.2.2.2.2.2.2.2.2.2.2.2.2.2.2.2.2.2.2.2.2.2.1 x.2.2.1.2.2.2.2.2.2.2.2.2.2.2.2.2.2.2.2.2.2.2.2.2.2.2.2.1 x.2.2.1.2.2.2.2.2.2.2.2.2.2.2.2.2.2.2.2.2.2.2.2.2.2.2.2.2.1 x.2.2.1.2.2.2.2.2.2.2.2.2.2.2.2.2.2.2.2.2.2.2.2.2.2.2.2.2.2.1 x.2.2.1.2.2.2.2.2.2.2.2.2.2.2.2.2.2.2.2.2.2.2.2.2.2.2.2.2.2.2.1 x.2.2.1.2.2.2.2.2.2.2.2.2.2.2.2.2.2.2.2.2.2.2.2.2.2.2.2.2.2.2.2.1) x.1.1 x.1.2.1 x.1.2.2.1 x.1.2.2.2.1 x.2.1.1 x.2.1.2.1 x.2.1.2.2.1 x.2.2.1.1 x.2.2.1.2.1 x.2.2.1.2.2.1 x.2.2.1.2.2.2.1 x.2.2.1.2.2.2.2.1 x.2.2.1.2.2.2.2.2.1 x.2.2.1.2.2.2.2.2.2.1 x.2.2.1.2.2.2.2.2.2.2.1 x.2.2.1.2.2.2.2.2.2.2.2.1 x.2.2.1.2.2.2.2.2.2.2.2.2.1 x.2.2.1.2.2.2.2.2.2.2.2.2.2.1 x.2.2.1.2.2.2.2.2.2.2.2.2.2.2.1 x.2.2.1.2.2.2.2.2.2.2.2.2.2.2.2.1 x.2.2.1.2.2.2.2.2.2.2.2.2.2.2.2.2.1 x.2.2.1.2.2.2.2.2.2.2.2.2.2.2.2.2.2.1 x.2.2.1.2.2.2.2.2.2.2.2.2.2.2.2.2.2.2.1 x.2.2.1.2.2.2.2.2.2.2.2.2.2.2.2.2.2.2.2.1 x.2.2.1.2.2.2.2.2.2.2.2.2.2.2.2.2.2.2.2.2.1 x.2.2.1.2.2.2.2.2.2.2.2.2.2.2.2.2.2.2.2.2.2.1 x.2.2.1.2.2.2.2.2.2.2.2.2.2.2.2.2.2.2.2.2.2.2.1 x.2.2.1.2.2.2.2.2.2.2.2.2.2.2.2.2.2.2.2.2.2.2.2.1 x.2.2.1.2.2.2.2.2.2.2.2.2.2.2.2.2.2.2.2.2.2.2.2.2.1 x.2.2.1.2.2.2.2.2.2.2.2.2.2.2.2.2.2.2.2.2.2.2.2.2.2.1 x.2.2.1.2.2.2.2.2.2.2.2.2.2.2.2.2.2.2.2.2.2.2.2.2.2.2.1 x.2.2.1.2.2.2.2.2.2.2.2.2.2.2.2.2.2.2.2.2.2.2.2.2.2.2.2.1 x.2.2.1.2.2.2.2.2.2.2.2.2.2.2.2.2.2.2.2.2.2.2.2.2.2.2.2.2.1 x.2.2.1.2.2.2.2.2.2.2.2.2.2.2.2.2.2.2.2.2.2.2.2.2.2.2.2.2.2.1 x.2.2.1.2.2.2.2.2.2.2.2.2.2.2.2.2.2.2.2.2.2.2.2.2.2.2.2.2.2.2.1 x.2.2.1.2.2.2.2.2.2.2.2.2.2.2.2.2.2.2.2.2.2.2.2.2.2.2.2.2.2.2.2.1).symm
noncomputable def linguistlaw18_LowerPlain_h7 : LoopF := loopH linguistlaw18_LowerPlain_s7 0 linguistlaw18_LowerPlain_G7
noncomputable def linguistlaw18_LowerPlain_ll1 : LoopT := ((7, 7), linguistlaw18_LowerPlain_h7) :: ll0
theorem linguistlaw18_LowerPlain_ll1_ok : AllLoop Try.prog linguistlaw18_LowerPlain_ll1 := ⟨linguistlaw18_LowerPlain_H7, ll0_ok⟩
noncomputable def linguistlaw18_LowerPlain_b5 : Code := ((Try.f7.body.map fun b => tailsAt b 5).getD []).headD .skip
theorem linguistlaw18_LowerPlain_b5_is : (Try.f7.body.map fun b => tailsAt b 5) = some [linguistlaw18_LowerPlain_b5] := by kernel_rfl
noncomputable def linguistlaw18_LowerPlain_t5 : SkSt := ⟨(.gap 1 (.cons (.list (.one (.int .u8))) (.gap 1 (.cons (.int .i64) (.gap 5 (.cons (.int .i64) (.cst (.ptr 0 0) (.gap 73 .nil)))))))), (.var 23 (.cons (.int .i64) (.cons (.int .i64) (.cons (.int .i64) .nil))) .nil)⟩
noncomputable def linguistlaw18_LowerPlain_y5_0 : SkSt := ⟨(.gap 8 (.cons .bool (.gap 75 .nil))), .nil⟩
noncomputable def linguistlaw18_LowerPlain_ys5 : List (Ex × SkSt) := [(.ret, linguistlaw18_LowerPlain_y5_0)]
noncomputable def linguistlaw18_LowerPlain_J5 (a0 : List (Int)) (a1 : Int) (a2 : Int) (a3 : Int) (a4 : Int) (a5 : Int) : Option (Bool) := (optK ((hide linguistref7_Full_F (2 : Int) (9 : Int))) fun y14 => (optK (hide linguistlaw18_LowerPlain_L7 (linguistlaw18_LowerPlain_fu7 a0 a1 a2 (0 : Int) a3 a4 a5 (y14.1) (y14.2.1) (y14.2.2.1) (y14.2.2.2.1) (y14.2.2.2.2.1) (y14.2.2.2.2.2.1) (y14.2.2.2.2.2.2.1) (y14.2.2.2.2.2.2.2.1) (y14.2.2.2.2.2.2.2.2.1) (y14.2.2.2.2.2.2.2.2.2.1) (y14.2.2.2.2.2.2.2.2.2.2.1) (y14.2.2.2.2.2.2.2.2.2.2.2.1) (y14.2.2.2.2.2.2.2.2.2.2.2.2.1) (y14.2.2.2.2.2.2.2.2.2.2.2.2.2.1) (y14.2.2.2.2.2.2.2.2.2.2.2.2.2.2.1) (y14.2.2.2.2.2.2.2.2.2.2.2.2.2.2.2.1) (y14.2.2.2.2.2.2.2.2.2.2.2.2.2.2.2.2.1) (y14.2.2.2.2.2.2.2.2.2.2.2.2.2.2.2.2.2.1) (y14.2.2.2.2.2.2.2.2.2.2.2.2.2.2.2.2.2.2.1) (y14.2.2.2.2.2.2.2.2.2.2.2.2.2.2.2.2.2.2.2.1) (y14.2.2.2.2.2.2.2.2.2.2.2.2.2.2.2.2.2.2.2.2.1) (y14.2.2.2.2.2.2.2.2.2.2.2.2.2.2.2.2.2.2.2.2.2.1) (y14.2.2.2.2.2.2.2.2.2.2.2.2.2.2.2.2.2.2.2.2.2.2.1) (y14.2.2.2.2.2.2.2.2.2.2.2.2.2.2.2.2.2.2.2.2.2.2.2.1) (y14.2.2.2.2.2.2.2.2.2.2.2.2.2.2.2.2.2.2.2.2.2.2.2.2.1) (y14.2.2.2.2.2.2.2.2.2.2.2.2.2.2.2.2.2.2.2.2.2.2.2.2.2.1) (y14.2.2.2.2.2.2.2.2.2.2.2.2.2.2.2.2.2.2.2.2.2.2.2.2.2.2.1) (y14.2.2.2.2.2.2.2.2.2.2.2.2.2.2.2.2.2.2.2.2.2.2.2.2.2.2.2.1) (y14.2.2.2.2.2.2.2.2.2.2.2.2.2.2.2.2.2.2.2.2.2.2.2.2.2.2.2.2)) a0 a1 a2 (0 : Int) a3 a4 a5 (y14.1) (y14.2.1) (y14.2.2.1) (y14.2.2.2.1) (y14.2.2.2.2.1) (y14.2.2.2.2.2.1) (y14.2.2.2.2.2.2.1) (y14.2.2.2.2.2.2.2.1) (y14.2.2.2.2.2.2.2.2.1) (y14.2.2.2.2.2.2.2.2.2.1) (y14.2.2.2.2.2.2.2.2.2.2.1) (y14.2.2.2.2.2.2.2.2.2.2.2.1) (y14.2.2.2.2.2.2.2.2.2.2.2.2.1) (y14.2.2.2.2.2.2.2.2.2.2.2.2.2.1) (y14.2.2.2.2.2.2.2.2.2.2.2.2.2.2.1) (y14.2.2.2.2.2.2.2.2.2.2.2.2.2.2.2.1) (y14.2.2.2.2.2.2.2.2.2.2.2.2.2.2.2.2.1) (y14.2.2.2.2.2.2.2.2.2.2.2.2.2.2.2.2.2.1) (y14.2.2.2.2.2.2.2.2.2.2.2.2.2.2.2.2.2.2.1) (y14.2.2.2.2.2.2.2.2.2.2.2.2.2.2.2.2.2.2.2.1) (y14.2.2.2.2.2.2.2.2.2.2.2.2.2.2.2.2.2.2.2.2.1) (y14.2.2.2.2.2.2.2.2.2.2.2.2.2.2.2.2.2.2.2.2.2.1) (y14.2.2.2.2.2.2.2.2.2.2.2.2.2.2.2.2.2.2.2.2.2.2.1) (y14.2.2.2.2.2.2.2.2.2.2.2.2.2.2.2.2.2.2.2.2.2.2.2.1) (y14.2.2.2.2.2.2.2.2.2.2.2.2.2.2.2.2.2.2.2.2.2.2.2.2.1) (y14.2.2.2.2.2.2.2.2.2.2.2.2.2.2.2.2.2.2.2.2.2.2.2.2.2.1) (y14.2.2.2.2.2.2.2.2.2.2.2.2.2.2.2.2.2.2.2.2.2.2.2.2.2.2.1) (y14.2.2.2.2.2.2.2.2.2.2.2.2.2.2.2.2.2.2.2.2.2.2.2.2.2.2.2.1) (y14.2.2.2.2.2.2.2.2.2.2.2.2.2.2.2.2.2.2.2.2.2.2.2.2.2.2.2.2)) fun y15 => (optK ((hide lower_View_F y15.2.1 y15.2.2.1 y15.2.2.2.1 y15.2.2.2.2.1 y15.2.2.2.2.2.1 y15.2.2.2.2.2.2.1 y15.2.2.2.2.2.2.2.1 y15.2.2.2.2.2.2.2.2.1 y15.2.2.2.2.2.2.2.2.2.1 y15.2.2.2.2.2.2.2.2.2.2.1 y15.2.2.2.2.2.2.2.2.2.2.2.1 y15.2.2.2.2.2.2.2.2.2.2.2.2.1 y15.2.2.2.2.2.2.2.2.2.2.2.2.2.1 y15.2.2.2.2.2.2.2.2.2.2.2.2.2.2.1 y15.2.2.2.2.2.2.2.2.2.2.2.2.2.2.2.1 y15.2.2.2.2.2.2.2.2.2.2.2.2.2.2.2.2.1 y15.2.2.2.2.2.2.2.2.2.2.2.2.2.2.2.2.2.1 y15.2.2.2.2.2.2.2.2.2.2.2.2.2.2.2.2.2.2.1 y15.2.2.2.2.2.2.2.2.2.2.2.2.2.2.2.2.2.2.2.1 y15.2.2.2.2.2.2.2.2.2.2.2.2.2.2.2.2.2.2.2.2.1 y15.2.2.2.2.2.2.2.2.2.2.2.2.2.2.2.2.2.2.2.2.2.1 y15.2.2.2.2.2.2.2.2.2.2.2.2.2.2.2.2.2.2.2.2.2.2.1 y15.2.2.2.2.2.2.2.2.2.2.2.2.2.2.2.2.2.2.2.2.2.2.2.1 y15.2.2.2.2.2.2.2.2.2.2.2.2.2.2.2.2.2.2.2.2.2.2.2.2.1 y15.2.2.2.2.2.2.2.2.2.2.2.2.2.2.2.2.2.2.2.2.2.2.2.2.2.1 y15.2.2.2.2.2.2.2.2.2.2.2.2.2.2.2.2.2.2.2.2.2.2.2.2.2.2.1 y15.2.2.2.2.2.2.2.2.2.2.2.2.2.2.2.2.2.2.2.2.2.2.2.2.2.2.2.1 y15.2.2.2.2.2.2.2.2.2.2.2.2.2.2.2.2.2.2.2.2.2.2.2.2.2.2.2.2.1 y15.2.2.2.2.2.2.2.2.2.2.2.2.2.2.2.2.2.2.2.2.2.2.2.2.2.2.2.2.2.1 y15.2.2.2.2.2.2.2.2.2.2.2.2.2.2.2.2.2.2.2.2.2.2.2.2.2.2.2.2.2.2)) fun y16 => (optK ((hide linguistbook_Within_F y15.1 (0 : Int) (1 : Int))) fun y17 => (optK ((hide linguistbook_Same_api_Cell_F y16.2.2.1 y15.2.2.2.2.1)) fun y18 => (bif y18 then (optK ((hide lower_View_F y15.2.1 y15.2.2.1 y15.2.2.2.1 y15.2.2.2.2.1 y15.2.2.2.2.2.1 y15.2.2.2.2.2.2.1 y15.2.2.2.2.2.2.2.1 y15.2.2.2.2.2.2.2.2.1 y15.2.2.2.2.2.2.2.2.2.1 y15.2.2.2.2.2.2.2.2.2.2.1 y15.2.2.2.2.2.2.2.2.2.2.2.1 y15.2.2.2.2.2.2.2.2.2.2.2.2.1 (0 : Int) y15.2.2.2.2.2.2.2.2.2.2.2.2.2.2.1 y15.2.2.2.2.2.2.2.2.2.2.2.2.2.2.2.1 y15.2.2.2.2.2.2.2.2.2.2.2.2.2.2.2.2.1 y15.2.2.2.2.2.2.2.2.2.2.2.2.2.2.2.2.2.1 y15.2.2.2.2.2.2.2.2.2.2.2.2.2.2.2.2.2.2.1 y15.2.2.2.2.2.2.2.2.2.2.2.2.2.2.2.2.2.2.2.1 true true y15.2.2.2.2.2.2.2.2.2.2.2.2.2.2.2.2.2.2.2.2.2.2.1 y15.2.2.2.2.2.2.2.2.2.2.2.2.2.2.2.2.2.2.2.2.2.2.2.1 y15.2.2.2.2.2.2.2.2.2.2.2.2.2.2.2.2.2.2.2.2.2.2.2.2.1 y15.2.2.2.2.2.2.2.2.2.2.2.2.2.2.2.2.2.2.2.2.2.2.2.2.2.1 y15.2.2.2.2.2.2.2.2.2.2.2.2.2.2.2.2.2.2.2.2.2.2.2.2.2.2.1 y15.2.2.2.2.2.2.2.2.2.2.2.2.2.2.2.2.2.2.2.2.2.2.2.2.2.2.2.1 y15.2.2.2.2.2.2.2.2.2.2.2.2.2.2.2.2.2.2.2.2.2.2.2.2.2.2.2.2.1 y15.2.2.2.2.2.2.2.2.2.2.2.2.2.2.2.2.2.2.2.2.2.2.2.2.2.2.2.2.2.1 y15.2.2.2.2.2.2.2.2.2.2.2.2.2.2.2.2.2.2.2.2.2.2.2.2.2.2.2.2.2.2)) fun y19 => (optK ((hide lower_Same_F y19.1 y19.2.1 y19.2.2.1 y19.2.2.2.1 y19.2.2.2.2.1 y19.2.2.2.2.2 y16.1 y16.2.1 y16.2.2.1 y16.2.2.2.1 y16.2.2.2.2.1 y16.2.2.2.2.2)) fun y20 => (bif y20 then (optK ((hide lower_View_F y15.2.1 y15.2.2.1 y15.2.2.2.1 y15.2.2.2.2.1 y17 y15.2.2.2.2.2.2.1 y15.2.2.2.2.2.2.2.1 y15.2.2.2.2.2.2.2.2.1 y15.2.2.2.2.2.2.2.2.2.1 y15.2.2.2.2.2.2.2.2.2.2.1 y15.2.2.2.2.2.2.2.2.2.2.2.1 y15.2.2.2.2.2.2.2.2.2.2.2.2.1 y15.2.2.2.2.2.2.2.2.2.2.2.2.2.1 y15.2.2.2.2.2.2.2.2.2.2.2.2.2.2.1 y15.2.2.2.2.2.2.2.2.2.2.2.2.2.2.2.1 y15.2.2.2.2.2.2.2.2.2.2.2.2.2.2.2.2.1 y15.2.2.2.2.2.2.2.2.2.2.2.2.2.2.2.2.2.1 y15.2.2.2.2.2.2.2.2.2.2.2.2.2.2.2.2.2.2.1 y15.2.2.2.2.2.2.2.2.2.2.2.2.2.2.2.2.2.2.2.1 y15.2.2.2.2.2.2.2.2.2.2.2.2.2.2.2.2.2.2.2.2.1 y15.2.2.2.2.2.2.2.2.2.2.2.2.2.2.2.2.2.2.2.2.2.1 y15.2.2.2.2.2.2.2.2.2.2.2.2.2.2.2.2.2.2.2.2.2.2.1 y15.2.2.2.2.2.2.2.2.2.2.2.2.2.2.2.2.2.2.2.2.2.2.2.1 y15.2.2.2.2.2.2.2.2.2.2.2.2.2.2.2.2.2.2.2.2.2.2.2.2.1 y15.2.2.2.2.2.2.2.2.2.2.2.2.2.2.2.2.2.2.2.2.2.2.2.2.2.1 y15.2.2.2.2.2.2.2.2.2.2.2.2.2.2.2.2.2.2.2.2.2.2.2.2.2.2.1 y15.2.2.2.2.2.2.2.2.2.2.2.2.2.2.2.2.2.2.2.2.2.2.2.2.2.2.2.1 y15.2.2.2.2.2.2.2.2.2.2.2.2.2.2.2.2.2.2.2.2.2.2.2.2.2.2.2.2.1 y15.2.2.2.2.2.2.2.2.2.2.2.2.2.2.2.2.2.2.2.2.2.2.2.2.2.2.2.2.2.1 y15.2.2.2.2.2.2.2.2.2.2.2.2.2.2.2.2.2.2.2.2.2.2.2.2.2.2.2.2.2.2)) fun y21 => (bif (y21.2.2.2.1 == y17) then (some (true)) else (some (false)))) else (some (false))))) else (some (false))))))))
noncomputable def linguistlaw18_LowerPlain_k5 {R : Type} (K : Ex → St → Option R) (o : Option (Bool)) : Option R := optK o fun y => K (.ret) (linguistlaw18_LowerPlain_y5_0.enc ((y, ()), ()))
theorem linguistlaw18_LowerPlain_j5 {R : Type} (K : Ex → St → Option R) (a0 : List (Int)) (a1 : Int) (a2 : Int) (a3 : Int) (a4 : Int) (a5 : Int) : exec (envL sums8 linguistlaw18_LowerPlain_ll1 cs0 (fun _ _ => false)) 7 (acall (envL sums8 linguistlaw18_LowerPlain_ll1 cs0 (fun _ _ => false)) 1000) 0 linguistlaw18_LowerPlain_b5 (linguistlaw18_LowerPlain_t5.enc ((a0, (a1, (a2, ()))), ((a3, (a4, (a5, ()))), ()))) (exitK linguistlaw18_LowerPlain_ys5 0 K) = linguistlaw18_LowerPlain_k5 K (linguistlaw18_LowerPlain_J5 a0 a1 a2 a3 a4 a5) := by
    unfold linguistlaw18_LowerPlain_J5
    exact Eq.trans (by kernel_rfl) (optK_push (linguistlaw18_LowerPlain_k5 K) rfl _ fun y14 => (optK_push (linguistlaw18_LowerPlain_k5 K) rfl _ fun y15 => (optK_push (linguistlaw18_LowerPlain_k5 K) rfl _ fun y16 => (optK_push (linguistlaw18_LowerPlain_k5 K) rfl _ fun y17 => (optK_push (linguistlaw18_LowerPlain_k5 K) rfl _ fun y18 => (cond_push (linguistlaw18_LowerPlain_k5 K) _ (optK_push (linguistlaw18_LowerPlain_k5 K) rfl _ fun y19 => (optK_push (linguistlaw18_LowerPlain_k5 K) rfl _ fun y20 => (cond_push (linguistlaw18_LowerPlain_k5 K) _ (optK_push (linguistlaw18_LowerPlain_k5 K) rfl _ fun y21 => (cond_push (linguistlaw18_LowerPlain_k5 K) _ rfl rfl)) rfl))) rfl))))))
noncomputable def linguistlaw18_LowerPlain_D5 : GoL linguistlaw18_LowerPlain_t5 := fun R (x : ((List (Int) × (Int × (Int × Unit))) × ((Int × (Int × (Int × Unit))) × Unit))) K => linguistlaw18_LowerPlain_k5 K (hide linguistlaw18_LowerPlain_J5 x.1.1 x.1.2.1 x.1.2.2.1 x.2.1.1 x.2.1.2.1 x.2.1.2.2.1)
theorem linguistlaw18_LowerPlain_C5 : CutOk Try.prog 7 5 (loopH linguistlaw18_LowerPlain_t5 0 linguistlaw18_LowerPlain_D5) := cut_known (envL_ok sums8_ok linguistlaw18_LowerPlain_ll1_ok cs0_ok) (N := 1000) Try.func7 rfl linguistlaw18_LowerPlain_b5_is (xs := linguistlaw18_LowerPlain_ys5) fun R (x : ((List (Int) × (Int × (Int × Unit))) × ((Int × (Int × (Int × Unit))) × Unit))) K => by
  show linguistlaw18_LowerPlain_k5 K (hide linguistlaw18_LowerPlain_J5 x.1.1 x.1.2.1 x.1.2.2.1 x.2.1.1 x.2.1.2.1 x.2.1.2.2.1) = _
  rw [hide_eq]
  exact (linguistlaw18_LowerPlain_j5 K x.1.1 x.1.2.1 x.1.2.2.1 x.2.1.1 x.2.1.2.1 x.2.1.2.2.1).symm
noncomputable def linguistlaw18_LowerPlain_d5 : LoopF := loopH linguistlaw18_LowerPlain_t5 0 linguistlaw18_LowerPlain_D5
noncomputable def linguistlaw18_LowerPlain_cs2 : LoopT := ((7, 5), linguistlaw18_LowerPlain_d5) :: cs0
theorem linguistlaw18_LowerPlain_cs2_ok : AllCut Try.prog linguistlaw18_LowerPlain_cs2 := ⟨linguistlaw18_LowerPlain_C5, cs0_ok⟩
noncomputable def linguistlaw18_LowerPlain_F (x0 : Int) (x1 : List (Int)) (x2 : Int) (x3 : Int) : Option (Bool) := (optK ((hide linguistbook_Within_F x0 (1 : Int) (3 : Int))) fun y0 => (bif (y0 != (3 : Int)) then (optK ((hide linguistbook_Within_F x2 (0 : Int) (255 : Int))) fun y1 => (optK (hide linguistlaw18_LowerPlain_J5 x1 x3 y0 ((-1 : Int)) ((-1 : Int)) (bitsOp BinOp.and IntKind.i64 y1 (57 : Int))) fun y22 => (some y22))) else (optK (hide linguistlaw18_LowerPlain_J5 x1 x3 y0 ((-1 : Int)) ((-1 : Int)) (0 : Int)) fun y23 => (some y23))))
noncomputable def linguistlaw18_LowerPlain_A : SkL := (.cons (.int .i64) (.cons (.list (.one (.int .u8))) (.cons (.int .i64) (.cons (.int .i64) .nil))))
noncomputable def linguistlaw18_LowerPlain_B : Sk := .bool
def linguistlaw18_LowerPlain_m {R : Type} (K : Bool → Option R) (o : Option (Bool)) : Option R := optK o fun y => K y
theorem linguistlaw18_LowerPlain_run {R : Type} (x0 : Int) (x1 : List (Int)) (x2 : Int) (x3 : Int) (K : Bool → Option R) : acall (envL sums8 linguistlaw18_LowerPlain_ll1 linguistlaw18_LowerPlain_cs2 (fun _ _ => false)) 1000 7 (linguistlaw18_LowerPlain_A.enc (x0, (x1, (x2, (x3, ()))))) [] (resK linguistlaw18_LowerPlain_B true K) = linguistlaw18_LowerPlain_m K (linguistlaw18_LowerPlain_F x0 x1 x2 x3) := by
  unfold linguistlaw18_LowerPlain_F
  exact Eq.trans (by kernel_rfl) (optK_push (linguistlaw18_LowerPlain_m K) rfl _ fun y0 => (cond_push (linguistlaw18_LowerPlain_m K) _ (optK_push (linguistlaw18_LowerPlain_m K) rfl _ fun y1 => (optK_push (linguistlaw18_LowerPlain_m K) rfl _ fun y22 => rfl)) (optK_push (linguistlaw18_LowerPlain_m K) rfl _ fun y23 => rfl)))
end Go.Proofs.YtlpmhldejeaefaaAbs

/- LowerPlain: what the law's own program computes is true. -/
namespace Go.Proofs.YtlpmhldejeaefaaAbs
set_option linter.unusedVariables false
set_option linter.unusedSimpArgs false
set_option maxHeartbeats 4000000
set_option maxRecDepth 100000
open Go Go.Proofs
theorem inRow_set {w : Nat} {l : List Cell} {h r c : Nat} (hl : l.length = h * w) (hr : r < h) (hc : c < w) (y : Cell) : inRow w l r (fun row => row.set c y) = l.set (r * w + c) y := by
  have hb := mul_bound (w := w) hr
  have hs := split3 l (r * w) w (by omega)
  have hA : (l.take (r * w)).length = r * w := by simp; omega
  have hM : ((l.drop (r * w)).take w).length = w := by simp; omega
  have k := set3 (A := l.take (r * w)) (R := (l.drop (r * w)).take w) (B := l.drop (r * w + w)) c y (by omega)
  rw [← hs, hA] at k
  exact k.symm
/-- Plain letters in a pen, or blanks. -/
def AS (p : Pen) (l : List Cell) : Prop := l.length = 18 ∧ ∀ i, i < 18 → (l.getD i dC).2.1 = 0 ∧ 32 ≤ (l.getD i dC).1 ∧ (l.getD i dC).1 ≤ 126 ∧ ((l.getD i dC).2.2 = p ∨ (l.getD i dC).2.2 = (-1, -1, 0))
theorem AS.rg {p : Pen} {l : List Cell} (k : AS p l) : RG 2 9 l := by
  refine ⟨k.1, fun r hr => right_singles fun x hx => ?_⟩
  obtain ⟨i, hi, e⟩ := List.getElem_of_mem hx
  have hl := rowOf_length (h := 2) (w := 9) k.1 hr
  rw [hl] at hi
  have e2 := rowOf_getD (w := 9) (l := l) (r := r) hi
  have e3 : (rowOf 9 l r).getD i dC = x := by rw [← e]; simp [show i < (rowOf 9 l r).length by omega]
  rw [← e3, e2]
  exact (k.2 (r * 9 + i) (by omega)).1
theorem AS_put {p : Pen} {l : List Cell} (k : AS p l) {x : Int} {c : Nat} (hc : c < 9) (h0 : 32 ≤ x) (h1 : x ≤ 126) : AS p (put 2 9 l 0 (Int.ofNat c) x p) := by
  have hw := width_ascii h0 h1
  have e : put 2 9 l 0 (Int.ofNat c) x p = l.set c (x, 0, p) := by
    unfold Go.Proofs.YtlpmhldejeaefaaAbs.put
    have hcI : (Int.ofNat c : Int) = (c : Int) := rfl
    rw [if_neg (by rw [hw, hcI]; omega)]
    have e1 : inRow 9 l (0 : Int).toNat (fun row => mend (putRow row (Int.ofNat c).toNat x p)) = inRow 9 l 0 (fun row => row.set c (x, 0, p)) := by
      refine inRow_congr ?_
      show mend (putRow (rowOf 9 l 0) c x p) = (rowOf 9 l 0).set c (x, 0, p)
      have e2 : putRow (rowOf 9 l 0) c x p = (rowOf 9 l 0).set c (x, 0, p) := by unfold putRow; rw [if_neg (by rw [hw]; decide)]
      rw [e2]
      refine mend_right (right_singles fun y hy => ?_)
      obtain ⟨i, hi, e⟩ := List.getElem_of_mem hy
      have hl := rowOf_length (h := 2) (w := 9) k.1 (show 0 < 2 by omega)
      rw [List.length_set, hl] at hi
      have e3 : ((rowOf 9 l 0).set c (x, 0, p)).getD i dC = y := by rw [← e]; simp [show i < (rowOf 9 l 0).length by omega]
      rw [← e3, getD_set]
      split
      · rfl
      · rw [rowOf_getD hi]; exact (k.2 (0 * 9 + i) (by omega)).1
    rw [e1, inRow_set (h := 2) k.1 (by omega) hc, Nat.zero_mul, Nat.zero_add]
  rw [e]
  refine ⟨by rw [List.length_set]; exact k.1, fun i hi => ?_⟩
  rw [getD_set]
  split
  · exact ⟨rfl, h0, h1, .inl rfl⟩
  · exact k.2 i hi
theorem plain_loop {p : Pen} {x1 d : Int} {text : List Int} (ht : ∀ y, y ∈ text → 0 ≤ y ∧ y < 256) {s : ST} (hr : s.1 = 2) (hc : s.2.1 = 9) : ∀ (n i : Nat) (l : List Cell), i ≤ 9 → 9 - i < n → AS p l →
    ∃ m, AS p m ∧ linguistlaw18_LowerPlain_L7 n text x1 d (Int.ofNat i) p.1 p.2.1 p.2.2 s.1 s.2.1 l s.2.2.2.1 s.2.2.2.2.1 s.2.2.2.2.2.1 s.2.2.2.2.2.2.1 s.2.2.2.2.2.2.2.1 s.2.2.2.2.2.2.2.2.1 s.2.2.2.2.2.2.2.2.2.1 s.2.2.2.2.2.2.2.2.2.2.1 s.2.2.2.2.2.2.2.2.2.2.2.1 s.2.2.2.2.2.2.2.2.2.2.2.2.1 s.2.2.2.2.2.2.2.2.2.2.2.2.2.1 s.2.2.2.2.2.2.2.2.2.2.2.2.2.2.1 s.2.2.2.2.2.2.2.2.2.2.2.2.2.2.2.1 s.2.2.2.2.2.2.2.2.2.2.2.2.2.2.2.2.1 s.2.2.2.2.2.2.2.2.2.2.2.2.2.2.2.2.2.1 s.2.2.2.2.2.2.2.2.2.2.2.2.2.2.2.2.2.2.1 s.2.2.2.2.2.2.2.2.2.2.2.2.2.2.2.2.2.2.2.1 s.2.2.2.2.2.2.2.2.2.2.2.2.2.2.2.2.2.2.2.2.1 s.2.2.2.2.2.2.2.2.2.2.2.2.2.2.2.2.2.2.2.2.2.1 s.2.2.2.2.2.2.2.2.2.2.2.2.2.2.2.2.2.2.2.2.2.2.1 s.2.2.2.2.2.2.2.2.2.2.2.2.2.2.2.2.2.2.2.2.2.2.2.1 s.2.2.2.2.2.2.2.2.2.2.2.2.2.2.2.2.2.2.2.2.2.2.2.2.1 s.2.2.2.2.2.2.2.2.2.2.2.2.2.2.2.2.2.2.2.2.2.2.2.2.2.1 s.2.2.2.2.2.2.2.2.2.2.2.2.2.2.2.2.2.2.2.2.2.2.2.2.2.2.1 s.2.2.2.2.2.2.2.2.2.2.2.2.2.2.2.2.2.2.2.2.2.2.2.2.2.2.2.1 s.2.2.2.2.2.2.2.2.2.2.2.2.2.2.2.2.2.2.2.2.2.2.2.2.2.2.2.2 = some (x1, d, s.1, s.2.1, m, s.2.2.2.1, s.2.2.2.2.1, s.2.2.2.2.2.1, s.2.2.2.2.2.2.1, s.2.2.2.2.2.2.2.1, s.2.2.2.2.2.2.2.2.1, s.2.2.2.2.2.2.2.2.2.1, s.2.2.2.2.2.2.2.2.2.2.1, s.2.2.2.2.2.2.2.2.2.2.2.1, s.2.2.2.2.2.2.2.2.2.2.2.2.1, s.2.2.2.2.2.2.2.2.2.2.2.2.2.1, s.2.2.2.2.2.2.2.2.2.2.2.2.2.2.1, s.2.2.2.2.2.2.2.2.2.2.2.2.2.2.2.1, s.2.2.2.2.2.2.2.2.2.2.2.2.2.2.2.2.1, s.2.2.2.2.2.2.2.2.2.2.2.2.2.2.2.2.2.1, s.2.2.2.2.2.2.2.2.2.2.2.2.2.2.2.2.2.2.1, s.2.2.2.2.2.2.2.2.2.2.2.2.2.2.2.2.2.2.2.1, s.2.2.2.2.2.2.2.2.2.2.2.2.2.2.2.2.2.2.2.2.1, s.2.2.2.2.2.2.2.2.2.2.2.2.2.2.2.2.2.2.2.2.2.1, s.2.2.2.2.2.2.2.2.2.2.2.2.2.2.2.2.2.2.2.2.2.2.1, s.2.2.2.2.2.2.2.2.2.2.2.2.2.2.2.2.2.2.2.2.2.2.2.1, s.2.2.2.2.2.2.2.2.2.2.2.2.2.2.2.2.2.2.2.2.2.2.2.2.1, s.2.2.2.2.2.2.2.2.2.2.2.2.2.2.2.2.2.2.2.2.2.2.2.2.2.1, s.2.2.2.2.2.2.2.2.2.2.2.2.2.2.2.2.2.2.2.2.2.2.2.2.2.2.1, s.2.2.2.2.2.2.2.2.2.2.2.2.2.2.2.2.2.2.2.2.2.2.2.2.2.2.2.1, s.2.2.2.2.2.2.2.2.2.2.2.2.2.2.2.2.2.2.2.2.2.2.2.2.2.2.2.2) := by
  intro n
  induction n with
  | zero => intro i l h1 h2; omega
  | succ n ih =>
    intro i l h1 h2 k
    rw [linguistlaw18_LowerPlain_L7, ofNat_lt]
    by_cases hi : i < text.length
    · rw [decide_eq_true hi]
      by_cases h9 : i < 9
      · have e9 : decide (Int.ofNat i < 9) = true := decide_eq_true (by show (i : Int) < 9; omega)
        have e0 : decide ((0 : Int) ≤ Int.ofNat i) = true := by simp
        have hy : text.getD i 0 ∈ text := by rw [List.getD_eq_getElem?_getD, List.getElem?_eq_getElem hi]; exact List.getElem_mem hi
        obtain ⟨y0, y1⟩ := ht _ hy
        obtain ⟨v, hv, v0, v1⟩ := within_eq (text.getD i 0) 32 126 (by omega) (by omega) (by omega) (by omega) (by omega)
        rw [e9, e0, toNat_ofNat', w64 (n := text.getD i 0) (by omega) (by omega), hv]
        simp only [cond_true, Bool.and_self, optK_s]
        rw [w32 (n := v) (by omega) (by omega), refPut_eq (h := 2) (w := 9) hr hc (by omega) (by omega) k.rg (by omega) (by omega) (by show -1000 ≤ (i : Int) ∧ (i : Int) ≤ 1000; omega), wrap_succ (by omega)]
        simp only [optK_s]
        exact ih (i + 1) _ (by omega) (by omega) (AS_put k h9 v0 v1)
      · have e9 : decide (Int.ofNat i < 9) = false := decide_eq_false (by show ¬ (i : Int) < 9; omega)
        rw [e9]
        exact ⟨l, k, rfl⟩
    · rw [decide_eq_false hi]
      exact ⟨l, k, rfl⟩
theorem AS.low {d : Int} {p : Pen} {l : List Cell} (k : AS p l) (hp : lowP d p = p) : l.map (lowX d) = l := by
  have h0 : lowP d (-1, -1, 0) = (-1, -1, 0) := by
    unfold lowP
    have e : bitsOp BinOp.and IntKind.i64 0 57 = 0 := by decide
    simp only [e, lowC_small (show (-1 : Int) ≤ -1 by decide) (by decide), ite_self]
  refine ext_getD dC (by simp) fun i hi => ?_
  rw [List.length_map] at hi
  have e1 : (l.map (lowX d)).getD i dC = lowX d (l.getD i dC) := by simp [hi]
  obtain ⟨a, b, c, q⟩ := k.2 i (by have := k.1; omega)
  rw [e1]
  generalize l.getD i dC = x at *
  obtain ⟨x1, x2, x3⟩ := x
  have a' : x2 = 0 := a
  subst a'
  have q' : lowP d x3 = x3 := by
    rcases q with q | q
    · have : x3 = p := q
      rw [this, hp]
    · have : x3 = (-1, -1, 0) := q
      rw [this, h0]
  show ((if (0 : Int) = 2 then 32 else lowR d x1), (0 : Int), lowP d x3) = (x1, 0, x3)
  rw [if_neg (by decide), lowR_ascii b c, q']
theorem full_ex : ∃ v : Int, hide linguistref7_Full_F 2 9 = some (2, 9, List.replicate 18 (32, 0, -1, -1, 0), 0, 0, false, 0, 1, -1, -1, 0, v, 66, 66, 0, true, false, true, false, false, 0, 0, -1, -1, 0, 66, 66, 0, false) := by
  have N := refNew_eq (h := 2) (w := 9) (by omega) (by omega) (-1) (-1) 0
  have N' : hide linguistref7_New_F 2 9 (-1) (-1) 0 = some (2, 9, List.replicate 18 (32, 0, -1, -1, 0)) := N
  have T : ∃ v, hide linguistref7_Tabs_F 9 = some v := by
    rw [hide_eq]; unfold linguistref7_Tabs_F
    rw [hide_eq]
    obtain ⟨f, hf⟩ : ∃ f, linguistref7_Tabs_fu3 9 0 8 = f + 3 := ⟨linguistref7_Tabs_fu3 9 0 8 - 3, by unfold linguistref7_Tabs_fu3; omega⟩
    rw [hf]
    exact ⟨_, rfl⟩
  obtain ⟨v, hv⟩ := T
  refine ⟨v, ?_⟩
  rw [hide_eq]; unfold linguistref7_Full_F
  rw [N', hv]
  rfl
theorem plain_5 {text : List Int} (ht : ∀ y, y ∈ text → 0 ≤ y ∧ y < 256) {x1 d : Int} {p : Pen} (h1 : in64 x1) (hp : rightPen p) (hl : lowP d p = p) : linguistlaw18_LowerPlain_J5 text x1 d p.1 p.2.1 p.2.2 = some true := by
  unfold linguistlaw18_LowerPlain_J5
  obtain ⟨v, hv⟩ := full_ex
  obtain ⟨s, hs⟩ : ∃ s : ST, s = (2, 9, List.replicate 18 (32, 0, -1, -1, 0), 0, 0, false, 0, 1, -1, -1, 0, v, 66, 66, 0, true, false, true, false, false, 0, 0, -1, -1, 0, 66, 66, 0, false) := ⟨_, rfl⟩
  rw [← hs] at hv
  have hr : s.1 = 2 := by rw [hs]
  have hc : s.2.1 = 9 := by rw [hs]
  have k0 : AS p s.2.2.1 := by
    have : s.2.2.1 = List.replicate 18 (32, 0, -1, -1, 0) := by rw [hs]
    rw [this]
    refine ⟨by simp, fun i hi => ?_⟩
    rw [getD_rep _ _ hi]
    exact ⟨rfl, by decide, by decide, .inr rfl⟩
  rw [hv]
  simp only [optK_s, hide_eq linguistlaw18_LowerPlain_L7]
  obtain ⟨m, k, L⟩ := plain_loop (p := p) (x1 := x1) (d := d) ht hr hc (linguistlaw18_LowerPlain_fu7 text x1 d 0 p.1 p.2.1 p.2.2 s.1 s.2.1 s.2.2.1 s.2.2.2.1 s.2.2.2.2.1 s.2.2.2.2.2.1 s.2.2.2.2.2.2.1 s.2.2.2.2.2.2.2.1 s.2.2.2.2.2.2.2.2.1 s.2.2.2.2.2.2.2.2.2.1 s.2.2.2.2.2.2.2.2.2.2.1 s.2.2.2.2.2.2.2.2.2.2.2.1 s.2.2.2.2.2.2.2.2.2.2.2.2.1 s.2.2.2.2.2.2.2.2.2.2.2.2.2.1 s.2.2.2.2.2.2.2.2.2.2.2.2.2.2.1 s.2.2.2.2.2.2.2.2.2.2.2.2.2.2.2.1 s.2.2.2.2.2.2.2.2.2.2.2.2.2.2.2.2.1 s.2.2.2.2.2.2.2.2.2.2.2.2.2.2.2.2.2.1 s.2.2.2.2.2.2.2.2.2.2.2.2.2.2.2.2.2.2.1 s.2.2.2.2.2.2.2.2.2.2.2.2.2.2.2.2.2.2.2.1 s.2.2.2.2.2.2.2.2.2.2.2.2.2.2.2.2.2.2.2.2.1 s.2.2.2.2.2.2.2.2.2.2.2.2.2.2.2.2.2.2.2.2.2.1 s.2.2.2.2.2.2.2.2.2.2.2.2.2.2.2.2.2.2.2.2.2.2.1 s.2.2.2.2.2.2.2.2.2.2.2.2.2.2.2.2.2.2.2.2.2.2.2.1 s.2.2.2.2.2.2.2.2.2.2.2.2.2.2.2.2.2.2.2.2.2.2.2.2.1 s.2.2.2.2.2.2.2.2.2.2.2.2.2.2.2.2.2.2.2.2.2.2.2.2.2.1 s.2.2.2.2.2.2.2.2.2.2.2.2.2.2.2.2.2.2.2.2.2.2.2.2.2.2.1 s.2.2.2.2.2.2.2.2.2.2.2.2.2.2.2.2.2.2.2.2.2.2.2.2.2.2.2.1 s.2.2.2.2.2.2.2.2.2.2.2.2.2.2.2.2.2.2.2.2.2.2.2.2.2.2.2.2) 0 s.2.2.1 (by omega) (Nat.lt_of_lt_of_le (show 9 < 5000 by decide) (Nat.le_add_left 5000 _)) k0
  have L' : linguistlaw18_LowerPlain_L7 (linguistlaw18_LowerPlain_fu7 text x1 d 0 p.1 p.2.1 p.2.2 s.1 s.2.1 s.2.2.1 s.2.2.2.1 s.2.2.2.2.1 s.2.2.2.2.2.1 s.2.2.2.2.2.2.1 s.2.2.2.2.2.2.2.1 s.2.2.2.2.2.2.2.2.1 s.2.2.2.2.2.2.2.2.2.1 s.2.2.2.2.2.2.2.2.2.2.1 s.2.2.2.2.2.2.2.2.2.2.2.1 s.2.2.2.2.2.2.2.2.2.2.2.2.1 s.2.2.2.2.2.2.2.2.2.2.2.2.2.1 s.2.2.2.2.2.2.2.2.2.2.2.2.2.2.1 s.2.2.2.2.2.2.2.2.2.2.2.2.2.2.2.1 s.2.2.2.2.2.2.2.2.2.2.2.2.2.2.2.2.1 s.2.2.2.2.2.2.2.2.2.2.2.2.2.2.2.2.2.1 s.2.2.2.2.2.2.2.2.2.2.2.2.2.2.2.2.2.2.1 s.2.2.2.2.2.2.2.2.2.2.2.2.2.2.2.2.2.2.2.1 s.2.2.2.2.2.2.2.2.2.2.2.2.2.2.2.2.2.2.2.2.1 s.2.2.2.2.2.2.2.2.2.2.2.2.2.2.2.2.2.2.2.2.2.1 s.2.2.2.2.2.2.2.2.2.2.2.2.2.2.2.2.2.2.2.2.2.2.1 s.2.2.2.2.2.2.2.2.2.2.2.2.2.2.2.2.2.2.2.2.2.2.2.1 s.2.2.2.2.2.2.2.2.2.2.2.2.2.2.2.2.2.2.2.2.2.2.2.2.1 s.2.2.2.2.2.2.2.2.2.2.2.2.2.2.2.2.2.2.2.2.2.2.2.2.2.1 s.2.2.2.2.2.2.2.2.2.2.2.2.2.2.2.2.2.2.2.2.2.2.2.2.2.2.1 s.2.2.2.2.2.2.2.2.2.2.2.2.2.2.2.2.2.2.2.2.2.2.2.2.2.2.2.1 s.2.2.2.2.2.2.2.2.2.2.2.2.2.2.2.2.2.2.2.2.2.2.2.2.2.2.2.2) text x1 d 0 p.1 p.2.1 p.2.2 s.1 s.2.1 s.2.2.1 s.2.2.2.1 s.2.2.2.2.1 s.2.2.2.2.2.1 s.2.2.2.2.2.2.1 s.2.2.2.2.2.2.2.1 s.2.2.2.2.2.2.2.2.1 s.2.2.2.2.2.2.2.2.2.1 s.2.2.2.2.2.2.2.2.2.2.1 s.2.2.2.2.2.2.2.2.2.2.2.1 s.2.2.2.2.2.2.2.2.2.2.2.2.1 s.2.2.2.2.2.2.2.2.2.2.2.2.2.1 s.2.2.2.2.2.2.2.2.2.2.2.2.2.2.1 s.2.2.2.2.2.2.2.2.2.2.2.2.2.2.2.1 s.2.2.2.2.2.2.2.2.2.2.2.2.2.2.2.2.1 s.2.2.2.2.2.2.2.2.2.2.2.2.2.2.2.2.2.1 s.2.2.2.2.2.2.2.2.2.2.2.2.2.2.2.2.2.2.1 s.2.2.2.2.2.2.2.2.2.2.2.2.2.2.2.2.2.2.2.1 s.2.2.2.2.2.2.2.2.2.2.2.2.2.2.2.2.2.2.2.2.1 s.2.2.2.2.2.2.2.2.2.2.2.2.2.2.2.2.2.2.2.2.2.1 s.2.2.2.2.2.2.2.2.2.2.2.2.2.2.2.2.2.2.2.2.2.2.1 s.2.2.2.2.2.2.2.2.2.2.2.2.2.2.2.2.2.2.2.2.2.2.2.1 s.2.2.2.2.2.2.2.2.2.2.2.2.2.2.2.2.2.2.2.2.2.2.2.2.1 s.2.2.2.2.2.2.2.2.2.2.2.2.2.2.2.2.2.2.2.2.2.2.2.2.2.1 s.2.2.2.2.2.2.2.2.2.2.2.2.2.2.2.2.2.2.2.2.2.2.2.2.2.2.1 s.2.2.2.2.2.2.2.2.2.2.2.2.2.2.2.2.2.2.2.2.2.2.2.2.2.2.2.1 s.2.2.2.2.2.2.2.2.2.2.2.2.2.2.2.2.2.2.2.2.2.2.2.2.2.2.2.2 = some (x1, d, s.1, s.2.1, m, s.2.2.2.1, s.2.2.2.2.1, s.2.2.2.2.2.1, s.2.2.2.2.2.2.1, s.2.2.2.2.2.2.2.1, s.2.2.2.2.2.2.2.2.1, s.2.2.2.2.2.2.2.2.2.1, s.2.2.2.2.2.2.2.2.2.2.1, s.2.2.2.2.2.2.2.2.2.2.2.1, s.2.2.2.2.2.2.2.2.2.2.2.2.1, s.2.2.2.2.2.2.2.2.2.2.2.2.2.1, s.2.2.2.2.2.2.2.2.2.2.2.2.2.2.1, s.2.2.2.2.2.2.2.2.2.2.2.2.2.2.2.1, s.2.2.2.2.2.2.2.2.2.2.2.2.2.2.2.2.1, s.2.2.2.2.2.2.2.2.2.2.2.2.2.2.2.2.2.1, s.2.2.2.2.2.2.2.2.2.2.2.2.2.2.2.2.2.2.1, s.2.2.2.2.2.2.2.2.2.2.2.2.2.2.2.2.2.2.2.1, s.2.2.2.2.2.2.2.2.2.2.2.2.2.2.2.2.2.2.2.2.1, s.2.2.2.2.2.2.2.2.2.2.2.2.2.2.2.2.2.2.2.2.2.1, s.2.2.2.2.2.2.2.2.2.2.2.2.2.2.2.2.2.2.2.2.2.2.1, s.2.2.2.2.2.2.2.2.2.2.2.2.2.2.2.2.2.2.2.2.2.2.2.1, s.2.2.2.2.2.2.2.2.2.2.2.2.2.2.2.2.2.2.2.2.2.2.2.2.1, s.2.2.2.2.2.2.2.2.2.2.2.2.2.2.2.2.2.2.2.2.2.2.2.2.2.1, s.2.2.2.2.2.2.2.2.2.2.2.2.2.2.2.2.2.2.2.2.2.2.2.2.2.2.1, s.2.2.2.2.2.2.2.2.2.2.2.2.2.2.2.2.2.2.2.2.2.2.2.2.2.2.2.1, s.2.2.2.2.2.2.2.2.2.2.2.2.2.2.2.2.2.2.2.2.2.2.2.2.2.2.2.2) := L
  rw [L']
  simp only [optK_s]
  obtain ⟨r, hrr, r0, r1⟩ := within_eq x1 0 1 h1.1 h1.2 (by omega) (by omega) (by omega)
  have pk : pensOk m := fun i hi => by
    rcases (k.2 i (by have := k.1; omega)).2.2.2 with q | q
    · rw [q]; exact hp
    · rw [q]; exact rightPen_plain
  have ml : m.length ≤ 4096 := by have := k.1; omega
  have V := fun (t : ST) (ht : t.2.2.1 = m) => view_E d (s := t) (by rw [ht]; exact pk) (by rw [ht]; exact ml)
  have V1 := V (s.1, s.2.1, m, s.2.2.2.1, s.2.2.2.2.1, s.2.2.2.2.2.1, s.2.2.2.2.2.2.1, s.2.2.2.2.2.2.2.1, s.2.2.2.2.2.2.2.2.1, s.2.2.2.2.2.2.2.2.2.1, s.2.2.2.2.2.2.2.2.2.2.1, s.2.2.2.2.2.2.2.2.2.2.2.1, s.2.2.2.2.2.2.2.2.2.2.2.2.1, s.2.2.2.2.2.2.2.2.2.2.2.2.2.1, s.2.2.2.2.2.2.2.2.2.2.2.2.2.2.1, s.2.2.2.2.2.2.2.2.2.2.2.2.2.2.2.1, s.2.2.2.2.2.2.2.2.2.2.2.2.2.2.2.2.1, s.2.2.2.2.2.2.2.2.2.2.2.2.2.2.2.2.2.1, s.2.2.2.2.2.2.2.2.2.2.2.2.2.2.2.2.2.2.1, s.2.2.2.2.2.2.2.2.2.2.2.2.2.2.2.2.2.2.2.1, s.2.2.2.2.2.2.2.2.2.2.2.2.2.2.2.2.2.2.2.2.1, s.2.2.2.2.2.2.2.2.2.2.2.2.2.2.2.2.2.2.2.2.2.1, s.2.2.2.2.2.2.2.2.2.2.2.2.2.2.2.2.2.2.2.2.2.2.1, s.2.2.2.2.2.2.2.2.2.2.2.2.2.2.2.2.2.2.2.2.2.2.2.1, s.2.2.2.2.2.2.2.2.2.2.2.2.2.2.2.2.2.2.2.2.2.2.2.2.1, s.2.2.2.2.2.2.2.2.2.2.2.2.2.2.2.2.2.2.2.2.2.2.2.2.2.1, s.2.2.2.2.2.2.2.2.2.2.2.2.2.2.2.2.2.2.2.2.2.2.2.2.2.2.1, s.2.2.2.2.2.2.2.2.2.2.2.2.2.2.2.2.2.2.2.2.2.2.2.2.2.2.2.1, s.2.2.2.2.2.2.2.2.2.2.2.2.2.2.2.2.2.2.2.2.2.2.2.2.2.2.2.2) rfl
  have V2 := V (s.1, s.2.1, m, s.2.2.2.1, s.2.2.2.2.1, s.2.2.2.2.2.1, s.2.2.2.2.2.2.1, s.2.2.2.2.2.2.2.1, s.2.2.2.2.2.2.2.2.1, s.2.2.2.2.2.2.2.2.2.1, s.2.2.2.2.2.2.2.2.2.2.1, 0, s.2.2.2.2.2.2.2.2.2.2.2.2.1, s.2.2.2.2.2.2.2.2.2.2.2.2.2.1, s.2.2.2.2.2.2.2.2.2.2.2.2.2.2.1, s.2.2.2.2.2.2.2.2.2.2.2.2.2.2.2.1, s.2.2.2.2.2.2.2.2.2.2.2.2.2.2.2.2.1, s.2.2.2.2.2.2.2.2.2.2.2.2.2.2.2.2.2.1, true, true, s.2.2.2.2.2.2.2.2.2.2.2.2.2.2.2.2.2.2.2.2.1, s.2.2.2.2.2.2.2.2.2.2.2.2.2.2.2.2.2.2.2.2.2.1, s.2.2.2.2.2.2.2.2.2.2.2.2.2.2.2.2.2.2.2.2.2.2.1, s.2.2.2.2.2.2.2.2.2.2.2.2.2.2.2.2.2.2.2.2.2.2.2.1, s.2.2.2.2.2.2.2.2.2.2.2.2.2.2.2.2.2.2.2.2.2.2.2.2.1, s.2.2.2.2.2.2.2.2.2.2.2.2.2.2.2.2.2.2.2.2.2.2.2.2.2.1, s.2.2.2.2.2.2.2.2.2.2.2.2.2.2.2.2.2.2.2.2.2.2.2.2.2.2.1, s.2.2.2.2.2.2.2.2.2.2.2.2.2.2.2.2.2.2.2.2.2.2.2.2.2.2.2.1, s.2.2.2.2.2.2.2.2.2.2.2.2.2.2.2.2.2.2.2.2.2.2.2.2.2.2.2.2) rfl
  have V3 := V (s.1, s.2.1, m, r, s.2.2.2.2.1, s.2.2.2.2.2.1, s.2.2.2.2.2.2.1, s.2.2.2.2.2.2.2.1, s.2.2.2.2.2.2.2.2.1, s.2.2.2.2.2.2.2.2.2.1, s.2.2.2.2.2.2.2.2.2.2.1, s.2.2.2.2.2.2.2.2.2.2.2.1, s.2.2.2.2.2.2.2.2.2.2.2.2.1, s.2.2.2.2.2.2.2.2.2.2.2.2.2.1, s.2.2.2.2.2.2.2.2.2.2.2.2.2.2.1, s.2.2.2.2.2.2.2.2.2.2.2.2.2.2.2.1, s.2.2.2.2.2.2.2.2.2.2.2.2.2.2.2.2.1, s.2.2.2.2.2.2.2.2.2.2.2.2.2.2.2.2.2.1, s.2.2.2.2.2.2.2.2.2.2.2.2.2.2.2.2.2.2.1, s.2.2.2.2.2.2.2.2.2.2.2.2.2.2.2.2.2.2.2.1, s.2.2.2.2.2.2.2.2.2.2.2.2.2.2.2.2.2.2.2.2.1, s.2.2.2.2.2.2.2.2.2.2.2.2.2.2.2.2.2.2.2.2.2.1, s.2.2.2.2.2.2.2.2.2.2.2.2.2.2.2.2.2.2.2.2.2.2.1, s.2.2.2.2.2.2.2.2.2.2.2.2.2.2.2.2.2.2.2.2.2.2.2.1, s.2.2.2.2.2.2.2.2.2.2.2.2.2.2.2.2.2.2.2.2.2.2.2.2.1, s.2.2.2.2.2.2.2.2.2.2.2.2.2.2.2.2.2.2.2.2.2.2.2.2.2.1, s.2.2.2.2.2.2.2.2.2.2.2.2.2.2.2.2.2.2.2.2.2.2.2.2.2.2.1, s.2.2.2.2.2.2.2.2.2.2.2.2.2.2.2.2.2.2.2.2.2.2.2.2.2.2.2.1, s.2.2.2.2.2.2.2.2.2.2.2.2.2.2.2.2.2.2.2.2.2.2.2.2.2.2.2.2) rfl
  have lm := k.low hl
  have w1 : viewS d (s.1, s.2.1, m, s.2.2.2.1, s.2.2.2.2.1, s.2.2.2.2.2.1, s.2.2.2.2.2.2.1, s.2.2.2.2.2.2.2.1, s.2.2.2.2.2.2.2.2.1, s.2.2.2.2.2.2.2.2.2.1, s.2.2.2.2.2.2.2.2.2.2.1, s.2.2.2.2.2.2.2.2.2.2.2.1, s.2.2.2.2.2.2.2.2.2.2.2.2.1, s.2.2.2.2.2.2.2.2.2.2.2.2.2.1, s.2.2.2.2.2.2.2.2.2.2.2.2.2.2.1, s.2.2.2.2.2.2.2.2.2.2.2.2.2.2.2.1, s.2.2.2.2.2.2.2.2.2.2.2.2.2.2.2.2.1, s.2.2.2.2.2.2.2.2.2.2.2.2.2.2.2.2.2.1, s.2.2.2.2.2.2.2.2.2.2.2.2.2.2.2.2.2.2.1, s.2.2.2.2.2.2.2.2.2.2.2.2.2.2.2.2.2.2.2.1, s.2.2.2.2.2.2.2.2.2.2.2.2.2.2.2.2.2.2.2.2.1, s.2.2.2.2.2.2.2.2.2.2.2.2.2.2.2.2.2.2.2.2.2.1, s.2.2.2.2.2.2.2.2.2.2.2.2.2.2.2.2.2.2.2.2.2.2.1, s.2.2.2.2.2.2.2.2.2.2.2.2.2.2.2.2.2.2.2.2.2.2.2.1, s.2.2.2.2.2.2.2.2.2.2.2.2.2.2.2.2.2.2.2.2.2.2.2.2.1, s.2.2.2.2.2.2.2.2.2.2.2.2.2.2.2.2.2.2.2.2.2.2.2.2.2.1, s.2.2.2.2.2.2.2.2.2.2.2.2.2.2.2.2.2.2.2.2.2.2.2.2.2.2.1, s.2.2.2.2.2.2.2.2.2.2.2.2.2.2.2.2.2.2.2.2.2.2.2.2.2.2.2.1, s.2.2.2.2.2.2.2.2.2.2.2.2.2.2.2.2.2.2.2.2.2.2.2.2.2.2.2.2) = (s.1, s.2.1, m, s.2.2.2.1, s.2.2.2.2.1, s.2.2.2.2.2.2.2.2.2.2.2.2.2.2.2.2.2.1 || (d != 2)) := by
    show (s.1, s.2.1, m.map (lowX d), s.2.2.2.1, s.2.2.2.2.1, s.2.2.2.2.2.2.2.2.2.2.2.2.2.2.2.2.2.1 || (d != 2)) = _
    rw [lm]
  have w2 : viewS d (s.1, s.2.1, m, s.2.2.2.1, s.2.2.2.2.1, s.2.2.2.2.2.1, s.2.2.2.2.2.2.1, s.2.2.2.2.2.2.2.1, s.2.2.2.2.2.2.2.2.1, s.2.2.2.2.2.2.2.2.2.1, s.2.2.2.2.2.2.2.2.2.2.1, 0, s.2.2.2.2.2.2.2.2.2.2.2.2.1, s.2.2.2.2.2.2.2.2.2.2.2.2.2.1, s.2.2.2.2.2.2.2.2.2.2.2.2.2.2.1, s.2.2.2.2.2.2.2.2.2.2.2.2.2.2.2.1, s.2.2.2.2.2.2.2.2.2.2.2.2.2.2.2.2.1, s.2.2.2.2.2.2.2.2.2.2.2.2.2.2.2.2.2.1, true, true, s.2.2.2.2.2.2.2.2.2.2.2.2.2.2.2.2.2.2.2.2.1, s.2.2.2.2.2.2.2.2.2.2.2.2.2.2.2.2.2.2.2.2.2.1, s.2.2.2.2.2.2.2.2.2.2.2.2.2.2.2.2.2.2.2.2.2.2.1, s.2.2.2.2.2.2.2.2.2.2.2.2.2.2.2.2.2.2.2.2.2.2.2.1, s.2.2.2.2.2.2.2.2.2.2.2.2.2.2.2.2.2.2.2.2.2.2.2.2.1, s.2.2.2.2.2.2.2.2.2.2.2.2.2.2.2.2.2.2.2.2.2.2.2.2.2.1, s.2.2.2.2.2.2.2.2.2.2.2.2.2.2.2.2.2.2.2.2.2.2.2.2.2.2.1, s.2.2.2.2.2.2.2.2.2.2.2.2.2.2.2.2.2.2.2.2.2.2.2.2.2.2.2.1, s.2.2.2.2.2.2.2.2.2.2.2.2.2.2.2.2.2.2.2.2.2.2.2.2.2.2.2.2) = (s.1, s.2.1, m, s.2.2.2.1, s.2.2.2.2.1, s.2.2.2.2.2.2.2.2.2.2.2.2.2.2.2.2.2.1 || (d != 2)) := by
    show (s.1, s.2.1, m.map (lowX d), s.2.2.2.1, s.2.2.2.2.1, s.2.2.2.2.2.2.2.2.2.2.2.2.2.2.2.2.2.1 || (d != 2)) = _
    rw [lm]
  have w3 : viewS d (s.1, s.2.1, m, r, s.2.2.2.2.1, s.2.2.2.2.2.1, s.2.2.2.2.2.2.1, s.2.2.2.2.2.2.2.1, s.2.2.2.2.2.2.2.2.1, s.2.2.2.2.2.2.2.2.2.1, s.2.2.2.2.2.2.2.2.2.2.1, s.2.2.2.2.2.2.2.2.2.2.2.1, s.2.2.2.2.2.2.2.2.2.2.2.2.1, s.2.2.2.2.2.2.2.2.2.2.2.2.2.1, s.2.2.2.2.2.2.2.2.2.2.2.2.2.2.1, s.2.2.2.2.2.2.2.2.2.2.2.2.2.2.2.1, s.2.2.2.2.2.2.2.2.2.2.2.2.2.2.2.2.1, s.2.2.2.2.2.2.2.2.2.2.2.2.2.2.2.2.2.1, s.2.2.2.2.2.2.2.2.2.2.2.2.2.2.2.2.2.2.1, s.2.2.2.2.2.2.2.2.2.2.2.2.2.2.2.2.2.2.2.1, s.2.2.2.2.2.2.2.2.2.2.2.2.2.2.2.2.2.2.2.2.1, s.2.2.2.2.2.2.2.2.2.2.2.2.2.2.2.2.2.2.2.2.2.1, s.2.2.2.2.2.2.2.2.2.2.2.2.2.2.2.2.2.2.2.2.2.2.1, s.2.2.2.2.2.2.2.2.2.2.2.2.2.2.2.2.2.2.2.2.2.2.2.1, s.2.2.2.2.2.2.2.2.2.2.2.2.2.2.2.2.2.2.2.2.2.2.2.2.1, s.2.2.2.2.2.2.2.2.2.2.2.2.2.2.2.2.2.2.2.2.2.2.2.2.2.1, s.2.2.2.2.2.2.2.2.2.2.2.2.2.2.2.2.2.2.2.2.2.2.2.2.2.2.1, s.2.2.2.2.2.2.2.2.2.2.2.2.2.2.2.2.2.2.2.2.2.2.2.2.2.2.2.1, s.2.2.2.2.2.2.2.2.2.2.2.2.2.2.2.2.2.2.2.2.2.2.2.2.2.2.2.2) = (s.1, s.2.1, m, r, s.2.2.2.2.1, s.2.2.2.2.2.2.2.2.2.2.2.2.2.2.2.2.2.1 || (d != 2)) := by
    show (s.1, s.2.1, m.map (lowX d), r, s.2.2.2.2.1, s.2.2.2.2.2.2.2.2.2.2.2.2.2.2.2.2.2.1 || (d != 2)) = _
    rw [lm]
  rw [w1] at V1
  rw [w2] at V2
  rw [w3] at V3
  have A : hide lower_Same_F s.1 s.2.1 m s.2.2.2.1 s.2.2.2.2.1 (s.2.2.2.2.2.2.2.2.2.2.2.2.2.2.2.2.2.1 || (d != 2)) s.1 s.2.1 m s.2.2.2.1 s.2.2.2.2.1 (s.2.2.2.2.2.2.2.2.2.2.2.2.2.2.2.2.2.1 || (d != 2)) = some true := by
    rw [hide_eq]; unfold lower_Same_F
    rw [apart_eq rfl rfl rfl ml, diff_self]
    simp [optK_s]
  have B := bookSame_eq m m (by omega)
  simp only [decide_true] at B
  have step : ∀ (o : Option VT) (K : VT → Option Bool), o = some (s.1, s.2.1, m, s.2.2.2.1, s.2.2.2.2.1, s.2.2.2.2.2.2.2.2.2.2.2.2.2.2.2.2.2.1 || (d != 2)) → K (s.1, s.2.1, m, s.2.2.2.1, s.2.2.2.2.1, s.2.2.2.2.2.2.2.2.2.2.2.2.2.2.2.2.2.1 || (d != 2)) = some true → optK o K = some true := fun o K a b => by rw [a]; exact b
  refine step _ _ V1 ?_
  dsimp only
  rw [hrr]
  simp only [optK_s]
  rw [B]
  simp only [optK_s, cond_true]
  refine step _ _ V2 ?_
  dsimp only
  rw [A]
  simp only [optK_s, cond_true]
  have V3' := congrArg (fun o : Option VT => optK o (fun y => bif y.2.2.2.1 == r then some true else some false)) V3
  refine V3'.trans ?_
  simp [optK_s]
theorem lowerPlain_true (x0 : Int) (x1 : List Int) (x2 x3 : Int) (i0 : in64 x0) (i1 : ∀ y, y ∈ x1 → 0 ≤ y ∧ y < 256) (i2 : in64 x2) (i3 : in64 x3) : linguistlaw18_LowerPlain_F x0 x1 x2 x3 = some true := by
  unfold linguistlaw18_LowerPlain_F
  obtain ⟨d, hd, d0, d1⟩ := within_eq x0 1 3 i0.1 i0.2 (by omega) (by omega) (by omega)
  obtain ⟨f, hf, f0, f1⟩ := within_eq x2 0 255 i2.1 i2.2 (by omega) (by omega) (by omega)
  rw [hd]
  simp only [optK_s, hide_eq linguistlaw18_LowerPlain_J5]
  by_cases h3 : d = 3
  · subst h3
    have J := plain_5 (d := 3) (p := (-1, -1, 0)) i1 i3 rightPen_plain (by unfold lowP; rw [if_neg (by decide), if_neg (by decide)])
    rw [show ((3 : Int) != 3) = false from rfl]
    simp only [cond_false]
    rw [J]; rfl
  · rw [show (d != 3) = true by rw [bne_iff_ne]; exact h3, hf]
    simp only [cond_true, optK_s]
    obtain ⟨g, e, hg, e2⟩ := and57_ex f0 f1
    rw [e]
    have J := plain_5 (d := d) (p := (-1, -1, (g : Int))) i1 i3 ⟨rightPen_plain.1, rightPen_plain.2.1, by show (0 : Int) ≤ (g : Int); omega, by show (g : Int) ≤ 255; omega⟩ (by
      unfold lowP
      by_cases h2 : d = 2
      · rw [if_pos h2]
        show (lowC (-1), lowC (-1), bitsOp BinOp.and IntKind.i64 (g : Int) 57) = _
        rw [lowC_small (x := -1) (by decide) (by decide), e2]
      · rw [if_neg h2, if_pos (by omega)]
        show (-1, -1, bitsOp BinOp.and IntKind.i64 (g : Int) 57) = _
        rw [e2])
    rw [J]; rfl
end Go.Proofs.YtlpmhldejeaefaaAbs

/- LowerPlain, called. -/
namespace Go.Proofs.YtlpmhldejeaefaaAbs
set_option linter.unusedVariables false
set_option maxRecDepth 100000
open Go Go.Proofs Go.RowKit
theorem lowerPlain_run (x0 : Int) (x1 : List (Int)) (x2 : Int) (x3 : Int) (w0 : (Lit.int .i64 x0).wf = true) (w1 : (List.length (α := Int) x1 ≤ 9223372036854775807 ∧ ∀ y : Int, List.Mem y x1 → ((Lit.int .u8 y).wf = true))) (w2 : (Lit.int .i64 x2).wf = true) (w3 : (Lit.int .i64 x3).wf = true) :
    acall (R := Bool) (envL sums8 linguistlaw18_LowerPlain_ll1 linguistlaw18_LowerPlain_cs2 (fun _ _ => false)) 1000 7 [.int .i64 x0, .list (.one (.int .u8)) x1 false, .int .i64 x2, .int .i64 x3] [] (resK .bool true (fun b => some b)) = some true := by
  have h := linguistlaw18_LowerPlain_run x0 x1 x2 x3 (fun b => some b)
  rw [lowerPlain_true x0 x1 x2 x3 (wf_in64 w0) (fun y hy => wf_inu8 (w1.2 y hy)) (wf_in64 w2) (wf_in64 w3)] at h
  exact h
end Go.Proofs.YtlpmhldejeaefaaAbs

/- Whatever reads as data is what the interpreter takes: rows of letters as arguments. -/
namespace Go.Proofs.YtlpmhldejeaefaaAbs
set_option linter.unusedVariables false
open Go Go.Proofs Go.RowKit Go.ChangeShapes Go.WideShapes Go.Deep
abbrev gd (w : World) : Nat → Prop := fun B => B < w.heap.size
def OpC (P : Program) (w : World) (c : CTy) (t : TypeId) (WF : c.den → Prop) : Prop :=
  ∀ {H : Type} {enc : TypeId × Value → H} {spare : Nat → Bool} {held : Bool} {fuel : Nat} {cs : List Value} {x : DataW H × List MemPlace}, DataW.trod enc P w 0 spare held fuel t cs = some x → ∃ (a : c.den) (v : Value), cs = [v] ∧ c.rep w (gd w) a v ∧ WF a
def OpR (P : Program) (w : World) (r : Row) (t : TypeId) (WF : r.den → Prop) : Prop :=
  ∀ {H : Type} {enc : TypeId × Value → H} {spare : Nat → Bool} {held : Bool} {fuel : Nat} {cs : List Value} {x : DataW H × List MemPlace}, DataW.trod enc P w 0 spare held fuel t cs = some x → ∃ a : r.den, r.rep w (gd w) a cs ∧ WF a
section
variable {P : Program} {w : World} {t e : TypeId}
theorem OpC.int {k : IntKind} (ht : P.underlying t = some (.int k)) : OpC P w (.int k) t (fun a => (Lit.int k a).wf = true) := by
  intro H enc spare held fuel cs x h
  obtain ⟨a, rfl, _, hw⟩ := DataW.trod_int ht h
  refine ⟨a, _, rfl, ⟨rfl, ?_⟩, hw⟩
  cases k <;> first | rfl | (simp [Lit.wf, IntKind.min, IntKind.max, IntKind.bits, IntKind.signed] at hw; simp [u8ok, kindEq]; omega)
theorem OpC.bool (ht : P.underlying t = some .bool) : OpC P w .bool t (fun _ => True) := by
  intro H enc spare held fuel cs x h
  obtain ⟨a, rfl, _⟩ := DataW.trod_bool ht h
  exact ⟨a, _, rfl, rfl, trivial⟩
theorem OpC.str (ht : P.underlying t = some .string) : OpC P w .str t (fun s => ∃ b : ByteArray, bytesOf b = s ∧ b.size ≤ 9223372036854775807) := by
  intro H enc spare held fuel cs x h
  obtain ⟨a, rfl, _, hl⟩ := DataW.trod_string ht h
  refine ⟨bytesOf a, _, rfl, ⟨a, rfl, rfl⟩, a, rfl, ?_⟩
  unfold maxLen at hl
  omega
theorem cells_eq {a : Addr} {n : Nat} {cs : List Value} {c : Array Value} (h : w.cells? 0 a n = some cs) (hb : ∃ e fr, w.heap[a.block]? = some (.cells c e fr)) (hs : a.spot = none) : cs = (c.toList.drop a.off).take n := by
  obtain ⟨_, hl, hc⟩ := World.cells?_some h
  obtain ⟨e, fr, hb⟩ := hb
  apply List.ext_getElem?
  intro i
  by_cases hi : i < n
  · have h1 : w.cell? (a.add i) = c[a.off + i]? := by
      unfold World.cell? Addr.add
      by_cases h0 : i = 0
      · subst h0; simp [hb, hs]
      · simp [h0, hb]
    rw [← hc i hi, h1, List.getElem?_take_of_lt hi, List.getElem?_drop, Array.getElem?_toList]
  · rw [List.getElem?_eq_none (by omega), List.getElem?_eq_none (by simp; omega)]
theorem rows_lie {r : Row} {WF : r.den → Prop} {a : Addr} {len : Nat} (hr : 0 < r.size) (hp : 0 < len) (hx : ∀ i, i < len → ∃ (b : r.den) (cs : List Value), w.cells? 0 (a.add (i * r.size)) r.size = some cs ∧ r.rep w (gd w) b cs ∧ WF b) :
    a.spot = none ∧ a.block < w.heap.size ∧ ∃ l : List r.den, l.length = len ∧ (∀ x ∈ l, WF x) ∧ ∃ vs, RepAll (fun x cs => r.rep w (gd w) x cs) l vs ∧ Lies w a.block a.off vs := by
  obtain ⟨b0, cs0, h0, _, _⟩ := hx 0 hp
  obtain ⟨_, hl0, hc0⟩ := World.cells?_some h0
  have h00 := hc0 0 hr
  have hlt : 0 < cs0.length := by omega
  rw [List.getElem?_eq_getElem hlt] at h00
  have hbk : (∃ c e fr, w.heap[a.block]? = some (.cells c e fr)) ∧ a.spot = none := by
    have hz : (a.add (0 * r.size)).add 0 = a := by simp [Addr.add]
    rw [hz] at h00
    unfold World.cell? at h00
    split at h00
    · rename_i c e fr hb
      refine ⟨⟨c, e, fr, hb⟩, ?_⟩
      split at h00
      · cases h00
      · rename_i hn; simpa using hn
    · cases h00
  obtain ⟨⟨c, e, fr, hb⟩, hs⟩ := hbk
  have hbl : a.block < w.heap.size := (Array.getElem?_eq_some_iff.1 hb).1
  refine ⟨hs, hbl, ?_⟩
  have key : ∀ k, k ≤ len → ∃ l : List r.den, l.length = k ∧ (∀ x ∈ l, WF x) ∧ RepAll (fun x cs => r.rep w (gd w) x cs) l ((c.toList.drop a.off).take (k * r.size)) := by
    intro k
    induction k with
    | zero => intro _; exact ⟨[], rfl, (fun x hx => by cases hx), by simp [RepAll]⟩
    | succ k ih =>
      intro hk
      obtain ⟨l, hl, hw, hR⟩ := ih (by omega)
      obtain ⟨b, cs, h1, h2, h3⟩ := hx k (by omega)
      have hcs : cs = ((c.toList.drop a.off).drop (k * r.size)).take r.size := by
        have := cells_eq (c := c) h1 ⟨e, fr, by unfold Addr.add; split <;> exact hb⟩ (by unfold Addr.add; split <;> first | exact hs | rfl)
        rw [this, List.drop_drop]
        congr 2
        unfold Addr.add; split <;> simp_all
      refine ⟨l ++ [b], by simp [hl], ?_, ?_⟩
      · intro x hx'
        rcases List.mem_append.1 hx' with h | h
        · exact hw x h
        · rw [List.mem_singleton] at h; subst h; exact h3
      · have : (k + 1) * r.size = k * r.size + r.size := by rw [Nat.add_mul, Nat.one_mul]
        rw [this, List.take_add, ← hcs]
        exact RepAll.append hR ⟨cs, [], by simp, h2, rfl⟩
  obtain ⟨l, hl, hw, hR⟩ := key len (Nat.le_refl _)
  exact ⟨l, hl, hw, _, hR, c, e, fr, _, hb, (List.take_append_drop (len * r.size) _).symm⟩
theorem OpC.slice {r : Row} {WF : r.den → Prop} (ht : P.underlying t = some (.slice e)) (hr : 0 < r.size) (hc : P.cellsOf e = r.size) (he : OpR P w r e WF) : OpC P w (.slice r) t (fun l => List.length (α := r.den) l ≤ 9223372036854775807 ∧ ∀ x : r.den, List.Mem x l → WF x) := by
  intro H enc spare held fuel cs x h
  rcases open_slice ht h with ⟨rfl, _⟩ | ⟨a, len, cap, m, n, D, Pl, rfl, _, hl, hm, hmm, _, hx⟩
  · exact ⟨([] : List r.den), _, rfl, ⟨none, 0, 0, rfl, rfl, Nat.le_refl _, fun _ => rfl, Or.inl rfl⟩, by simp, fun x hx => by cases hx⟩
  · have hmle : len ≤ m := by rw [hmm]; split <;> omega
    have hmax : len ≤ 9223372036854775807 := by unfold maxLen at hm; omega
    by_cases hp : 0 < len
    · obtain ⟨hs, hb, l, hll, hw, vs, hR, hL⟩ := rows_lie (w := w) (a := a) (len := len) (WF := WF) hr hp (fun i hi => by
        obtain ⟨c, h1, h2⟩ := hx i (by omega)
        obtain ⟨b, h3, h4⟩ := he h2
        rw [hc] at h1
        exact ⟨b, c, h1, h3, h4⟩)
      refine ⟨l, _, rfl, ⟨some a, len, cap, rfl, hll.symm, hl, (fun k => by cases k), Or.inr ⟨a.block, a.off, vs, ?_, hb, hR, hL⟩⟩, by rw [hll]; exact hmax, hw⟩
      obtain ⟨B, o, s⟩ := a
      simp only at hs
      rw [hs]
    · have h0 : len = 0 := by omega
      subst h0
      exact ⟨([] : List r.den), _, rfl, ⟨some a, 0, cap, rfl, rfl, hl, (fun k => by cases k), Or.inl rfl⟩, by simp, fun x hx => by cases hx⟩
theorem OpR.one {c : CTy} {WF : c.den → Prop} (h : OpC P w c t WF) : OpR P w (.one c) t WF := by
  intro H enc spare held fuel cs x k
  obtain ⟨a, v, rfl, h1, h2⟩ := h k
  exact ⟨a, ⟨v, rfl, h1⟩, h2⟩
/-- A struct's field, out of the whole's reading. -/
theorem trod_field {H : Type} {enc : TypeId × Value → H} {spare : Nat → Bool} {held : Bool} {fuel : Nat} {cs : List Value} {x : DataW H × List MemPlace} {fs : Array Field} (ht : P.underlying t = some (.struct fs)) (h : DataW.trod enc P w 0 spare held fuel t cs = some x) :
    cs.length = P.cellsOf t ∧ ∃ n, ∀ (i : Nat) (f : Field), fs[i]? = some f → ∃ y, DataW.trod enc P w 0 spare held n f.type ((cs.drop f.offset).take (P.cellsOf f.type)) = some y := by
  obtain ⟨xs, n, _, _, hn, hl, hf⟩ := DataW.trod_struct ht h
  refine ⟨hn, n, fun i f hi => ?_⟩
  have h1 := hf i f hi
  have hlt : i < xs.length := by rw [hl]; exact (Array.getElem?_eq_some_iff.1 hi).1
  rw [List.getElem?_eq_getElem hlt] at h1
  exact ⟨_, h1⟩
end
end Go.Proofs.YtlpmhldejeaefaaAbs
