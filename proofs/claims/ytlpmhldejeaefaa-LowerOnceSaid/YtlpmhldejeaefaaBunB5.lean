/- Texts of this session, joined (bundle2.py): GL2, GL3, D9, WLowerOnce, WLowerOnceC, AbsOpen. -/
import Derived.ProofKit
import Derived.Deep.Slices
import Derived.WideShapes
import Derived.ChangeArms
import Derived.DataReads
import Derived.DataElems
import Derived.OpenShut
import Derived.Test.YtlpmhldejeaefaaBunB4
/- Plain laws: pens, cells, views lowered. -/
namespace Go.Proofs.YtlpmhldejeaefaaAbs
set_option linter.unusedVariables false
set_option linter.unusedSimpArgs false
open Go Go.Proofs
noncomputable def lowP (d : Int) (p : Pen) : Pen := if d = 2 then (lowC p.1, lowC p.2.1, bitsOp BinOp.and IntKind.i64 p.2.2 57) else if d = 1 then (-1, -1, bitsOp BinOp.and IntKind.i64 p.2.2 57) else (-1, -1, 0)
theorem cellPlain_eq : hide cell_Plain_F = some (-1, -1, 0) := by rw [hide_eq]; rfl
theorem lowP_E (d : Int) {p : Pen} (h : rightPen p) : hide lower_Pen_F d p.1 p.2.1 p.2.2 = some (lowP d p) := by
  rw [hide_eq]; unfold lower_Pen_F lowP
  obtain ⟨a, _, _, _⟩ := lowC_eq h.1
  obtain ⟨b, _, _, _⟩ := lowC_eq h.2.1
  rw [cellPlain_eq, a, b]
  by_cases h2 : d = 2
  · subst h2; rfl
  · rw [show (d == 2) = false from beq_false_of_ne h2, if_neg h2]
    by_cases h1 : d = 1
    · subst h1; rfl
    · rw [show (d == 1) = false from beq_false_of_ne h1, if_neg h1]; rfl
noncomputable def lowX (d : Int) (c : Cell) : Cell := (if c.2.1 = 2 then 32 else lowR d c.1, 0, lowP d c.2.2)
theorem lowX_E (d : Int) {c : Cell} (h : rightPen c.2.2) : hide lower_Cell_F d c.1 c.2.1 c.2.2.1 c.2.2.2.1 c.2.2.2.2 = some (lowX d c) := by
  rw [hide_eq]; unfold lower_Cell_F lowX
  have J : ∀ x : Int, lower_Cell_J4 d x c.1 c.2.1 c.2.2.1 c.2.2.2.1 c.2.2.2.2 0 0 0 0 0 = some (x, 0, lowP d c.2.2) := fun x => by
    unfold lower_Cell_J4
    rw [lowP_E d h]; rfl
  rw [lowR_E]
  simp only [optK_s, hide_eq lower_Cell_J4]
  rw [J, J]
  by_cases h2 : c.2.1 = 2
  · rw [show (c.2.1 == 2) = true by rw [h2]; rfl, if_pos h2]; rfl
  · rw [show (c.2.1 == 2) = false from beq_false_of_ne h2, if_neg h2]; rfl
def pensOk (l : List Cell) : Prop := ∀ i, i < l.length → rightPen (l.getD i dC).2.2
theorem GG.pens {h w : Nat} {l : List Cell} (k : GG h w l) : pensOk l := by
  intro i hi
  have hl := k.1.1
  have hw : 0 < w := by
    rcases Nat.eq_zero_or_pos w with h0 | h0
    · subst h0; rw [Nat.mul_zero] at hl; omega
    · exact h0
  have hr : i / w < h := by rw [Nat.div_lt_iff_lt_mul hw]; omega
  have hm : i % w < w := Nat.mod_lt _ hw
  have hd : i / w * w + i % w = i := by rw [Nat.mul_comm]; exact Nat.div_add_mod i w
  have a := (k.2 _ hr (i % w) (by rw [rowOf_length hl hr]; exact hm)).1.1
  rw [rowOf_getD hm, hd] at a
  exact a
theorem view_loop {a0 : Int} {a1 : Int} {a2 : Int} {a3 : Int} {a4 : Int} {a5 : List (Int × Int × Int × Int × Int)} {a6 : Int} {a7 : Int} {a8 : Bool} {a9 : Int} {a10 : Int} {a11 : Int} {a12 : Int} {a13 : Int} {a14 : Int} {a15 : Int} {a16 : Int} {a17 : Int} {a18 : Bool} {a19 : Bool} {a20 : Bool} {a21 : Bool} {a22 : Bool} {a23 : Int} {a24 : Int} {a25 : Int} {a26 : Int} {a27 : Int} {a28 : Int} {a29 : Int} {a30 : Int} {a31 : Bool} {a32 : Int} {a33 : Int} {a34 : Int} {a35 : Int} {a36 : Bool} {a37 : Int} {a38 : Int} {a39 : List (Int × Int × Int × Int × Int)} {a40 : List (Int × Int × Int × Int × Int)} {l : List Cell} (hp : pensOk l) (hl : l.length < 1000000) : ∀ (n i : Nat), i ≤ l.length → l.length - i < n →
    lower_View_L4 n a0 (Int.ofNat l.length) (Int.ofNat i) a3 a4 a5 a6 a7 a8 a9 a10 a11 a12 a13 a14 a15 a16 a17 a18 a19 a20 a21 a22 a23 a24 a25 a26 a27 a28 a29 a30 a31 a32 a33 a34 a35 a36 a37 a38 ((l.map (lowX a0)).take i ++ l.drop i) a40 = some (a0, a3, a4, a5, a6, a7, a8, a9, a10, a11, a12, a13, a14, a15, a16, a17, a18, a19, a20, a21, a22, a23, a24, a25, a26, a27, a28, a29, a30, a31, a32, a33, a34, a35, a36, a37, a38, a40, l.map (lowX a0)) := by
  intro n
  induction n with
  | zero => intro i h1 h2; omega
  | succ n ih =>
    intro i h1 h2
    rw [lower_View_L4, ofNat_lt]
    by_cases hi : i < l.length
    · have e0 : decide ((0 : Int) ≤ Int.ofNat i) = true := by simp
      have e3 : ((l.map (lowX a0)).take i ++ l.drop i).length = l.length := by simp; omega
      have e4 : ((l.map (lowX a0)).take i ++ l.drop i).getD i (0, 0, 0, 0, 0) = l.getD i dC := by
        have e7 : ((l.map (lowX a0)).take i).length = i := by rw [List.length_take, List.length_map]; omega
        rw [getD_append_r (0, 0, 0, 0, 0) (show ((l.map (lowX a0)).take i).length ≤ i by omega), getD_drop, e7, Nat.sub_self, Nat.add_zero]
      rw [decide_eq_true hi, e0, toNat_ofNat', e3, ofNat_lt, decide_eq_true hi, e4, lowX_E a0 (hp i hi), wrap_succ (by omega)]
      simp only [cond_true, Bool.and_self, optK_s]
      have e5 : (l.map (lowX a0))[i]'(by simp; exact hi) = ((lowX a0 (l.getD i dC)).1, (lowX a0 (l.getD i dC)).2.1, (lowX a0 (l.getD i dC)).2.2.1, (lowX a0 (l.getD i dC)).2.2.2.1, (lowX a0 (l.getD i dC)).2.2.2.2) := by
        have : l.getD i dC = l[i] := by simp [hi]
        rw [List.getElem_map, this]
      rw [take_set_drop (l.map (lowX a0)) l i _ hi (by simp) e5]
      exact ih (i + 1) (by omega) (by omega)
    · have : i = l.length := by omega
      subst this
      rw [decide_eq_false hi, List.drop_length, List.append_nil, List.take_of_length_le (by simp)]
      rfl
theorem view_fu {a0 : Int} {a1 : Int} {a2 : Int} {a3 : Int} {a4 : Int} {a5 : List (Int × Int × Int × Int × Int)} {a6 : Int} {a7 : Int} {a8 : Bool} {a9 : Int} {a10 : Int} {a11 : Int} {a12 : Int} {a13 : Int} {a14 : Int} {a15 : Int} {a16 : Int} {a17 : Int} {a18 : Bool} {a19 : Bool} {a20 : Bool} {a21 : Bool} {a22 : Bool} {a23 : Int} {a24 : Int} {a25 : Int} {a26 : Int} {a27 : Int} {a28 : Int} {a29 : Int} {a30 : Int} {a31 : Bool} {a32 : Int} {a33 : Int} {a34 : Int} {a35 : Int} {a36 : Bool} {a37 : Int} {a38 : Int} {a39 : List (Int × Int × Int × Int × Int)} {a40 : List (Int × Int × Int × Int × Int)} : 4096 < lower_View_fu4 a0 a1 a2 a3 a4 a5 a6 a7 a8 a9 a10 a11 a12 a13 a14 a15 a16 a17 a18 a19 a20 a21 a22 a23 a24 a25 a26 a27 a28 a29 a30 a31 a32 a33 a34 a35 a36 a37 a38 a39 a40 := Nat.lt_of_lt_of_le (show 4096 < 5000 by decide) (Nat.le_add_left 5000 _)
abbrev VT := Int × Int × List Cell × Int × Int × Bool
noncomputable def viewS (d : Int) (s : ST) : VT := (s.1, s.2.1, s.2.2.1.map (lowX d), s.2.2.2.1, s.2.2.2.2.1, s.2.2.2.2.2.2.2.2.2.2.2.2.2.2.2.2.2.1 || (d != 2))
theorem view_E (d : Int) {s : ST} (hp : pensOk s.2.2.1) (hl : s.2.2.1.length ≤ 4096) : hide lower_View_F d s.1 s.2.1 s.2.2.1 s.2.2.2.1 s.2.2.2.2.1 s.2.2.2.2.2.1 s.2.2.2.2.2.2.1 s.2.2.2.2.2.2.2.1 s.2.2.2.2.2.2.2.2.1 s.2.2.2.2.2.2.2.2.2.1 s.2.2.2.2.2.2.2.2.2.2.1 s.2.2.2.2.2.2.2.2.2.2.2.1 s.2.2.2.2.2.2.2.2.2.2.2.2.1 s.2.2.2.2.2.2.2.2.2.2.2.2.2.1 s.2.2.2.2.2.2.2.2.2.2.2.2.2.2.1 s.2.2.2.2.2.2.2.2.2.2.2.2.2.2.2.1 s.2.2.2.2.2.2.2.2.2.2.2.2.2.2.2.2.1 s.2.2.2.2.2.2.2.2.2.2.2.2.2.2.2.2.2.1 s.2.2.2.2.2.2.2.2.2.2.2.2.2.2.2.2.2.2.1 s.2.2.2.2.2.2.2.2.2.2.2.2.2.2.2.2.2.2.2.1 s.2.2.2.2.2.2.2.2.2.2.2.2.2.2.2.2.2.2.2.2.1 s.2.2.2.2.2.2.2.2.2.2.2.2.2.2.2.2.2.2.2.2.2.1 s.2.2.2.2.2.2.2.2.2.2.2.2.2.2.2.2.2.2.2.2.2.2.1 s.2.2.2.2.2.2.2.2.2.2.2.2.2.2.2.2.2.2.2.2.2.2.2.1 s.2.2.2.2.2.2.2.2.2.2.2.2.2.2.2.2.2.2.2.2.2.2.2.2.1 s.2.2.2.2.2.2.2.2.2.2.2.2.2.2.2.2.2.2.2.2.2.2.2.2.2.1 s.2.2.2.2.2.2.2.2.2.2.2.2.2.2.2.2.2.2.2.2.2.2.2.2.2.2.1 s.2.2.2.2.2.2.2.2.2.2.2.2.2.2.2.2.2.2.2.2.2.2.2.2.2.2.2.1 s.2.2.2.2.2.2.2.2.2.2.2.2.2.2.2.2.2.2.2.2.2.2.2.2.2.2.2.2 = some (viewS d s) := by
  rw [hide_eq]; unfold lower_View_F
  rw [Nat.ble_eq_true_of_le (by omega)]
  simp only [cond_true, hide_eq lower_View_L4]
  generalize hf : lower_View_fu4 d (Int.ofNat s.2.2.1.length) 0 s.1 s.2.1 s.2.2.1 s.2.2.2.1 s.2.2.2.2.1 s.2.2.2.2.2.1 s.2.2.2.2.2.2.1 s.2.2.2.2.2.2.2.1 s.2.2.2.2.2.2.2.2.1 s.2.2.2.2.2.2.2.2.2.1 s.2.2.2.2.2.2.2.2.2.2.1 s.2.2.2.2.2.2.2.2.2.2.2.1 s.2.2.2.2.2.2.2.2.2.2.2.2.1 s.2.2.2.2.2.2.2.2.2.2.2.2.2.1 s.2.2.2.2.2.2.2.2.2.2.2.2.2.2.1 s.2.2.2.2.2.2.2.2.2.2.2.2.2.2.2.1 s.2.2.2.2.2.2.2.2.2.2.2.2.2.2.2.2.1 s.2.2.2.2.2.2.2.2.2.2.2.2.2.2.2.2.2.1 s.2.2.2.2.2.2.2.2.2.2.2.2.2.2.2.2.2.2.1 s.2.2.2.2.2.2.2.2.2.2.2.2.2.2.2.2.2.2.2.1 s.2.2.2.2.2.2.2.2.2.2.2.2.2.2.2.2.2.2.2.2.1 s.2.2.2.2.2.2.2.2.2.2.2.2.2.2.2.2.2.2.2.2.2.1 s.2.2.2.2.2.2.2.2.2.2.2.2.2.2.2.2.2.2.2.2.2.2.1 s.2.2.2.2.2.2.2.2.2.2.2.2.2.2.2.2.2.2.2.2.2.2.2.1 s.2.2.2.2.2.2.2.2.2.2.2.2.2.2.2.2.2.2.2.2.2.2.2.2.1 s.2.2.2.2.2.2.2.2.2.2.2.2.2.2.2.2.2.2.2.2.2.2.2.2.2.1 s.2.2.2.2.2.2.2.2.2.2.2.2.2.2.2.2.2.2.2.2.2.2.2.2.2.2.1 s.2.2.2.2.2.2.2.2.2.2.2.2.2.2.2.2.2.2.2.2.2.2.2.2.2.2.2.1 s.2.2.2.2.2.2.2.2.2.2.2.2.2.2.2.2.2.2.2.2.2.2.2.2.2.2.2.2 0 0 0 0 false s.1 s.2.1 s.2.2.1 [] = f
  have hf2 : 4096 < f := by rw [← hf]; exact view_fu
  have L := view_loop (a0 := d) (a1 := 0) (a2 := 0) (a3 := s.1) (a4 := s.2.1) (a5 := s.2.2.1) (a6 := s.2.2.2.1) (a7 := s.2.2.2.2.1) (a8 := s.2.2.2.2.2.1) (a9 := s.2.2.2.2.2.2.1) (a10 := s.2.2.2.2.2.2.2.1) (a11 := s.2.2.2.2.2.2.2.2.1) (a12 := s.2.2.2.2.2.2.2.2.2.1) (a13 := s.2.2.2.2.2.2.2.2.2.2.1) (a14 := s.2.2.2.2.2.2.2.2.2.2.2.1) (a15 := s.2.2.2.2.2.2.2.2.2.2.2.2.1) (a16 := s.2.2.2.2.2.2.2.2.2.2.2.2.2.1) (a17 := s.2.2.2.2.2.2.2.2.2.2.2.2.2.2.1) (a18 := s.2.2.2.2.2.2.2.2.2.2.2.2.2.2.2.1) (a19 := s.2.2.2.2.2.2.2.2.2.2.2.2.2.2.2.2.1) (a20 := s.2.2.2.2.2.2.2.2.2.2.2.2.2.2.2.2.2.1) (a21 := s.2.2.2.2.2.2.2.2.2.2.2.2.2.2.2.2.2.2.1) (a22 := s.2.2.2.2.2.2.2.2.2.2.2.2.2.2.2.2.2.2.2.1) (a23 := s.2.2.2.2.2.2.2.2.2.2.2.2.2.2.2.2.2.2.2.2.1) (a24 := s.2.2.2.2.2.2.2.2.2.2.2.2.2.2.2.2.2.2.2.2.2.1) (a25 := s.2.2.2.2.2.2.2.2.2.2.2.2.2.2.2.2.2.2.2.2.2.2.1) (a26 := s.2.2.2.2.2.2.2.2.2.2.2.2.2.2.2.2.2.2.2.2.2.2.2.1) (a27 := s.2.2.2.2.2.2.2.2.2.2.2.2.2.2.2.2.2.2.2.2.2.2.2.2.1) (a28 := s.2.2.2.2.2.2.2.2.2.2.2.2.2.2.2.2.2.2.2.2.2.2.2.2.2.1) (a29 := s.2.2.2.2.2.2.2.2.2.2.2.2.2.2.2.2.2.2.2.2.2.2.2.2.2.2.1) (a30 := s.2.2.2.2.2.2.2.2.2.2.2.2.2.2.2.2.2.2.2.2.2.2.2.2.2.2.2.1) (a31 := s.2.2.2.2.2.2.2.2.2.2.2.2.2.2.2.2.2.2.2.2.2.2.2.2.2.2.2.2) (a32 := 0) (a33 := 0) (a34 := 0) (a35 := 0) (a36 := false) (a37 := s.1) (a38 := s.2.1) (a39 := []) (a40 := []) (l := s.2.2.1) hp (by omega) f 0 (by omega) (by omega)
  rw [show Int.ofNat 0 = 0 from rfl] at L
  simp only [List.take_zero, List.drop_zero, List.nil_append] at L
  rw [L]
  simp only [optK_s]
  unfold viewS
  cases s.2.2.2.2.2.2.2.2.2.2.2.2.2.2.2.2.2.1 <;> rfl
end Go.Proofs.YtlpmhldejeaefaaAbs

/- Plain laws: what is lowered once more; cells that are unlike. -/
namespace Go.Proofs.YtlpmhldejeaefaaAbs
set_option linter.unusedVariables false
set_option linter.unusedSimpArgs false
open Go Go.Proofs
theorem and57 (n : Nat) (hn : n < 256) : bitsOp BinOp.and IntKind.i64 (n : Int) 57 = ((n &&& 57 : Nat) : Int) := by
  have e1 : (BitVec.ofInt 64 (n : Int)) = BitVec.ofNat 64 n := by simp
  have hle : n &&& 57 ≤ 57 := Nat.and_le_right
  show IntKind.i64.wrap (((BitVec.ofInt 64 (n : Int) &&& BitVec.ofInt 64 57).toNat : Nat) : Int) = _
  have e3 : (BitVec.ofInt 64 57) = BitVec.ofNat 64 57 := rfl
  rw [e1, e3, BitVec.toNat_and, BitVec.toNat_ofNat, BitVec.toNat_ofNat]
  have a : n % 2 ^ 64 = n := Nat.mod_eq_of_lt (by omega)
  rw [a, show (57 % 2 ^ 64 : Nat) = 57 from rfl, w64 (by omega) (by omega)]
theorem and57_ex {n : Int} (h0 : 0 ≤ n) (h1 : n ≤ 255) : ∃ m : Nat, bitsOp BinOp.and IntKind.i64 n 57 = (m : Int) ∧ m ≤ 57 ∧ bitsOp BinOp.and IntKind.i64 (m : Int) 57 = (m : Int) := by
  obtain ⟨k, rfl⟩ : ∃ k : Nat, n = (k : Int) := ⟨n.toNat, by omega⟩
  have hle : k &&& 57 ≤ 57 := Nat.and_le_right
  refine ⟨k &&& 57, and57 k (by omega), hle, ?_⟩
  rw [and57 _ (by omega), Nat.and_assoc, Nat.and_self]
theorem lowP_right (d : Int) {p : Pen} (h : rightPen p) : rightPen (lowP d p) := by
  obtain ⟨_, _, c1, _⟩ := lowC_eq h.1
  obtain ⟨_, _, c2, _⟩ := lowC_eq h.2.1
  obtain ⟨m, e, hm, _⟩ := and57_ex h.2.2.1 h.2.2.2
  unfold lowP
  split
  · refine ⟨.inl ?_, .inl ?_, ?_, ?_⟩
    · show -1 ≤ lowC p.1 ∧ lowC p.1 ≤ 255; omega
    · show -1 ≤ lowC p.2.1 ∧ lowC p.2.1 ≤ 255; omega
    · show 0 ≤ bitsOp BinOp.and IntKind.i64 p.2.2 57; rw [e]; omega
    · show bitsOp BinOp.and IntKind.i64 p.2.2 57 ≤ 255; rw [e]; omega
  · split
    · refine ⟨rightPen_plain.1, rightPen_plain.2.1, ?_, ?_⟩
      · show 0 ≤ bitsOp BinOp.and IntKind.i64 p.2.2 57; rw [e]; omega
      · show bitsOp BinOp.and IntKind.i64 p.2.2 57 ≤ 255; rw [e]; omega
    · exact rightPen_plain
theorem lowC_small {x : Int} (h : -1 ≤ x) (h8 : x < 8) : lowC x = x := (lowC_eq (.inl ⟨h, by omega⟩)).2.2.2 h8
theorem lowP_twice (d : Int) {p : Pen} (h : rightPen p) : lowP d (lowP d p) = lowP d p := by
  obtain ⟨_, _, c1, _⟩ := lowC_eq h.1
  obtain ⟨_, _, c2, _⟩ := lowC_eq h.2.1
  obtain ⟨m, e, hm, e2⟩ := and57_ex h.2.2.1 h.2.2.2
  unfold lowP
  by_cases h2 : d = 2
  · simp only [h2, if_true]
    rw [lowC_small c1.1 (by omega), lowC_small c2.1 (by omega), e, e2]
  · by_cases h1 : d = 1
    · simp only [h1, if_true]
      rw [if_neg (by decide), if_neg (by decide)]
      simp only [e, e2]
    · rw [if_neg h2, if_neg h2, if_neg h1, if_neg h1]
theorem lowR_ascii {d x : Int} (h0 : 32 ≤ x) (h1 : x ≤ 126) : lowR d x = x := by
  unfold lowR
  split
  · rfl
  · unfold plByte; rw [if_pos ⟨h0, h1⟩]
theorem lowR_twice (d x : Int) : lowR d (lowR d x) = lowR d x := by
  by_cases c : (drawnAt x).isSome = true ∧ (d = 1 ∨ d = 2)
  · have e : lowR d x = x := by unfold lowR; rw [if_pos c]
    rw [e, e]
  · have e : lowR d x = plByte x := by unfold lowR; rw [if_neg c]
    have b := plByte_bounds x
    rw [e, lowR_ascii b.1 b.2]
theorem lowX_twice (d : Int) {c : Cell} (h : rightPen c.2.2) : lowX d (lowX d c) = lowX d c := by
  unfold lowX
  rw [if_neg (show ¬ (0 : Int) = 2 by decide), lowP_twice d h]
  split
  · rw [lowR_ascii (x := 32) (by decide) (by decide)]
  · rw [lowR_twice]
theorem pens_map (d : Int) {l : List Cell} (h : pensOk l) : pensOk (l.map (lowX d)) := by
  intro i hi
  rw [List.length_map] at hi
  have : (l.map (lowX d)).getD i dC = lowX d (l.getD i dC) := by simp [hi]
  rw [this]
  exact lowP_right d (h i hi)
theorem map_twice (d : Int) {l : List Cell} (h : pensOk l) : (l.map (lowX d)).map (lowX d) = l.map (lowX d) := by
  refine ext_getD dC (by simp) fun i hi => ?_
  simp only [List.length_map] at hi
  have e1 : ((l.map (lowX d)).map (lowX d)).getD i dC = lowX d (lowX d (l.getD i dC)) := by simp [hi]
  have e2 : (l.map (lowX d)).getD i dC = lowX d (l.getD i dC) := by simp [hi]
  rw [e1, e2, lowX_twice d (h i hi)]
/-! ### how far two are apart -/
def diffN : List Cell → List Cell → Nat
  | a :: l, b :: m => (if a = b then 0 else 1) + diffN l m
  | _, _ => 0
theorem diff_self : ∀ l : List Cell, diffN l l = 0
  | [] => rfl
  | a :: l => by rw [diffN, if_pos rfl, diff_self l]
theorem diff_set : ∀ (l : List Cell) (i : Nat) (y : Cell), i < l.length → l.getD i dC ≠ y → diffN l (l.set i y) = 1
  | [], i, y, h, _ => by simp at h
  | a :: l, 0, y, h, hn => by
    have : a ≠ y := hn
    rw [List.set_cons_zero, diffN, if_neg this, diff_self]
  | a :: l, i + 1, y, h, hn => by
    have h' : i < l.length := by simpa using h
    have hn' : l.getD i dC ≠ y := by simpa using hn
    rw [List.set_cons_succ, diffN, if_pos rfl, diff_set l i y h' hn']
theorem apart_loop {a4 a5 a7 a8 : Int} {a9 : Bool} {l m : List Cell} (hlm : l.length = m.length) (hl : l.length < 1000000) : ∀ (n i c : Nat), i ≤ l.length → c ≤ i → l.length - i < n →
    lower_Apart_L5 n (Int.ofNat c) l (Int.ofNat l.length) (Int.ofNat i) a4 a5 m a7 a8 a9 = some (Int.ofNat (c + diffN (l.drop i) (m.drop i))) := by
  intro n
  induction n with
  | zero => intro i c h1 h2 h3; omega
  | succ n ih =>
    intro i c h1 h2 h3
    rw [lower_Apart_L5, ofNat_lt]
    by_cases hi : i < l.length
    · have hi2 : i < m.length := by omega
      have e0 : decide ((0 : Int) ≤ Int.ofNat i) = true := by simp
      have a1 : l.drop i = l.getD i dC :: l.drop (i + 1) := by rw [List.drop_eq_getElem_cons hi]; simp [hi]
      have a2 : m.drop i = m.getD i dC :: m.drop (i + 1) := by rw [List.drop_eq_getElem_cons hi2]; simp [hi2]
      rw [decide_eq_true hi, e0, ofNat_lt, decide_eq_true hi2, toNat_ofNat', cell_beq, wrap_succ (by omega), wrap_succ (by omega), a1, a2, diffN]
      simp only [cond_true, Bool.and_self]
      by_cases q : l.getD i dC = m.getD i dC
      · rw [decide_eq_true q, if_pos q, Nat.zero_add]
        exact ih (i + 1) c (by omega) (by omega) (by omega)
      · rw [decide_eq_false q, if_neg q, ← Nat.add_assoc]
        exact ih (i + 1) (c + 1) (by omega) (by omega) (by omega)
    · have : i = l.length := by omega
      subst this
      rw [decide_eq_false hi, List.drop_length, hlm, List.drop_length]
      rfl
theorem apart_eq {R C R' C' r c r' c' : Int} {s s' : Bool} {l m : List Cell} (hR : R = R') (hC : C = C') (hlm : l.length = m.length) (hl : l.length ≤ 4096) : hide lower_Apart_F R C l r c s R' C' m r' c' s' = some (Int.ofNat (diffN l m)) := by
  subst hR hC
  rw [hide_eq]; unfold lower_Apart_F
  have e1 : (R != R) = false := by simp
  have e2 : (C != C) = false := by simp
  have e3 : (Int.ofNat l.length != Int.ofNat m.length) = false := by rw [hlm]; simp
  rw [e1, e2, e3, hide_eq]
  have h := apart_loop (a4 := R) (a5 := C) (a7 := r') (a8 := c') (a9 := s') hlm (by omega) (lower_Apart_fu5 0 l (Int.ofNat l.length) 0 R C m r' c' s') 0 0 (by omega) (by omega) (by unfold lower_Apart_fu5; omega)
  rw [show Int.ofNat 0 = 0 from rfl, List.drop_zero, List.drop_zero, Nat.zero_add] at h
  simp only [cond_false]
  rw [h]; rfl
end Go.Proofs.YtlpmhldejeaefaaAbs

-- Written by a program of this session (dec.py); Lean checks it.
namespace Go.Proofs.YtlpmhldejeaefaaAbs
open Go Go.Proofs
set_option linter.unusedVariables false
set_option maxHeartbeats 2000000
noncomputable def linguistlaw18_LowerOnce_c11 : Code := ((Try.f6.body.map fun b => loopsAt b 11).getD []).headD .skip
theorem linguistlaw18_LowerOnce_c11_is : (Try.f6.body.map fun b => loopsAt b 11) = some [linguistlaw18_LowerOnce_c11] := by kernel_rfl
noncomputable def linguistlaw18_LowerOnce_s11 : SkSt := ⟨(.gap 3 (.cons (.int .i64) (.gap 2 (.cst (.ptr 0 0) (.gap 2 (.cons (.int .i64) (.gap 1 (.cst (.ptr 1 0) (.gap 49 (.cons (.list (.cons (.int .i32) (.cons (.int .i64) (.cons (.int .i64) (.cons (.int .i64) (.one (.int .i64))))))) (.cons (.int .i64) (.cons (.int .i64) (.gap 129 .nil))))))))))))), (.var 31 (.cons (.int .i64) (.cons (.int .i64) (.cons (.int .i64) .nil))) (.var 52 (.cons (.int .i64) (.cons (.int .i64) (.cons (.list (.cons (.int .i32) (.cons (.int .i64) (.cons (.int .i64) (.cons (.int .i64) (.one (.int .i64))))))) (.cons (.int .i64) (.cons (.int .i64) (.cons .bool .nil)))))) .nil))⟩
noncomputable def linguistlaw18_LowerOnce_x11_0 : SkSt := ⟨(.gap 8 (.cons .bool (.gap 184 .nil))), .nil⟩
noncomputable def linguistlaw18_LowerOnce_x11_1 : SkSt := ⟨(.gap 3 (.cons (.int .i64) (.gap 2 (.cst (.ptr 0 0) (.gap 2 (.cons (.int .i64) (.gap 1 (.cst (.ptr 1 0) (.gap 181 .nil))))))))), (.var 31 (.cons (.int .i64) (.cons (.int .i64) (.cons (.int .i64) .nil))) (.var 52 (.cons (.int .i64) (.cons (.int .i64) (.cons (.list (.cons (.int .i32) (.cons (.int .i64) (.cons (.int .i64) (.cons (.int .i64) (.one (.int .i64))))))) (.cons (.int .i64) (.cons (.int .i64) (.cons .bool .nil)))))) .nil))⟩
noncomputable def linguistlaw18_LowerOnce_xs11 : List (Ex × SkSt) := [(.ret, linguistlaw18_LowerOnce_x11_0), (.exit 0, linguistlaw18_LowerOnce_x11_1)]
noncomputable def linguistlaw18_LowerOnce_L11 : Nat → Int → Int → List (Int × Int × Int × Int × Int) → Int → Int → Int → Int → Int → Int → Int → List (Int × Int × Int × Int × Int) → Int → Int → Bool → Option (((Bool) ⊕ (Int × Int × Int × Int × Int × Int × Int × (List (Int × Int × Int × Int × Int)) × Int × Int × Bool)))
  | 0, _, _, _, _, _, _, _, _, _, _, _, _, _, _ => none
  | n + 1, a0, a1, a2, a3, a4, a5, a6, a7, a8, a9, a10, a11, a12, a13 => (bif (decide (a4 < a3)) then (bif (decide ((0 : Int) ≤ a4) && decide (a4 < Int.ofNat a2.length) && true) then (optK ((hide charset_Undraw_F (a2.getD a4.toNat ((0 : Int), (0 : Int), (0 : Int), (0 : Int), (0 : Int))).1)) fun y8 => (bif ((a2.getD a4.toNat ((0 : Int), (0 : Int), (0 : Int), (0 : Int), (0 : Int))).2.1 != (0 : Int)) then (some (.inl (false))) else (bif (decide ((a2.getD a4.toNat ((0 : Int), (0 : Int), (0 : Int), (0 : Int), (0 : Int))).1 < (32 : Int))) then (some (.inl (false))) else (bif (decide ((a2.getD a4.toNat ((0 : Int), (0 : Int), (0 : Int), (0 : Int), (0 : Int))).1 > (126 : Int))) then (bif (a1 == (3 : Int)) then (some (.inl (false))) else (bif (!y8.2) then (some (.inl (false))) else (bif (decide ((a2.getD a4.toNat ((0 : Int), (0 : Int), (0 : Int), (0 : Int), (0 : Int))).2.2.1 > (7 : Int))) then (some (.inl (false))) else (bif (decide ((a2.getD a4.toNat ((0 : Int), (0 : Int), (0 : Int), (0 : Int), (0 : Int))).2.2.2.1 > (7 : Int))) then (some (.inl (false))) else (bif (a1 == (3 : Int)) then (bif (!((a2.getD a4.toNat ((0 : Int), (0 : Int), (0 : Int), (0 : Int), (0 : Int))).2.2.1 == (-1 : Int) && ((a2.getD a4.toNat ((0 : Int), (0 : Int), (0 : Int), (0 : Int), (0 : Int))).2.2.2.1 == (-1 : Int) && ((a2.getD a4.toNat ((0 : Int), (0 : Int), (0 : Int), (0 : Int), (0 : Int))).2.2.2.2 == (0 : Int) && true)))) then (some (.inl (false))) else (linguistlaw18_LowerOnce_L11 n a0 a1 a2 a3 (IntKind.i64.wrap (a4 + (1 : Int))) a5 a6 a7 a8 a9 a10 a11 a12 a13)) else (linguistlaw18_LowerOnce_L11 n a0 a1 a2 a3 (IntKind.i64.wrap (a4 + (1 : Int))) a5 a6 a7 a8 a9 a10 a11 a12 a13)))))) else (bif (decide ((a2.getD a4.toNat ((0 : Int), (0 : Int), (0 : Int), (0 : Int), (0 : Int))).2.2.1 > (7 : Int))) then (some (.inl (false))) else (bif (decide ((a2.getD a4.toNat ((0 : Int), (0 : Int), (0 : Int), (0 : Int), (0 : Int))).2.2.2.1 > (7 : Int))) then (some (.inl (false))) else (bif (a1 == (3 : Int)) then (bif (!((a2.getD a4.toNat ((0 : Int), (0 : Int), (0 : Int), (0 : Int), (0 : Int))).2.2.1 == (-1 : Int) && ((a2.getD a4.toNat ((0 : Int), (0 : Int), (0 : Int), (0 : Int), (0 : Int))).2.2.2.1 == (-1 : Int) && ((a2.getD a4.toNat ((0 : Int), (0 : Int), (0 : Int), (0 : Int), (0 : Int))).2.2.2.2 == (0 : Int) && true)))) then (some (.inl (false))) else (linguistlaw18_LowerOnce_L11 n a0 a1 a2 a3 (IntKind.i64.wrap (a4 + (1 : Int))) a5 a6 a7 a8 a9 a10 a11 a12 a13)) else (linguistlaw18_LowerOnce_L11 n a0 a1 a2 a3 (IntKind.i64.wrap (a4 + (1 : Int))) a5 a6 a7 a8 a9 a10 a11 a12 a13)))))))) else none) else (some (.inr (a0, a1, a5, a6, a7, a8, a9, a10, a11, a12, a13))))
noncomputable def linguistlaw18_LowerOnce_I11 {R : Type} (K : Ex → St → Option R) : Nat → St → Option R := iterN (exec (envL sums8 ll0 cs0 (fun _ _ => false)) 6 (acall (envL sums8 ll0 cs0 (fun _ _ => false)) 1000) 0 linguistlaw18_LowerOnce_c11) (normTo linguistlaw18_LowerOnce_s11 0) (exitK linguistlaw18_LowerOnce_xs11 0 K)
noncomputable def linguistlaw18_LowerOnce_m11 {R : Type} (K : Ex → St → Option R) (o : Option (((Bool) ⊕ (Int × Int × Int × Int × Int × Int × Int × (List (Int × Int × Int × Int × Int)) × Int × Int × Bool)))) : Option R := optK o fun y => sumK y (fun y => K (.ret) (linguistlaw18_LowerOnce_x11_0.enc ((y, ()), ()))) (fun y => K (.exit 0) (linguistlaw18_LowerOnce_x11_1.enc ((y.1, (y.2.1, ())), ((y.2.2.1, (y.2.2.2.1, (y.2.2.2.2.1, ()))), ((y.2.2.2.2.2.1, (y.2.2.2.2.2.2.1, (y.2.2.2.2.2.2.2.1, (y.2.2.2.2.2.2.2.2.1, (y.2.2.2.2.2.2.2.2.2.1, (y.2.2.2.2.2.2.2.2.2.2, ())))))), ())))))
theorem linguistlaw18_LowerOnce_l11 {R : Type} (K : Ex → St → Option R) : ∀ (n : Nat), ∀ (a0 : Int) (a1 : Int) (a2 : List (Int × Int × Int × Int × Int)) (a3 : Int) (a4 : Int) (a5 : Int) (a6 : Int) (a7 : Int) (a8 : Int) (a9 : Int) (a10 : List (Int × Int × Int × Int × Int)) (a11 : Int) (a12 : Int) (a13 : Bool), linguistlaw18_LowerOnce_I11 K n (linguistlaw18_LowerOnce_s11.enc ((a0, (a1, (a2, (a3, (a4, ()))))), ((a5, (a6, (a7, ()))), ((a8, (a9, (a10, (a11, (a12, (a13, ())))))), ())))) = linguistlaw18_LowerOnce_m11 K (linguistlaw18_LowerOnce_L11 n a0 a1 a2 a3 a4 a5 a6 a7 a8 a9 a10 a11 a12 a13) := by
  intro n
  induction n with
  | zero => intros; rfl
  | succ n ih =>
    intro a0 a1 a2 a3 a4 a5 a6 a7 a8 a9 a10 a11 a12 a13
    rw [linguistlaw18_LowerOnce_L11]
    exact Eq.trans (by kernel_rfl) (cond_push (linguistlaw18_LowerOnce_m11 K) _ (cond_push (linguistlaw18_LowerOnce_m11 K) _ (optK_push (linguistlaw18_LowerOnce_m11 K) rfl _ fun y8 => (cond_push (linguistlaw18_LowerOnce_m11 K) _ rfl (cond_push (linguistlaw18_LowerOnce_m11 K) _ rfl (cond_push (linguistlaw18_LowerOnce_m11 K) _ (cond_push (linguistlaw18_LowerOnce_m11 K) _ rfl (cond_push (linguistlaw18_LowerOnce_m11 K) _ rfl (cond_push (linguistlaw18_LowerOnce_m11 K) _ rfl (cond_push (linguistlaw18_LowerOnce_m11 K) _ rfl (cond_push (linguistlaw18_LowerOnce_m11 K) _ (cond_push (linguistlaw18_LowerOnce_m11 K) _ rfl (ih a0 a1 a2 a3 (IntKind.i64.wrap (a4 + (1 : Int))) a5 a6 a7 a8 a9 a10 a11 a12 a13)) (ih a0 a1 a2 a3 (IntKind.i64.wrap (a4 + (1 : Int))) a5 a6 a7 a8 a9 a10 a11 a12 a13)))))) (cond_push (linguistlaw18_LowerOnce_m11 K) _ rfl (cond_push (linguistlaw18_LowerOnce_m11 K) _ rfl (cond_push (linguistlaw18_LowerOnce_m11 K) _ (cond_push (linguistlaw18_LowerOnce_m11 K) _ rfl (ih a0 a1 a2 a3 (IntKind.i64.wrap (a4 + (1 : Int))) a5 a6 a7 a8 a9 a10 a11 a12 a13)) (ih a0 a1 a2 a3 (IntKind.i64.wrap (a4 + (1 : Int))) a5 a6 a7 a8 a9 a10 a11 a12 a13)))))))) rfl) rfl)
def linguistlaw18_LowerOnce_fu11 (a0 : Int) (a1 : Int) (a2 : List (Int × Int × Int × Int × Int)) (a3 : Int) (a4 : Int) (a5 : Int) (a6 : Int) (a7 : Int) (a8 : Int) (a9 : Int) (a10 : List (Int × Int × Int × Int × Int)) (a11 : Int) (a12 : Int) (a13 : Bool) : Nat := Int.natAbs a0 + Int.natAbs a1 + List.length a2 + Int.natAbs a3 + Int.natAbs a4 + Int.natAbs a5 + Int.natAbs a6 + Int.natAbs a7 + Int.natAbs a8 + Int.natAbs a9 + List.length a10 + Int.natAbs a11 + Int.natAbs a12 + 0 + 5000
noncomputable def linguistlaw18_LowerOnce_G11 : GoL linguistlaw18_LowerOnce_s11 := fun R (x : ((Int × (Int × (List (Int × Int × Int × Int × Int) × (Int × (Int × Unit))))) × ((Int × (Int × (Int × Unit))) × ((Int × (Int × (List (Int × Int × Int × Int × Int) × (Int × (Int × (Bool × Unit)))))) × Unit)))) K => linguistlaw18_LowerOnce_m11 K (hide linguistlaw18_LowerOnce_L11 (linguistlaw18_LowerOnce_fu11 x.1.1 x.1.2.1 x.1.2.2.1 x.1.2.2.2.1 x.1.2.2.2.2.1 x.2.1.1 x.2.1.2.1 x.2.1.2.2.1 x.2.2.1.1 x.2.2.1.2.1 x.2.2.1.2.2.1 x.2.2.1.2.2.2.1 x.2.2.1.2.2.2.2.1 x.2.2.1.2.2.2.2.2.1) x.1.1 x.1.2.1 x.1.2.2.1 x.1.2.2.2.1 x.1.2.2.2.2.1 x.2.1.1 x.2.1.2.1 x.2.1.2.2.1 x.2.2.1.1 x.2.2.1.2.1 x.2.2.1.2.2.1 x.2.2.1.2.2.2.1 x.2.2.1.2.2.2.2.1 x.2.2.1.2.2.2.2.2.1)
theorem linguistlaw18_LowerOnce_H11 : LoopOk Try.prog 6 11 (loopH linguistlaw18_LowerOnce_s11 0 linguistlaw18_LowerOnce_G11) := loop_known (envL_ok sums8_ok ll0_ok cs0_ok) Try.func6 rfl linguistlaw18_LowerOnce_c11_is (xs := linguistlaw18_LowerOnce_xs11) (fuel := fun (x : ((Int × (Int × (List (Int × Int × Int × Int × Int) × (Int × (Int × Unit))))) × ((Int × (Int × (Int × Unit))) × ((Int × (Int × (List (Int × Int × Int × Int × Int) × (Int × (Int × (Bool × Unit)))))) × Unit)))) => linguistlaw18_LowerOnce_fu11 x.1.1 x.1.2.1 x.1.2.2.1 x.1.2.2.2.1 x.1.2.2.2.2.1 x.2.1.1 x.2.1.2.1 x.2.1.2.2.1 x.2.2.1.1 x.2.2.1.2.1 x.2.2.1.2.2.1 x.2.2.1.2.2.2.1 x.2.2.1.2.2.2.2.1 x.2.2.1.2.2.2.2.2.1) fun R (x : ((Int × (Int × (List (Int × Int × Int × Int × Int) × (Int × (Int × Unit))))) × ((Int × (Int × (Int × Unit))) × ((Int × (Int × (List (Int × Int × Int × Int × Int) × (Int × (Int × (Bool × Unit)))))) × Unit)))) K => by
  show linguistlaw18_LowerOnce_m11 K (hide linguistlaw18_LowerOnce_L11 (linguistlaw18_LowerOnce_fu11 x.1.1 x.1.2.1 x.1.2.2.1 x.1.2.2.2.1 x.1.2.2.2.2.1 x.2.1.1 x.2.1.2.1 x.2.1.2.2.1 x.2.2.1.1 x.2.2.1.2.1 x.2.2.1.2.2.1 x.2.2.1.2.2.2.1 x.2.2.1.2.2.2.2.1 x.2.2.1.2.2.2.2.2.1) x.1.1 x.1.2.1 x.1.2.2.1 x.1.2.2.2.1 x.1.2.2.2.2.1 x.2.1.1 x.2.1.2.1 x.2.1.2.2.1 x.2.2.1.1 x.2.2.1.2.1 x.2.2.1.2.2.1 x.2.2.1.2.2.2.1 x.2.2.1.2.2.2.2.1 x.2.2.1.2.2.2.2.2.1) = _
  rw [hide_eq]
  exact (linguistlaw18_LowerOnce_l11 K (linguistlaw18_LowerOnce_fu11 x.1.1 x.1.2.1 x.1.2.2.1 x.1.2.2.2.1 x.1.2.2.2.2.1 x.2.1.1 x.2.1.2.1 x.2.1.2.2.1 x.2.2.1.1 x.2.2.1.2.1 x.2.2.1.2.2.1 x.2.2.1.2.2.2.1 x.2.2.1.2.2.2.2.1 x.2.2.1.2.2.2.2.2.1) x.1.1 x.1.2.1 x.1.2.2.1 x.1.2.2.2.1 x.1.2.2.2.2.1 x.2.1.1 x.2.1.2.1 x.2.1.2.2.1 x.2.2.1.1 x.2.2.1.2.1 x.2.2.1.2.2.1 x.2.2.1.2.2.2.1 x.2.2.1.2.2.2.2.1 x.2.2.1.2.2.2.2.2.1).symm
noncomputable def linguistlaw18_LowerOnce_h11 : LoopF := loopH linguistlaw18_LowerOnce_s11 0 linguistlaw18_LowerOnce_G11
noncomputable def linguistlaw18_LowerOnce_ll1 : LoopT := ((6, 11), linguistlaw18_LowerOnce_h11) :: ll0
theorem linguistlaw18_LowerOnce_ll1_ok : AllLoop Try.prog linguistlaw18_LowerOnce_ll1 := ⟨linguistlaw18_LowerOnce_H11, ll0_ok⟩
noncomputable def linguistlaw18_LowerOnce_F (x0 : Int) (x1 : Int) (x2 : Int) (x3 : List (Int)) (x4 : List (Int)) (x5 : Int) (x6 : Int) (x7 : Int) (x8 : Int) (x9 : Int) (x10 : Int) (x11 : Int) (x12 : Int) (x13 : Int) (x14 : Int) (x15 : Int) (x16 : Int) (x17 : Int) : Option (Bool) := (optK ((hide linguistbook_Within_F x0 (1 : Int) (3 : Int))) fun y0 => (optK ((hide linguistkeep_Screen_Screen_F x1 x2 x3 x4 x5 x6 x7 x8 x9 x10 x11 x12 x13)) fun y1 => (optK ((hide lower_View_F y0 y1.1 y1.2.1 y1.2.2.1 y1.2.2.2.1 y1.2.2.2.2.1 y1.2.2.2.2.2.1 y1.2.2.2.2.2.2.1 y1.2.2.2.2.2.2.2.1 y1.2.2.2.2.2.2.2.2.1 y1.2.2.2.2.2.2.2.2.2.1 y1.2.2.2.2.2.2.2.2.2.2.1 y1.2.2.2.2.2.2.2.2.2.2.2.1 y1.2.2.2.2.2.2.2.2.2.2.2.2.1 y1.2.2.2.2.2.2.2.2.2.2.2.2.2.1 y1.2.2.2.2.2.2.2.2.2.2.2.2.2.2.1 y1.2.2.2.2.2.2.2.2.2.2.2.2.2.2.2.1 y1.2.2.2.2.2.2.2.2.2.2.2.2.2.2.2.2.1 y1.2.2.2.2.2.2.2.2.2.2.2.2.2.2.2.2.2.1 y1.2.2.2.2.2.2.2.2.2.2.2.2.2.2.2.2.2.2.1 y1.2.2.2.2.2.2.2.2.2.2.2.2.2.2.2.2.2.2.2.1 y1.2.2.2.2.2.2.2.2.2.2.2.2.2.2.2.2.2.2.2.2.1 y1.2.2.2.2.2.2.2.2.2.2.2.2.2.2.2.2.2.2.2.2.2.1 y1.2.2.2.2.2.2.2.2.2.2.2.2.2.2.2.2.2.2.2.2.2.2.1 y1.2.2.2.2.2.2.2.2.2.2.2.2.2.2.2.2.2.2.2.2.2.2.2.1 y1.2.2.2.2.2.2.2.2.2.2.2.2.2.2.2.2.2.2.2.2.2.2.2.2.1 y1.2.2.2.2.2.2.2.2.2.2.2.2.2.2.2.2.2.2.2.2.2.2.2.2.2.1 y1.2.2.2.2.2.2.2.2.2.2.2.2.2.2.2.2.2.2.2.2.2.2.2.2.2.2.1 y1.2.2.2.2.2.2.2.2.2.2.2.2.2.2.2.2.2.2.2.2.2.2.2.2.2.2.2.1 y1.2.2.2.2.2.2.2.2.2.2.2.2.2.2.2.2.2.2.2.2.2.2.2.2.2.2.2.2)) fun y2 => (bif (Int.ofNat y2.2.2.1.length != Int.ofNat y1.2.2.1.length) then (some (false)) else (optK ((hide lower_View_F y0 y2.1 y2.2.1 y2.2.2.1 y1.2.2.2.1 y1.2.2.2.2.1 y1.2.2.2.2.2.1 y1.2.2.2.2.2.2.1 y1.2.2.2.2.2.2.2.1 y1.2.2.2.2.2.2.2.2.1 y1.2.2.2.2.2.2.2.2.2.1 y1.2.2.2.2.2.2.2.2.2.2.1 y1.2.2.2.2.2.2.2.2.2.2.2.1 y1.2.2.2.2.2.2.2.2.2.2.2.2.1 y1.2.2.2.2.2.2.2.2.2.2.2.2.2.1 y1.2.2.2.2.2.2.2.2.2.2.2.2.2.2.1 y1.2.2.2.2.2.2.2.2.2.2.2.2.2.2.2.1 y1.2.2.2.2.2.2.2.2.2.2.2.2.2.2.2.2.1 y1.2.2.2.2.2.2.2.2.2.2.2.2.2.2.2.2.2.1 y1.2.2.2.2.2.2.2.2.2.2.2.2.2.2.2.2.2.2.1 y1.2.2.2.2.2.2.2.2.2.2.2.2.2.2.2.2.2.2.2.1 y1.2.2.2.2.2.2.2.2.2.2.2.2.2.2.2.2.2.2.2.2.1 y1.2.2.2.2.2.2.2.2.2.2.2.2.2.2.2.2.2.2.2.2.2.1 y1.2.2.2.2.2.2.2.2.2.2.2.2.2.2.2.2.2.2.2.2.2.2.1 y1.2.2.2.2.2.2.2.2.2.2.2.2.2.2.2.2.2.2.2.2.2.2.2.1 y1.2.2.2.2.2.2.2.2.2.2.2.2.2.2.2.2.2.2.2.2.2.2.2.2.1 y1.2.2.2.2.2.2.2.2.2.2.2.2.2.2.2.2.2.2.2.2.2.2.2.2.2.1 y1.2.2.2.2.2.2.2.2.2.2.2.2.2.2.2.2.2.2.2.2.2.2.2.2.2.2.1 y1.2.2.2.2.2.2.2.2.2.2.2.2.2.2.2.2.2.2.2.2.2.2.2.2.2.2.2.1 y1.2.2.2.2.2.2.2.2.2.2.2.2.2.2.2.2.2.2.2.2.2.2.2.2.2.2.2.2)) fun y3 => (optK ((hide lower_Same_F y3.1 y3.2.1 y3.2.2.1 y3.2.2.2.1 y3.2.2.2.2.1 y3.2.2.2.2.2 y2.1 y2.2.1 y2.2.2.1 y2.2.2.2.1 y2.2.2.2.2.1 y2.2.2.2.2.2)) fun y4 => (bif (!y4) then (some (false)) else (optK ((hide lower_Apart_F y2.1 y2.2.1 y2.2.2.1 y2.2.2.2.1 y2.2.2.2.2.1 y2.2.2.2.2.2 y2.1 y2.2.1 y2.2.2.1 y2.2.2.2.1 y2.2.2.2.2.1 y2.2.2.2.2.2)) fun y5 => (bif (y5 != (0 : Int)) then (some (false)) else (optK ((hide lower_Same_F y2.1 y2.2.1 y2.2.2.1 y2.2.2.2.1 y2.2.2.2.2.1 y2.2.2.2.2.2 y2.1 y2.2.1 y2.2.2.1 y2.2.2.2.1 y2.2.2.2.2.1 y2.2.2.2.2.2)) fun y6 => (bif (!y6) then (some (false)) else (optK (hide linguistlaw18_LowerOnce_L11 (linguistlaw18_LowerOnce_fu11 x17 y0 (y2.2.2.1) (Int.ofNat y2.2.2.1.length) (0 : Int) x14 x15 x16 (y2.1) (y2.2.1) (y2.2.2.1) (y2.2.2.2.1) (y2.2.2.2.2.1) (y2.2.2.2.2.2)) x17 y0 (y2.2.2.1) (Int.ofNat y2.2.2.1.length) (0 : Int) x14 x15 x16 (y2.1) (y2.2.1) (y2.2.2.1) (y2.2.2.2.1) (y2.2.2.2.2.1) (y2.2.2.2.2.2)) fun y9 => (sumK y9 (fun y9a => (some y9a)) (fun y9b => (bif (y9b.2.2.2.2.2.2.2.1.length.ble (274877906944 : Nat) && true) then (optK ((hide linguistbook_Within_F y9b.1 (0 : Int) (IntKind.i64.wrap (Int.ofNat y9b.2.2.2.2.2.2.2.1.length - (1 : Int))))) fun y10 => (bif (decide ((0 : Int) ≤ y10) && decide (y10 < Int.ofNat y9b.2.2.2.2.2.2.2.1.length) && true) then (bif (decide ((0 : Int) ≤ y10) && decide (y10 < Int.ofNat y9b.2.2.2.2.2.2.2.1.length) && true) then (optK ((hide linguistkeep_Pen_Pen_F y9b.2.2.1 y9b.2.2.2.1 y9b.2.2.2.2.1)) fun y11 => (optK ((hide lower_Pen_F y9b.2.1 y11.1 y11.2.1 y11.2.2)) fun y12 => (optK ((hide lower_Apart_F y9b.2.2.2.2.2.1 y9b.2.2.2.2.2.2.1 y9b.2.2.2.2.2.2.2.1 y9b.2.2.2.2.2.2.2.2.1 y9b.2.2.2.2.2.2.2.2.2.1 y9b.2.2.2.2.2.2.2.2.2.2 y9b.2.2.2.2.2.1 y9b.2.2.2.2.2.2.1 (y9b.2.2.2.2.2.2.2.1.set y10.toNat (IntKind.i32.wrap ((y9b.2.2.2.2.2.2.2.1.getD y10.toNat ((0 : Int), (0 : Int), (0 : Int), (0 : Int), (0 : Int))).1 + (1 : Int)), (y9b.2.2.2.2.2.2.2.1.getD y10.toNat ((0 : Int), (0 : Int), (0 : Int), (0 : Int), (0 : Int))).2.1, (y9b.2.2.2.2.2.2.2.1.getD y10.toNat ((0 : Int), (0 : Int), (0 : Int), (0 : Int), (0 : Int))).2.2.1, (y9b.2.2.2.2.2.2.2.1.getD y10.toNat ((0 : Int), (0 : Int), (0 : Int), (0 : Int), (0 : Int))).2.2.2.1, (y9b.2.2.2.2.2.2.2.1.getD y10.toNat ((0 : Int), (0 : Int), (0 : Int), (0 : Int), (0 : Int))).2.2.2.2)) y9b.2.2.2.2.2.2.2.2.1 y9b.2.2.2.2.2.2.2.2.2.1 y9b.2.2.2.2.2.2.2.2.2.2)) fun y13 => (bif (y13 == (1 : Int)) then (optK ((hide lower_Same_F y9b.2.2.2.2.2.1 y9b.2.2.2.2.2.2.1 y9b.2.2.2.2.2.2.2.1 y9b.2.2.2.2.2.2.2.2.1 y9b.2.2.2.2.2.2.2.2.2.1 y9b.2.2.2.2.2.2.2.2.2.2 y9b.2.2.2.2.2.1 y9b.2.2.2.2.2.2.1 (y9b.2.2.2.2.2.2.2.1.set y10.toNat (IntKind.i32.wrap ((y9b.2.2.2.2.2.2.2.1.getD y10.toNat ((0 : Int), (0 : Int), (0 : Int), (0 : Int), (0 : Int))).1 + (1 : Int)), (y9b.2.2.2.2.2.2.2.1.getD y10.toNat ((0 : Int), (0 : Int), (0 : Int), (0 : Int), (0 : Int))).2.1, (y9b.2.2.2.2.2.2.2.1.getD y10.toNat ((0 : Int), (0 : Int), (0 : Int), (0 : Int), (0 : Int))).2.2.1, (y9b.2.2.2.2.2.2.2.1.getD y10.toNat ((0 : Int), (0 : Int), (0 : Int), (0 : Int), (0 : Int))).2.2.2.1, (y9b.2.2.2.2.2.2.2.1.getD y10.toNat ((0 : Int), (0 : Int), (0 : Int), (0 : Int), (0 : Int))).2.2.2.2)) y9b.2.2.2.2.2.2.2.2.1 y9b.2.2.2.2.2.2.2.2.2.1 y9b.2.2.2.2.2.2.2.2.2.2)) fun y14 => (bif (!y14) then (optK ((hide lower_Same_F y9b.2.2.2.2.2.1 y9b.2.2.2.2.2.2.1 y9b.2.2.2.2.2.2.2.1 y9b.2.2.2.2.2.2.2.2.1 y9b.2.2.2.2.2.2.2.2.2.1 y9b.2.2.2.2.2.2.2.2.2.2 y9b.2.2.2.2.2.1 y9b.2.2.2.2.2.2.1 y9b.2.2.2.2.2.2.2.1 y9b.2.2.2.2.2.2.2.2.1 (IntKind.i64.wrap (y9b.2.2.2.2.2.2.2.2.2.1 + (1 : Int))) y9b.2.2.2.2.2.2.2.2.2.2)) fun y15 => (bif (!y15) then (optK ((hide lower_Apart_F y9b.2.2.2.2.2.1 y9b.2.2.2.2.2.2.1 y9b.2.2.2.2.2.2.2.1 y9b.2.2.2.2.2.2.2.2.1 y9b.2.2.2.2.2.2.2.2.2.1 y9b.2.2.2.2.2.2.2.2.2.2 y9b.2.2.2.2.2.1 y9b.2.2.2.2.2.2.1 y9b.2.2.2.2.2.2.2.1 y9b.2.2.2.2.2.2.2.2.1 (IntKind.i64.wrap (y9b.2.2.2.2.2.2.2.2.2.1 + (1 : Int))) y9b.2.2.2.2.2.2.2.2.2.2)) fun y16 => (bif (y16 == (0 : Int)) then (optK ((hide lower_Pen_F y9b.2.1 y12.1 y12.2.1 y12.2.2)) fun y17 => (bif (y17.1 == y12.1 && (y17.2.1 == y12.2.1 && (y17.2.2 == y12.2.2 && true))) then (optK ((hide lower_Apart_F y9b.2.2.2.2.2.1 y9b.2.2.2.2.2.2.1 y9b.2.2.2.2.2.2.2.1 y9b.2.2.2.2.2.2.2.2.1 y9b.2.2.2.2.2.2.2.2.2.1 y9b.2.2.2.2.2.2.2.2.2.2 (0 : Int) (0 : Int) [] (0 : Int) (0 : Int) false)) fun y18 => (bif (y18 == (-1 : Int)) then (some (true)) else (some (false)))) else (some (false)))) else (some (false)))) else (some (false)))) else (some (false)))) else (some (false)))))) else none) else none)) else none)))))))))))))))
noncomputable def linguistlaw18_LowerOnce_A : SkL := (.cons (.int .i64) (.cons (.agg (.cons (.int .i64) (.cons (.int .i64) (.cons (.list (.one (.int .i64))) (.cons (.list (.one (.int .i64))) (.cons (.int .i64) (.cons (.int .i64) (.cons (.int .i64) (.cons (.int .i64) (.cons (.int .i64) (.cons (.int .i64) (.cons (.int .i64) (.cons (.int .i64) (.cons (.int .u64) .nil)))))))))))))) (.cons (.agg (.cons (.int .i64) (.cons (.int .i64) (.cons (.int .i64) .nil)))) (.cons (.int .i64) .nil))))
noncomputable def linguistlaw18_LowerOnce_B : Sk := .bool
def linguistlaw18_LowerOnce_m {R : Type} (K : Bool → Option R) (o : Option (Bool)) : Option R := optK o fun y => K y
theorem linguistlaw18_LowerOnce_run {R : Type} (x0 : Int) (x1 : Int) (x2 : Int) (x3 : List (Int)) (x4 : List (Int)) (x5 : Int) (x6 : Int) (x7 : Int) (x8 : Int) (x9 : Int) (x10 : Int) (x11 : Int) (x12 : Int) (x13 : Int) (x14 : Int) (x15 : Int) (x16 : Int) (x17 : Int) (K : Bool → Option R) : acall (envL sums8 linguistlaw18_LowerOnce_ll1 cs0 (fun _ _ => false)) 1000 6 (linguistlaw18_LowerOnce_A.enc (x0, ((x1, (x2, (x3, (x4, (x5, (x6, (x7, (x8, (x9, (x10, (x11, (x12, (x13, ()))))))))))))), ((x14, (x15, (x16, ()))), (x17, ()))))) [] (resK linguistlaw18_LowerOnce_B true K) = linguistlaw18_LowerOnce_m K (linguistlaw18_LowerOnce_F x0 x1 x2 x3 x4 x5 x6 x7 x8 x9 x10 x11 x12 x13 x14 x15 x16 x17) := by
  unfold linguistlaw18_LowerOnce_F
  exact Eq.trans (by kernel_rfl) (optK_push (linguistlaw18_LowerOnce_m K) rfl _ fun y0 => (optK_push (linguistlaw18_LowerOnce_m K) rfl _ fun y1 => (optK_push (linguistlaw18_LowerOnce_m K) rfl _ fun y2 => (cond_push (linguistlaw18_LowerOnce_m K) _ rfl (optK_push (linguistlaw18_LowerOnce_m K) rfl _ fun y3 => (optK_push (linguistlaw18_LowerOnce_m K) rfl _ fun y4 => (cond_push (linguistlaw18_LowerOnce_m K) _ rfl (optK_push (linguistlaw18_LowerOnce_m K) rfl _ fun y5 => (cond_push (linguistlaw18_LowerOnce_m K) _ rfl (optK_push (linguistlaw18_LowerOnce_m K) rfl _ fun y6 => (cond_push (linguistlaw18_LowerOnce_m K) _ rfl (optK_push (linguistlaw18_LowerOnce_m K) rfl _ fun y9 => (sumK_push (linguistlaw18_LowerOnce_m K) _ (fun y9a => rfl) (fun y9b => (cond_push (linguistlaw18_LowerOnce_m K) _ (optK_push (linguistlaw18_LowerOnce_m K) rfl _ fun y10 => (cond_push (linguistlaw18_LowerOnce_m K) _ (cond_push (linguistlaw18_LowerOnce_m K) _ (optK_push (linguistlaw18_LowerOnce_m K) rfl _ fun y11 => (optK_push (linguistlaw18_LowerOnce_m K) rfl _ fun y12 => (optK_push (linguistlaw18_LowerOnce_m K) rfl _ fun y13 => (cond_push (linguistlaw18_LowerOnce_m K) _ (optK_push (linguistlaw18_LowerOnce_m K) rfl _ fun y14 => (cond_push (linguistlaw18_LowerOnce_m K) _ (optK_push (linguistlaw18_LowerOnce_m K) rfl _ fun y15 => (cond_push (linguistlaw18_LowerOnce_m K) _ (optK_push (linguistlaw18_LowerOnce_m K) rfl _ fun y16 => (cond_push (linguistlaw18_LowerOnce_m K) _ (optK_push (linguistlaw18_LowerOnce_m K) rfl _ fun y17 => (cond_push (linguistlaw18_LowerOnce_m K) _ (optK_push (linguistlaw18_LowerOnce_m K) rfl _ fun y18 => (cond_push (linguistlaw18_LowerOnce_m K) _ rfl rfl)) rfl)) rfl)) rfl)) rfl)) rfl)))) rfl) rfl)) rfl)))))))))))))))
end Go.Proofs.YtlpmhldejeaefaaAbs

/- LowerOnce: what the law's own program computes is true. -/
namespace Go.Proofs.YtlpmhldejeaefaaAbs
set_option linter.unusedVariables false
set_option linter.unusedSimpArgs false
set_option maxHeartbeats 4000000
open Go Go.Proofs
theorem lowX_facts (d : Int) {c : Cell} (h : rightPen c.2.2) : (lowX d c).2.1 = 0 ∧ 32 ≤ (lowX d c).1 ∧ ((lowX d c).1 > 126 → d ≠ 3 ∧ (drawnAt (lowX d c).1).isSome = true) ∧ (lowX d c).2.2.1 ≤ 7 ∧ (lowX d c).2.2.2.1 ≤ 7 ∧ (d = 3 → (lowX d c).2.2 = (-1, -1, 0)) := by
  obtain ⟨_, _, c1, _⟩ := lowC_eq h.1
  obtain ⟨_, _, c2, _⟩ := lowC_eq h.2.1
  have pl : (lowP d c.2.2).1 ≤ 7 ∧ (lowP d c.2.2).2.1 ≤ 7 ∧ (d = 3 → lowP d c.2.2 = (-1, -1, 0)) := by
    unfold lowP
    by_cases h2 : d = 2
    · rw [if_pos h2]; exact ⟨c1.2, c2.2, fun k => by omega⟩
    · rw [if_neg h2]
      by_cases h1 : d = 1
      · rw [if_pos h1]; exact ⟨show (-1 : Int) ≤ 7 by decide, show (-1 : Int) ≤ 7 by decide, fun k => by omega⟩
      · rw [if_neg h1]; exact ⟨by decide, by decide, fun _ => rfl⟩
  have key : ∀ x : Int, 32 ≤ lowR d x ∧ (lowR d x > 126 → d ≠ 3 ∧ (drawnAt (lowR d x)).isSome = true) := fun x => by
    by_cases q : (drawnAt x).isSome = true ∧ (d = 1 ∨ d = 2)
    · have e : lowR d x = x := by unfold lowR; rw [if_pos q]
      rw [e]
      refine ⟨?_, fun _ => ⟨by omega, q.1⟩⟩
      cases hd : drawnAt x with
      | none => rw [hd] at q; cases q.1
      | some j =>
        have hm := ixOf_mem DrawnL x 0 j hd
        have hb := ixOf_bound DrawnL x 0 j hd
        have hj : j < 31 := by have : DrawnL.length = 31 := rfl; omega
        have all : ∀ j, j < 31 → 32 ≤ DrawnL.getD j 0 := by decide
        have := all j hj
        rw [Nat.sub_zero] at hm
        omega
    · have e : lowR d x = plByte x := by unfold lowR; rw [if_neg q]
      have b := plByte_bounds x
      rw [e]
      exact ⟨b.1, fun k => by omega⟩
  refine ⟨rfl, ?_, ?_, pl.1, pl.2.1, pl.2.2⟩
  · show 32 ≤ (if c.2.1 = 2 then 32 else lowR d c.1)
    split
    · decide
    · exact (key c.1).1
  · show (if c.2.1 = 2 then 32 else lowR d c.1) > 126 → d ≠ 3 ∧ (drawnAt (if c.2.1 = 2 then 32 else lowR d c.1)).isSome = true
    split
    · intro k; omega
    · exact (key c.1).2
theorem once_loop {a0 d a5 a6 a7 a8 a9 a11 a12 : Int} {a10 : List Cell} {a13 : Bool} {l : List Cell} (hp : pensOk l) (hl : l.length < 1000000) : ∀ (n i : Nat), i ≤ l.length → l.length - i < n →
    linguistlaw18_LowerOnce_L11 n a0 d (l.map (lowX d)) (Int.ofNat l.length) (Int.ofNat i) a5 a6 a7 a8 a9 a10 a11 a12 a13 = some (.inr (a0, d, a5, a6, a7, a8, a9, a10, a11, a12, a13)) := by
  intro n
  induction n with
  | zero => intro i h1 h2; omega
  | succ n ih =>
    intro i h1 h2
    rw [linguistlaw18_LowerOnce_L11, ofNat_lt]
    by_cases hi : i < l.length
    · have e0 : decide ((0 : Int) ≤ Int.ofNat i) = true := by simp
      have e4 : (l.map (lowX d)).getD i (0, 0, 0, 0, 0) = lowX d (l.getD i dC) := by simp [hi]
      have step := ih (i + 1) (by omega) (by omega)
      rw [decide_eq_true hi, e0, toNat_ofNat', e4, List.length_map, ofNat_lt, decide_eq_true hi, wrap_succ (by omega)]
      obtain ⟨f1, f2, f3, f4, f5, f6⟩ := lowX_facts d (hp i hi)
      generalize lowX d (l.getD i dC) = c at *
      obtain ⟨b, hu, _⟩ := undraw_eq c.1
      rw [hu, f1, decide_eq_false (by omega : ¬ c.1 < 32), decide_eq_false (by omega : ¬ c.2.2.1 > 7), decide_eq_false (by omega : ¬ c.2.2.2.1 > 7)]
      simp only [cond_true, cond_false, Bool.and_self, optK_s, bne_self_eq_false]
      have tail : (bif d == 3 then bif !(c.2.2.1 == -1 && (c.2.2.2.1 == -1 && (c.2.2.2.2 == 0 && true))) then some (.inl false) else linguistlaw18_LowerOnce_L11 n a0 d (l.map (lowX d)) (Int.ofNat l.length) (Int.ofNat (i + 1)) a5 a6 a7 a8 a9 a10 a11 a12 a13 else linguistlaw18_LowerOnce_L11 n a0 d (l.map (lowX d)) (Int.ofNat l.length) (Int.ofNat (i + 1)) a5 a6 a7 a8 a9 a10 a11 a12 a13) = some (.inr (a0, d, a5, a6, a7, a8, a9, a10, a11, a12, a13)) := by
        by_cases h3 : d = 3
        · rw [show (d == 3) = true by rw [h3]; rfl, f6 h3]
          simp only [cond_true]
          exact step
        · rw [show (d == 3) = false from beq_false_of_ne h3]
          exact step
      by_cases q : c.1 > 126
      · obtain ⟨g1, g2⟩ := f3 q
        rw [decide_eq_true q, show (d == 3) = false from beq_false_of_ne g1, g2]
        rw [show (d == 3) = false from beq_false_of_ne g1] at tail
        exact tail
      · rw [decide_eq_false q]
        exact tail
    · have : i = l.length := by omega
      subst this
      rw [decide_eq_false hi]; rfl
theorem same_E {R C r c : Int} {s : Bool} {R' C' r' c' : Int} {s' : Bool} {l m : List Cell} (hR : R = R') (hC : C = C') (hlm : l.length = m.length) (hl : l.length ≤ 4096) : hide lower_Same_F R C l r c s R' C' m r' c' s' = some (decide (diffN l m = 0 ∧ r = r' ∧ c = c' ∧ s = s')) := by
  rw [hide_eq]; unfold lower_Same_F
  rw [apart_eq hR hC hlm hl]
  simp only [optK_s]
  by_cases h0 : diffN l m = 0
  · rw [h0]
    by_cases h1 : r = r'
    · by_cases h2 : c = c'
      · rw [show (r == r') = true by rw [h1]; simp, show (c == c') = true by rw [h2]; simp]
        cases s <;> cases s' <;> simp [h1, h2]
      · rw [show (c == c') = false from beq_false_of_ne h2, decide_eq_false (fun k => h2 k.2.2.1)]
        cases r == r' <;> rfl
    · rw [show (r == r') = false from beq_false_of_ne h1, decide_eq_false (fun k => h1 k.2.1)]; rfl
  · rw [show (Int.ofNat (diffN l m) == 0) = false from beq_false_of_ne (by show ((diffN l m : Nat) : Int) ≠ 0; omega), decide_eq_false (fun k => h0 k.1)]; rfl
theorem lowerOnce_true (x0 x1 x2 : Int) (x3 x4 : List Int) (x5 x6 x7 x8 x9 x10 x11 x12 x13 x14 x15 x16 x17 : Int) (i0 : in64 x0) (i1 : in64 x1) (i2 : in64 x2) (i3 : ∀ y, y ∈ x3 → in64 y) (i4 : ∀ y, y ∈ x4 → in64 y) (i5 : in64 x5) (i6 : in64 x6) (i7 : in64 x7) (i8 : in64 x8) (i9 : in64 x9) (i10 : in64 x10) (i11 : in64 x11) (i12 : in64 x12) (i13 : 0 ≤ x13 ∧ x13 < 18446744073709551616) (i14 : in64 x14) (i15 : in64 x15) (i16 : in64 x16) (i17 : in64 x17) :
    linguistlaw18_LowerOnce_F x0 x1 x2 x3 x4 x5 x6 x7 x8 x9 x10 x11 x12 x13 x14 x15 x16 x17 = some true := by
  unfold linguistlaw18_LowerOnce_F
  obtain ⟨h, w, s, hh, hw, k, _, _, _, _, _, e⟩ := keepScreen_eq (x12 := x13) i1 i2 i3 i4 i5 i6 i7 i8 i9 i10 i11 i12
  have h1 := k.h1; have w1 := k.w1; have c0 := k.col
  obtain ⟨d, hd, d0, d1⟩ := within_eq x0 1 3 i0.1 i0.2 (by omega) (by omega) (by omega)
  obtain ⟨p, hpe, hpr⟩ := pen_eq x14 x15 x16 i14 i15 i16
  have hp := k.cells.pens
  have hl := k.len
  have hlen := k.cells.1.1
  have hpos : 1 ≤ h * w := Nat.mul_le_mul h1 w1
  obtain ⟨j, hj, j0, j1⟩ := within_eq x17 0 ((s.2.2.1.length : Int) - 1) i17.1 i17.2 (by omega) (by omega) (by omega)
  obtain ⟨i, rfl⟩ : ∃ i : Nat, j = Int.ofNat i := ⟨j.toNat, by show j = ((j.toNat : Nat) : Int); omega⟩
  have hi : i < s.2.2.1.length := by have : (i : Int) ≤ (s.2.2.1.length : Int) - 1 := j1; omega
  rw [hd]
  simp only [optK_s]
  rw [e]
  simp only [optK_s]
  rw [view_E d hp hl]
  simp only [optK_s]
  generalize hm : s.2.2.1.map (lowX d) = m
  have ml : m.length = s.2.2.1.length := by rw [← hm, List.length_map]
  have V2 : hide lower_View_F d ((s.1, s.2.1, m, s.2.2.2.1, s.2.2.2.2.1, s.2.2.2.2.2.1, s.2.2.2.2.2.2.1, s.2.2.2.2.2.2.2.1, s.2.2.2.2.2.2.2.2.1, s.2.2.2.2.2.2.2.2.2.1, s.2.2.2.2.2.2.2.2.2.2.1, s.2.2.2.2.2.2.2.2.2.2.2.1, s.2.2.2.2.2.2.2.2.2.2.2.2.1, s.2.2.2.2.2.2.2.2.2.2.2.2.2.1, s.2.2.2.2.2.2.2.2.2.2.2.2.2.2.1, s.2.2.2.2.2.2.2.2.2.2.2.2.2.2.2.1, s.2.2.2.2.2.2.2.2.2.2.2.2.2.2.2.2.1, s.2.2.2.2.2.2.2.2.2.2.2.2.2.2.2.2.2.1, s.2.2.2.2.2.2.2.2.2.2.2.2.2.2.2.2.2.2.1, s.2.2.2.2.2.2.2.2.2.2.2.2.2.2.2.2.2.2.2.1, s.2.2.2.2.2.2.2.2.2.2.2.2.2.2.2.2.2.2.2.2.1, s.2.2.2.2.2.2.2.2.2.2.2.2.2.2.2.2.2.2.2.2.2.1, s.2.2.2.2.2.2.2.2.2.2.2.2.2.2.2.2.2.2.2.2.2.2.1, s.2.2.2.2.2.2.2.2.2.2.2.2.2.2.2.2.2.2.2.2.2.2.2.1, s.2.2.2.2.2.2.2.2.2.2.2.2.2.2.2.2.2.2.2.2.2.2.2.2.1, s.2.2.2.2.2.2.2.2.2.2.2.2.2.2.2.2.2.2.2.2.2.2.2.2.2.1, s.2.2.2.2.2.2.2.2.2.2.2.2.2.2.2.2.2.2.2.2.2.2.2.2.2.2.1, s.2.2.2.2.2.2.2.2.2.2.2.2.2.2.2.2.2.2.2.2.2.2.2.2.2.2.2.1, s.2.2.2.2.2.2.2.2.2.2.2.2.2.2.2.2.2.2.2.2.2.2.2.2.2.2.2.2)).1 ((s.1, s.2.1, m, s.2.2.2.1, s.2.2.2.2.1, s.2.2.2.2.2.1, s.2.2.2.2.2.2.1, s.2.2.2.2.2.2.2.1, s.2.2.2.2.2.2.2.2.1, s.2.2.2.2.2.2.2.2.2.1, s.2.2.2.2.2.2.2.2.2.2.1, s.2.2.2.2.2.2.2.2.2.2.2.1, s.2.2.2.2.2.2.2.2.2.2.2.2.1, s.2.2.2.2.2.2.2.2.2.2.2.2.2.1, s.2.2.2.2.2.2.2.2.2.2.2.2.2.2.1, s.2.2.2.2.2.2.2.2.2.2.2.2.2.2.2.1, s.2.2.2.2.2.2.2.2.2.2.2.2.2.2.2.2.1, s.2.2.2.2.2.2.2.2.2.2.2.2.2.2.2.2.2.1, s.2.2.2.2.2.2.2.2.2.2.2.2.2.2.2.2.2.2.1, s.2.2.2.2.2.2.2.2.2.2.2.2.2.2.2.2.2.2.2.1, s.2.2.2.2.2.2.2.2.2.2.2.2.2.2.2.2.2.2.2.2.1, s.2.2.2.2.2.2.2.2.2.2.2.2.2.2.2.2.2.2.2.2.2.1, s.2.2.2.2.2.2.2.2.2.2.2.2.2.2.2.2.2.2.2.2.2.2.1, s.2.2.2.2.2.2.2.2.2.2.2.2.2.2.2.2.2.2.2.2.2.2.2.1, s.2.2.2.2.2.2.2.2.2.2.2.2.2.2.2.2.2.2.2.2.2.2.2.2.1, s.2.2.2.2.2.2.2.2.2.2.2.2.2.2.2.2.2.2.2.2.2.2.2.2.2.1, s.2.2.2.2.2.2.2.2.2.2.2.2.2.2.2.2.2.2.2.2.2.2.2.2.2.2.1, s.2.2.2.2.2.2.2.2.2.2.2.2.2.2.2.2.2.2.2.2.2.2.2.2.2.2.2.1, s.2.2.2.2.2.2.2.2.2.2.2.2.2.2.2.2.2.2.2.2.2.2.2.2.2.2.2.2)).2.1 ((s.1, s.2.1, m, s.2.2.2.1, s.2.2.2.2.1, s.2.2.2.2.2.1, s.2.2.2.2.2.2.1, s.2.2.2.2.2.2.2.1, s.2.2.2.2.2.2.2.2.1, s.2.2.2.2.2.2.2.2.2.1, s.2.2.2.2.2.2.2.2.2.2.1, s.2.2.2.2.2.2.2.2.2.2.2.1, s.2.2.2.2.2.2.2.2.2.2.2.2.1, s.2.2.2.2.2.2.2.2.2.2.2.2.2.1, s.2.2.2.2.2.2.2.2.2.2.2.2.2.2.1, s.2.2.2.2.2.2.2.2.2.2.2.2.2.2.2.1, s.2.2.2.2.2.2.2.2.2.2.2.2.2.2.2.2.1, s.2.2.2.2.2.2.2.2.2.2.2.2.2.2.2.2.2.1, s.2.2.2.2.2.2.2.2.2.2.2.2.2.2.2.2.2.2.1, s.2.2.2.2.2.2.2.2.2.2.2.2.2.2.2.2.2.2.2.1, s.2.2.2.2.2.2.2.2.2.2.2.2.2.2.2.2.2.2.2.2.1, s.2.2.2.2.2.2.2.2.2.2.2.2.2.2.2.2.2.2.2.2.2.1, s.2.2.2.2.2.2.2.2.2.2.2.2.2.2.2.2.2.2.2.2.2.2.1, s.2.2.2.2.2.2.2.2.2.2.2.2.2.2.2.2.2.2.2.2.2.2.2.1, s.2.2.2.2.2.2.2.2.2.2.2.2.2.2.2.2.2.2.2.2.2.2.2.2.1, s.2.2.2.2.2.2.2.2.2.2.2.2.2.2.2.2.2.2.2.2.2.2.2.2.2.1, s.2.2.2.2.2.2.2.2.2.2.2.2.2.2.2.2.2.2.2.2.2.2.2.2.2.2.1, s.2.2.2.2.2.2.2.2.2.2.2.2.2.2.2.2.2.2.2.2.2.2.2.2.2.2.2.1, s.2.2.2.2.2.2.2.2.2.2.2.2.2.2.2.2.2.2.2.2.2.2.2.2.2.2.2.2)).2.2.1 ((s.1, s.2.1, m, s.2.2.2.1, s.2.2.2.2.1, s.2.2.2.2.2.1, s.2.2.2.2.2.2.1, s.2.2.2.2.2.2.2.1, s.2.2.2.2.2.2.2.2.1, s.2.2.2.2.2.2.2.2.2.1, s.2.2.2.2.2.2.2.2.2.2.1, s.2.2.2.2.2.2.2.2.2.2.2.1, s.2.2.2.2.2.2.2.2.2.2.2.2.1, s.2.2.2.2.2.2.2.2.2.2.2.2.2.1, s.2.2.2.2.2.2.2.2.2.2.2.2.2.2.1, s.2.2.2.2.2.2.2.2.2.2.2.2.2.2.2.1, s.2.2.2.2.2.2.2.2.2.2.2.2.2.2.2.2.1, s.2.2.2.2.2.2.2.2.2.2.2.2.2.2.2.2.2.1, s.2.2.2.2.2.2.2.2.2.2.2.2.2.2.2.2.2.2.1, s.2.2.2.2.2.2.2.2.2.2.2.2.2.2.2.2.2.2.2.1, s.2.2.2.2.2.2.2.2.2.2.2.2.2.2.2.2.2.2.2.2.1, s.2.2.2.2.2.2.2.2.2.2.2.2.2.2.2.2.2.2.2.2.2.1, s.2.2.2.2.2.2.2.2.2.2.2.2.2.2.2.2.2.2.2.2.2.2.1, s.2.2.2.2.2.2.2.2.2.2.2.2.2.2.2.2.2.2.2.2.2.2.2.1, s.2.2.2.2.2.2.2.2.2.2.2.2.2.2.2.2.2.2.2.2.2.2.2.2.1, s.2.2.2.2.2.2.2.2.2.2.2.2.2.2.2.2.2.2.2.2.2.2.2.2.2.1, s.2.2.2.2.2.2.2.2.2.2.2.2.2.2.2.2.2.2.2.2.2.2.2.2.2.2.1, s.2.2.2.2.2.2.2.2.2.2.2.2.2.2.2.2.2.2.2.2.2.2.2.2.2.2.2.1, s.2.2.2.2.2.2.2.2.2.2.2.2.2.2.2.2.2.2.2.2.2.2.2.2.2.2.2.2)).2.2.2.1 ((s.1, s.2.1, m, s.2.2.2.1, s.2.2.2.2.1, s.2.2.2.2.2.1, s.2.2.2.2.2.2.1, s.2.2.2.2.2.2.2.1, s.2.2.2.2.2.2.2.2.1, s.2.2.2.2.2.2.2.2.2.1, s.2.2.2.2.2.2.2.2.2.2.1, s.2.2.2.2.2.2.2.2.2.2.2.1, s.2.2.2.2.2.2.2.2.2.2.2.2.1, s.2.2.2.2.2.2.2.2.2.2.2.2.2.1, s.2.2.2.2.2.2.2.2.2.2.2.2.2.2.1, s.2.2.2.2.2.2.2.2.2.2.2.2.2.2.2.1, s.2.2.2.2.2.2.2.2.2.2.2.2.2.2.2.2.1, s.2.2.2.2.2.2.2.2.2.2.2.2.2.2.2.2.2.1, s.2.2.2.2.2.2.2.2.2.2.2.2.2.2.2.2.2.2.1, s.2.2.2.2.2.2.2.2.2.2.2.2.2.2.2.2.2.2.2.1, s.2.2.2.2.2.2.2.2.2.2.2.2.2.2.2.2.2.2.2.2.1, s.2.2.2.2.2.2.2.2.2.2.2.2.2.2.2.2.2.2.2.2.2.1, s.2.2.2.2.2.2.2.2.2.2.2.2.2.2.2.2.2.2.2.2.2.2.1, s.2.2.2.2.2.2.2.2.2.2.2.2.2.2.2.2.2.2.2.2.2.2.2.1, s.2.2.2.2.2.2.2.2.2.2.2.2.2.2.2.2.2.2.2.2.2.2.2.2.1, s.2.2.2.2.2.2.2.2.2.2.2.2.2.2.2.2.2.2.2.2.2.2.2.2.2.1, s.2.2.2.2.2.2.2.2.2.2.2.2.2.2.2.2.2.2.2.2.2.2.2.2.2.2.1, s.2.2.2.2.2.2.2.2.2.2.2.2.2.2.2.2.2.2.2.2.2.2.2.2.2.2.2.1, s.2.2.2.2.2.2.2.2.2.2.2.2.2.2.2.2.2.2.2.2.2.2.2.2.2.2.2.2)).2.2.2.2.1 ((s.1, s.2.1, m, s.2.2.2.1, s.2.2.2.2.1, s.2.2.2.2.2.1, s.2.2.2.2.2.2.1, s.2.2.2.2.2.2.2.1, s.2.2.2.2.2.2.2.2.1, s.2.2.2.2.2.2.2.2.2.1, s.2.2.2.2.2.2.2.2.2.2.1, s.2.2.2.2.2.2.2.2.2.2.2.1, s.2.2.2.2.2.2.2.2.2.2.2.2.1, s.2.2.2.2.2.2.2.2.2.2.2.2.2.1, s.2.2.2.2.2.2.2.2.2.2.2.2.2.2.1, s.2.2.2.2.2.2.2.2.2.2.2.2.2.2.2.1, s.2.2.2.2.2.2.2.2.2.2.2.2.2.2.2.2.1, s.2.2.2.2.2.2.2.2.2.2.2.2.2.2.2.2.2.1, s.2.2.2.2.2.2.2.2.2.2.2.2.2.2.2.2.2.2.1, s.2.2.2.2.2.2.2.2.2.2.2.2.2.2.2.2.2.2.2.1, s.2.2.2.2.2.2.2.2.2.2.2.2.2.2.2.2.2.2.2.2.1, s.2.2.2.2.2.2.2.2.2.2.2.2.2.2.2.2.2.2.2.2.2.1, s.2.2.2.2.2.2.2.2.2.2.2.2.2.2.2.2.2.2.2.2.2.2.1, s.2.2.2.2.2.2.2.2.2.2.2.2.2.2.2.2.2.2.2.2.2.2.2.1, s.2.2.2.2.2.2.2.2.2.2.2.2.2.2.2.2.2.2.2.2.2.2.2.2.1, s.2.2.2.2.2.2.2.2.2.2.2.2.2.2.2.2.2.2.2.2.2.2.2.2.2.1, s.2.2.2.2.2.2.2.2.2.2.2.2.2.2.2.2.2.2.2.2.2.2.2.2.2.2.1, s.2.2.2.2.2.2.2.2.2.2.2.2.2.2.2.2.2.2.2.2.2.2.2.2.2.2.2.1, s.2.2.2.2.2.2.2.2.2.2.2.2.2.2.2.2.2.2.2.2.2.2.2.2.2.2.2.2)).2.2.2.2.2.1 ((s.1, s.2.1, m, s.2.2.2.1, s.2.2.2.2.1, s.2.2.2.2.2.1, s.2.2.2.2.2.2.1, s.2.2.2.2.2.2.2.1, s.2.2.2.2.2.2.2.2.1, s.2.2.2.2.2.2.2.2.2.1, s.2.2.2.2.2.2.2.2.2.2.1, s.2.2.2.2.2.2.2.2.2.2.2.1, s.2.2.2.2.2.2.2.2.2.2.2.2.1, s.2.2.2.2.2.2.2.2.2.2.2.2.2.1, s.2.2.2.2.2.2.2.2.2.2.2.2.2.2.1, s.2.2.2.2.2.2.2.2.2.2.2.2.2.2.2.1, s.2.2.2.2.2.2.2.2.2.2.2.2.2.2.2.2.1, s.2.2.2.2.2.2.2.2.2.2.2.2.2.2.2.2.2.1, s.2.2.2.2.2.2.2.2.2.2.2.2.2.2.2.2.2.2.1, s.2.2.2.2.2.2.2.2.2.2.2.2.2.2.2.2.2.2.2.1, s.2.2.2.2.2.2.2.2.2.2.2.2.2.2.2.2.2.2.2.2.1, s.2.2.2.2.2.2.2.2.2.2.2.2.2.2.2.2.2.2.2.2.2.1, s.2.2.2.2.2.2.2.2.2.2.2.2.2.2.2.2.2.2.2.2.2.2.1, s.2.2.2.2.2.2.2.2.2.2.2.2.2.2.2.2.2.2.2.2.2.2.2.1, s.2.2.2.2.2.2.2.2.2.2.2.2.2.2.2.2.2.2.2.2.2.2.2.2.1, s.2.2.2.2.2.2.2.2.2.2.2.2.2.2.2.2.2.2.2.2.2.2.2.2.2.1, s.2.2.2.2.2.2.2.2.2.2.2.2.2.2.2.2.2.2.2.2.2.2.2.2.2.2.1, s.2.2.2.2.2.2.2.2.2.2.2.2.2.2.2.2.2.2.2.2.2.2.2.2.2.2.2.1, s.2.2.2.2.2.2.2.2.2.2.2.2.2.2.2.2.2.2.2.2.2.2.2.2.2.2.2.2)).2.2.2.2.2.2.1 ((s.1, s.2.1, m, s.2.2.2.1, s.2.2.2.2.1, s.2.2.2.2.2.1, s.2.2.2.2.2.2.1, s.2.2.2.2.2.2.2.1, s.2.2.2.2.2.2.2.2.1, s.2.2.2.2.2.2.2.2.2.1, s.2.2.2.2.2.2.2.2.2.2.1, s.2.2.2.2.2.2.2.2.2.2.2.1, s.2.2.2.2.2.2.2.2.2.2.2.2.1, s.2.2.2.2.2.2.2.2.2.2.2.2.2.1, s.2.2.2.2.2.2.2.2.2.2.2.2.2.2.1, s.2.2.2.2.2.2.2.2.2.2.2.2.2.2.2.1, s.2.2.2.2.2.2.2.2.2.2.2.2.2.2.2.2.1, s.2.2.2.2.2.2.2.2.2.2.2.2.2.2.2.2.2.1, s.2.2.2.2.2.2.2.2.2.2.2.2.2.2.2.2.2.2.1, s.2.2.2.2.2.2.2.2.2.2.2.2.2.2.2.2.2.2.2.1, s.2.2.2.2.2.2.2.2.2.2.2.2.2.2.2.2.2.2.2.2.1, s.2.2.2.2.2.2.2.2.2.2.2.2.2.2.2.2.2.2.2.2.2.1, s.2.2.2.2.2.2.2.2.2.2.2.2.2.2.2.2.2.2.2.2.2.2.1, s.2.2.2.2.2.2.2.2.2.2.2.2.2.2.2.2.2.2.2.2.2.2.2.1, s.2.2.2.2.2.2.2.2.2.2.2.2.2.2.2.2.2.2.2.2.2.2.2.2.1, s.2.2.2.2.2.2.2.2.2.2.2.2.2.2.2.2.2.2.2.2.2.2.2.2.2.1, s.2.2.2.2.2.2.2.2.2.2.2.2.2.2.2.2.2.2.2.2.2.2.2.2.2.2.1, s.2.2.2.2.2.2.2.2.2.2.2.2.2.2.2.2.2.2.2.2.2.2.2.2.2.2.2.1, s.2.2.2.2.2.2.2.2.2.2.2.2.2.2.2.2.2.2.2.2.2.2.2.2.2.2.2.2)).2.2.2.2.2.2.2.1 ((s.1, s.2.1, m, s.2.2.2.1, s.2.2.2.2.1, s.2.2.2.2.2.1, s.2.2.2.2.2.2.1, s.2.2.2.2.2.2.2.1, s.2.2.2.2.2.2.2.2.1, s.2.2.2.2.2.2.2.2.2.1, s.2.2.2.2.2.2.2.2.2.2.1, s.2.2.2.2.2.2.2.2.2.2.2.1, s.2.2.2.2.2.2.2.2.2.2.2.2.1, s.2.2.2.2.2.2.2.2.2.2.2.2.2.1, s.2.2.2.2.2.2.2.2.2.2.2.2.2.2.1, s.2.2.2.2.2.2.2.2.2.2.2.2.2.2.2.1, s.2.2.2.2.2.2.2.2.2.2.2.2.2.2.2.2.1, s.2.2.2.2.2.2.2.2.2.2.2.2.2.2.2.2.2.1, s.2.2.2.2.2.2.2.2.2.2.2.2.2.2.2.2.2.2.1, s.2.2.2.2.2.2.2.2.2.2.2.2.2.2.2.2.2.2.2.1, s.2.2.2.2.2.2.2.2.2.2.2.2.2.2.2.2.2.2.2.2.1, s.2.2.2.2.2.2.2.2.2.2.2.2.2.2.2.2.2.2.2.2.2.1, s.2.2.2.2.2.2.2.2.2.2.2.2.2.2.2.2.2.2.2.2.2.2.1, s.2.2.2.2.2.2.2.2.2.2.2.2.2.2.2.2.2.2.2.2.2.2.2.1, s.2.2.2.2.2.2.2.2.2.2.2.2.2.2.2.2.2.2.2.2.2.2.2.2.1, s.2.2.2.2.2.2.2.2.2.2.2.2.2.2.2.2.2.2.2.2.2.2.2.2.2.1, s.2.2.2.2.2.2.2.2.2.2.2.2.2.2.2.2.2.2.2.2.2.2.2.2.2.2.1, s.2.2.2.2.2.2.2.2.2.2.2.2.2.2.2.2.2.2.2.2.2.2.2.2.2.2.2.1, s.2.2.2.2.2.2.2.2.2.2.2.2.2.2.2.2.2.2.2.2.2.2.2.2.2.2.2.2)).2.2.2.2.2.2.2.2.1 ((s.1, s.2.1, m, s.2.2.2.1, s.2.2.2.2.1, s.2.2.2.2.2.1, s.2.2.2.2.2.2.1, s.2.2.2.2.2.2.2.1, s.2.2.2.2.2.2.2.2.1, s.2.2.2.2.2.2.2.2.2.1, s.2.2.2.2.2.2.2.2.2.2.1, s.2.2.2.2.2.2.2.2.2.2.2.1, s.2.2.2.2.2.2.2.2.2.2.2.2.1, s.2.2.2.2.2.2.2.2.2.2.2.2.2.1, s.2.2.2.2.2.2.2.2.2.2.2.2.2.2.1, s.2.2.2.2.2.2.2.2.2.2.2.2.2.2.2.1, s.2.2.2.2.2.2.2.2.2.2.2.2.2.2.2.2.1, s.2.2.2.2.2.2.2.2.2.2.2.2.2.2.2.2.2.1, s.2.2.2.2.2.2.2.2.2.2.2.2.2.2.2.2.2.2.1, s.2.2.2.2.2.2.2.2.2.2.2.2.2.2.2.2.2.2.2.1, s.2.2.2.2.2.2.2.2.2.2.2.2.2.2.2.2.2.2.2.2.1, s.2.2.2.2.2.2.2.2.2.2.2.2.2.2.2.2.2.2.2.2.2.1, s.2.2.2.2.2.2.2.2.2.2.2.2.2.2.2.2.2.2.2.2.2.2.1, s.2.2.2.2.2.2.2.2.2.2.2.2.2.2.2.2.2.2.2.2.2.2.2.1, s.2.2.2.2.2.2.2.2.2.2.2.2.2.2.2.2.2.2.2.2.2.2.2.2.1, s.2.2.2.2.2.2.2.2.2.2.2.2.2.2.2.2.2.2.2.2.2.2.2.2.2.1, s.2.2.2.2.2.2.2.2.2.2.2.2.2.2.2.2.2.2.2.2.2.2.2.2.2.2.1, s.2.2.2.2.2.2.2.2.2.2.2.2.2.2.2.2.2.2.2.2.2.2.2.2.2.2.2.1, s.2.2.2.2.2.2.2.2.2.2.2.2.2.2.2.2.2.2.2.2.2.2.2.2.2.2.2.2)).2.2.2.2.2.2.2.2.2.1 ((s.1, s.2.1, m, s.2.2.2.1, s.2.2.2.2.1, s.2.2.2.2.2.1, s.2.2.2.2.2.2.1, s.2.2.2.2.2.2.2.1, s.2.2.2.2.2.2.2.2.1, s.2.2.2.2.2.2.2.2.2.1, s.2.2.2.2.2.2.2.2.2.2.1, s.2.2.2.2.2.2.2.2.2.2.2.1, s.2.2.2.2.2.2.2.2.2.2.2.2.1, s.2.2.2.2.2.2.2.2.2.2.2.2.2.1, s.2.2.2.2.2.2.2.2.2.2.2.2.2.2.1, s.2.2.2.2.2.2.2.2.2.2.2.2.2.2.2.1, s.2.2.2.2.2.2.2.2.2.2.2.2.2.2.2.2.1, s.2.2.2.2.2.2.2.2.2.2.2.2.2.2.2.2.2.1, s.2.2.2.2.2.2.2.2.2.2.2.2.2.2.2.2.2.2.1, s.2.2.2.2.2.2.2.2.2.2.2.2.2.2.2.2.2.2.2.1, s.2.2.2.2.2.2.2.2.2.2.2.2.2.2.2.2.2.2.2.2.1, s.2.2.2.2.2.2.2.2.2.2.2.2.2.2.2.2.2.2.2.2.2.1, s.2.2.2.2.2.2.2.2.2.2.2.2.2.2.2.2.2.2.2.2.2.2.1, s.2.2.2.2.2.2.2.2.2.2.2.2.2.2.2.2.2.2.2.2.2.2.2.1, s.2.2.2.2.2.2.2.2.2.2.2.2.2.2.2.2.2.2.2.2.2.2.2.2.1, s.2.2.2.2.2.2.2.2.2.2.2.2.2.2.2.2.2.2.2.2.2.2.2.2.2.1, s.2.2.2.2.2.2.2.2.2.2.2.2.2.2.2.2.2.2.2.2.2.2.2.2.2.2.1, s.2.2.2.2.2.2.2.2.2.2.2.2.2.2.2.2.2.2.2.2.2.2.2.2.2.2.2.1, s.2.2.2.2.2.2.2.2.2.2.2.2.2.2.2.2.2.2.2.2.2.2.2.2.2.2.2.2)).2.2.2.2.2.2.2.2.2.2.1 ((s.1, s.2.1, m, s.2.2.2.1, s.2.2.2.2.1, s.2.2.2.2.2.1, s.2.2.2.2.2.2.1, s.2.2.2.2.2.2.2.1, s.2.2.2.2.2.2.2.2.1, s.2.2.2.2.2.2.2.2.2.1, s.2.2.2.2.2.2.2.2.2.2.1, s.2.2.2.2.2.2.2.2.2.2.2.1, s.2.2.2.2.2.2.2.2.2.2.2.2.1, s.2.2.2.2.2.2.2.2.2.2.2.2.2.1, s.2.2.2.2.2.2.2.2.2.2.2.2.2.2.1, s.2.2.2.2.2.2.2.2.2.2.2.2.2.2.2.1, s.2.2.2.2.2.2.2.2.2.2.2.2.2.2.2.2.1, s.2.2.2.2.2.2.2.2.2.2.2.2.2.2.2.2.2.1, s.2.2.2.2.2.2.2.2.2.2.2.2.2.2.2.2.2.2.1, s.2.2.2.2.2.2.2.2.2.2.2.2.2.2.2.2.2.2.2.1, s.2.2.2.2.2.2.2.2.2.2.2.2.2.2.2.2.2.2.2.2.1, s.2.2.2.2.2.2.2.2.2.2.2.2.2.2.2.2.2.2.2.2.2.1, s.2.2.2.2.2.2.2.2.2.2.2.2.2.2.2.2.2.2.2.2.2.2.1, s.2.2.2.2.2.2.2.2.2.2.2.2.2.2.2.2.2.2.2.2.2.2.2.1, s.2.2.2.2.2.2.2.2.2.2.2.2.2.2.2.2.2.2.2.2.2.2.2.2.1, s.2.2.2.2.2.2.2.2.2.2.2.2.2.2.2.2.2.2.2.2.2.2.2.2.2.1, s.2.2.2.2.2.2.2.2.2.2.2.2.2.2.2.2.2.2.2.2.2.2.2.2.2.2.1, s.2.2.2.2.2.2.2.2.2.2.2.2.2.2.2.2.2.2.2.2.2.2.2.2.2.2.2.1, s.2.2.2.2.2.2.2.2.2.2.2.2.2.2.2.2.2.2.2.2.2.2.2.2.2.2.2.2)).2.2.2.2.2.2.2.2.2.2.2.1 ((s.1, s.2.1, m, s.2.2.2.1, s.2.2.2.2.1, s.2.2.2.2.2.1, s.2.2.2.2.2.2.1, s.2.2.2.2.2.2.2.1, s.2.2.2.2.2.2.2.2.1, s.2.2.2.2.2.2.2.2.2.1, s.2.2.2.2.2.2.2.2.2.2.1, s.2.2.2.2.2.2.2.2.2.2.2.1, s.2.2.2.2.2.2.2.2.2.2.2.2.1, s.2.2.2.2.2.2.2.2.2.2.2.2.2.1, s.2.2.2.2.2.2.2.2.2.2.2.2.2.2.1, s.2.2.2.2.2.2.2.2.2.2.2.2.2.2.2.1, s.2.2.2.2.2.2.2.2.2.2.2.2.2.2.2.2.1, s.2.2.2.2.2.2.2.2.2.2.2.2.2.2.2.2.2.1, s.2.2.2.2.2.2.2.2.2.2.2.2.2.2.2.2.2.2.1, s.2.2.2.2.2.2.2.2.2.2.2.2.2.2.2.2.2.2.2.1, s.2.2.2.2.2.2.2.2.2.2.2.2.2.2.2.2.2.2.2.2.1, s.2.2.2.2.2.2.2.2.2.2.2.2.2.2.2.2.2.2.2.2.2.1, s.2.2.2.2.2.2.2.2.2.2.2.2.2.2.2.2.2.2.2.2.2.2.1, s.2.2.2.2.2.2.2.2.2.2.2.2.2.2.2.2.2.2.2.2.2.2.2.1, s.2.2.2.2.2.2.2.2.2.2.2.2.2.2.2.2.2.2.2.2.2.2.2.2.1, s.2.2.2.2.2.2.2.2.2.2.2.2.2.2.2.2.2.2.2.2.2.2.2.2.2.1, s.2.2.2.2.2.2.2.2.2.2.2.2.2.2.2.2.2.2.2.2.2.2.2.2.2.2.1, s.2.2.2.2.2.2.2.2.2.2.2.2.2.2.2.2.2.2.2.2.2.2.2.2.2.2.2.1, s.2.2.2.2.2.2.2.2.2.2.2.2.2.2.2.2.2.2.2.2.2.2.2.2.2.2.2.2)).2.2.2.2.2.2.2.2.2.2.2.2.1 ((s.1, s.2.1, m, s.2.2.2.1, s.2.2.2.2.1, s.2.2.2.2.2.1, s.2.2.2.2.2.2.1, s.2.2.2.2.2.2.2.1, s.2.2.2.2.2.2.2.2.1, s.2.2.2.2.2.2.2.2.2.1, s.2.2.2.2.2.2.2.2.2.2.1, s.2.2.2.2.2.2.2.2.2.2.2.1, s.2.2.2.2.2.2.2.2.2.2.2.2.1, s.2.2.2.2.2.2.2.2.2.2.2.2.2.1, s.2.2.2.2.2.2.2.2.2.2.2.2.2.2.1, s.2.2.2.2.2.2.2.2.2.2.2.2.2.2.2.1, s.2.2.2.2.2.2.2.2.2.2.2.2.2.2.2.2.1, s.2.2.2.2.2.2.2.2.2.2.2.2.2.2.2.2.2.1, s.2.2.2.2.2.2.2.2.2.2.2.2.2.2.2.2.2.2.1, s.2.2.2.2.2.2.2.2.2.2.2.2.2.2.2.2.2.2.2.1, s.2.2.2.2.2.2.2.2.2.2.2.2.2.2.2.2.2.2.2.2.1, s.2.2.2.2.2.2.2.2.2.2.2.2.2.2.2.2.2.2.2.2.2.1, s.2.2.2.2.2.2.2.2.2.2.2.2.2.2.2.2.2.2.2.2.2.2.1, s.2.2.2.2.2.2.2.2.2.2.2.2.2.2.2.2.2.2.2.2.2.2.2.1, s.2.2.2.2.2.2.2.2.2.2.2.2.2.2.2.2.2.2.2.2.2.2.2.2.1, s.2.2.2.2.2.2.2.2.2.2.2.2.2.2.2.2.2.2.2.2.2.2.2.2.2.1, s.2.2.2.2.2.2.2.2.2.2.2.2.2.2.2.2.2.2.2.2.2.2.2.2.2.2.1, s.2.2.2.2.2.2.2.2.2.2.2.2.2.2.2.2.2.2.2.2.2.2.2.2.2.2.2.1, s.2.2.2.2.2.2.2.2.2.2.2.2.2.2.2.2.2.2.2.2.2.2.2.2.2.2.2.2)).2.2.2.2.2.2.2.2.2.2.2.2.2.1 ((s.1, s.2.1, m, s.2.2.2.1, s.2.2.2.2.1, s.2.2.2.2.2.1, s.2.2.2.2.2.2.1, s.2.2.2.2.2.2.2.1, s.2.2.2.2.2.2.2.2.1, s.2.2.2.2.2.2.2.2.2.1, s.2.2.2.2.2.2.2.2.2.2.1, s.2.2.2.2.2.2.2.2.2.2.2.1, s.2.2.2.2.2.2.2.2.2.2.2.2.1, s.2.2.2.2.2.2.2.2.2.2.2.2.2.1, s.2.2.2.2.2.2.2.2.2.2.2.2.2.2.1, s.2.2.2.2.2.2.2.2.2.2.2.2.2.2.2.1, s.2.2.2.2.2.2.2.2.2.2.2.2.2.2.2.2.1, s.2.2.2.2.2.2.2.2.2.2.2.2.2.2.2.2.2.1, s.2.2.2.2.2.2.2.2.2.2.2.2.2.2.2.2.2.2.1, s.2.2.2.2.2.2.2.2.2.2.2.2.2.2.2.2.2.2.2.1, s.2.2.2.2.2.2.2.2.2.2.2.2.2.2.2.2.2.2.2.2.1, s.2.2.2.2.2.2.2.2.2.2.2.2.2.2.2.2.2.2.2.2.2.1, s.2.2.2.2.2.2.2.2.2.2.2.2.2.2.2.2.2.2.2.2.2.2.1, s.2.2.2.2.2.2.2.2.2.2.2.2.2.2.2.2.2.2.2.2.2.2.2.1, s.2.2.2.2.2.2.2.2.2.2.2.2.2.2.2.2.2.2.2.2.2.2.2.2.1, s.2.2.2.2.2.2.2.2.2.2.2.2.2.2.2.2.2.2.2.2.2.2.2.2.2.1, s.2.2.2.2.2.2.2.2.2.2.2.2.2.2.2.2.2.2.2.2.2.2.2.2.2.2.1, s.2.2.2.2.2.2.2.2.2.2.2.2.2.2.2.2.2.2.2.2.2.2.2.2.2.2.2.1, s.2.2.2.2.2.2.2.2.2.2.2.2.2.2.2.2.2.2.2.2.2.2.2.2.2.2.2.2)).2.2.2.2.2.2.2.2.2.2.2.2.2.2.1 ((s.1, s.2.1, m, s.2.2.2.1, s.2.2.2.2.1, s.2.2.2.2.2.1, s.2.2.2.2.2.2.1, s.2.2.2.2.2.2.2.1, s.2.2.2.2.2.2.2.2.1, s.2.2.2.2.2.2.2.2.2.1, s.2.2.2.2.2.2.2.2.2.2.1, s.2.2.2.2.2.2.2.2.2.2.2.1, s.2.2.2.2.2.2.2.2.2.2.2.2.1, s.2.2.2.2.2.2.2.2.2.2.2.2.2.1, s.2.2.2.2.2.2.2.2.2.2.2.2.2.2.1, s.2.2.2.2.2.2.2.2.2.2.2.2.2.2.2.1, s.2.2.2.2.2.2.2.2.2.2.2.2.2.2.2.2.1, s.2.2.2.2.2.2.2.2.2.2.2.2.2.2.2.2.2.1, s.2.2.2.2.2.2.2.2.2.2.2.2.2.2.2.2.2.2.1, s.2.2.2.2.2.2.2.2.2.2.2.2.2.2.2.2.2.2.2.1, s.2.2.2.2.2.2.2.2.2.2.2.2.2.2.2.2.2.2.2.2.1, s.2.2.2.2.2.2.2.2.2.2.2.2.2.2.2.2.2.2.2.2.2.1, s.2.2.2.2.2.2.2.2.2.2.2.2.2.2.2.2.2.2.2.2.2.2.1, s.2.2.2.2.2.2.2.2.2.2.2.2.2.2.2.2.2.2.2.2.2.2.2.1, s.2.2.2.2.2.2.2.2.2.2.2.2.2.2.2.2.2.2.2.2.2.2.2.2.1, s.2.2.2.2.2.2.2.2.2.2.2.2.2.2.2.2.2.2.2.2.2.2.2.2.2.1, s.2.2.2.2.2.2.2.2.2.2.2.2.2.2.2.2.2.2.2.2.2.2.2.2.2.2.1, s.2.2.2.2.2.2.2.2.2.2.2.2.2.2.2.2.2.2.2.2.2.2.2.2.2.2.2.1, s.2.2.2.2.2.2.2.2.2.2.2.2.2.2.2.2.2.2.2.2.2.2.2.2.2.2.2.2)).2.2.2.2.2.2.2.2.2.2.2.2.2.2.2.1 ((s.1, s.2.1, m, s.2.2.2.1, s.2.2.2.2.1, s.2.2.2.2.2.1, s.2.2.2.2.2.2.1, s.2.2.2.2.2.2.2.1, s.2.2.2.2.2.2.2.2.1, s.2.2.2.2.2.2.2.2.2.1, s.2.2.2.2.2.2.2.2.2.2.1, s.2.2.2.2.2.2.2.2.2.2.2.1, s.2.2.2.2.2.2.2.2.2.2.2.2.1, s.2.2.2.2.2.2.2.2.2.2.2.2.2.1, s.2.2.2.2.2.2.2.2.2.2.2.2.2.2.1, s.2.2.2.2.2.2.2.2.2.2.2.2.2.2.2.1, s.2.2.2.2.2.2.2.2.2.2.2.2.2.2.2.2.1, s.2.2.2.2.2.2.2.2.2.2.2.2.2.2.2.2.2.1, s.2.2.2.2.2.2.2.2.2.2.2.2.2.2.2.2.2.2.1, s.2.2.2.2.2.2.2.2.2.2.2.2.2.2.2.2.2.2.2.1, s.2.2.2.2.2.2.2.2.2.2.2.2.2.2.2.2.2.2.2.2.1, s.2.2.2.2.2.2.2.2.2.2.2.2.2.2.2.2.2.2.2.2.2.1, s.2.2.2.2.2.2.2.2.2.2.2.2.2.2.2.2.2.2.2.2.2.2.1, s.2.2.2.2.2.2.2.2.2.2.2.2.2.2.2.2.2.2.2.2.2.2.2.1, s.2.2.2.2.2.2.2.2.2.2.2.2.2.2.2.2.2.2.2.2.2.2.2.2.1, s.2.2.2.2.2.2.2.2.2.2.2.2.2.2.2.2.2.2.2.2.2.2.2.2.2.1, s.2.2.2.2.2.2.2.2.2.2.2.2.2.2.2.2.2.2.2.2.2.2.2.2.2.2.1, s.2.2.2.2.2.2.2.2.2.2.2.2.2.2.2.2.2.2.2.2.2.2.2.2.2.2.2.1, s.2.2.2.2.2.2.2.2.2.2.2.2.2.2.2.2.2.2.2.2.2.2.2.2.2.2.2.2)).2.2.2.2.2.2.2.2.2.2.2.2.2.2.2.2.1 ((s.1, s.2.1, m, s.2.2.2.1, s.2.2.2.2.1, s.2.2.2.2.2.1, s.2.2.2.2.2.2.1, s.2.2.2.2.2.2.2.1, s.2.2.2.2.2.2.2.2.1, s.2.2.2.2.2.2.2.2.2.1, s.2.2.2.2.2.2.2.2.2.2.1, s.2.2.2.2.2.2.2.2.2.2.2.1, s.2.2.2.2.2.2.2.2.2.2.2.2.1, s.2.2.2.2.2.2.2.2.2.2.2.2.2.1, s.2.2.2.2.2.2.2.2.2.2.2.2.2.2.1, s.2.2.2.2.2.2.2.2.2.2.2.2.2.2.2.1, s.2.2.2.2.2.2.2.2.2.2.2.2.2.2.2.2.1, s.2.2.2.2.2.2.2.2.2.2.2.2.2.2.2.2.2.1, s.2.2.2.2.2.2.2.2.2.2.2.2.2.2.2.2.2.2.1, s.2.2.2.2.2.2.2.2.2.2.2.2.2.2.2.2.2.2.2.1, s.2.2.2.2.2.2.2.2.2.2.2.2.2.2.2.2.2.2.2.2.1, s.2.2.2.2.2.2.2.2.2.2.2.2.2.2.2.2.2.2.2.2.2.1, s.2.2.2.2.2.2.2.2.2.2.2.2.2.2.2.2.2.2.2.2.2.2.1, s.2.2.2.2.2.2.2.2.2.2.2.2.2.2.2.2.2.2.2.2.2.2.2.1, s.2.2.2.2.2.2.2.2.2.2.2.2.2.2.2.2.2.2.2.2.2.2.2.2.1, s.2.2.2.2.2.2.2.2.2.2.2.2.2.2.2.2.2.2.2.2.2.2.2.2.2.1, s.2.2.2.2.2.2.2.2.2.2.2.2.2.2.2.2.2.2.2.2.2.2.2.2.2.2.1, s.2.2.2.2.2.2.2.2.2.2.2.2.2.2.2.2.2.2.2.2.2.2.2.2.2.2.2.1, s.2.2.2.2.2.2.2.2.2.2.2.2.2.2.2.2.2.2.2.2.2.2.2.2.2.2.2.2)).2.2.2.2.2.2.2.2.2.2.2.2.2.2.2.2.2.1 ((s.1, s.2.1, m, s.2.2.2.1, s.2.2.2.2.1, s.2.2.2.2.2.1, s.2.2.2.2.2.2.1, s.2.2.2.2.2.2.2.1, s.2.2.2.2.2.2.2.2.1, s.2.2.2.2.2.2.2.2.2.1, s.2.2.2.2.2.2.2.2.2.2.1, s.2.2.2.2.2.2.2.2.2.2.2.1, s.2.2.2.2.2.2.2.2.2.2.2.2.1, s.2.2.2.2.2.2.2.2.2.2.2.2.2.1, s.2.2.2.2.2.2.2.2.2.2.2.2.2.2.1, s.2.2.2.2.2.2.2.2.2.2.2.2.2.2.2.1, s.2.2.2.2.2.2.2.2.2.2.2.2.2.2.2.2.1, s.2.2.2.2.2.2.2.2.2.2.2.2.2.2.2.2.2.1, s.2.2.2.2.2.2.2.2.2.2.2.2.2.2.2.2.2.2.1, s.2.2.2.2.2.2.2.2.2.2.2.2.2.2.2.2.2.2.2.1, s.2.2.2.2.2.2.2.2.2.2.2.2.2.2.2.2.2.2.2.2.1, s.2.2.2.2.2.2.2.2.2.2.2.2.2.2.2.2.2.2.2.2.2.1, s.2.2.2.2.2.2.2.2.2.2.2.2.2.2.2.2.2.2.2.2.2.2.1, s.2.2.2.2.2.2.2.2.2.2.2.2.2.2.2.2.2.2.2.2.2.2.2.1, s.2.2.2.2.2.2.2.2.2.2.2.2.2.2.2.2.2.2.2.2.2.2.2.2.1, s.2.2.2.2.2.2.2.2.2.2.2.2.2.2.2.2.2.2.2.2.2.2.2.2.2.1, s.2.2.2.2.2.2.2.2.2.2.2.2.2.2.2.2.2.2.2.2.2.2.2.2.2.2.1, s.2.2.2.2.2.2.2.2.2.2.2.2.2.2.2.2.2.2.2.2.2.2.2.2.2.2.2.1, s.2.2.2.2.2.2.2.2.2.2.2.2.2.2.2.2.2.2.2.2.2.2.2.2.2.2.2.2)).2.2.2.2.2.2.2.2.2.2.2.2.2.2.2.2.2.2.1 ((s.1, s.2.1, m, s.2.2.2.1, s.2.2.2.2.1, s.2.2.2.2.2.1, s.2.2.2.2.2.2.1, s.2.2.2.2.2.2.2.1, s.2.2.2.2.2.2.2.2.1, s.2.2.2.2.2.2.2.2.2.1, s.2.2.2.2.2.2.2.2.2.2.1, s.2.2.2.2.2.2.2.2.2.2.2.1, s.2.2.2.2.2.2.2.2.2.2.2.2.1, s.2.2.2.2.2.2.2.2.2.2.2.2.2.1, s.2.2.2.2.2.2.2.2.2.2.2.2.2.2.1, s.2.2.2.2.2.2.2.2.2.2.2.2.2.2.2.1, s.2.2.2.2.2.2.2.2.2.2.2.2.2.2.2.2.1, s.2.2.2.2.2.2.2.2.2.2.2.2.2.2.2.2.2.1, s.2.2.2.2.2.2.2.2.2.2.2.2.2.2.2.2.2.2.1, s.2.2.2.2.2.2.2.2.2.2.2.2.2.2.2.2.2.2.2.1, s.2.2.2.2.2.2.2.2.2.2.2.2.2.2.2.2.2.2.2.2.1, s.2.2.2.2.2.2.2.2.2.2.2.2.2.2.2.2.2.2.2.2.2.1, s.2.2.2.2.2.2.2.2.2.2.2.2.2.2.2.2.2.2.2.2.2.2.1, s.2.2.2.2.2.2.2.2.2.2.2.2.2.2.2.2.2.2.2.2.2.2.2.1, s.2.2.2.2.2.2.2.2.2.2.2.2.2.2.2.2.2.2.2.2.2.2.2.2.1, s.2.2.2.2.2.2.2.2.2.2.2.2.2.2.2.2.2.2.2.2.2.2.2.2.2.1, s.2.2.2.2.2.2.2.2.2.2.2.2.2.2.2.2.2.2.2.2.2.2.2.2.2.2.1, s.2.2.2.2.2.2.2.2.2.2.2.2.2.2.2.2.2.2.2.2.2.2.2.2.2.2.2.1, s.2.2.2.2.2.2.2.2.2.2.2.2.2.2.2.2.2.2.2.2.2.2.2.2.2.2.2.2)).2.2.2.2.2.2.2.2.2.2.2.2.2.2.2.2.2.2.2.1 ((s.1, s.2.1, m, s.2.2.2.1, s.2.2.2.2.1, s.2.2.2.2.2.1, s.2.2.2.2.2.2.1, s.2.2.2.2.2.2.2.1, s.2.2.2.2.2.2.2.2.1, s.2.2.2.2.2.2.2.2.2.1, s.2.2.2.2.2.2.2.2.2.2.1, s.2.2.2.2.2.2.2.2.2.2.2.1, s.2.2.2.2.2.2.2.2.2.2.2.2.1, s.2.2.2.2.2.2.2.2.2.2.2.2.2.1, s.2.2.2.2.2.2.2.2.2.2.2.2.2.2.1, s.2.2.2.2.2.2.2.2.2.2.2.2.2.2.2.1, s.2.2.2.2.2.2.2.2.2.2.2.2.2.2.2.2.1, s.2.2.2.2.2.2.2.2.2.2.2.2.2.2.2.2.2.1, s.2.2.2.2.2.2.2.2.2.2.2.2.2.2.2.2.2.2.1, s.2.2.2.2.2.2.2.2.2.2.2.2.2.2.2.2.2.2.2.1, s.2.2.2.2.2.2.2.2.2.2.2.2.2.2.2.2.2.2.2.2.1, s.2.2.2.2.2.2.2.2.2.2.2.2.2.2.2.2.2.2.2.2.2.1, s.2.2.2.2.2.2.2.2.2.2.2.2.2.2.2.2.2.2.2.2.2.2.1, s.2.2.2.2.2.2.2.2.2.2.2.2.2.2.2.2.2.2.2.2.2.2.2.1, s.2.2.2.2.2.2.2.2.2.2.2.2.2.2.2.2.2.2.2.2.2.2.2.2.1, s.2.2.2.2.2.2.2.2.2.2.2.2.2.2.2.2.2.2.2.2.2.2.2.2.2.1, s.2.2.2.2.2.2.2.2.2.2.2.2.2.2.2.2.2.2.2.2.2.2.2.2.2.2.1, s.2.2.2.2.2.2.2.2.2.2.2.2.2.2.2.2.2.2.2.2.2.2.2.2.2.2.2.1, s.2.2.2.2.2.2.2.2.2.2.2.2.2.2.2.2.2.2.2.2.2.2.2.2.2.2.2.2)).2.2.2.2.2.2.2.2.2.2.2.2.2.2.2.2.2.2.2.2.1 ((s.1, s.2.1, m, s.2.2.2.1, s.2.2.2.2.1, s.2.2.2.2.2.1, s.2.2.2.2.2.2.1, s.2.2.2.2.2.2.2.1, s.2.2.2.2.2.2.2.2.1, s.2.2.2.2.2.2.2.2.2.1, s.2.2.2.2.2.2.2.2.2.2.1, s.2.2.2.2.2.2.2.2.2.2.2.1, s.2.2.2.2.2.2.2.2.2.2.2.2.1, s.2.2.2.2.2.2.2.2.2.2.2.2.2.1, s.2.2.2.2.2.2.2.2.2.2.2.2.2.2.1, s.2.2.2.2.2.2.2.2.2.2.2.2.2.2.2.1, s.2.2.2.2.2.2.2.2.2.2.2.2.2.2.2.2.1, s.2.2.2.2.2.2.2.2.2.2.2.2.2.2.2.2.2.1, s.2.2.2.2.2.2.2.2.2.2.2.2.2.2.2.2.2.2.1, s.2.2.2.2.2.2.2.2.2.2.2.2.2.2.2.2.2.2.2.1, s.2.2.2.2.2.2.2.2.2.2.2.2.2.2.2.2.2.2.2.2.1, s.2.2.2.2.2.2.2.2.2.2.2.2.2.2.2.2.2.2.2.2.2.1, s.2.2.2.2.2.2.2.2.2.2.2.2.2.2.2.2.2.2.2.2.2.2.1, s.2.2.2.2.2.2.2.2.2.2.2.2.2.2.2.2.2.2.2.2.2.2.2.1, s.2.2.2.2.2.2.2.2.2.2.2.2.2.2.2.2.2.2.2.2.2.2.2.2.1, s.2.2.2.2.2.2.2.2.2.2.2.2.2.2.2.2.2.2.2.2.2.2.2.2.2.1, s.2.2.2.2.2.2.2.2.2.2.2.2.2.2.2.2.2.2.2.2.2.2.2.2.2.2.1, s.2.2.2.2.2.2.2.2.2.2.2.2.2.2.2.2.2.2.2.2.2.2.2.2.2.2.2.1, s.2.2.2.2.2.2.2.2.2.2.2.2.2.2.2.2.2.2.2.2.2.2.2.2.2.2.2.2)).2.2.2.2.2.2.2.2.2.2.2.2.2.2.2.2.2.2.2.2.2.1 ((s.1, s.2.1, m, s.2.2.2.1, s.2.2.2.2.1, s.2.2.2.2.2.1, s.2.2.2.2.2.2.1, s.2.2.2.2.2.2.2.1, s.2.2.2.2.2.2.2.2.1, s.2.2.2.2.2.2.2.2.2.1, s.2.2.2.2.2.2.2.2.2.2.1, s.2.2.2.2.2.2.2.2.2.2.2.1, s.2.2.2.2.2.2.2.2.2.2.2.2.1, s.2.2.2.2.2.2.2.2.2.2.2.2.2.1, s.2.2.2.2.2.2.2.2.2.2.2.2.2.2.1, s.2.2.2.2.2.2.2.2.2.2.2.2.2.2.2.1, s.2.2.2.2.2.2.2.2.2.2.2.2.2.2.2.2.1, s.2.2.2.2.2.2.2.2.2.2.2.2.2.2.2.2.2.1, s.2.2.2.2.2.2.2.2.2.2.2.2.2.2.2.2.2.2.1, s.2.2.2.2.2.2.2.2.2.2.2.2.2.2.2.2.2.2.2.1, s.2.2.2.2.2.2.2.2.2.2.2.2.2.2.2.2.2.2.2.2.1, s.2.2.2.2.2.2.2.2.2.2.2.2.2.2.2.2.2.2.2.2.2.1, s.2.2.2.2.2.2.2.2.2.2.2.2.2.2.2.2.2.2.2.2.2.2.1, s.2.2.2.2.2.2.2.2.2.2.2.2.2.2.2.2.2.2.2.2.2.2.2.1, s.2.2.2.2.2.2.2.2.2.2.2.2.2.2.2.2.2.2.2.2.2.2.2.2.1, s.2.2.2.2.2.2.2.2.2.2.2.2.2.2.2.2.2.2.2.2.2.2.2.2.2.1, s.2.2.2.2.2.2.2.2.2.2.2.2.2.2.2.2.2.2.2.2.2.2.2.2.2.2.1, s.2.2.2.2.2.2.2.2.2.2.2.2.2.2.2.2.2.2.2.2.2.2.2.2.2.2.2.1, s.2.2.2.2.2.2.2.2.2.2.2.2.2.2.2.2.2.2.2.2.2.2.2.2.2.2.2.2)).2.2.2.2.2.2.2.2.2.2.2.2.2.2.2.2.2.2.2.2.2.2.1 ((s.1, s.2.1, m, s.2.2.2.1, s.2.2.2.2.1, s.2.2.2.2.2.1, s.2.2.2.2.2.2.1, s.2.2.2.2.2.2.2.1, s.2.2.2.2.2.2.2.2.1, s.2.2.2.2.2.2.2.2.2.1, s.2.2.2.2.2.2.2.2.2.2.1, s.2.2.2.2.2.2.2.2.2.2.2.1, s.2.2.2.2.2.2.2.2.2.2.2.2.1, s.2.2.2.2.2.2.2.2.2.2.2.2.2.1, s.2.2.2.2.2.2.2.2.2.2.2.2.2.2.1, s.2.2.2.2.2.2.2.2.2.2.2.2.2.2.2.1, s.2.2.2.2.2.2.2.2.2.2.2.2.2.2.2.2.1, s.2.2.2.2.2.2.2.2.2.2.2.2.2.2.2.2.2.1, s.2.2.2.2.2.2.2.2.2.2.2.2.2.2.2.2.2.2.1, s.2.2.2.2.2.2.2.2.2.2.2.2.2.2.2.2.2.2.2.1, s.2.2.2.2.2.2.2.2.2.2.2.2.2.2.2.2.2.2.2.2.1, s.2.2.2.2.2.2.2.2.2.2.2.2.2.2.2.2.2.2.2.2.2.1, s.2.2.2.2.2.2.2.2.2.2.2.2.2.2.2.2.2.2.2.2.2.2.1, s.2.2.2.2.2.2.2.2.2.2.2.2.2.2.2.2.2.2.2.2.2.2.2.1, s.2.2.2.2.2.2.2.2.2.2.2.2.2.2.2.2.2.2.2.2.2.2.2.2.1, s.2.2.2.2.2.2.2.2.2.2.2.2.2.2.2.2.2.2.2.2.2.2.2.2.2.1, s.2.2.2.2.2.2.2.2.2.2.2.2.2.2.2.2.2.2.2.2.2.2.2.2.2.2.1, s.2.2.2.2.2.2.2.2.2.2.2.2.2.2.2.2.2.2.2.2.2.2.2.2.2.2.2.1, s.2.2.2.2.2.2.2.2.2.2.2.2.2.2.2.2.2.2.2.2.2.2.2.2.2.2.2.2)).2.2.2.2.2.2.2.2.2.2.2.2.2.2.2.2.2.2.2.2.2.2.2.1 ((s.1, s.2.1, m, s.2.2.2.1, s.2.2.2.2.1, s.2.2.2.2.2.1, s.2.2.2.2.2.2.1, s.2.2.2.2.2.2.2.1, s.2.2.2.2.2.2.2.2.1, s.2.2.2.2.2.2.2.2.2.1, s.2.2.2.2.2.2.2.2.2.2.1, s.2.2.2.2.2.2.2.2.2.2.2.1, s.2.2.2.2.2.2.2.2.2.2.2.2.1, s.2.2.2.2.2.2.2.2.2.2.2.2.2.1, s.2.2.2.2.2.2.2.2.2.2.2.2.2.2.1, s.2.2.2.2.2.2.2.2.2.2.2.2.2.2.2.1, s.2.2.2.2.2.2.2.2.2.2.2.2.2.2.2.2.1, s.2.2.2.2.2.2.2.2.2.2.2.2.2.2.2.2.2.1, s.2.2.2.2.2.2.2.2.2.2.2.2.2.2.2.2.2.2.1, s.2.2.2.2.2.2.2.2.2.2.2.2.2.2.2.2.2.2.2.1, s.2.2.2.2.2.2.2.2.2.2.2.2.2.2.2.2.2.2.2.2.1, s.2.2.2.2.2.2.2.2.2.2.2.2.2.2.2.2.2.2.2.2.2.1, s.2.2.2.2.2.2.2.2.2.2.2.2.2.2.2.2.2.2.2.2.2.2.1, s.2.2.2.2.2.2.2.2.2.2.2.2.2.2.2.2.2.2.2.2.2.2.2.1, s.2.2.2.2.2.2.2.2.2.2.2.2.2.2.2.2.2.2.2.2.2.2.2.2.1, s.2.2.2.2.2.2.2.2.2.2.2.2.2.2.2.2.2.2.2.2.2.2.2.2.2.1, s.2.2.2.2.2.2.2.2.2.2.2.2.2.2.2.2.2.2.2.2.2.2.2.2.2.2.1, s.2.2.2.2.2.2.2.2.2.2.2.2.2.2.2.2.2.2.2.2.2.2.2.2.2.2.2.1, s.2.2.2.2.2.2.2.2.2.2.2.2.2.2.2.2.2.2.2.2.2.2.2.2.2.2.2.2)).2.2.2.2.2.2.2.2.2.2.2.2.2.2.2.2.2.2.2.2.2.2.2.2.1 ((s.1, s.2.1, m, s.2.2.2.1, s.2.2.2.2.1, s.2.2.2.2.2.1, s.2.2.2.2.2.2.1, s.2.2.2.2.2.2.2.1, s.2.2.2.2.2.2.2.2.1, s.2.2.2.2.2.2.2.2.2.1, s.2.2.2.2.2.2.2.2.2.2.1, s.2.2.2.2.2.2.2.2.2.2.2.1, s.2.2.2.2.2.2.2.2.2.2.2.2.1, s.2.2.2.2.2.2.2.2.2.2.2.2.2.1, s.2.2.2.2.2.2.2.2.2.2.2.2.2.2.1, s.2.2.2.2.2.2.2.2.2.2.2.2.2.2.2.1, s.2.2.2.2.2.2.2.2.2.2.2.2.2.2.2.2.1, s.2.2.2.2.2.2.2.2.2.2.2.2.2.2.2.2.2.1, s.2.2.2.2.2.2.2.2.2.2.2.2.2.2.2.2.2.2.1, s.2.2.2.2.2.2.2.2.2.2.2.2.2.2.2.2.2.2.2.1, s.2.2.2.2.2.2.2.2.2.2.2.2.2.2.2.2.2.2.2.2.1, s.2.2.2.2.2.2.2.2.2.2.2.2.2.2.2.2.2.2.2.2.2.1, s.2.2.2.2.2.2.2.2.2.2.2.2.2.2.2.2.2.2.2.2.2.2.1, s.2.2.2.2.2.2.2.2.2.2.2.2.2.2.2.2.2.2.2.2.2.2.2.1, s.2.2.2.2.2.2.2.2.2.2.2.2.2.2.2.2.2.2.2.2.2.2.2.2.1, s.2.2.2.2.2.2.2.2.2.2.2.2.2.2.2.2.2.2.2.2.2.2.2.2.2.1, s.2.2.2.2.2.2.2.2.2.2.2.2.2.2.2.2.2.2.2.2.2.2.2.2.2.2.1, s.2.2.2.2.2.2.2.2.2.2.2.2.2.2.2.2.2.2.2.2.2.2.2.2.2.2.2.1, s.2.2.2.2.2.2.2.2.2.2.2.2.2.2.2.2.2.2.2.2.2.2.2.2.2.2.2.2)).2.2.2.2.2.2.2.2.2.2.2.2.2.2.2.2.2.2.2.2.2.2.2.2.2.1 ((s.1, s.2.1, m, s.2.2.2.1, s.2.2.2.2.1, s.2.2.2.2.2.1, s.2.2.2.2.2.2.1, s.2.2.2.2.2.2.2.1, s.2.2.2.2.2.2.2.2.1, s.2.2.2.2.2.2.2.2.2.1, s.2.2.2.2.2.2.2.2.2.2.1, s.2.2.2.2.2.2.2.2.2.2.2.1, s.2.2.2.2.2.2.2.2.2.2.2.2.1, s.2.2.2.2.2.2.2.2.2.2.2.2.2.1, s.2.2.2.2.2.2.2.2.2.2.2.2.2.2.1, s.2.2.2.2.2.2.2.2.2.2.2.2.2.2.2.1, s.2.2.2.2.2.2.2.2.2.2.2.2.2.2.2.2.1, s.2.2.2.2.2.2.2.2.2.2.2.2.2.2.2.2.2.1, s.2.2.2.2.2.2.2.2.2.2.2.2.2.2.2.2.2.2.1, s.2.2.2.2.2.2.2.2.2.2.2.2.2.2.2.2.2.2.2.1, s.2.2.2.2.2.2.2.2.2.2.2.2.2.2.2.2.2.2.2.2.1, s.2.2.2.2.2.2.2.2.2.2.2.2.2.2.2.2.2.2.2.2.2.1, s.2.2.2.2.2.2.2.2.2.2.2.2.2.2.2.2.2.2.2.2.2.2.1, s.2.2.2.2.2.2.2.2.2.2.2.2.2.2.2.2.2.2.2.2.2.2.2.1, s.2.2.2.2.2.2.2.2.2.2.2.2.2.2.2.2.2.2.2.2.2.2.2.2.1, s.2.2.2.2.2.2.2.2.2.2.2.2.2.2.2.2.2.2.2.2.2.2.2.2.2.1, s.2.2.2.2.2.2.2.2.2.2.2.2.2.2.2.2.2.2.2.2.2.2.2.2.2.2.1, s.2.2.2.2.2.2.2.2.2.2.2.2.2.2.2.2.2.2.2.2.2.2.2.2.2.2.2.1, s.2.2.2.2.2.2.2.2.2.2.2.2.2.2.2.2.2.2.2.2.2.2.2.2.2.2.2.2)).2.2.2.2.2.2.2.2.2.2.2.2.2.2.2.2.2.2.2.2.2.2.2.2.2.2.1 ((s.1, s.2.1, m, s.2.2.2.1, s.2.2.2.2.1, s.2.2.2.2.2.1, s.2.2.2.2.2.2.1, s.2.2.2.2.2.2.2.1, s.2.2.2.2.2.2.2.2.1, s.2.2.2.2.2.2.2.2.2.1, s.2.2.2.2.2.2.2.2.2.2.1, s.2.2.2.2.2.2.2.2.2.2.2.1, s.2.2.2.2.2.2.2.2.2.2.2.2.1, s.2.2.2.2.2.2.2.2.2.2.2.2.2.1, s.2.2.2.2.2.2.2.2.2.2.2.2.2.2.1, s.2.2.2.2.2.2.2.2.2.2.2.2.2.2.2.1, s.2.2.2.2.2.2.2.2.2.2.2.2.2.2.2.2.1, s.2.2.2.2.2.2.2.2.2.2.2.2.2.2.2.2.2.1, s.2.2.2.2.2.2.2.2.2.2.2.2.2.2.2.2.2.2.1, s.2.2.2.2.2.2.2.2.2.2.2.2.2.2.2.2.2.2.2.1, s.2.2.2.2.2.2.2.2.2.2.2.2.2.2.2.2.2.2.2.2.1, s.2.2.2.2.2.2.2.2.2.2.2.2.2.2.2.2.2.2.2.2.2.1, s.2.2.2.2.2.2.2.2.2.2.2.2.2.2.2.2.2.2.2.2.2.2.1, s.2.2.2.2.2.2.2.2.2.2.2.2.2.2.2.2.2.2.2.2.2.2.2.1, s.2.2.2.2.2.2.2.2.2.2.2.2.2.2.2.2.2.2.2.2.2.2.2.2.1, s.2.2.2.2.2.2.2.2.2.2.2.2.2.2.2.2.2.2.2.2.2.2.2.2.2.1, s.2.2.2.2.2.2.2.2.2.2.2.2.2.2.2.2.2.2.2.2.2.2.2.2.2.2.1, s.2.2.2.2.2.2.2.2.2.2.2.2.2.2.2.2.2.2.2.2.2.2.2.2.2.2.2.1, s.2.2.2.2.2.2.2.2.2.2.2.2.2.2.2.2.2.2.2.2.2.2.2.2.2.2.2.2)).2.2.2.2.2.2.2.2.2.2.2.2.2.2.2.2.2.2.2.2.2.2.2.2.2.2.2.1 ((s.1, s.2.1, m, s.2.2.2.1, s.2.2.2.2.1, s.2.2.2.2.2.1, s.2.2.2.2.2.2.1, s.2.2.2.2.2.2.2.1, s.2.2.2.2.2.2.2.2.1, s.2.2.2.2.2.2.2.2.2.1, s.2.2.2.2.2.2.2.2.2.2.1, s.2.2.2.2.2.2.2.2.2.2.2.1, s.2.2.2.2.2.2.2.2.2.2.2.2.1, s.2.2.2.2.2.2.2.2.2.2.2.2.2.1, s.2.2.2.2.2.2.2.2.2.2.2.2.2.2.1, s.2.2.2.2.2.2.2.2.2.2.2.2.2.2.2.1, s.2.2.2.2.2.2.2.2.2.2.2.2.2.2.2.2.1, s.2.2.2.2.2.2.2.2.2.2.2.2.2.2.2.2.2.1, s.2.2.2.2.2.2.2.2.2.2.2.2.2.2.2.2.2.2.1, s.2.2.2.2.2.2.2.2.2.2.2.2.2.2.2.2.2.2.2.1, s.2.2.2.2.2.2.2.2.2.2.2.2.2.2.2.2.2.2.2.2.1, s.2.2.2.2.2.2.2.2.2.2.2.2.2.2.2.2.2.2.2.2.2.1, s.2.2.2.2.2.2.2.2.2.2.2.2.2.2.2.2.2.2.2.2.2.2.1, s.2.2.2.2.2.2.2.2.2.2.2.2.2.2.2.2.2.2.2.2.2.2.2.1, s.2.2.2.2.2.2.2.2.2.2.2.2.2.2.2.2.2.2.2.2.2.2.2.2.1, s.2.2.2.2.2.2.2.2.2.2.2.2.2.2.2.2.2.2.2.2.2.2.2.2.2.1, s.2.2.2.2.2.2.2.2.2.2.2.2.2.2.2.2.2.2.2.2.2.2.2.2.2.2.1, s.2.2.2.2.2.2.2.2.2.2.2.2.2.2.2.2.2.2.2.2.2.2.2.2.2.2.2.1, s.2.2.2.2.2.2.2.2.2.2.2.2.2.2.2.2.2.2.2.2.2.2.2.2.2.2.2.2)).2.2.2.2.2.2.2.2.2.2.2.2.2.2.2.2.2.2.2.2.2.2.2.2.2.2.2.2 = some (viewS d (s.1, s.2.1, m, s.2.2.2.1, s.2.2.2.2.1, s.2.2.2.2.2.1, s.2.2.2.2.2.2.1, s.2.2.2.2.2.2.2.1, s.2.2.2.2.2.2.2.2.1, s.2.2.2.2.2.2.2.2.2.1, s.2.2.2.2.2.2.2.2.2.2.1, s.2.2.2.2.2.2.2.2.2.2.2.1, s.2.2.2.2.2.2.2.2.2.2.2.2.1, s.2.2.2.2.2.2.2.2.2.2.2.2.2.1, s.2.2.2.2.2.2.2.2.2.2.2.2.2.2.1, s.2.2.2.2.2.2.2.2.2.2.2.2.2.2.2.1, s.2.2.2.2.2.2.2.2.2.2.2.2.2.2.2.2.1, s.2.2.2.2.2.2.2.2.2.2.2.2.2.2.2.2.2.1, s.2.2.2.2.2.2.2.2.2.2.2.2.2.2.2.2.2.2.1, s.2.2.2.2.2.2.2.2.2.2.2.2.2.2.2.2.2.2.2.1, s.2.2.2.2.2.2.2.2.2.2.2.2.2.2.2.2.2.2.2.2.1, s.2.2.2.2.2.2.2.2.2.2.2.2.2.2.2.2.2.2.2.2.2.1, s.2.2.2.2.2.2.2.2.2.2.2.2.2.2.2.2.2.2.2.2.2.2.1, s.2.2.2.2.2.2.2.2.2.2.2.2.2.2.2.2.2.2.2.2.2.2.2.1, s.2.2.2.2.2.2.2.2.2.2.2.2.2.2.2.2.2.2.2.2.2.2.2.2.1, s.2.2.2.2.2.2.2.2.2.2.2.2.2.2.2.2.2.2.2.2.2.2.2.2.2.1, s.2.2.2.2.2.2.2.2.2.2.2.2.2.2.2.2.2.2.2.2.2.2.2.2.2.2.1, s.2.2.2.2.2.2.2.2.2.2.2.2.2.2.2.2.2.2.2.2.2.2.2.2.2.2.2.1, s.2.2.2.2.2.2.2.2.2.2.2.2.2.2.2.2.2.2.2.2.2.2.2.2.2.2.2.2)) := view_E d (by rw [← hm]; exact pens_map d hp) (by show m.length ≤ 4096; omega)
  have v2 : viewS d (s.1, s.2.1, m, s.2.2.2.1, s.2.2.2.2.1, s.2.2.2.2.2.1, s.2.2.2.2.2.2.1, s.2.2.2.2.2.2.2.1, s.2.2.2.2.2.2.2.2.1, s.2.2.2.2.2.2.2.2.2.1, s.2.2.2.2.2.2.2.2.2.2.1, s.2.2.2.2.2.2.2.2.2.2.2.1, s.2.2.2.2.2.2.2.2.2.2.2.2.1, s.2.2.2.2.2.2.2.2.2.2.2.2.2.1, s.2.2.2.2.2.2.2.2.2.2.2.2.2.2.1, s.2.2.2.2.2.2.2.2.2.2.2.2.2.2.2.1, s.2.2.2.2.2.2.2.2.2.2.2.2.2.2.2.2.1, s.2.2.2.2.2.2.2.2.2.2.2.2.2.2.2.2.2.1, s.2.2.2.2.2.2.2.2.2.2.2.2.2.2.2.2.2.2.1, s.2.2.2.2.2.2.2.2.2.2.2.2.2.2.2.2.2.2.2.1, s.2.2.2.2.2.2.2.2.2.2.2.2.2.2.2.2.2.2.2.2.1, s.2.2.2.2.2.2.2.2.2.2.2.2.2.2.2.2.2.2.2.2.2.1, s.2.2.2.2.2.2.2.2.2.2.2.2.2.2.2.2.2.2.2.2.2.2.1, s.2.2.2.2.2.2.2.2.2.2.2.2.2.2.2.2.2.2.2.2.2.2.2.1, s.2.2.2.2.2.2.2.2.2.2.2.2.2.2.2.2.2.2.2.2.2.2.2.2.1, s.2.2.2.2.2.2.2.2.2.2.2.2.2.2.2.2.2.2.2.2.2.2.2.2.2.1, s.2.2.2.2.2.2.2.2.2.2.2.2.2.2.2.2.2.2.2.2.2.2.2.2.2.2.1, s.2.2.2.2.2.2.2.2.2.2.2.2.2.2.2.2.2.2.2.2.2.2.2.2.2.2.2.1, s.2.2.2.2.2.2.2.2.2.2.2.2.2.2.2.2.2.2.2.2.2.2.2.2.2.2.2.2) = viewS d s := by
    show (s.1, s.2.1, m.map (lowX d), s.2.2.2.1, s.2.2.2.2.1, s.2.2.2.2.2.2.2.2.2.2.2.2.2.2.2.2.2.1 || (d != 2)) = (s.1, s.2.1, s.2.2.1.map (lowX d), s.2.2.2.1, s.2.2.2.2.1, s.2.2.2.2.2.2.2.2.2.2.2.2.2.2.2.2.2.1 || (d != 2))
    rw [← hm, map_twice d hp]
  have vv : viewS d s = (s.1, s.2.1, m, s.2.2.2.1, s.2.2.2.2.1, s.2.2.2.2.2.2.2.2.2.2.2.2.2.2.2.2.2.1 || (d != 2)) := by unfold viewS; rw [hm]
  rw [v2] at V2
  rw [vv]
  rw [vv] at V2
  have V2' : hide lower_View_F d s.1 s.2.1 m s.2.2.2.1 s.2.2.2.2.1 s.2.2.2.2.2.1 s.2.2.2.2.2.2.1 s.2.2.2.2.2.2.2.1 s.2.2.2.2.2.2.2.2.1 s.2.2.2.2.2.2.2.2.2.1 s.2.2.2.2.2.2.2.2.2.2.1 s.2.2.2.2.2.2.2.2.2.2.2.1 s.2.2.2.2.2.2.2.2.2.2.2.2.1 s.2.2.2.2.2.2.2.2.2.2.2.2.2.1 s.2.2.2.2.2.2.2.2.2.2.2.2.2.2.1 s.2.2.2.2.2.2.2.2.2.2.2.2.2.2.2.1 s.2.2.2.2.2.2.2.2.2.2.2.2.2.2.2.2.1 s.2.2.2.2.2.2.2.2.2.2.2.2.2.2.2.2.2.1 s.2.2.2.2.2.2.2.2.2.2.2.2.2.2.2.2.2.2.1 s.2.2.2.2.2.2.2.2.2.2.2.2.2.2.2.2.2.2.2.1 s.2.2.2.2.2.2.2.2.2.2.2.2.2.2.2.2.2.2.2.2.1 s.2.2.2.2.2.2.2.2.2.2.2.2.2.2.2.2.2.2.2.2.2.1 s.2.2.2.2.2.2.2.2.2.2.2.2.2.2.2.2.2.2.2.2.2.2.1 s.2.2.2.2.2.2.2.2.2.2.2.2.2.2.2.2.2.2.2.2.2.2.2.1 s.2.2.2.2.2.2.2.2.2.2.2.2.2.2.2.2.2.2.2.2.2.2.2.2.1 s.2.2.2.2.2.2.2.2.2.2.2.2.2.2.2.2.2.2.2.2.2.2.2.2.2.1 s.2.2.2.2.2.2.2.2.2.2.2.2.2.2.2.2.2.2.2.2.2.2.2.2.2.2.1 s.2.2.2.2.2.2.2.2.2.2.2.2.2.2.2.2.2.2.2.2.2.2.2.2.2.2.2.1 s.2.2.2.2.2.2.2.2.2.2.2.2.2.2.2.2.2.2.2.2.2.2.2.2.2.2.2.2 = some (s.1, s.2.1, m, s.2.2.2.1, s.2.2.2.2.1, s.2.2.2.2.2.2.2.2.2.2.2.2.2.2.2.2.2.1 || (d != 2)) := V2
  have e1 : (Int.ofNat m.length != Int.ofNat s.2.2.1.length) = false := by rw [ml]; simp
  dsimp only
  rw [e1]
  simp only [cond_false]
  rw [V2']
  simp only [optK_s]
  have A0 := fun (r c : Int) (b : Bool) (r' c' : Int) (b' : Bool) => apart_eq (R := s.1) (C := s.2.1) (r := r) (c := c) (s := b) (r' := r') (c' := c') (s' := b') (l := m) (m := m) rfl rfl rfl (by omega)
  have S0 := fun (r c : Int) (b : Bool) (r' c' : Int) (b' : Bool) => same_E (R := s.1) (C := s.2.1) (r := r) (c := c) (s := b) (r' := r') (c' := c') (s' := b') (l := m) (m := m) rfl rfl rfl (by omega)
  rw [diff_self] at A0
  simp only [diff_self] at S0
  have L := once_loop (a0 := x17) (d := d) (a5 := x14) (a6 := x15) (a7 := x16) (a8 := s.1) (a9 := s.2.1) (a10 := m) (a11 := s.2.2.2.1) (a12 := s.2.2.2.2.1) (a13 := s.2.2.2.2.2.2.2.2.2.2.2.2.2.2.2.2.2.1 || (d != 2)) hp (by omega) (linguistlaw18_LowerOnce_fu11 x17 d m (Int.ofNat m.length) 0 x14 x15 x16 s.1 s.2.1 m s.2.2.2.1 s.2.2.2.2.1 (s.2.2.2.2.2.2.2.2.2.2.2.2.2.2.2.2.2.1 || (d != 2))) 0 (by omega) (Nat.lt_of_le_of_lt (Nat.le_trans (Nat.sub_le _ _) hl) (Nat.lt_of_lt_of_le (show 4096 < 5000 by decide) (Nat.le_add_left 5000 _)))
  rw [hm, show Int.ofNat 0 = 0 from rfl, ← ml] at L
  rw [S0, A0]
  simp only [and_self, decide_true, optK_s, Bool.not_true, cond_false, show (Int.ofNat 0 != 0) = false from rfl, hide_eq linguistlaw18_LowerOnce_L11]
  rw [L]
  simp only [optK_s, sumK]
  have hmi : i < m.length := by omega
  have eb : m.length.ble 274877906944 = true := Nat.ble_eq_true_of_le (by omega)
  have ew : IntKind.i64.wrap (Int.ofNat m.length - 1) = (s.2.2.1.length : Int) - 1 := by rw [ml]; exact w64 (by show _ ≤ (s.2.2.1.length : Int) - 1; omega) (by show (s.2.2.1.length : Int) - 1 < _; omega)
  have e0 : decide ((0 : Int) ≤ Int.ofNat i) = true := by simp
  have e2 : decide (Int.ofNat i < Int.ofNat m.length) = true := by rw [ofNat_lt]; exact decide_eq_true hmi
  rw [eb, ew, hj]
  simp only [optK_s, e0, e2, Bool.and_self, cond_true, toNat_ofNat']
  rw [hpe]
  simp only [optK_s]
  rw [lowP_E d hpr]
  simp only [optK_s]
  generalize hy : (IntKind.i32.wrap ((m.getD i (0, 0, 0, 0, 0)).1 + 1), (m.getD i (0, 0, 0, 0, 0)).2.1, (m.getD i (0, 0, 0, 0, 0)).2.2.1, (m.getD i (0, 0, 0, 0, 0)).2.2.2.1, (m.getD i (0, 0, 0, 0, 0)).2.2.2.2) = y
  have hne : m.getD i dC ≠ y := by
    intro q
    have q1 : (m.getD i dC).1 = IntKind.i32.wrap ((m.getD i dC).1 + 1) := by
      have := congrArg (fun c : Cell => c.1) (q.trans hy.symm)
      exact this
    rw [IntKind.wrap_i32] at q1
    omega
  have D1 := diff_set m i y hmi hne
  have ll : m.length = (m.set i y).length := by simp
  rw [apart_eq rfl rfl ll (by omega), D1]
  simp only [optK_s, show (Int.ofNat 1 == 1) = true from rfl, cond_true]
  rw [same_E rfl rfl ll (by omega), D1]
  simp only [optK_s, decide_false, show ¬ (1 : Nat) = 0 by decide, false_and, Bool.not_false, cond_true]
  rw [w64 (n := s.2.2.2.2.1 + 1) (by have := k.w2; omega) (by have := k.w2; omega), same_E rfl rfl rfl (by omega), diff_self]
  have e5 : ¬ s.2.2.2.2.1 = s.2.2.2.2.1 + 1 := by omega
  simp only [optK_s, e5, false_and, and_false, decide_false, Bool.not_false, cond_true]
  rw [apart_eq rfl rfl rfl (by omega), diff_self]
  simp only [optK_s, show (Int.ofNat 0 == 0) = true from rfl, cond_true]
  have Q := lowP_E d (lowP_right d hpr)
  rw [Q, lowP_twice d hpr]
  simp only [optK_s, beq_self_eq_true, Bool.and_self, cond_true]
  have Z : hide lower_Apart_F s.1 s.2.1 m s.2.2.2.1 s.2.2.2.2.1 (s.2.2.2.2.2.2.2.2.2.2.2.2.2.2.2.2.2.1 || d != 2) 0 0 [] 0 0 false = some (-1) := by
    rw [hide_eq]; unfold lower_Apart_F
    rw [show (s.1 != 0) = true by rw [bne_iff_ne, k.rows]; show (h : Int) ≠ 0; omega]; rfl
  rw [Z]; rfl
end Go.Proofs.YtlpmhldejeaefaaAbs

/- LowerOnce, called. -/
namespace Go.Proofs.YtlpmhldejeaefaaAbs
set_option linter.unusedVariables false
set_option maxRecDepth 100000
open Go Go.Proofs Go.RowKit
theorem lowerOnce_run (x0 : Int) (x1 : Int) (x2 : Int) (x3 : List (Int)) (x4 : List (Int)) (x5 : Int) (x6 : Int) (x7 : Int) (x8 : Int) (x9 : Int) (x10 : Int) (x11 : Int) (x12 : Int) (x13 : Int) (x14 : Int) (x15 : Int) (x16 : Int) (x17 : Int) (w0 : (Lit.int .i64 x0).wf = true) (w1 : (Lit.int .i64 x1).wf = true) (w2 : (Lit.int .i64 x2).wf = true) (w3 : (List.length (α := Int) x3 ≤ 9223372036854775807 ∧ ∀ y : Int, List.Mem y x3 → ((Lit.int .i64 y).wf = true))) (w4 : (List.length (α := Int) x4 ≤ 9223372036854775807 ∧ ∀ y : Int, List.Mem y x4 → ((Lit.int .i64 y).wf = true))) (w5 : (Lit.int .i64 x5).wf = true) (w6 : (Lit.int .i64 x6).wf = true) (w7 : (Lit.int .i64 x7).wf = true) (w8 : (Lit.int .i64 x8).wf = true) (w9 : (Lit.int .i64 x9).wf = true) (w10 : (Lit.int .i64 x10).wf = true) (w11 : (Lit.int .i64 x11).wf = true) (w12 : (Lit.int .i64 x12).wf = true) (w13 : (Lit.int .u64 x13).wf = true) (w14 : (Lit.int .i64 x14).wf = true) (w15 : (Lit.int .i64 x15).wf = true) (w16 : (Lit.int .i64 x16).wf = true) (w17 : (Lit.int .i64 x17).wf = true) :
    acall (R := Bool) (envL sums8 linguistlaw18_LowerOnce_ll1 cs0 (fun _ _ => false)) 1000 6 [.int .i64 x0, .agg [.int .i64 x1, .int .i64 x2, .list (.one (.int .i64)) x3 false, .list (.one (.int .i64)) x4 false, .int .i64 x5, .int .i64 x6, .int .i64 x7, .int .i64 x8, .int .i64 x9, .int .i64 x10, .int .i64 x11, .int .i64 x12, .int .u64 x13], .agg [.int .i64 x14, .int .i64 x15, .int .i64 x16], .int .i64 x17] [] (resK .bool true (fun b => some b)) = some true := by
  have h := linguistlaw18_LowerOnce_run x0 x1 x2 x3 x4 x5 x6 x7 x8 x9 x10 x11 x12 x13 x14 x15 x16 x17 (fun b => some b)
  rw [lowerOnce_true x0 x1 x2 x3 x4 x5 x6 x7 x8 x9 x10 x11 x12 x13 x14 x15 x16 x17 (wf_in64 w0) (wf_in64 w1) (wf_in64 w2) (wf_list64 w3) (wf_list64 w4) (wf_in64 w5) (wf_in64 w6) (wf_in64 w7) (wf_in64 w8) (wf_in64 w9) (wf_in64 w10) (wf_in64 w11) (wf_in64 w12) (wf_inu64 w13) (wf_in64 w14) (wf_in64 w15) (wf_in64 w16) (wf_in64 w17)] at h
  exact h
end Go.Proofs.YtlpmhldejeaefaaAbs

/- Whatever reads as data is what the interpreter takes: rows of letters as arguments. -/
namespace Go.Proofs.YtlpmhldejeaefaaAbs
set_option linter.unusedVariables false
open Go Go.Proofs Go.RowKit Go.ChangeShapes Go.WideShapes Go.Deep
abbrev gd (w : World) : Nat → Prop := fun B => B < w.heap.size
def OpC (P : Program) (w : World) (c : CTy) (t : TypeId) (WF : c.den → Prop) : Prop :=
  ∀ {H : Type} {enc : TypeId × Value → H} {spare : Nat → Bool} {held : Bool} {fuel : Nat} {cs : List Value} {x : DataW H × List MemPlace}, DataW.trod enc P w 0 spare held fuel t cs = some x → ∃ (a : c.den) (v : Value), cs = [v] ∧ c.rep w (gd w) a v ∧ WF a
def OpR (P : Program) (w : World) (r : Row) (t : TypeId) (WF : r.den → Prop) : Prop :=
  ∀ {H : Type} {enc : TypeId × Value → H} {spare : Nat → Bool} {held : Bool} {fuel : Nat} {cs : List Value} {x : DataW H × List MemPlace}, DataW.trod enc P w 0 spare held fuel t cs = some x → ∃ a : r.den, r.rep w (gd w) a cs ∧ WF a
section
variable {P : Program} {w : World} {t e : TypeId}
theorem OpC.int {k : IntKind} (ht : P.underlying t = some (.int k)) : OpC P w (.int k) t (fun a => (Lit.int k a).wf = true) := by
  intro H enc spare held fuel cs x h
  obtain ⟨a, rfl, _, hw⟩ := DataW.trod_int ht h
  refine ⟨a, _, rfl, ⟨rfl, ?_⟩, hw⟩
  cases k <;> first | rfl | (simp [Lit.wf, IntKind.min, IntKind.max, IntKind.bits, IntKind.signed] at hw; simp [u8ok, kindEq]; omega)
theorem OpC.bool (ht : P.underlying t = some .bool) : OpC P w .bool t (fun _ => True) := by
  intro H enc spare held fuel cs x h
  obtain ⟨a, rfl, _⟩ := DataW.trod_bool ht h
  exact ⟨a, _, rfl, rfl, trivial⟩
theorem OpC.str (ht : P.underlying t = some .string) : OpC P w .str t (fun s => ∃ b : ByteArray, bytesOf b = s ∧ b.size ≤ 9223372036854775807) := by
  intro H enc spare held fuel cs x h
  obtain ⟨a, rfl, _, hl⟩ := DataW.trod_string ht h
  refine ⟨bytesOf a, _, rfl, ⟨a, rfl, rfl⟩, a, rfl, ?_⟩
  unfold maxLen at hl
  omega
theorem cells_eq {a : Addr} {n : Nat} {cs : List Value} {c : Array Value} (h : w.cells? 0 a n = some cs) (hb : ∃ e fr, w.heap[a.block]? = some (.cells c e fr)) (hs : a.spot = none) : cs = (c.toList.drop a.off).take n := by
  obtain ⟨_, hl, hc⟩ := World.cells?_some h
  obtain ⟨e, fr, hb⟩ := hb
  apply List.ext_getElem?
  intro i
  by_cases hi : i < n
  · have h1 : w.cell? (a.add i) = c[a.off + i]? := by
      unfold World.cell? Addr.add
      by_cases h0 : i = 0
      · subst h0; simp [hb, hs]
      · simp [h0, hb]
    rw [← hc i hi, h1, List.getElem?_take_of_lt hi, List.getElem?_drop, Array.getElem?_toList]
  · rw [List.getElem?_eq_none (by omega), List.getElem?_eq_none (by simp; omega)]
theorem rows_lie {r : Row} {WF : r.den → Prop} {a : Addr} {len : Nat} (hr : 0 < r.size) (hp : 0 < len) (hx : ∀ i, i < len → ∃ (b : r.den) (cs : List Value), w.cells? 0 (a.add (i * r.size)) r.size = some cs ∧ r.rep w (gd w) b cs ∧ WF b) :
    a.spot = none ∧ a.block < w.heap.size ∧ ∃ l : List r.den, l.length = len ∧ (∀ x ∈ l, WF x) ∧ ∃ vs, RepAll (fun x cs => r.rep w (gd w) x cs) l vs ∧ Lies w a.block a.off vs := by
  obtain ⟨b0, cs0, h0, _, _⟩ := hx 0 hp
  obtain ⟨_, hl0, hc0⟩ := World.cells?_some h0
  have h00 := hc0 0 hr
  have hlt : 0 < cs0.length := by omega
  rw [List.getElem?_eq_getElem hlt] at h00
  have hbk : (∃ c e fr, w.heap[a.block]? = some (.cells c e fr)) ∧ a.spot = none := by
    have hz : (a.add (0 * r.size)).add 0 = a := by simp [Addr.add]
    rw [hz] at h00
    unfold World.cell? at h00
    split at h00
    · rename_i c e fr hb
      refine ⟨⟨c, e, fr, hb⟩, ?_⟩
      split at h00
      · cases h00
      · rename_i hn; simpa using hn
    · cases h00
  obtain ⟨⟨c, e, fr, hb⟩, hs⟩ := hbk
  have hbl : a.block < w.heap.size := (Array.getElem?_eq_some_iff.1 hb).1
  refine ⟨hs, hbl, ?_⟩
  have key : ∀ k, k ≤ len → ∃ l : List r.den, l.length = k ∧ (∀ x ∈ l, WF x) ∧ RepAll (fun x cs => r.rep w (gd w) x cs) l ((c.toList.drop a.off).take (k * r.size)) := by
    intro k
    induction k with
    | zero => intro _; exact ⟨[], rfl, (fun x hx => by cases hx), by simp [RepAll]⟩
    | succ k ih =>
      intro hk
      obtain ⟨l, hl, hw, hR⟩ := ih (by omega)
      obtain ⟨b, cs, h1, h2, h3⟩ := hx k (by omega)
      have hcs : cs = ((c.toList.drop a.off).drop (k * r.size)).take r.size := by
        have := cells_eq (c := c) h1 ⟨e, fr, by unfold Addr.add; split <;> exact hb⟩ (by unfold Addr.add; split <;> first | exact hs | rfl)
        rw [this, List.drop_drop]
        congr 2
        unfold Addr.add; split <;> simp_all
      refine ⟨l ++ [b], by simp [hl], ?_, ?_⟩
      · intro x hx'
        rcases List.mem_append.1 hx' with h | h
        · exact hw x h
        · rw [List.mem_singleton] at h; subst h; exact h3
      · have : (k + 1) * r.size = k * r.size + r.size := by rw [Nat.add_mul, Nat.one_mul]
        rw [this, List.take_add, ← hcs]
        exact RepAll.append hR ⟨cs, [], by simp, h2, rfl⟩
  obtain ⟨l, hl, hw, hR⟩ := key len (Nat.le_refl _)
  exact ⟨l, hl, hw, _, hR, c, e, fr, _, hb, (List.take_append_drop (len * r.size) _).symm⟩
theorem OpC.slice {r : Row} {WF : r.den → Prop} (ht : P.underlying t = some (.slice e)) (hr : 0 < r.size) (hc : P.cellsOf e = r.size) (he : OpR P w r e WF) : OpC P w (.slice r) t (fun l => List.length (α := r.den) l ≤ 9223372036854775807 ∧ ∀ x : r.den, List.Mem x l → WF x) := by
  intro H enc spare held fuel cs x h
  rcases open_slice ht h with ⟨rfl, _⟩ | ⟨a, len, cap, m, n, D, Pl, rfl, _, hl, hm, hmm, _, hx⟩
  · exact ⟨([] : List r.den), _, rfl, ⟨none, 0, 0, rfl, rfl, Nat.le_refl _, fun _ => rfl, Or.inl rfl⟩, by simp, fun x hx => by cases hx⟩
  · have hmle : len ≤ m := by rw [hmm]; split <;> omega
    have hmax : len ≤ 9223372036854775807 := by unfold maxLen at hm; omega
    by_cases hp : 0 < len
    · obtain ⟨hs, hb, l, hll, hw, vs, hR, hL⟩ := rows_lie (w := w) (a := a) (len := len) (WF := WF) hr hp (fun i hi => by
        obtain ⟨c, h1, h2⟩ := hx i (by omega)
        obtain ⟨b, h3, h4⟩ := he h2
        rw [hc] at h1
        exact ⟨b, c, h1, h3, h4⟩)
      refine ⟨l, _, rfl, ⟨some a, len, cap, rfl, hll.symm, hl, (fun k => by cases k), Or.inr ⟨a.block, a.off, vs, ?_, hb, hR, hL⟩⟩, by rw [hll]; exact hmax, hw⟩
      obtain ⟨B, o, s⟩ := a
      simp only at hs
      rw [hs]
    · have h0 : len = 0 := by omega
      subst h0
      exact ⟨([] : List r.den), _, rfl, ⟨some a, 0, cap, rfl, rfl, hl, (fun k => by cases k), Or.inl rfl⟩, by simp, fun x hx => by cases hx⟩
theorem OpR.one {c : CTy} {WF : c.den → Prop} (h : OpC P w c t WF) : OpR P w (.one c) t WF := by
  intro H enc spare held fuel cs x k
  obtain ⟨a, v, rfl, h1, h2⟩ := h k
  exact ⟨a, ⟨v, rfl, h1⟩, h2⟩
/-- A struct's field, out of the whole's reading. -/
theorem trod_field {H : Type} {enc : TypeId × Value → H} {spare : Nat → Bool} {held : Bool} {fuel : Nat} {cs : List Value} {x : DataW H × List MemPlace} {fs : Array Field} (ht : P.underlying t = some (.struct fs)) (h : DataW.trod enc P w 0 spare held fuel t cs = some x) :
    cs.length = P.cellsOf t ∧ ∃ n, ∀ (i : Nat) (f : Field), fs[i]? = some f → ∃ y, DataW.trod enc P w 0 spare held n f.type ((cs.drop f.offset).take (P.cellsOf f.type)) = some y := by
  obtain ⟨xs, n, _, _, hn, hl, hf⟩ := DataW.trod_struct ht h
  refine ⟨hn, n, fun i f hi => ?_⟩
  have h1 := hf i f hi
  have hlt : i < xs.length := by rw [hl]; exact (Array.getElem?_eq_some_iff.1 hi).1
  rw [List.getElem?_eq_getElem hlt] at h1
  exact ⟨_, h1⟩
end
end Go.Proofs.YtlpmhldejeaefaaAbs
