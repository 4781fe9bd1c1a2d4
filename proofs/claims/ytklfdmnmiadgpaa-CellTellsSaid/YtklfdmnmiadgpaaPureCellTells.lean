/- CellTells: whatever the rune, the pen and the flags, the law of chapter 2's widths and pens returns true. -/
import Derived.Test.YtklfdmnmiadgpaaGCellTellsx5
import Derived.Test.YtklfdmnmiadgpaaWSized
import Derived.Laws.BitsAllLaws
import Derived.Laws.Bits64
import Derived.Laws.BitsLemmas
namespace Go.Proofs.Ytklfdmnmiadgpaa.PrintWords
/-- The printed row names it so. -/
theorem sized_ints : type_of% @Go.Proofs.YtklfdmnmiadgpaaW.PrintWords.sized_ints := @Go.Proofs.YtklfdmnmiadgpaaW.PrintWords.sized_ints
end Go.Proofs.Ytklfdmnmiadgpaa.PrintWords
namespace Go.Proofs.Ytklfdmnmiadgpaa.Pure
open Go Go.RowKit Go.Proofs.Ytklfdmnmiadgpaa.GCellTells Go.Proofs.YtklfdmnmiadgpaaW.PrintWords Go.Proofs.YtklfdmnmiadgpaaW.PrintLast
set_option linter.unusedVariables false
set_option linter.unusedSimpArgs false

theorem Ev.pos {α : Type} {c : Prop} [Decidable c] {f g : Nat → Option α} {r : α} (h : c) (e : Ev f r) : Ev (fun k => if c then f k else g k) r := by
  obtain ⟨K, e⟩ := e
  exact ⟨K, fun k hk => by show (if c then f k else g k) = some r; rw [if_pos h]; exact e k hk⟩
theorem Ev.neg {α : Type} {c : Prop} [Decidable c] {f g : Nat → Option α} {r : α} (h : ¬ c) (e : Ev g r) : Ev (fun k => if c then f k else g k) r := by
  obtain ⟨K, e⟩ := e
  exact ⟨K, fun k hk => by show (if c then f k else g k) = some r; rw [if_neg h]; exact e k hk⟩
theorem Ev.one {α : Type} {f : Nat → Option α} {r : α} (K : Nat) (h : ∀ k, K ≤ k → f k = some r) : Ev f r := ⟨K, h⟩
theorem w64 {x : Int} (h0 : -9223372036854775808 ≤ x) (h1 : x < 9223372036854775808) : wrap64 x = x := by
  unfold wrap64; omega
theorem wf64 {x : Int} (h : (Lit.int .i64 x).wf = true) : -9223372036854775808 ≤ x ∧ x < 9223372036854775808 := by
  simp [Lit.wf, IntKind.min, IntKind.max, IntKind.bits, IntKind.signed] at h
  omega
theorem wfu64 {x : Int} (h : (Lit.int .u64 x).wf = true) : 0 ≤ x ∧ x < 18446744073709551616 := by
  simp [Lit.wf, IntKind.min, IntKind.max, IntKind.bits, IntKind.signed] at h
  omega
theorem rd_drop (l : List Int) (i : Nat) (h : i < l.length) : l.drop i = rd l (i : Int) :: l.drop (i + 1) := by
  rw [List.drop_eq_getElem_cons h]
  simp [rd, List.getD, h]
theorem wf32 {x : Int} (h : (Lit.int .i32 x).wf = true) : -2147483648 ≤ x ∧ x < 2147483648 := by
  simp [Lit.wf, IntKind.min, IntKind.max, IntKind.bits, IntKind.signed] at h
  omega
theorem wfu8 {x : Int} (h : (Lit.int .u8 x).wf = true) : 0 ≤ x ∧ x < 256 := by
  simp [Lit.wf, IntKind.min, IntKind.max, IntKind.bits, IntKind.signed] at h
  omega
theorem w32 {x : Int} (h0 : -2147483648 ≤ x) (h1 : x < 2147483648) : wrap32 x = x := by
  unfold wrap32; omega
theorem rd_mem (l : List Int) (i : Nat) (h : i < l.length) : rd l (i : Int) ∈ l := by
  have h1 := rd_drop l i h
  exact List.mem_of_mem_drop (i := i) (by rw [h1]; exact List.mem_cons_self)

theorem wraps_i64 (n : Int) (h₀ : 0 ≤ n) (h₁ : n < 2 ^ 62) : IntKind.i64.wrap n = n := by rw [IntKind.wrap_i64]; omega
theorem i64_or_nat (a b : Nat) (ha : a < 2 ^ 62) (hb : b < 2 ^ 62) : Go.bits .or .i64 (a : Int) (b : Int) = ((a ||| b : Nat) : Int) :=
  (bits_nat .i64 62 (by decide) wraps_i64 a b ha hb).2
theorem i64_and_nat (a b : Nat) (ha : a < 2 ^ 62) (hb : b < 2 ^ 62) : Go.bits .and .i64 (a : Int) (b : Int) = ((a &&& b : Nat) : Int) :=
  (bits_nat .i64 62 (by decide) wraps_i64 a b ha hb).1
def orL (f : Int) (l : List Int) : Int := l.foldl (fun t c => Go.bits .or .i64 t c) f

theorem runs_eq : ∃ K, ∀ k, K ≤ k → linguistlaw2_CellRuns.f k = some true := by
  refine ⟨100, fun k hk => ?_⟩
  have h : linguistlaw2_CellRuns.f 100 = some true := by decide +kernel
  exact at_rounds linguistlaw2_CellRuns.mono hk h

theorem with_l0 (fo ba : Int) (l : List Int) (hl : l.length < 4611686018427387904) : ∀ (d k i : Nat) (x : Int), i + d = l.length → d < k → cell_With.l0 k l (l.length : Int) (i : Int) fo ba x = some (fo, ba, orL x (l.drop i)) := by
  intro d
  induction d with
  | zero =>
    intro k i x hd hk
    obtain ⟨k, rfl⟩ : ∃ m, k = m + 1 := ⟨k - 1, by omega⟩
    simp only [cell_With.l0]
    rw [if_neg (by omega), List.drop_eq_nil_of_le (by omega)]; rfl
  | succ d ih =>
    intro k i x hd hk
    obtain ⟨k, rfl⟩ : ∃ m, k = m + 1 := ⟨k - 1, by omega⟩
    simp only [cell_With.l0]
    rw [if_pos (by omega), if_pos (by omega), if_pos (by omega), w64 (by omega) (by omega), rd_drop l i (by omega)]
    exact ih k (i + 1) _ (by omega) (by omega)
theorem with_eq (fo ba x : Int) (l : List Int) (hl : l.length < 4611686018427387904) (k : Nat) (hk : l.length < k) : cell_With.f k fo ba x l = some (fo, ba, orL x l) := by
  unfold cell_With.f
  exact with_l0 fo ba l hl l.length k 0 x (by omega) hk

def inW (r : Int) : Bool := (decide (4352 ≤ r) && decide (r ≤ 4447)) || ((decide (11904 ≤ r) && decide (r ≤ 42191)) || ((decide (44032 ≤ r) && decide (r ≤ 55203)) || ((decide (63744 ≤ r) && decide (r ≤ 64255)) || ((decide (65072 ≤ r) && decide (r ≤ 65135)) || ((decide (65280 ≤ r) && decide (r ≤ 65376)) || ((decide (65504 ≤ r) && decide (r ≤ 65510)) || ((decide (127744 ≤ r) && decide (r ≤ 129791)) || ((decide (131072 ≤ r) && decide (r ≤ 262141)) || false))))))))
theorem rd34_drop (l : List S34) (i : Nat) (h : i < l.length) : l.drop i = rd_T34 l (i : Int) :: l.drop (i + 1) := by
  rw [List.drop_eq_getElem_cons h]
  simp [rd_T34, List.getD, h]
theorem rd49_drop (l : List S49) (i : Nat) (h : i < l.length) : l.drop i = rd_T49 l (i : Int) :: l.drop (i + 1) := by
  rw [List.drop_eq_getElem_cons h]
  simp [rd_T49, List.getD, h]
theorem wide_l0 (r : Int) (l : List S34) (hl : l.length < 1000) : ∀ (d k i : Nat), i + d = l.length → d < k → cell_wide.l0 k r l (l.length : Int) (i : Int) = some ((l.drop i).any fun x => decide (x.f0 ≤ r) && decide (r ≤ x.f1)) := by
  intro d
  induction d with
  | zero =>
    intro k i hd hk
    obtain ⟨k, rfl⟩ : ∃ m, k = m + 1 := ⟨k - 1, by omega⟩
    simp only [cell_wide.l0]
    rw [if_neg (by omega), List.drop_eq_nil_of_le (by omega)]; rfl
  | succ d ih =>
    intro k i hd hk
    obtain ⟨k, rfl⟩ : ∃ m, k = m + 1 := ⟨k - 1, by omega⟩
    simp only [cell_wide.l0, cell_between.f]
    rw [if_pos (by omega), if_pos (by omega), if_pos (by omega), w64 (by omega) (by omega), rd34_drop l i (by omega), List.any_cons]
    have := ih k (i + 1) (by omega) (by omega)
    by_cases h1 : r ≥ (rd_T34 l (i : Int)).f0
    · rw [if_pos h1, Option.bind_some, decide_eq_true h1]
      by_cases h2 : r ≤ (rd_T34 l (i : Int)).f1
      · rw [decide_eq_true h2]; rfl
      · rw [decide_eq_false h2]; simpa using this
    · rw [if_neg h1, Option.bind_some, decide_eq_false h1]; simpa using this
theorem refw_l0 (r : Int) (l : List S49) (hl : l.length < 1000) : ∀ (d k i : Nat), i + d = l.length → d < k → linguistref1_Width.l0 k r l (l.length : Int) (i : Int) = some (if ((l.drop i).any fun x => decide (x.f0 ≤ r) && decide (r ≤ x.f1)) = true then 2 else 1) := by
  intro d
  induction d with
  | zero =>
    intro k i hd hk
    obtain ⟨k, rfl⟩ : ∃ m, k = m + 1 := ⟨k - 1, by omega⟩
    simp only [linguistref1_Width.l0]
    rw [if_neg (by omega), List.drop_eq_nil_of_le (by omega)]; rfl
  | succ d ih =>
    intro k i hd hk
    obtain ⟨k, rfl⟩ : ∃ m, k = m + 1 := ⟨k - 1, by omega⟩
    simp only [linguistref1_Width.l0]
    rw [if_pos (by omega), if_pos (by omega), if_pos (by omega), w64 (by omega) (by omega), rd49_drop l i (by omega), List.any_cons]
    have := ih k (i + 1) (by omega) (by omega)
    by_cases h1 : r ≥ (rd_T49 l (i : Int)).f0
    · rw [if_pos h1, decide_eq_true h1]
      by_cases h2 : r ≤ (rd_T49 l (i : Int)).f1
      · rw [if_pos h2, decide_eq_true h2]; rfl
      · rw [if_neg h2, decide_eq_false h2]; simpa using this
    · rw [if_neg h1, decide_eq_false h1]; simpa using this
theorem wide_eq (r : Int) (k : Nat) (hk : 20 < k) : cell_wide.f k r = some (inW r) := by
  unfold cell_wide.f
  rw [Option.bind_some]
  exact wide_l0 r _ (by simp) 9 k 0 (by simp) (by omega)
theorem refwide_eq (r : Int) (k : Nat) (hk : 20 < k) : linguistref1_Width.j0 k r false = some (if inW r = true then 2 else 1) := by
  obtain ⟨k, rfl⟩ : ∃ m, k = m + 1 := ⟨k - 1, by omega⟩
  simp only [linguistref1_Width.j0]
  rw [if_neg (by simp)]
  have : linguistref1_wide.f = some [⟨4352, 4447⟩, ⟨11904, 42191⟩, ⟨44032, 55203⟩, ⟨63744, 64255⟩, ⟨65072, 65135⟩, ⟨65280, 65376⟩, ⟨65504, 65510⟩, ⟨127744, 129791⟩, ⟨131072, 262141⟩] := rfl
  rw [this, Option.bind_some]
  exact refw_l0 r _ (by simp) 9 k 0 (by simp) (by omega)
theorem reftrue_eq (r : Int) (k : Nat) (hk : 20 < k) : linguistref1_Width.j0 k r true = some 0 := by
  obtain ⟨k, rfl⟩ : ∃ m, k = m + 1 := ⟨k - 1, by omega⟩
  simp only [linguistref1_Width.j0, if_true]
theorem width_eq (r : Int) (h0 : -2147483648 ≤ r) (h1 : r < 2147483648) (k : Nat) (hk : 30 < k) : ∃ w, cell_Width.f k r = some w ∧ linguistref1_Width.f k r = some w := by
  have hw := wide_eq r k (by omega)
  have hf := refwide_eq r k (by omega)
  have ht := reftrue_eq r k (by omega)
  have e := w64 (x := r) (by omega) (by omega)
  have wide : cell_narrow.f r = some false → cell_Width.f k r = some (if inW r = true then 2 else 1) := by
    intro hn
    unfold cell_Width.f
    rw [hn, Option.bind_some, if_neg (by simp), hw, Option.bind_some]
    split <;> rfl
  have nar : cell_narrow.f r = some true → cell_Width.f k r = some 0 := by
    intro hn
    unfold cell_Width.f
    rw [hn, Option.bind_some, if_pos rfl]
  have fin0 : cell_narrow.f r = some true → linguistref1_Width.f k r = linguistref1_Width.j0 k r true → ∃ w, cell_Width.f k r = some w ∧ linguistref1_Width.f k r = some w := fun a b => ⟨0, nar a, b.trans ht⟩
  have fin1 : cell_narrow.f r = some false → linguistref1_Width.f k r = linguistref1_Width.j0 k r false → ∃ w, cell_Width.f k r = some w ∧ linguistref1_Width.f k r = some w := fun a b => ⟨_, wide a, b.trans hf⟩
  have cases : r < 32 ∨ (32 ≤ r ∧ r < 127) ∨ (127 ≤ r ∧ r < 160) ∨ (160 ≤ r ∧ r < 768) ∨ (768 ≤ r ∧ r ≤ 879) ∨ (880 ≤ r ∧ r < 55296) ∨ (55296 ≤ r ∧ r ≤ 57343) ∨ (57344 ≤ r ∧ r ≤ 1114111) ∨ 1114111 < r := by omega
  rcases cases with h | h | h | h | h | h | h | h | h
  · apply fin0
    · simp (disch := omega) only [cell_narrow.f, if_pos]
    · simp (disch := omega) only [linguistref1_Width.f, e, if_pos]
  · apply fin1
    · simp (disch := omega) only [cell_narrow.f, cell_between.f, if_pos, if_neg, decide_eq_true, decide_eq_false, Option.bind_some, Bool.false_eq_true, if_false]
    · simp (disch := omega) only [linguistref1_Width.f, e, if_pos, if_neg, decide_eq_true, decide_eq_false]
  · apply fin0
    · simp (disch := omega) only [cell_narrow.f, cell_between.f, if_pos, if_neg, decide_eq_true, decide_eq_false, Option.bind_some, Bool.false_eq_true, if_false, if_true]
    · simp (disch := omega) only [linguistref1_Width.f, e, if_pos, if_neg, decide_eq_true, decide_eq_false]
  · apply fin1
    · simp (disch := omega) only [cell_narrow.f, cell_between.f, if_pos, if_neg, decide_eq_true, decide_eq_false, Option.bind_some, Bool.false_eq_true, if_false]
    · simp (disch := omega) only [linguistref1_Width.f, e, if_pos, if_neg, decide_eq_true, decide_eq_false]
  · apply fin0
    · simp (disch := omega) only [cell_narrow.f, cell_between.f, if_pos, if_neg, decide_eq_true, decide_eq_false, Option.bind_some, Bool.false_eq_true, if_false, if_true]
    · simp (disch := omega) only [linguistref1_Width.f, e, if_pos, if_neg, decide_eq_true, decide_eq_false]
  · apply fin1
    · simp (disch := omega) only [cell_narrow.f, cell_between.f, if_pos, if_neg, decide_eq_true, decide_eq_false, Option.bind_some, Bool.false_eq_true, if_false]
    · simp (disch := omega) only [linguistref1_Width.f, e, if_pos, if_neg, decide_eq_true, decide_eq_false]
  · apply fin0
    · simp (disch := omega) only [cell_narrow.f, cell_between.f, if_pos, if_neg, decide_eq_true, decide_eq_false, Option.bind_some, Bool.false_eq_true, if_false, if_true]
    · simp (disch := omega) only [linguistref1_Width.f, e, if_pos, if_neg, decide_eq_true, decide_eq_false]
  · apply fin1
    · simp (disch := omega) only [cell_narrow.f, cell_between.f, if_pos, if_neg, decide_eq_true, decide_eq_false, Option.bind_some, Bool.false_eq_true, if_false]
    · simp (disch := omega) only [linguistref1_Width.f, e, if_pos, if_neg, decide_eq_true, decide_eq_false]
  · apply fin0
    · simp (disch := omega) only [cell_narrow.f, cell_between.f, if_pos, if_neg, decide_eq_true, decide_eq_false, Option.bind_some, Bool.false_eq_true, if_false, if_true]
    · simp (disch := omega) only [linguistref1_Width.f, e, if_pos, if_neg, decide_eq_true, decide_eq_false]
theorem color_eq (c : Int) : ∃ b, cell_color.f c = some b ∧ linguistref1_colour.f c = some b := by
  have cases : c < -1 ∨ c = -1 ∨ (0 ≤ c ∧ c ≤ 255) ∨ (255 < c ∧ c < 16777216) ∨ (16777216 ≤ c ∧ c < 33554432) ∨ 33554432 ≤ c := by omega
  rcases cases with h | h | h | h | h | h
  · exact ⟨false, by simp (disch := omega) only [cell_color.f, if_pos, if_neg, decide_eq_true, decide_eq_false], by simp (disch := omega) only [linguistref1_colour.f, if_pos, if_neg, decide_eq_true, decide_eq_false]⟩
  · exact ⟨true, by simp (disch := omega) only [cell_color.f, if_pos, if_neg, decide_eq_true, decide_eq_false], by simp (disch := omega) only [linguistref1_colour.f, if_pos, if_neg, decide_eq_true, decide_eq_false]⟩
  · exact ⟨true, by simp (disch := omega) only [cell_color.f, if_pos, if_neg, decide_eq_true, decide_eq_false], by simp (disch := omega) only [linguistref1_colour.f, if_pos, if_neg, decide_eq_true, decide_eq_false]⟩
  · exact ⟨false, by simp (disch := omega) only [cell_color.f, if_pos, if_neg, decide_eq_true, decide_eq_false], by simp (disch := omega) only [linguistref1_colour.f, if_pos, if_neg, decide_eq_true, decide_eq_false]⟩
  · exact ⟨true, by simp (disch := omega) only [cell_color.f, if_pos, if_neg, decide_eq_true, decide_eq_false], by simp (disch := omega) only [linguistref1_colour.f, if_pos, if_neg, decide_eq_true, decide_eq_false]⟩
  · exact ⟨false, by simp (disch := omega) only [cell_color.f, if_pos, if_neg, decide_eq_true, decide_eq_false], by simp (disch := omega) only [linguistref1_colour.f, if_pos, if_neg, decide_eq_true, decide_eq_false]⟩
theorem right_eq (fo ba fl : Int) : ∃ b, cell_Right.f fo ba fl = some b ∧ linguistref1_RightPen.f fo ba fl = some b := by
  obtain ⟨x, x1, x2⟩ := color_eq fo
  obtain ⟨y, y1, y2⟩ := color_eq ba
  unfold cell_Right.f linguistref1_RightPen.f
  rw [x1, x2]
  simp only [Option.bind_some]
  cases x with
  | false => exact ⟨false, rfl, rfl⟩
  | true =>
    rw [if_pos rfl, if_pos rfl, y1, y2]
    simp only [Option.bind_some]
    cases y with
    | false => exact ⟨false, rfl, rfl⟩
    | true =>
      simp only [if_true]
      split
      · exact ⟨_, rfl, rfl⟩
      · exact ⟨false, rfl, rfl⟩
theorem CellTells : linguistlaw2_CellTells.Pure := by
  intro r fo ba fl l hr _ _ _ h1 h2 _
  have hr := wf32 hr
  obtain ⟨K, hruns⟩ := runs_eq
  have hm0 : 0 ≤ mn (l.length : Int) 5 ∧ mn (l.length : Int) 5 ≤ (l.length : Int) := by unfold mn; split <;> omega
  have hml : (l.take ((mn (l.length : Int) 5) : Int).toNat).length ≤ l.length := by rw [List.length_take]; omega
  refine ⟨K + 100 + 2 * l.length, ?_⟩
  unfold linguistlaw2_CellTells.f
  rw [if_pos hm0.1, if_pos hm0.2]
  generalize l.take ((mn (l.length : Int) 5) : Int).toNat = m at *
  have key : ∀ (d k i : Nat) (x : Int), i + d = m.length → K + 50 + d + m.length ≤ k → orL x (m.drop i) = orL fl m → linguistlaw2_CellTells.l0 k r m m (m.length : Int) (i : Int) fo ba fl fo ba x = some true := by
    intro d
    induction d with
    | zero =>
      intro k i x hd hk hx
      obtain ⟨k, rfl⟩ : ∃ m, k = m + 1 := ⟨k - 1, by omega⟩
      rw [List.drop_eq_nil_of_le (by omega)] at hx
      have hx : x = orL fl m := hx
      obtain ⟨w, e1, e2⟩ := width_eq r hr.1 hr.2 k (by omega)
      obtain ⟨b, f1, f2⟩ := right_eq fo ba fl
      have hb : cell_Blank.f fo ba fl = some (32, 0, fo, ba, fl) := rfl
      simp only [linguistlaw2_CellTells.l0]
      rw [if_neg (by omega), hb, Option.bind_some, e1, Option.bind_some, e2, Option.bind_some, if_pos rfl, f1, Option.bind_some, f2, Option.bind_some, if_pos (by simp), with_eq fo ba fl m (by omega) k (by omega), Option.bind_some, hruns k (by omega), hx]
      simp
    | succ d ih =>
      intro k i x hd hk hx
      obtain ⟨k, rfl⟩ : ∃ m, k = m + 1 := ⟨k - 1, by omega⟩
      rw [rd_drop m i (by omega)] at hx
      simp only [linguistlaw2_CellTells.l0]
      rw [if_pos (by omega), if_pos (by omega), if_pos (by omega), w64 (by omega) (by omega)]
      exact ih k (i + 1) _ (by omega) (by omega) hx
  exact key m.length _ 0 fl (by omega) (by omega) rfl

end Go.Proofs.Ytklfdmnmiadgpaa.Pure
