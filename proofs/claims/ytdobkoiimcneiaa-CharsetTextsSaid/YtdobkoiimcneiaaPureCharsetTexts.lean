/- CharsetTexts: whatever the list, the law of chapter 4's texts returns true. -/
import Derived.Test.YtdobkoiimcneiaaPCharsetTextsx2
import Derived.Test.YtdobkoiimcneiaaWSized
import Derived.Laws.BitsAllLaws
import Derived.Laws.Bits64
namespace Go.Proofs.Ytdobkoiimcneiaa.PrintWords
/-- The printed row names it so. -/
theorem sized_ints : type_of% @Go.Proofs.YtdobkoiimcneiaaW.PrintWords.sized_ints := @Go.Proofs.YtdobkoiimcneiaaW.PrintWords.sized_ints
end Go.Proofs.Ytdobkoiimcneiaa.PrintWords
namespace Go.Proofs.Ytdobkoiimcneiaa.Pure
open Go Go.RowKit Go.Proofs.Ytdobkoiimcneiaa.PCharsetTexts Go.Proofs.YtdobkoiimcneiaaW.PrintWords Go.Proofs.YtdobkoiimcneiaaW.PrintLast
set_option linter.unusedVariables false

theorem Ev.pos {α : Type} {c : Prop} [Decidable c] {f g : Nat → Option α} {r : α} (h : c) (e : Ev f r) : Ev (fun k => if c then f k else g k) r := by
  obtain ⟨K, e⟩ := e
  exact ⟨K, fun k hk => by show (if c then f k else g k) = some r; rw [if_pos h]; exact e k hk⟩
theorem Ev.neg {α : Type} {c : Prop} [Decidable c] {f g : Nat → Option α} {r : α} (h : ¬ c) (e : Ev g r) : Ev (fun k => if c then f k else g k) r := by
  obtain ⟨K, e⟩ := e
  exact ⟨K, fun k hk => by show (if c then f k else g k) = some r; rw [if_neg h]; exact e k hk⟩
theorem Ev.one {α : Type} {f : Nat → Option α} {r : α} (K : Nat) (h : ∀ k, K ≤ k → f k = some r) : Ev f r := ⟨K, h⟩
theorem w64 {x : Int} (h0 : -9223372036854775808 ≤ x) (h1 : x < 9223372036854775808) : wrap64 x = x := by
  unfold wrap64; omega
theorem wf64 {x : Int} (h : (Lit.int .i64 x).wf = true) : -9223372036854775808 ≤ x ∧ x < 9223372036854775808 := by
  simp [Lit.wf, IntKind.min, IntKind.max, IntKind.bits, IntKind.signed] at h
  omega
theorem wfu64 {x : Int} (h : (Lit.int .u64 x).wf = true) : 0 ≤ x ∧ x < 18446744073709551616 := by
  simp [Lit.wf, IntKind.min, IntKind.max, IntKind.bits, IntKind.signed] at h
  omega
theorem rd_drop (l : List Int) (i : Nat) (h : i < l.length) : l.drop i = rd l (i : Int) :: l.drop (i + 1) := by
  rw [List.drop_eq_getElem_cons h]
  simp [rd, List.getD, h]
theorem wf32 {x : Int} (h : (Lit.int .i32 x).wf = true) : -2147483648 ≤ x ∧ x < 2147483648 := by
  simp [Lit.wf, IntKind.min, IntKind.max, IntKind.bits, IntKind.signed] at h
  omega
theorem wfu8 {x : Int} (h : (Lit.int .u8 x).wf = true) : 0 ≤ x ∧ x < 256 := by
  simp [Lit.wf, IntKind.min, IntKind.max, IntKind.bits, IntKind.signed] at h
  omega
theorem w32 {x : Int} (h0 : -2147483648 ≤ x) (h1 : x < 2147483648) : wrap32 x = x := by
  unfold wrap32; omega
theorem rd_mem (l : List Int) (i : Nat) (h : i < l.length) : rd l (i : Int) ∈ l := by
  have h1 := rd_drop l i h
  exact List.mem_of_mem_drop (i := i) (by rw [h1]; exact List.mem_cons_self)

theorem within_eq (n lo hi : Int) (hn : -9223372036854775808 ≤ n) (hn2 : n < 9223372036854775808) (h0 : 0 ≤ lo) (h1 : lo ≤ hi) (h2 : hi < 4611686018427387904) :
    ∃ r, linguistbook_Within.f n lo hi = some r ∧ lo ≤ r ∧ r ≤ hi := by
  unfold linguistbook_Within.f
  rw [w64 (x := hi - lo) (by omega) (by omega), w64 (x := hi - lo + 1) (by omega) (by omega), if_neg (by omega)]
  have e : n.tmod (hi - lo + 1) = n - (hi - lo + 1) * n.tdiv (hi - lo + 1) := Int.tmod_def _ _
  have b1 : n.tmod (hi - lo + 1) < hi - lo + 1 := Int.tmod_lt_of_pos _ (by omega)
  have b2 : -(hi - lo + 1) < n.tmod (hi - lo + 1) := by
    have := Int.lt_tmod_of_pos n (show 0 < hi - lo + 1 by omega); omega
  generalize n.tmod (hi - lo + 1) = m at *
  by_cases hm : m < 0
  · rw [if_pos hm, w64 (x := m + hi) (by omega) (by omega), w64 (x := m + hi - lo) (by omega) (by omega), w64 (x := m + hi - lo + 1) (by omega) (by omega), w64 (by omega) (by omega)]
    exact ⟨_, rfl, by omega, by omega⟩
  · rw [if_neg hm, w64 (by omega) (by omega)]
    exact ⟨_, rfl, by omega, by omega⟩

theorem runs_eq : ∃ K, ∀ k, K ≤ k → linguistlaw4_CharsetRuns.f k = some true := by
  refine ⟨100, fun k hk => ?_⟩
  have h : linguistlaw4_CharsetRuns.f 100 = some true := by decide +kernel
  exact at_rounds linguistlaw4_CharsetRuns.mono hk h
def D : List Int := [9670, 9618, 9225, 9228, 9229, 9226, 176, 177, 9252, 9227, 9496, 9488, 9484, 9492, 9532, 9146, 9147, 9472, 9148, 9149, 9500, 9508, 9524, 9516, 9474, 8804, 8805, 960, 8800, 163, 183]
theorem drawn_eq : charset_Drawn.f = some D := rfl
def idx (r : Int) : List Int → Int → Int
  | [], _ => -1
  | x :: l, i => if r = x then i else idx r l (i + 1)
theorem index_l0 (r : Int) (l : List Int) (hl : l.length < 1000) : ∀ (d k i : Nat), i + d = l.length → d < k → slices_Index_rune_rune.l0 k l r (l.length : Int) (i : Int) = some (idx r (l.drop i) i) := by
  intro d
  induction d with
  | zero =>
    intro k i hd hk
    obtain ⟨k, rfl⟩ : ∃ m, k = m + 1 := ⟨k - 1, by omega⟩
    simp only [slices_Index_rune_rune.l0]
    rw [if_neg (by omega), List.drop_eq_nil_of_le (by omega)]; rfl
  | succ d ih =>
    intro k i hd hk
    obtain ⟨k, rfl⟩ : ∃ m, k = m + 1 := ⟨k - 1, by omega⟩
    simp only [slices_Index_rune_rune.l0]
    rw [if_pos (by omega), if_pos (by omega), if_pos (by omega), w64 (by omega) (by omega), rd_drop l i (by omega)]
    have := ih k (i + 1) (by omega) (by omega)
    unfold idx
    by_cases h : r = rd l (i : Int)
    · rw [if_pos h, if_pos h]
    · rw [if_neg h, if_neg h]; exact this
theorem idx_not (r : Int) : ∀ (l : List Int) (i : Int), r ∉ l → idx r l i = -1 := by
  intro l
  induction l with
  | nil => intro i _; rfl
  | cons x l ih =>
    intro i h
    rw [List.mem_cons, not_or] at h
    unfold idx
    rw [if_neg h.1, ih _ h.2]
theorem idx_in (r : Int) : ∀ (l : List Int) (i : Nat), r ∈ l → ∃ j : Nat, j < l.length ∧ idx r l i = ((i + j : Nat) : Int) ∧ rd l (j : Int) = r := by
  intro l
  induction l with
  | nil => intro i h; cases h
  | cons x l ih =>
    intro i h
    unfold idx
    by_cases e : r = x
    · rw [if_pos e]
      exact ⟨0, by simp, by simp, by rw [e]; rfl⟩
    · rw [if_neg e]
      rw [List.mem_cons] at h
      obtain ⟨j, h1, h2, h3⟩ := ih (i + 1) (h.resolve_left e)
      refine ⟨j + 1, by simp; omega, ?_, ?_⟩
      · have : ((i + 1 : Nat) : Int) = (i : Int) + 1 := by omega
        rw [← this, h2]; omega
      · rw [← h3]; rfl
theorem index_eq (r : Int) (k : Nat) (hk : 31 < k) : slices_Index_rune_rune.f k D r = some (idx r D 0) := by
  unfold slices_Index_rune_rune.f
  exact index_l0 r D (by decide) 31 k 0 (by decide) hk
theorem undraw_no (r : Int) (h : r ∉ D) (k : Nat) (hk : 31 < k) : charset_Undraw.f k r = some (0, false) := by
  unfold charset_Undraw.f
  rw [drawn_eq, Option.bind_some, index_eq r k hk, Option.bind_some, idx_not r D 0 h, if_pos (by omega)]
theorem undraw_in (r : Int) (h : r ∈ D) : ∃ j : Nat, j < 31 ∧ rd D (j : Int) = r ∧ idx r D 0 = (j : Int) ∧ ∀ k, 31 < k → charset_Undraw.f k r = some (96 + (j : Int), true) := by
  obtain ⟨j, h1, h2, h3⟩ := idx_in r D 0 h
  rw [Nat.zero_add] at h2
  have hj : j < 31 := h1
  refine ⟨j, hj, h3, h2, fun k hk => ?_⟩
  unfold charset_Undraw.f
  have h2' : idx r D 0 = (j : Int) := h2
  rw [drawn_eq, Option.bind_some, index_eq r k hk, Option.bind_some, h2', if_neg (by omega), w64 (by omega) (by omega)]
  have : (96 + (j : Int)) % 256 = 96 + (j : Int) := by omega
  rw [this]

theorem good_all : D.all (fun r => match charset_Undraw.f 100 r with
    | some (b, ok) => ok && (decide (charset_Draw.f b = some r) && (match charset_Plain.f 100 r with
      | some p => decide (32 ≤ p) && (decide (p ≤ 126) && decide (p ≠ 63))
      | none => false))
    | none => false) = true := by decide +kernel
theorem good (r : Int) (h : r ∈ D) : ∃ b p, (∀ k, 100 ≤ k → charset_Undraw.f k r = some (b, true)) ∧ charset_Draw.f b = some r ∧ (∀ k, 100 ≤ k → charset_Plain.f k r = some p) ∧ 32 ≤ p ∧ p ≤ 126 ∧ p ≠ 63 := by
  have h := (List.all_eq_true.1 good_all) r h
  cases hu : charset_Undraw.f 100 r with
  | none => rw [hu] at h; cases h
  | some q =>
    obtain ⟨b, ok⟩ := q
    rw [hu] at h
    cases hp : charset_Plain.f 100 r with
    | none => rw [hp] at h; simp at h
    | some p =>
      rw [hp] at h
      simp only [Bool.and_eq_true, decide_eq_true_eq] at h
      obtain ⟨h1, h2, h3, h4, h5⟩ := h
      subst h1
      exact ⟨b, p, fun k hk => at_rounds (charset_Undraw.mono _) hk hu, h2, fun k hk => at_rounds (charset_Plain.mono _) hk hp, h3, h4, h5⟩
theorem texts_l1 (x : List Int) (hx : ∀ r ∈ x, r ∈ D) (hl : x.length < 1000) (K : Nat) (hr : ∀ k, K ≤ k → linguistlaw4_CharsetRuns.f k = some true) : ∀ (d k i : Nat), i + d = x.length → K + 200 + d < k →
    linguistlaw4_CharsetTexts.l1 k x (i : Int) x (x.length : Int) (i : Int) = some true := by
  intro d
  induction d with
  | zero =>
    intro k i hd hk
    obtain ⟨k, rfl⟩ : ∃ m, k = m + 1 := ⟨k - 1, by omega⟩
    simp only [linguistlaw4_CharsetTexts.l1]
    rw [if_neg (by omega), drawn_eq, Option.bind_some, if_pos (by rfl), if_pos (by decide), if_pos (by omega)]
    have h1 : charset_Draw.f 96 = some 9670 := by decide +kernel
    have h2 : charset_Draw.f 95 = some 32 := by decide +kernel
    have h3 : charset_Draw.f 65 = some 65 := by decide +kernel
    rw [h1, Option.bind_some, if_pos rfl, Option.bind_some, if_pos (by decide), if_pos (by rfl), h2, Option.bind_some, if_pos rfl, h3, Option.bind_some, if_pos rfl, hr k (by omega)]
    rfl
  | succ d ih =>
    intro k i hd hk
    obtain ⟨k, rfl⟩ : ∃ m, k = m + 1 := ⟨k - 1, by omega⟩
    simp only [linguistlaw4_CharsetTexts.l1]
    obtain ⟨b, p, h1, h2, h3, h4, h5, h6⟩ := good _ (hx _ (rd_mem x i (by omega)))
    rw [if_pos (by omega), if_pos (by omega), if_pos (by omega), h1 k (by omega), Option.bind_some, h3 k (by omega), Option.bind_some]
    simp only [if_true]
    rw [h2, Option.bind_some, if_pos rfl, if_neg (by omega), if_neg (by omega), if_neg h6, w64 (by omega) (by omega)]
    exact ih k (i + 1) (by omega) (by omega)
theorem texts_l0 (l : List Int) (hl : l.length < 4611686018427387904) (hw : ∀ x ∈ l, (Lit.int .i64 x).wf = true) (K : Nat) (hr : ∀ k, K ≤ k → linguistlaw4_CharsetRuns.f k = some true) : ∀ (d k i : Nat) (acc : List Int), i + d = l.length → K + 400 + 2 * d < k → acc.length ≤ i → acc.length ≤ 20 → (∀ r ∈ acc, r ∈ D) →
    linguistlaw4_CharsetTexts.l0 k l acc (i : Int) = some true := by
  intro d
  induction d with
  | zero =>
    intro k i acc hd hk ha hb hx
    obtain ⟨k, rfl⟩ : ∃ m, k = m + 2 := ⟨k - 2, by omega⟩
    simp only [linguistlaw4_CharsetTexts.l0]
    rw [if_neg (by omega)]
    simp only [linguistlaw4_CharsetTexts.j1]
    rw [if_neg (by simp)]
    exact texts_l1 acc hx (by omega) K hr acc.length k 0 (by omega) (by omega)
  | succ d ih =>
    intro k i acc hd hk ha hb hx
    obtain ⟨k, rfl⟩ : ∃ m, k = m + 2 := ⟨k - 2, by omega⟩
    simp only [linguistlaw4_CharsetTexts.l0]
    rw [if_pos (by omega)]
    simp only [linguistlaw4_CharsetTexts.j1]
    by_cases h : (i : Int) < 20
    · have wr := wf64 (hw _ (rd_mem l i (by omega)))
      obtain ⟨c, ec, c0, c1⟩ := within_eq (rd l (i : Int)) 96 126 wr.1 wr.2 (by omega) (by omega) (by omega)
      have e1 : c % 256 = c := by omega
      obtain ⟨j, hj⟩ := Int.eq_ofNat_of_zero_le (show 0 ≤ c - 96 by omega)
      have hdr : charset_Draw.f c = some (rd D (c - 96)) := by
        unfold charset_Draw.f
        have hD : (D.length : Int) = 31 := rfl
        have e : (c - 96) % 256 = c - 96 := by omega
        rw [drawn_eq, Option.bind_some, if_neg (by omega), if_pos (by omega), w64 (by omega) (by omega), hD, w64 (by omega) (by omega), if_pos (by omega), e, if_pos (by omega), if_pos (by omega)]
      rw [decide_eq_true h, if_pos rfl, if_pos (by omega), if_pos (by omega), ec, Option.bind_some, e1, hdr, Option.bind_some, if_pos (by omega), w64 (by omega) (by omega)]
      refine ih k (i + 1) (acc ++ [rd D (c - 96)]) (by omega) (by omega) (by rw [List.length_append]; simp; omega) (by rw [List.length_append]; simp; omega) ?_
      intro r hr'
      rw [List.mem_append, List.mem_singleton] at hr'
      rcases hr' with h' | h'
      · exact hx r h'
      · rw [h', hj]; exact rd_mem D j (by show j < 31; omega)
    · rw [decide_eq_false h, if_neg (by simp)]
      exact texts_l1 acc hx (by omega) K hr acc.length k 0 (by omega) (by omega)
theorem CharsetTexts : linguistlaw4_CharsetTexts.Pure := by
  intro l _ h1 h2
  obtain ⟨K, hr⟩ := runs_eq
  refine ⟨K + 500 + 2 * l.length, ?_⟩
  unfold linguistlaw4_CharsetTexts.f
  exact texts_l0 l (by omega) h2 K hr l.length _ 0 [] (by omega) (by omega) (by simp) (by simp) (by simp)

end Go.Proofs.Ytdobkoiimcneiaa.Pure
