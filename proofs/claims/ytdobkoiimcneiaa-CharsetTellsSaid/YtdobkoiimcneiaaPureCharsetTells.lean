/- CharsetTells: whatever byte and rune, the law of chapter 4's tables returns true. -/
import Derived.Test.YtdobkoiimcneiaaPCharsetTellsx3
import Derived.Test.YtdobkoiimcneiaaWSized
import Derived.Laws.BitsAllLaws
import Derived.Laws.Bits64
namespace Go.Proofs.Ytdobkoiimcneiaa.PrintWords
/-- The printed row names it so. -/
theorem sized_ints : type_of% @Go.Proofs.YtdobkoiimcneiaaW.PrintWords.sized_ints := @Go.Proofs.YtdobkoiimcneiaaW.PrintWords.sized_ints
end Go.Proofs.Ytdobkoiimcneiaa.PrintWords
namespace Go.Proofs.Ytdobkoiimcneiaa.Pure
open Go Go.RowKit Go.Proofs.Ytdobkoiimcneiaa.PCharsetTells Go.Proofs.YtdobkoiimcneiaaW.PrintWords Go.Proofs.YtdobkoiimcneiaaW.PrintLast
set_option linter.unusedVariables false

theorem Ev.pos {α : Type} {c : Prop} [Decidable c] {f g : Nat → Option α} {r : α} (h : c) (e : Ev f r) : Ev (fun k => if c then f k else g k) r := by
  obtain ⟨K, e⟩ := e
  exact ⟨K, fun k hk => by show (if c then f k else g k) = some r; rw [if_pos h]; exact e k hk⟩
theorem Ev.neg {α : Type} {c : Prop} [Decidable c] {f g : Nat → Option α} {r : α} (h : ¬ c) (e : Ev g r) : Ev (fun k => if c then f k else g k) r := by
  obtain ⟨K, e⟩ := e
  exact ⟨K, fun k hk => by show (if c then f k else g k) = some r; rw [if_neg h]; exact e k hk⟩
theorem Ev.one {α : Type} {f : Nat → Option α} {r : α} (K : Nat) (h : ∀ k, K ≤ k → f k = some r) : Ev f r := ⟨K, h⟩
theorem w64 {x : Int} (h0 : -9223372036854775808 ≤ x) (h1 : x < 9223372036854775808) : wrap64 x = x := by
  unfold wrap64; omega
theorem wf64 {x : Int} (h : (Lit.int .i64 x).wf = true) : -9223372036854775808 ≤ x ∧ x < 9223372036854775808 := by
  simp [Lit.wf, IntKind.min, IntKind.max, IntKind.bits, IntKind.signed] at h
  omega
theorem wfu64 {x : Int} (h : (Lit.int .u64 x).wf = true) : 0 ≤ x ∧ x < 18446744073709551616 := by
  simp [Lit.wf, IntKind.min, IntKind.max, IntKind.bits, IntKind.signed] at h
  omega
theorem rd_drop (l : List Int) (i : Nat) (h : i < l.length) : l.drop i = rd l (i : Int) :: l.drop (i + 1) := by
  rw [List.drop_eq_getElem_cons h]
  simp [rd, List.getD, h]
theorem wf32 {x : Int} (h : (Lit.int .i32 x).wf = true) : -2147483648 ≤ x ∧ x < 2147483648 := by
  simp [Lit.wf, IntKind.min, IntKind.max, IntKind.bits, IntKind.signed] at h
  omega
theorem wfu8 {x : Int} (h : (Lit.int .u8 x).wf = true) : 0 ≤ x ∧ x < 256 := by
  simp [Lit.wf, IntKind.min, IntKind.max, IntKind.bits, IntKind.signed] at h
  omega
theorem w32 {x : Int} (h0 : -2147483648 ≤ x) (h1 : x < 2147483648) : wrap32 x = x := by
  unfold wrap32; omega
theorem rd_mem (l : List Int) (i : Nat) (h : i < l.length) : rd l (i : Int) ∈ l := by
  have h1 := rd_drop l i h
  exact List.mem_of_mem_drop (i := i) (by rw [h1]; exact List.mem_cons_self)

theorem within_eq (n lo hi : Int) (hn : -9223372036854775808 ≤ n) (hn2 : n < 9223372036854775808) (h0 : 0 ≤ lo) (h1 : lo ≤ hi) (h2 : hi < 4611686018427387904) :
    ∃ r, linguistbook_Within.f n lo hi = some r ∧ lo ≤ r ∧ r ≤ hi := by
  unfold linguistbook_Within.f
  rw [w64 (x := hi - lo) (by omega) (by omega), w64 (x := hi - lo + 1) (by omega) (by omega), if_neg (by omega)]
  have e : n.tmod (hi - lo + 1) = n - (hi - lo + 1) * n.tdiv (hi - lo + 1) := Int.tmod_def _ _
  have b1 : n.tmod (hi - lo + 1) < hi - lo + 1 := Int.tmod_lt_of_pos _ (by omega)
  have b2 : -(hi - lo + 1) < n.tmod (hi - lo + 1) := by
    have := Int.lt_tmod_of_pos n (show 0 < hi - lo + 1 by omega); omega
  generalize n.tmod (hi - lo + 1) = m at *
  by_cases hm : m < 0
  · rw [if_pos hm, w64 (x := m + hi) (by omega) (by omega), w64 (x := m + hi - lo) (by omega) (by omega), w64 (x := m + hi - lo + 1) (by omega) (by omega), w64 (by omega) (by omega)]
    exact ⟨_, rfl, by omega, by omega⟩
  · rw [if_neg hm, w64 (by omega) (by omega)]
    exact ⟨_, rfl, by omega, by omega⟩

theorem runs_eq : ∃ K, ∀ k, K ≤ k → linguistlaw4_CharsetRuns.f k = some true := by
  refine ⟨100, fun k hk => ?_⟩
  have h : linguistlaw4_CharsetRuns.f 100 = some true := by decide +kernel
  exact at_rounds linguistlaw4_CharsetRuns.mono hk h
def D : List Int := [9670, 9618, 9225, 9228, 9229, 9226, 176, 177, 9252, 9227, 9496, 9488, 9484, 9492, 9532, 9146, 9147, 9472, 9148, 9149, 9500, 9508, 9524, 9516, 9474, 8804, 8805, 960, 8800, 163, 183]
theorem drawn_eq : charset_Drawn.f = some D := rfl
def idx (r : Int) : List Int → Int → Int
  | [], _ => -1
  | x :: l, i => if r = x then i else idx r l (i + 1)
theorem index_l0 (r : Int) (l : List Int) (hl : l.length < 1000) : ∀ (d k i : Nat), i + d = l.length → d < k → slices_Index_rune_rune.l0 k l r (l.length : Int) (i : Int) = some (idx r (l.drop i) i) := by
  intro d
  induction d with
  | zero =>
    intro k i hd hk
    obtain ⟨k, rfl⟩ : ∃ m, k = m + 1 := ⟨k - 1, by omega⟩
    simp only [slices_Index_rune_rune.l0]
    rw [if_neg (by omega), List.drop_eq_nil_of_le (by omega)]; rfl
  | succ d ih =>
    intro k i hd hk
    obtain ⟨k, rfl⟩ : ∃ m, k = m + 1 := ⟨k - 1, by omega⟩
    simp only [slices_Index_rune_rune.l0]
    rw [if_pos (by omega), if_pos (by omega), if_pos (by omega), w64 (by omega) (by omega), rd_drop l i (by omega)]
    have := ih k (i + 1) (by omega) (by omega)
    unfold idx
    by_cases h : r = rd l (i : Int)
    · rw [if_pos h, if_pos h]
    · rw [if_neg h, if_neg h]; exact this
theorem idx_not (r : Int) : ∀ (l : List Int) (i : Int), r ∉ l → idx r l i = -1 := by
  intro l
  induction l with
  | nil => intro i _; rfl
  | cons x l ih =>
    intro i h
    rw [List.mem_cons, not_or] at h
    unfold idx
    rw [if_neg h.1, ih _ h.2]
theorem idx_in (r : Int) : ∀ (l : List Int) (i : Nat), r ∈ l → ∃ j : Nat, j < l.length ∧ idx r l i = ((i + j : Nat) : Int) ∧ rd l (j : Int) = r := by
  intro l
  induction l with
  | nil => intro i h; cases h
  | cons x l ih =>
    intro i h
    unfold idx
    by_cases e : r = x
    · rw [if_pos e]
      exact ⟨0, by simp, by simp, by rw [e]; rfl⟩
    · rw [if_neg e]
      rw [List.mem_cons] at h
      obtain ⟨j, h1, h2, h3⟩ := ih (i + 1) (h.resolve_left e)
      refine ⟨j + 1, by simp; omega, ?_, ?_⟩
      · have : ((i + 1 : Nat) : Int) = (i : Int) + 1 := by omega
        rw [← this, h2]; omega
      · rw [← h3]; rfl
theorem index_eq (r : Int) (k : Nat) (hk : 31 < k) : slices_Index_rune_rune.f k D r = some (idx r D 0) := by
  unfold slices_Index_rune_rune.f
  exact index_l0 r D (by decide) 31 k 0 (by decide) hk
theorem undraw_no (r : Int) (h : r ∉ D) (k : Nat) (hk : 31 < k) : charset_Undraw.f k r = some (0, false) := by
  unfold charset_Undraw.f
  rw [drawn_eq, Option.bind_some, index_eq r k hk, Option.bind_some, idx_not r D 0 h, if_pos (by omega)]
theorem undraw_in (r : Int) (h : r ∈ D) : ∃ j : Nat, j < 31 ∧ rd D (j : Int) = r ∧ idx r D 0 = (j : Int) ∧ ∀ k, 31 < k → charset_Undraw.f k r = some (96 + (j : Int), true) := by
  obtain ⟨j, h1, h2, h3⟩ := idx_in r D 0 h
  rw [Nat.zero_add] at h2
  have hj : j < 31 := h1
  refine ⟨j, hj, h3, h2, fun k hk => ?_⟩
  unfold charset_Undraw.f
  have h2' : idx r D 0 = (j : Int) := h2
  rw [drawn_eq, Option.bind_some, index_eq r k hk, Option.bind_some, h2', if_neg (by omega), w64 (by omega) (by omega)]
  have : (96 + (j : Int)) % 256 = 96 + (j : Int) := by omega
  rw [this]

theorem plain_eq (r : Int) (k : Nat) (hk : 40 < k) : charset_Plain.f k r = linguistref1_Plain.f k r := by
  obtain ⟨k, rfl⟩ : ∃ m, k = m + 2 := ⟨k - 2, by omega⟩
  have key : ∀ b, charset_Plain.j0 (k + 2) r b = linguistref1_Plain.j0 (k + 2) r b := by
    intro b
    simp only [charset_Plain.j0, linguistref1_Plain.j0]
    cases b with
    | true => rfl
    | false =>
      rw [if_neg (by simp), if_neg (by simp)]
      have hd : linguistref1_Drawn.f = some D := rfl
      rw [hd, Option.bind_some]
      have ref : ∀ (d k i : Nat), i + d = 31 → d < k → linguistref1_Plain.l0 k r D (D.length : Int) (i : Int) = if idx r (D.drop i) i < 0 then some 63 else some (bt (⟨#[42, 35, 72, 70, 67, 76, 111, 43, 78, 86, 43, 43, 43, 43, 43, 45, 45, 45, 45, 95, 43, 43, 43, 43, 124, 60, 62, 112, 33, 76, 46]⟩ : ByteArray) (idx r (D.drop i) i)) := by
        have hD : D.length = 31 := rfl
        intro d
        induction d with
        | zero =>
          intro k i hd hk
          obtain ⟨k, rfl⟩ : ∃ m, k = m + 1 := ⟨k - 1, by omega⟩
          simp only [linguistref1_Plain.l0]
          rw [if_neg (by omega), List.drop_eq_nil_of_le (by omega)]
          rw [if_pos (by show (-1 : Int) < 0; omega)]
        | succ d ih =>
          intro k i hd hk
          obtain ⟨k, rfl⟩ : ∃ m, k = m + 1 := ⟨k - 1, by omega⟩
          simp only [linguistref1_Plain.l0]
          rw [if_pos (by omega), if_pos (by omega), if_pos (by omega), w64 (by omega) (by omega), rd_drop D i (by omega)]
          have := ih k (i + 1) (by omega) (by omega)
          unfold idx
          by_cases h : r = rd D (i : Int)
          · rw [if_pos h.symm, if_pos h, if_neg (by omega)]
            have hs : linguistref1_plainTable.f = some (⟨#[42, 35, 72, 70, 67, 76, 111, 43, 78, 86, 43, 43, 43, 43, 43, 45, 45, 45, 45, 95, 43, 43, 43, 43, 124, 60, 62, 112, 33, 76, 46]⟩ : ByteArray) := rfl
            rw [hs, Option.bind_some, if_pos (by show (i : Int) < 31; omega)]
          · rw [if_neg (fun g => h g.symm), if_neg h]; exact this
      have hr := ref 31 (k + 1) 0 (by omega) (by omega)
      rw [List.drop_zero] at hr
      have hr' : linguistref1_Plain.l0 (k + 1) r D (D.length : Int) 0 = _ := hr
      rw [hr']
      by_cases hm : r ∈ D
      · obtain ⟨j, h1, h2, h3, h4⟩ := undraw_in r hm
        have h3' : idx r D ((0 : Nat) : Int) = (j : Int) := h3
        rw [h4 (k + 1) (by omega), Option.bind_some, h3']
        simp only [if_true]
        have e : ((96 + (j : Int)) - 96) % 256 = (j : Int) := by omega
        rw [e, if_pos (by omega), if_pos (by omega), if_neg (by omega)]
      · have h3' : idx r D ((0 : Nat) : Int) = -1 := idx_not r D 0 hm
        rw [undraw_no r hm (k + 1) (by omega), Option.bind_some, h3']
        simp
  unfold charset_Plain.f linguistref1_Plain.f
  have e : decide (r ≤ 126) = decide (r < 127) := by
    rw [Bool.eq_iff_iff, decide_eq_true_iff, decide_eq_true_iff]; omega
  rw [e, key, key]
def last (r : Int) : List Int → Int → Int × Bool → Int × Bool
  | [], _, p => p
  | x :: l, i, p => if x = r then last r l (i + 1) ((wrap64 (96 + i)) % 256, true) else last r l (i + 1) p
theorem last_not (r : Int) : ∀ (l : List Int) (i : Int) (p : Int × Bool), r ∉ l → last r l i p = p := by
  intro l
  induction l with
  | nil => intro i p _; rfl
  | cons x l ih =>
    intro i p h
    rw [List.mem_cons, not_or] at h
    unfold last
    rw [if_neg (fun g => h.1 g.symm), ih _ _ h.2]
theorem last_in (r : Int) : ∀ (l : List Int) (i : Int) (p : Int × Bool), l.Nodup → r ∈ l → last r l i p = ((wrap64 (96 + idx r l i)) % 256, true) := by
  intro l
  induction l with
  | nil => intro i p _ h; cases h
  | cons x l ih =>
    intro i p hn h
    rw [List.nodup_cons] at hn
    unfold last idx
    by_cases e : x = r
    · subst e
      rw [if_pos rfl, if_pos rfl, last_not x l _ _ hn.1]
    · rw [if_neg e, if_neg (fun g => e g.symm)]
      rw [List.mem_cons] at h
      exact ih _ _ hn.2 (h.resolve_left (fun g => e g.symm))
theorem plain_some (r : Int) (k : Nat) (hk : 40 < k) : ∃ v, charset_Plain.f k r = some v := by
  obtain ⟨k, rfl⟩ : ∃ m, k = m + 1 := ⟨k - 1, by omega⟩
  have : ∀ b, ∃ v, charset_Plain.j0 (k + 1) r b = some v := by
    intro b
    simp only [charset_Plain.j0]
    cases b with
    | true => exact ⟨_, rfl⟩
    | false =>
      rw [if_neg (by simp)]
      by_cases hm : r ∈ D
      · obtain ⟨j, h1, h2, h3, h4⟩ := undraw_in r hm
        rw [h4 k (by omega), Option.bind_some]
        simp only [if_true]
        rw [if_pos (by omega), if_pos (by omega)]
        exact ⟨_, rfl⟩
      · rw [undraw_no r hm k (by omega), Option.bind_some]
        exact ⟨_, rfl⟩
  unfold charset_Plain.f
  split
  · exact this _
  · exact this _
theorem tells_j0 (b r : Int) (hb : 0 ≤ b) (hb2 : b < 256) (K : Nat) (hr : ∀ k, K ≤ k → linguistlaw4_CharsetRuns.f k = some true) : linguistlaw4_CharsetTells.j0 (K + 200) b r D = some true := by
  have hD : D.length = 31 := rfl
  have fin : ∀ (k : Nat) (p : Int × Bool) (v : Int), K + 50 < k → p = (if r ∈ D then ((wrap64 (96 + idx r D 0)) % 256, true) else (0, false)) → charset_Draw.f b = some v → linguistlaw4_CharsetTells.j4 k b r p.1 p.2 v = some true := by
    intro k p v hk hp hv
    obtain ⟨k, rfl⟩ : ∃ m, k = m + 1 := ⟨k - 1, by omega⟩
    simp only [linguistlaw4_CharsetTells.j4]
    obtain ⟨pv, hpv⟩ := plain_some r k (by omega)
    have hpr := plain_eq r k (by omega)
    rw [hv, ← hpr, hpv]
    by_cases hm : r ∈ D
    · obtain ⟨j, h1, h2, h3, h4⟩ := undraw_in r hm
      rw [if_pos hm, h3, w64 (by omega) (by omega)] at hp
      have e : (96 + (j : Int)) % 256 = 96 + (j : Int) := by omega
      rw [e] at hp
      subst hp
      rw [h4 k (by omega)]
      simp [hr k (by omega)]
    · rw [if_neg hm] at hp
      subst hp
      rw [undraw_no r hm k (by omega)]
      simp [hr k (by omega)]
  have j3 : ∀ (k : Nat) (p : Int × Bool), K + 60 < k → p = (if r ∈ D then ((wrap64 (96 + idx r D 0)) % 256, true) else (0, false)) →
      linguistlaw4_CharsetTells.j2 k b r D p.1 p.2 (if b = 95 then 32 else wrap32 b) = some true := by
    intro k p hk hp
    obtain ⟨k, rfl⟩ : ∃ m, k = m + 2 := ⟨k - 2, by omega⟩
    simp only [linguistlaw4_CharsetTells.j2]
    have hdr : charset_Draw.f b = some (if b = 95 then 32 else if 96 ≤ b ∧ b ≤ 126 then rd D (b - 96) else wrap32 b) := by
      unfold charset_Draw.f
      rw [drawn_eq, Option.bind_some, w64 (x := b) (by omega) (by omega), hD, w64 (by omega) (by omega)]
      by_cases h1 : b = 95
      · rw [if_pos h1, if_pos h1]
      · rw [if_neg h1, if_neg h1]
        by_cases h2 : b ≥ 96
        · rw [if_pos h2]
          by_cases h3 : b ≤ 126
          · have e : (b - 96) % 256 = b - 96 := by omega
            rw [if_pos (by omega), if_pos (show 96 ≤ b ∧ b ≤ 126 from ⟨h2, h3⟩), e, if_pos (by omega), if_pos (by omega)]
          · rw [if_neg (by omega), if_neg (by omega)]
        · rw [if_neg h2, if_neg (by omega)]
    by_cases h2 : b ≥ 96
    · rw [if_pos h2]
      simp only [linguistlaw4_CharsetTells.j3]
      by_cases h3 : b ≤ 126
      · have e : (b - 96) % 256 = b - 96 := by omega
        rw [decide_eq_true h3, if_pos rfl, e, if_pos (by omega), if_pos (by omega)]
        refine fin k p _ (by omega) hp ?_
        rw [hdr, if_neg (by omega), if_pos (show 96 ≤ b ∧ b ≤ 126 from ⟨h2, h3⟩)]
      · rw [decide_eq_false h3, if_neg (by simp)]
        refine fin k p _ (by omega) hp ?_
        rw [hdr, if_neg (by omega), if_neg (by omega), if_neg (by omega)]
    · rw [if_neg h2]
      simp only [linguistlaw4_CharsetTells.j3]
      rw [if_neg (by simp)]
      refine fin k p _ (by omega) hp ?_
      rw [hdr]
      by_cases h1 : b = 95
      · rw [if_pos h1, if_pos h1]
      · rw [if_neg h1, if_neg h1, if_neg (by omega)]
  have l0 : ∀ (d k i : Nat) (p : Int × Bool), i + d = 31 → K + 70 + d < k → last r (D.drop i) i p = (if r ∈ D then ((wrap64 (96 + idx r D 0)) % 256, true) else (0, false)) →
      linguistlaw4_CharsetTells.l0 k b r D p.1 p.2 D (D.length : Int) (i : Int) = some true := by
    intro d
    induction d with
    | zero =>
      intro k i p hd hk hp
      obtain ⟨k, rfl⟩ : ∃ m, k = m + 1 := ⟨k - 1, by omega⟩
      rw [List.drop_eq_nil_of_le (by omega)] at hp
      have := j3 k p (by omega) hp
      simp only [linguistlaw4_CharsetTells.l0]
      rw [if_neg (by omega)]
      by_cases h1 : b = 95
      · rw [if_pos h1] at this ⊢; exact this
      · rw [if_neg h1] at this ⊢; exact this
    | succ d ih =>
      intro k i p hd hk hp
      obtain ⟨k, rfl⟩ : ∃ m, k = m + 1 := ⟨k - 1, by omega⟩
      simp only [linguistlaw4_CharsetTells.l0]
      rw [if_pos (by omega), if_pos (by omega), if_pos (by omega), w64 (x := (i : Int) + 1) (by omega) (by omega)]
      rw [rd_drop D i (by omega)] at hp
      unfold last at hp
      by_cases h : rd D (i : Int) = r
      · rw [if_pos h] at hp ⊢
        exact ih k (i + 1) ((wrap64 (96 + (i : Int))) % 256, true) (by omega) (by omega) hp
      · rw [if_neg h] at hp ⊢
        exact ih k (i + 1) p (by omega) (by omega) hp
  have h := l0 31 (K + 199) 0 (0, false) (by omega) (by omega) (by
    rw [List.drop_zero]
    by_cases hm : r ∈ D
    · rw [if_pos hm]; exact last_in r D 0 _ (by decide) hm
    · rw [if_neg hm]; exact last_not r D 0 _ hm)
  show linguistlaw4_CharsetTells.j0 (K + 199 + 1) b r D = some true
  simp only [linguistlaw4_CharsetTells.j0]
  exact h
theorem CharsetTells : linguistlaw4_CharsetTells.Pure := by
  intro b r a own hb hr ha
  have hb := wfu8 hb
  have ha := wf64 ha
  obtain ⟨K, hruns⟩ := runs_eq
  refine ⟨K + 200, ?_⟩
  have hd : linguistref1_Drawn.f = some D := rfl
  unfold linguistlaw4_CharsetTells.f
  rw [hd, Option.bind_some]
  cases own with
  | false => rw [if_neg (by simp)]; exact tells_j0 b r hb.1 hb.2 K hruns
  | true =>
    rw [if_pos rfl]
    have hD : (D.length : Int) = 31 := rfl
    rw [hD, w64 (by omega) (by omega)]
    obtain ⟨x, ex, x0, x1⟩ := within_eq a 0 (31 - 1) ha.1 ha.2 (by omega) (by omega) (by omega)
    rw [ex, Option.bind_some, if_pos (by omega), if_pos (by omega)]
    exact tells_j0 b _ hb.1 hb.2 K hruns

end Go.Proofs.Ytdobkoiimcneiaa.Pure
