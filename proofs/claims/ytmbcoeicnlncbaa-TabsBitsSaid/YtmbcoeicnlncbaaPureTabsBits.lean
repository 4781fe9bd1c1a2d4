/- TabsBits: whatever the input, the law of chapter 9's bits returns true. -/
import Derived.Test.YtmbcoeicnlncbaaGTabsBitsx2
import Derived.Test.YtmbcoeicnlncbaaWSized
import Derived.Laws.BitsAllLaws
import Derived.Laws.Bits64
namespace Go.Proofs.Ytmbcoeicnlncbaa.PrintWords
/-- The printed row names it so. -/
theorem sized_ints : type_of% @Go.Proofs.YtmbcoeicnlncbaaW.PrintWords.sized_ints := @Go.Proofs.YtmbcoeicnlncbaaW.PrintWords.sized_ints
end Go.Proofs.Ytmbcoeicnlncbaa.PrintWords
namespace Go.Proofs.Ytmbcoeicnlncbaa.Pure
open Go Go.RowKit Go.Proofs.Ytmbcoeicnlncbaa.GTabsBits Go.Proofs.YtmbcoeicnlncbaaW.PrintWords Go.Proofs.YtmbcoeicnlncbaaW.PrintLast
set_option linter.unusedVariables false
set_option linter.unusedSimpArgs false

theorem Ev.pos {α : Type} {c : Prop} [Decidable c] {f g : Nat → Option α} {r : α} (h : c) (e : Ev f r) : Ev (fun k => if c then f k else g k) r := by
  obtain ⟨K, e⟩ := e
  exact ⟨K, fun k hk => by show (if c then f k else g k) = some r; rw [if_pos h]; exact e k hk⟩
theorem Ev.neg {α : Type} {c : Prop} [Decidable c] {f g : Nat → Option α} {r : α} (h : ¬ c) (e : Ev g r) : Ev (fun k => if c then f k else g k) r := by
  obtain ⟨K, e⟩ := e
  exact ⟨K, fun k hk => by show (if c then f k else g k) = some r; rw [if_neg h]; exact e k hk⟩
theorem Ev.one {α : Type} {f : Nat → Option α} {r : α} (K : Nat) (h : ∀ k, K ≤ k → f k = some r) : Ev f r := ⟨K, h⟩
theorem w64 {x : Int} (h0 : -9223372036854775808 ≤ x) (h1 : x < 9223372036854775808) : wrap64 x = x := by
  unfold wrap64; omega
theorem wf64 {x : Int} (h : (Lit.int .i64 x).wf = true) : -9223372036854775808 ≤ x ∧ x < 9223372036854775808 := by
  simp [Lit.wf, IntKind.min, IntKind.max, IntKind.bits, IntKind.signed] at h
  omega
theorem wfu64 {x : Int} (h : (Lit.int .u64 x).wf = true) : 0 ≤ x ∧ x < 18446744073709551616 := by
  simp [Lit.wf, IntKind.min, IntKind.max, IntKind.bits, IntKind.signed] at h
  omega
theorem rd_drop (l : List Int) (i : Nat) (h : i < l.length) : l.drop i = rd l (i : Int) :: l.drop (i + 1) := by
  rw [List.drop_eq_getElem_cons h]
  simp [rd, List.getD, h]
theorem wf32 {x : Int} (h : (Lit.int .i32 x).wf = true) : -2147483648 ≤ x ∧ x < 2147483648 := by
  simp [Lit.wf, IntKind.min, IntKind.max, IntKind.bits, IntKind.signed] at h
  omega
theorem wfu8 {x : Int} (h : (Lit.int .u8 x).wf = true) : 0 ≤ x ∧ x < 256 := by
  simp [Lit.wf, IntKind.min, IntKind.max, IntKind.bits, IntKind.signed] at h
  omega
theorem w32 {x : Int} (h0 : -2147483648 ≤ x) (h1 : x < 2147483648) : wrap32 x = x := by
  unfold wrap32; omega
theorem rd_mem (l : List Int) (i : Nat) (h : i < l.length) : rd l (i : Int) ∈ l := by
  have h1 := rd_drop l i h
  exact List.mem_of_mem_drop (i := i) (by rw [h1]; exact List.mem_cons_self)

def bitN (c : Int) : Nat := if c < 0 then 0 else if 64 ≤ c then 0 else 2 ^ c.toNat
theorem bitN_lt (c : Int) : bitN c < 18446744073709551616 := by
  unfold bitN
  split
  · omega
  · split
    · omega
    · have : 2 ^ c.toNat ≤ 2 ^ 63 := Nat.pow_le_pow_right (by omega) (by omega)
      omega
theorem bit_eq (c : Int) : tabs_bit.f c = some ((bitN c : Nat) : Int) := by
  unfold tabs_bit.f bitN
  split
  · rfl
  · split
    · rfl
    · rename_i h0 h1
      rw [if_pos (by omega)]
      unfold shl
      rw [IntKind.wrap_u64, Nat.min_eq_left (by show c.toNat ≤ 64; omega), Int.one_mul]
      have h2 : 2 ^ c.toNat ≤ 2 ^ 63 := Nat.pow_le_pow_right (by omega) (by omega)
      have h3 : ((2 ^ c.toNat : Nat) : Int) = (2 : Int) ^ c.toNat := by simp
      rw [← h3, Int.emod_eq_of_lt (Int.natCast_nonneg _) (by omega)]
theorem bitN_test (c : Int) (i : Nat) (hi : i < 64) : (bitN c).testBit i = decide (c = (i : Int)) := by
  unfold bitN
  split
  · rw [Nat.zero_testBit]; symm; rw [decide_eq_false_iff_not]; omega
  · split
    · rw [Nat.zero_testBit]; symm; rw [decide_eq_false_iff_not]; omega
    · rw [Nat.testBit_two_pow]
      rw [Bool.eq_iff_iff, decide_eq_true_iff, decide_eq_true_iff]; omega
theorem bitN_hi (c : Int) (i : Nat) (hi : 64 ≤ i) : (bitN c).testBit i = false := by
  apply Nat.testBit_lt_two_pow
  have := bitN_lt c
  have h2 : 2 ^ 64 ≤ 2 ^ i := Nat.pow_le_pow_right (by omega) hi
  omega
theorem hi_false {t : Nat} (ht : t < 18446744073709551616) (i : Nat) (hi : 64 ≤ i) : t.testBit i = false := by
  apply Nat.testBit_lt_two_pow
  have h2 : 2 ^ 64 ≤ 2 ^ i := Nat.pow_le_pow_right (by omega) hi
  omega
def hasN (t : Nat) (c : Int) : Bool := decide (0 ≤ c) && (decide (c < 64) && t.testBit c.toNat)
theorem has_eq (t : Nat) (ht : t < 18446744073709551616) (c : Int) : tabs_Has.f (t : Int) c = some (hasN t c) := by
  unfold tabs_Has.f
  rw [bit_eq, Option.bind_some, u64_and_nat _ _ ht (bitN_lt c)]
  congr 1
  unfold hasN bitN
  split
  · rename_i h
    rw [Nat.and_zero, decide_eq_false (by omega : ¬ (0 ≤ c))]; rfl
  · split
    · rename_i h
      rw [Nat.and_zero, decide_eq_false (by omega : ¬ (c < 64))]; simp
    · rename_i h0 h1
      rw [decide_eq_true (by omega : 0 ≤ c), decide_eq_true (by omega : c < 64), nat_bit, Nat.testBit_eq_decide_div_mod_eq]
      have hp : 0 < 2 ^ c.toNat := Nat.pow_pos (by omega)
      rcases Nat.mod_two_eq_zero_or_one (t / 2 ^ c.toNat) with h | h
      · rw [h]; simp
      · rw [h]
        generalize 2 ^ c.toNat = p at *
        have : ((1 * p : Nat) : Int) ≠ 0 := by omega
        rw [bne_iff_ne.2 this]; rfl
theorem hasN_nat (t i : Nat) (hi : i < 64) : hasN t (i : Int) = t.testBit i := by
  unfold hasN
  rw [decide_eq_true (by omega : (0 : Int) ≤ i), decide_eq_true (by omega : (i : Int) < 64)]; simp
def putN (t : Nat) (l : List Int) : Nat := l.foldl (fun t c => t ||| bitN c) t
theorem or_lt {a b : Nat} (ha : a < 18446744073709551616) (hb : b < 18446744073709551616) : a ||| b < 18446744073709551616 := by
  have := Nat.or_lt_two_pow (n := 64) (x := a) (y := b) (by omega) (by omega)
  omega
theorem putN_lt (l : List Int) : ∀ t, t < 18446744073709551616 → putN t l < 18446744073709551616 := by
  induction l with
  | nil => intro t ht; exact ht
  | cons c l ih => intro t ht; exact ih _ (or_lt ht (bitN_lt c))
theorem putN_test (l : List Int) (i : Nat) (hi : i < 64) : ∀ t, (putN t l).testBit i = (t.testBit i || l.any fun c => decide (c = (i : Int))) := by
  induction l with
  | nil => intro t; simp [putN]
  | cons c l ih =>
    intro t
    have : putN t (c :: l) = putN (t ||| bitN c) l := rfl
    rw [this, ih, Nat.testBit_or, bitN_test c i hi, List.any_cons, Bool.or_assoc]
theorem put_l0 (l : List Int) (hl : l.length < 4611686018427387904) : ∀ (d k i t : Nat), i + d = l.length → d < k → t < 18446744073709551616 →
    tabs_Put.l0 k (t : Int) l (l.length : Int) (i : Int) = some ((putN t (l.drop i) : Nat) : Int) := by
  intro d
  induction d with
  | zero =>
    intro k i t hd hk ht
    obtain ⟨k, rfl⟩ : ∃ m, k = m + 1 := ⟨k - 1, by omega⟩
    simp only [tabs_Put.l0]
    rw [if_neg (by omega), List.drop_eq_nil_of_le (by omega)]; rfl
  | succ d ih =>
    intro k i t hd hk ht
    obtain ⟨k, rfl⟩ : ∃ m, k = m + 1 := ⟨k - 1, by omega⟩
    simp only [tabs_Put.l0]
    rw [if_pos (by omega), if_pos (by omega), if_pos (by omega), bit_eq, Option.bind_some, u64_or_nat _ _ ht (bitN_lt _), w64 (by omega) (by omega)]
    have := ih k (i + 1) (t ||| bitN (rd l i)) (by omega) (by omega) (or_lt ht (bitN_lt _))
    rw [rd_drop l i (by omega)]
    exact this
theorem put_eq (l : List Int) (hl : l.length < 4611686018427387904) (k t : Nat) (hk : l.length < k) (ht : t < 18446744073709551616) : tabs_Put.f k (t : Int) l = some ((putN t l : Nat) : Int) := by
  unfold tabs_Put.f
  exact put_l0 l hl l.length k 0 t (by omega) hk ht
def listN (t : Nat) : List Int := ((List.range 64).filter fun (i : Nat) => t.testBit i).map fun (i : Nat) => (i : Int)
def listFrom (t i : Nat) : List Int := ((List.range' i (64 - i)).filter fun (i : Nat) => t.testBit i).map fun (i : Nat) => (i : Int)
theorem listFrom_zero (t : Nat) : listFrom t 0 = listN t := by
  unfold listFrom listN; rw [List.range_eq_range']
theorem listFrom_step (t i : Nat) (h : i < 64) : listFrom t i = if t.testBit i then (i : Int) :: listFrom t (i + 1) else listFrom t (i + 1) := by
  unfold listFrom
  have : 64 - i = (64 - (i + 1)) + 1 := by omega
  rw [this, List.range'_succ, List.filter_cons]
  split <;> simp
theorem list_l0 (t : Nat) (ht : t < 18446744073709551616) : ∀ (d k i : Nat) (acc : List Int), i + d = 64 → d < k → acc.length ≤ i →
    tabs_List.l0 k (t : Int) acc (i : Int) = some (acc ++ listFrom t i) := by
  intro d
  induction d with
  | zero =>
    intro k i acc hd hk ha
    obtain ⟨k, rfl⟩ : ∃ m, k = m + 1 := ⟨k - 1, by omega⟩
    simp only [tabs_List.l0]
    rw [if_neg (by omega)]
    have : listFrom t i = [] := by
      unfold listFrom
      rw [show 64 - i = 0 by omega]; rfl
    rw [this, List.append_nil]
  | succ d ih =>
    intro k i acc hd hk ha
    obtain ⟨k, rfl⟩ : ∃ m, k = m + 1 := ⟨k - 1, by omega⟩
    simp only [tabs_List.l0]
    rw [if_pos (by omega), has_eq t ht, Option.bind_some, hasN_nat t i (by omega), w64 (by omega) (by omega), listFrom_step t i (by omega)]
    cases hb : t.testBit i with
    | true =>
      rw [if_pos rfl, if_pos (by omega), if_pos rfl]
      have := ih k (i + 1) (acc ++ [(i : Int)]) (by omega) (by omega) (by rw [List.length_append]; simp; omega)
      rw [List.append_assoc] at this
      exact this
    | false =>
      rw [if_neg (by simp), if_neg (by simp)]
      exact ih k (i + 1) acc (by omega) (by omega) (by omega)
theorem list_eq (t : Nat) (ht : t < 18446744073709551616) (k : Nat) (hk : 64 < k) : tabs_List.f k (t : Int) = some (listN t) := by
  unfold tabs_List.f
  have := list_l0 t ht 64 k 0 [] (by omega) hk (by simp)
  rw [List.nil_append, listFrom_zero] at this
  exact this
theorem listN_len (t : Nat) : (listN t).length ≤ 64 := by
  unfold listN
  rw [List.length_map]
  exact Nat.le_trans (List.length_filter_le _ _) (by simp)
theorem mem_listN (t : Nat) (c : Int) : c ∈ listN t ↔ 0 ≤ c ∧ c < 64 ∧ t.testBit c.toNat = true := by
  unfold listN
  simp only [List.mem_map, List.mem_filter, List.mem_range]
  constructor
  · rintro ⟨i, ⟨h1, h2⟩, rfl⟩
    exact ⟨by omega, by omega, by simpa using h2⟩
  · rintro ⟨h0, h1, h2⟩
    exact ⟨c.toNat, ⟨by omega, h2⟩, by omega⟩
theorem listN_sorted (t : Nat) : (listN t).Pairwise (· < ·) := by
  unfold listN
  rw [List.pairwise_map]
  refine List.Pairwise.imp (R := fun (a b : Nat) => a < b) ?_ (List.Pairwise.filter _ (List.pairwise_lt_range))
  intro a b h; omega
def nextN (l : List Int) (c n : Int) : Int := (l.find? fun x => decide (c < x) && decide (x < n)).getD (n - 1)
theorem next_l0 (c n : Int) (hn : -9223372036854775808 < n) (hn2 : n < 9223372036854775808) (l : List Int) (hl : l.length < 4611686018427387904) : ∀ (d k i : Nat), i + d = l.length → d < k →
    tabs_Next.l0 k c n l (l.length : Int) (i : Int) = some (nextN (l.drop i) c n) := by
  intro d
  induction d with
  | zero =>
    intro k i hd hk
    obtain ⟨k, rfl⟩ : ∃ m, k = m + 1 := ⟨k - 1, by omega⟩
    simp only [tabs_Next.l0]
    rw [if_neg (by omega), List.drop_eq_nil_of_le (by omega), w64 (by omega) (by omega)]; rfl
  | succ d ih =>
    intro k i hd hk
    obtain ⟨k, rfl⟩ : ∃ m, k = m + 1 := ⟨k - 1, by omega⟩
    simp only [tabs_Next.l0]
    rw [if_pos (by omega), if_pos (by omega), if_pos (by omega), w64 (by omega) (by omega), rd_drop l i (by omega)]
    have := ih k (i + 1) (by omega) (by omega)
    unfold nextN
    rw [List.find?_cons]
    by_cases h1 : c < rd l (i : Int)
    · rw [if_pos h1, decide_eq_true h1]
      by_cases h2 : rd l (i : Int) < n
      · rw [if_pos h2, decide_eq_true h2]; rfl
      · rw [if_neg h2, decide_eq_false h2]; exact this
    · rw [if_neg h1, decide_eq_false h1]; exact this
theorem next_eq (t : Nat) (ht : t < 18446744073709551616) (c n : Int) (hn : -9223372036854775808 < n) (hn2 : n < 9223372036854775808) (k : Nat) (hk : 64 < k) :
    tabs_Next.f k (t : Int) c n = some (nextN (listN t) c n) := by
  unfold tabs_Next.f
  rw [list_eq t ht k hk, Option.bind_some]
  have h := listN_len t
  exact next_l0 c n hn hn2 (listN t) (by omega) (listN t).length k 0 (by omega) (by omega)
/-- What the next stop is. -/
theorem nextN_tells (t : Nat) (c n : Int) (h0 : 0 ≤ c) :
    (c < nextN (listN t) c n ∧ nextN (listN t) c n < n ∧ nextN (listN t) c n < 64 ∧ t.testBit (nextN (listN t) c n).toNat = true ∧ ∀ i : Nat, i < 64 → c < i → (i : Int) < nextN (listN t) c n → t.testBit i = false) ∨
    (nextN (listN t) c n = n - 1 ∧ ∀ i : Nat, i < 64 → c < i → (i : Int) < n → t.testBit i = false) := by
  unfold nextN
  cases h : (listN t).find? fun x => decide (c < x) && decide (x < n) with
  | none =>
    right
    refine ⟨rfl, fun i hi hc hn => ?_⟩
    rw [List.find?_eq_none] at h
    cases hb : t.testBit i with
    | false => rfl
    | true =>
      have := h (i : Int) ((mem_listN t _).2 ⟨by omega, by omega, by simpa using hb⟩)
      simp at this; omega
  | some x =>
    left
    rw [Option.getD_some]
    have hm := (mem_listN t x).1 (List.mem_of_find?_eq_some h)
    have hp := List.find?_some h
    simp at hp
    refine ⟨hp.1, hp.2, hm.2.1, hm.2.2, fun i hi hc hx => ?_⟩
    cases hb : t.testBit i with
    | false => rfl
    | true =>
      exfalso
      rw [List.find?_eq_some_iff_append] at h
      obtain ⟨_, la, lb, hl, hnot⟩ := h
      have hi' : (i : Int) ∈ listN t := (mem_listN t _).2 ⟨by omega, by omega, by simpa using hb⟩
      have hs := listN_sorted t
      rw [hl] at hi' hs
      rw [List.pairwise_append] at hs
      rw [List.mem_append, List.mem_cons] at hi'
      rcases hi' with hi' | hi' | hi'
      · have := hnot _ hi'
        simp at this; omega
      · omega
      · have := (List.pairwise_cons.1 hs.2.1).1 _ hi'
        omega

theorem within_eq (n lo hi : Int) (hn : -9223372036854775808 ≤ n) (hn2 : n < 9223372036854775808) (h0 : 0 ≤ lo) (h1 : lo ≤ hi) (h2 : hi < 4611686018427387904) :
    ∃ r, linguistbook_Within.f n lo hi = some r ∧ lo ≤ r ∧ r ≤ hi := by
  unfold linguistbook_Within.f
  rw [w64 (x := hi - lo) (by omega) (by omega), w64 (x := hi - lo + 1) (by omega) (by omega), if_neg (by omega)]
  have e : n.tmod (hi - lo + 1) = n - (hi - lo + 1) * n.tdiv (hi - lo + 1) := Int.tmod_def _ _
  have b1 : n.tmod (hi - lo + 1) < hi - lo + 1 := Int.tmod_lt_of_pos _ (by omega)
  have b2 : -(hi - lo + 1) < n.tmod (hi - lo + 1) := by
    have := Int.lt_tmod_of_pos n (show 0 < hi - lo + 1 by omega); omega
  generalize n.tmod (hi - lo + 1) = m at *
  by_cases hm : m < 0
  · rw [if_pos hm, w64 (x := m + hi) (by omega) (by omega), w64 (x := m + hi - lo) (by omega) (by omega), w64 (x := m + hi - lo + 1) (by omega) (by omega), w64 (by omega) (by omega)]
    exact ⟨_, rfl, by omega, by omega⟩
  · rw [if_neg hm, w64 (by omega) (by omega)]
    exact ⟨_, rfl, by omega, by omega⟩

def dropN (t : Nat) (l : List Int) : Nat := l.foldl (fun t c => t &&& (18446744073709551615 - bitN c)) t
theorem and_lt {a b : Nat} (ha : a < 18446744073709551616) : a &&& b < 18446744073709551616 := Nat.lt_of_le_of_lt Nat.and_le_left ha
theorem dropN_lt (l : List Int) : ∀ t, t < 18446744073709551616 → dropN t l < 18446744073709551616 := by
  induction l with
  | nil => intro t ht; exact ht
  | cons c l ih => intro t ht; exact ih _ (and_lt ht)
theorem dropN_test (l : List Int) (i : Nat) (hi : i < 64) : ∀ t, (dropN t l).testBit i = (t.testBit i && !(l.any fun c => decide (c = (i : Int)))) := by
  induction l with
  | nil => intro t; simp [dropN]
  | cons c l ih =>
    intro t
    have : dropN t (c :: l) = dropN (t &&& (18446744073709551615 - bitN c)) l := rfl
    have h2 : (18446744073709551615 - bitN c).testBit i = !(bitN c).testBit i := by
      have := Nat.testBit_two_pow_sub_succ (n := 64) (x := bitN c) (by have := bitN_lt c; omega) i
      rw [show 2 ^ 64 - (bitN c + 1) = 18446744073709551615 - bitN c by omega] at this
      rw [this, decide_eq_true hi, Bool.true_and]
    rw [this, ih, Nat.testBit_and, h2, bitN_test c i hi, List.any_cons, Bool.not_or, Bool.and_assoc]
theorem drop_l0 (l : List Int) (hl : l.length < 4611686018427387904) : ∀ (d k i t : Nat), i + d = l.length → d < k → t < 18446744073709551616 →
    tabs_Drop.l0 k (t : Int) l (l.length : Int) (i : Int) = some ((dropN t (l.drop i) : Nat) : Int) := by
  intro d
  induction d with
  | zero =>
    intro k i t hd hk ht
    obtain ⟨k, rfl⟩ : ∃ m, k = m + 1 := ⟨k - 1, by omega⟩
    simp only [tabs_Drop.l0]
    rw [if_neg (by omega), List.drop_eq_nil_of_le (by omega)]; rfl
  | succ d ih =>
    intro k i t hd hk ht
    obtain ⟨k, rfl⟩ : ∃ m, k = m + 1 := ⟨k - 1, by omega⟩
    simp only [tabs_Drop.l0]
    rw [if_pos (by omega), if_pos (by omega), if_pos (by omega), bit_eq, Option.bind_some, u64_andNot_nat _ _ ht (bitN_lt _), w64 (by omega) (by omega)]
    have := ih k (i + 1) (t &&& (18446744073709551615 - bitN (rd l i))) (by omega) (by omega) (and_lt ht)
    rw [rd_drop l i (by omega)]
    exact this
theorem drop_eq (l : List Int) (hl : l.length < 4611686018427387904) (k t : Nat) (hk : l.length < k) (ht : t < 18446744073709551616) : tabs_Drop.f k (t : Int) l = some ((dropN t l : Nat) : Int) := by
  unfold tabs_Drop.f
  exact drop_l0 l hl l.length k 0 t (by omega) hk ht
theorem bits_ext {a b : Nat} (ha : a < 18446744073709551616) (hb : b < 18446744073709551616) (h : ∀ i, i < 64 → a.testBit i = b.testBit i) : a = b := by
  apply Nat.eq_of_testBit_eq
  intro i
  by_cases hi : i < 64
  · exact h i hi
  · rw [hi_false ha i (by omega), hi_false hb i (by omega)]

theorem runs_eq : ∃ K, ∀ k, K ≤ k → linguistlaw9_TabsRuns.f k = some true := by
  refine ⟨100, fun k hk => ?_⟩
  have h : linguistlaw9_TabsRuns.f 100 = some true := by decide +kernel
  exact at_rounds linguistlaw9_TabsRuns.mono hk h

theorem new_all : (List.range 61).all (fun n => match tabs_New.f 100 (n : Int) with
    | some v => decide (0 ≤ v) && (decide (v < 18446744073709551616) && (match tabs_List.f 100 v with
      | some l => decide (l = (List.range l.length).map fun (i : Nat) => 8 * ((i : Int) + 1)) && ((l.all fun c => decide (c < (n : Int))) && (decide ((n : Int) ≤ 8 * ((l.length : Int) + 1)) && decide (l.length ≤ 64)))
      | none => false))
    | none => false) = true := by decide +kernel
theorem new_ok (n : Int) (h0 : 0 ≤ n) (h1 : n ≤ 60) : ∃ (v : Int) (l : List Int), (∀ k, 100 ≤ k → tabs_New.f k n = some v) ∧ (∀ k, 100 ≤ k → tabs_List.f k v = some l) ∧
    l.length ≤ 64 ∧ (∀ i : Nat, i < l.length → rd l (i : Int) = 8 * ((i : Int) + 1) ∧ rd l (i : Int) < n) ∧ n ≤ 8 * ((l.length : Int) + 1) := by
  obtain ⟨m, rfl⟩ := Int.eq_ofNat_of_zero_le h0
  have h := (List.all_eq_true.1 new_all) m (List.mem_range.2 (by omega))
  cases hv : tabs_New.f 100 (m : Int) with
  | none => rw [hv] at h; cases h
  | some v =>
    rw [hv] at h
    simp only at h
    cases hl : tabs_List.f 100 v with
    | none => rw [hl] at h; simp at h
    | some l =>
      rw [hl] at h
      simp only [Bool.and_eq_true, decide_eq_true_eq, List.all_eq_true] at h
      obtain ⟨_, _, g1, g2, g3, g4⟩ := h
      refine ⟨v, l, fun k hk => at_rounds (tabs_New.mono _) hk hv, fun k hk => at_rounds (tabs_List.mono _) hk hl, g4, fun i hi => ?_, g3⟩
      have e : rd l (i : Int) = 8 * ((i : Int) + 1) := by
        unfold rd
        rw [g1]
        simp [List.getD, hi]
      refine ⟨e, ?_⟩
      have hm : rd l (i : Int) ∈ l := by
        have h1 := rd_drop l i hi
        exact List.mem_of_mem_drop (i := i) (by rw [h1]; exact List.mem_cons_self)
      exact g2 _ hm
theorem bits_l1 (A l : List Int) (hA : A.length < 4611686018427387904) (y all : Nat) (hy : y < 18446744073709551616) (hall : all < 18446744073709551616) (n : Int) (hl : l.length ≤ 64)
    (hg : ∀ i : Nat, i < l.length → rd l (i : Int) = 8 * ((i : Int) + 1) ∧ rd l (i : Int) < n) (hn : n ≤ 8 * ((l.length : Int) + 1))
    (hdrop : dropN all (A.take 9) = dropN y (A.take 9)) (K : Nat) (hr : ∀ k, K ≤ k → linguistlaw9_TabsRuns.f k = some true) :
    ∀ (d k i : Nat), i + d = l.length → K + 200 + d < k → linguistlaw9_TabsBits.l1 k A (y : Int) (all : Int) n l l (l.length : Int) (i : Int) = some true := by
  intro d
  induction d with
  | zero =>
    intro k i hd hk
    obtain ⟨k, rfl⟩ : ∃ m, k = m + 1 := ⟨k - 1, by omega⟩
    simp only [linguistlaw9_TabsBits.l1]
    have htk : A.take ((mn (A.length : Int) 9) : Int).toNat = A.take 9 := by
      unfold mn
      split
      · rfl
      · rw [List.take_of_length_le (by omega), List.take_of_length_le (by omega)]
    have hm0 : 0 ≤ mn (A.length : Int) 9 ∧ mn (A.length : Int) 9 ≤ (A.length : Int) := by unfold mn; split <;> omega
    have hpall : putN all [-1, 64, 99] = all := by
      show ((all ||| bitN (-1)) ||| bitN 64) ||| bitN 99 = all
      rw [show bitN (-1) = 0 by decide, show bitN 64 = 0 by decide, show bitN 99 = 0 by decide]
      simp
    have hlist0 := list_eq 0 (by omega) k (by omega)
    rw [show ((0 : Nat) : Int) = 0 from rfl, show listN 0 = [] by decide +kernel] at hlist0
    rw [if_neg (by omega), if_pos hm0.1, if_pos hm0.2, htk, drop_eq _ (by rw [List.length_take]; omega) k all (by rw [List.length_take]; omega) hall, Option.bind_some,
      drop_eq _ (by rw [List.length_take]; omega) k y (by rw [List.length_take]; omega) hy, Option.bind_some, hdrop, if_pos rfl, w64 (x := (l.length : Int) + 1) (by omega) (by omega), w64 (by omega) (by omega), if_pos hn,
      put_eq _ (by simp) k all (by simp; omega) hall, Option.bind_some, hpall, if_pos rfl, hlist0, Option.bind_some, if_pos (by simp), hr k (by omega)]
    rfl
  | succ d ih =>
    intro k i hd hk
    obtain ⟨k, rfl⟩ : ∃ m, k = m + 1 := ⟨k - 1, by omega⟩
    simp only [linguistlaw9_TabsBits.l1]
    have h := hg i (by omega)
    rw [if_pos (by omega), if_pos (by omega), if_pos (by omega), w64 (x := (i : Int) + 1) (by omega) (by omega), w64 (by omega) (by omega), if_pos h.1, if_neg (by omega)]
    exact ih k (i + 1) (by omega) (by omega)
theorem bits_l0 (A : List Int) (a2 : Int) (x y all : Nat) (hx : x < 18446744073709551616) (hy : y < 18446744073709551616) (hall : all < 18446744073709551616)
    (hc : ∀ c : Int, hasN all c = (hasN x c || hasN y c)) (N : Nat)
    (H : ∀ k, N ≤ k → linguistlaw9_TabsBits.l0 k A a2 (x : Int) (y : Int) (all : Int) 65 = some true) :
    ∀ (d k : Nat) (c : Int), c + d = 65 → d ≤ 70 → N + d < k → linguistlaw9_TabsBits.l0 k A a2 (x : Int) (y : Int) (all : Int) c = some true := by
  intro d
  induction d with
  | zero =>
    intro k c hd h70 hk
    have : c = 65 := by omega
    subst this
    exact H k (by omega)
  | succ d ih =>
    intro k c hd h70 hk
    by_cases h65 : c = 65
    · subst h65; exact H k (by omega)
    obtain ⟨k, rfl⟩ : ∃ m, k = m + 1 := ⟨k - 1, by omega⟩
    simp only [linguistlaw9_TabsBits.l0]
    rw [if_pos (by omega), has_eq all hall, Option.bind_some, has_eq x hx, Option.bind_some, has_eq y hy, Option.bind_some, hc c, w64 (by omega) (by omega)]
    have := ih k (c + 1) (by omega) (by omega) (by omega)
    cases hasN x c <;> cases hasN y c <;> simpa using this
theorem TabsBits : linguistlaw9_TabsBits.Pure := by
  intro A B a2 _ h1 h2 _ h3 h4 h5
  have w := wf64 h5
  have take9 : ∀ A : List Int, A.take ((mn (A.length : Int) 9) : Int).toNat = A.take 9 := by
    intro A
    unfold mn
    split
    · rfl
    · rw [List.take_of_length_le (by omega), List.take_of_length_le (by omega)]
  have hm0 : ∀ A : List Int, 0 ≤ mn (A.length : Int) 9 ∧ mn (A.length : Int) 9 ≤ (A.length : Int) := by intro A; unfold mn; split <;> omega
  have ltk : ∀ A : List Int, (A.take 9).length ≤ 9 := fun A => by rw [List.length_take]; omega
  have hA := ltk A
  have hB := ltk B
  have hx : putN 0 (A.take 9) < 18446744073709551616 := putN_lt _ _ (by omega)
  have hy : putN 0 (B.take 9) < 18446744073709551616 := putN_lt _ _ (by omega)
  have hall : putN (putN 0 (A.take 9)) (B.take 9) < 18446744073709551616 := putN_lt _ _ hx
  have hpx : ∀ k, 100 ≤ k → tabs_Put.f k 0 (A.take 9) = some ((putN 0 (A.take 9) : Nat) : Int) := fun k hk => put_eq (A.take 9) (by omega) k 0 (by omega) (by omega)
  have hpy : ∀ k, 100 ≤ k → tabs_Put.f k 0 (B.take 9) = some ((putN 0 (B.take 9) : Nat) : Int) := fun k hk => put_eq (B.take 9) (by omega) k 0 (by omega) (by omega)
  have hpa : ∀ k, 100 ≤ k → tabs_Put.f k ((putN 0 (A.take 9) : Nat) : Int) (B.take 9) = some ((putN (putN 0 (A.take 9)) (B.take 9) : Nat) : Int) := fun k hk => put_eq (B.take 9) (by omega) k _ (by omega) hx
  have hdrop : dropN (putN (putN 0 (A.take 9)) (B.take 9)) (A.take 9) = dropN (putN 0 (B.take 9)) (A.take 9) := by
    refine bits_ext (dropN_lt _ _ hall) (dropN_lt _ _ hy) fun i hi => ?_
    rw [dropN_test _ i hi, dropN_test _ i hi, putN_test _ i hi, putN_test _ i hi, putN_test _ i hi, Nat.zero_testBit]
    cases (A.take 9).any _ <;> simp
  have hc : ∀ c : Int, hasN (putN (putN 0 (A.take 9)) (B.take 9)) c = (hasN (putN 0 (A.take 9)) c || hasN (putN 0 (B.take 9)) c) := by
    intro c
    unfold hasN
    by_cases h0 : 0 ≤ c
    · by_cases h1 : c < 64
      · rw [decide_eq_true h0, decide_eq_true h1, putN_test _ _ (by omega), putN_test _ _ (by omega), putN_test _ _ (by omega), Nat.zero_testBit]; simp
      · rw [decide_eq_false h1]; simp
    · rw [decide_eq_false h0]; simp
  generalize putN (putN 0 (A.take 9)) (B.take 9) = all at *
  generalize putN 0 (A.take 9) = x at *
  generalize putN 0 (B.take 9) = y at *
  obtain ⟨K, hr⟩ := runs_eq
  obtain ⟨n, en, n0, n1⟩ := within_eq a2 0 60 w.1 w.2 (by omega) (by omega) (by omega)
  obtain ⟨v, l, hv, hl, g1, g2, g3⟩ := new_ok n n0 n1
  refine ⟨K + 2000, ?_⟩
  unfold linguistlaw9_TabsBits.f
  rw [if_pos (hm0 A).1, if_pos (hm0 A).2, take9 A, hpx _ (by omega), Option.bind_some, if_pos (hm0 B).1, if_pos (hm0 B).2, take9 B, hpy _ (by omega), Option.bind_some, hpa _ (by omega), Option.bind_some]
  refine bits_l0 A a2 x y all hx hy hall hc (K + 1000) (fun k hk => ?_) 66 _ (-1) (by omega) (by omega) (by omega)
  obtain ⟨k, rfl⟩ : ∃ m, k = m + 1 := ⟨k - 1, by omega⟩
  simp only [linguistlaw9_TabsBits.l0]
  rw [if_neg (by omega), en, Option.bind_some, hv k (by omega), Option.bind_some, hl k (by omega), Option.bind_some]
  exact bits_l1 A l (by omega) y all hy hall n g1 g2 g3 hdrop K hr l.length k 0 (by omega) (by omega)

end Go.Proofs.Ytmbcoeicnlncbaa.Pure
