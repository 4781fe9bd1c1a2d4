/- TabsWalk: whatever the input, the law of chapter 9's walk from stop to stop returns true. -/
import Derived.Test.YtmbcoeicnlncbaaPTabsWalkx2
import Derived.Test.YtmbcoeicnlncbaaWSized
import Derived.Laws.BitsAllLaws
import Derived.Laws.Bits64
namespace Go.Proofs.Ytmbcoeicnlncbaa.PrintWords
/-- The printed row names it so. -/
theorem sized_ints : type_of% @Go.Proofs.YtmbcoeicnlncbaaW.PrintWords.sized_ints := @Go.Proofs.YtmbcoeicnlncbaaW.PrintWords.sized_ints
end Go.Proofs.Ytmbcoeicnlncbaa.PrintWords
namespace Go.Proofs.Ytmbcoeicnlncbaa.Pure
open Go Go.RowKit Go.Proofs.Ytmbcoeicnlncbaa.PTabsWalk Go.Proofs.YtmbcoeicnlncbaaW.PrintWords Go.Proofs.YtmbcoeicnlncbaaW.PrintLast
set_option linter.unusedVariables false

theorem Ev.pos {α : Type} {c : Prop} [Decidable c] {f g : Nat → Option α} {r : α} (h : c) (e : Ev f r) : Ev (fun k => if c then f k else g k) r := by
  obtain ⟨K, e⟩ := e
  exact ⟨K, fun k hk => by show (if c then f k else g k) = some r; rw [if_pos h]; exact e k hk⟩
theorem Ev.neg {α : Type} {c : Prop} [Decidable c] {f g : Nat → Option α} {r : α} (h : ¬ c) (e : Ev g r) : Ev (fun k => if c then f k else g k) r := by
  obtain ⟨K, e⟩ := e
  exact ⟨K, fun k hk => by show (if c then f k else g k) = some r; rw [if_neg h]; exact e k hk⟩
theorem Ev.one {α : Type} {f : Nat → Option α} {r : α} (K : Nat) (h : ∀ k, K ≤ k → f k = some r) : Ev f r := ⟨K, h⟩
theorem w64 {x : Int} (h0 : -9223372036854775808 ≤ x) (h1 : x < 9223372036854775808) : wrap64 x = x := by
  unfold wrap64; omega
theorem wf64 {x : Int} (h : (Lit.int .i64 x).wf = true) : -9223372036854775808 ≤ x ∧ x < 9223372036854775808 := by
  simp [Lit.wf, IntKind.min, IntKind.max, IntKind.bits, IntKind.signed] at h
  omega
theorem wfu64 {x : Int} (h : (Lit.int .u64 x).wf = true) : 0 ≤ x ∧ x < 18446744073709551616 := by
  simp [Lit.wf, IntKind.min, IntKind.max, IntKind.bits, IntKind.signed] at h
  omega
theorem rd_drop (l : List Int) (i : Nat) (h : i < l.length) : l.drop i = rd l (i : Int) :: l.drop (i + 1) := by
  rw [List.drop_eq_getElem_cons h]
  simp [rd, List.getD, h]

def bitN (c : Int) : Nat := if c < 0 then 0 else if 64 ≤ c then 0 else 2 ^ c.toNat
theorem bitN_lt (c : Int) : bitN c < 18446744073709551616 := by
  unfold bitN
  split
  · omega
  · split
    · omega
    · have : 2 ^ c.toNat ≤ 2 ^ 63 := Nat.pow_le_pow_right (by omega) (by omega)
      omega
theorem bit_eq (c : Int) : tabs_bit.f c = some ((bitN c : Nat) : Int) := by
  unfold tabs_bit.f bitN
  split
  · rfl
  · split
    · rfl
    · rename_i h0 h1
      rw [if_pos (by omega)]
      unfold shl
      rw [IntKind.wrap_u64, Nat.min_eq_left (by show c.toNat ≤ 64; omega), Int.one_mul]
      have h2 : 2 ^ c.toNat ≤ 2 ^ 63 := Nat.pow_le_pow_right (by omega) (by omega)
      have h3 : ((2 ^ c.toNat : Nat) : Int) = (2 : Int) ^ c.toNat := by simp
      rw [← h3, Int.emod_eq_of_lt (Int.natCast_nonneg _) (by omega)]
theorem bitN_test (c : Int) (i : Nat) (hi : i < 64) : (bitN c).testBit i = decide (c = (i : Int)) := by
  unfold bitN
  split
  · rw [Nat.zero_testBit]; symm; rw [decide_eq_false_iff_not]; omega
  · split
    · rw [Nat.zero_testBit]; symm; rw [decide_eq_false_iff_not]; omega
    · rw [Nat.testBit_two_pow]
      rw [Bool.eq_iff_iff, decide_eq_true_iff, decide_eq_true_iff]; omega
theorem bitN_hi (c : Int) (i : Nat) (hi : 64 ≤ i) : (bitN c).testBit i = false := by
  apply Nat.testBit_lt_two_pow
  have := bitN_lt c
  have h2 : 2 ^ 64 ≤ 2 ^ i := Nat.pow_le_pow_right (by omega) hi
  omega
theorem hi_false {t : Nat} (ht : t < 18446744073709551616) (i : Nat) (hi : 64 ≤ i) : t.testBit i = false := by
  apply Nat.testBit_lt_two_pow
  have h2 : 2 ^ 64 ≤ 2 ^ i := Nat.pow_le_pow_right (by omega) hi
  omega
def hasN (t : Nat) (c : Int) : Bool := decide (0 ≤ c) && (decide (c < 64) && t.testBit c.toNat)
theorem has_eq (t : Nat) (ht : t < 18446744073709551616) (c : Int) : tabs_Has.f (t : Int) c = some (hasN t c) := by
  unfold tabs_Has.f
  rw [bit_eq, Option.bind_some, u64_and_nat _ _ ht (bitN_lt c)]
  congr 1
  unfold hasN bitN
  split
  · rename_i h
    rw [Nat.and_zero, decide_eq_false (by omega : ¬ (0 ≤ c))]; rfl
  · split
    · rename_i h
      rw [Nat.and_zero, decide_eq_false (by omega : ¬ (c < 64))]; simp
    · rename_i h0 h1
      rw [decide_eq_true (by omega : 0 ≤ c), decide_eq_true (by omega : c < 64), nat_bit, Nat.testBit_eq_decide_div_mod_eq]
      have hp : 0 < 2 ^ c.toNat := Nat.pow_pos (by omega)
      rcases Nat.mod_two_eq_zero_or_one (t / 2 ^ c.toNat) with h | h
      · rw [h]; simp
      · rw [h]
        generalize 2 ^ c.toNat = p at *
        have : ((1 * p : Nat) : Int) ≠ 0 := by omega
        rw [bne_iff_ne.2 this]; rfl
theorem hasN_nat (t i : Nat) (hi : i < 64) : hasN t (i : Int) = t.testBit i := by
  unfold hasN
  rw [decide_eq_true (by omega : (0 : Int) ≤ i), decide_eq_true (by omega : (i : Int) < 64)]; simp
def putN (t : Nat) (l : List Int) : Nat := l.foldl (fun t c => t ||| bitN c) t
theorem or_lt {a b : Nat} (ha : a < 18446744073709551616) (hb : b < 18446744073709551616) : a ||| b < 18446744073709551616 := by
  have := Nat.or_lt_two_pow (n := 64) (x := a) (y := b) (by omega) (by omega)
  omega
theorem putN_lt (l : List Int) : ∀ t, t < 18446744073709551616 → putN t l < 18446744073709551616 := by
  induction l with
  | nil => intro t ht; exact ht
  | cons c l ih => intro t ht; exact ih _ (or_lt ht (bitN_lt c))
theorem putN_test (l : List Int) (i : Nat) (hi : i < 64) : ∀ t, (putN t l).testBit i = (t.testBit i || l.any fun c => decide (c = (i : Int))) := by
  induction l with
  | nil => intro t; simp [putN]
  | cons c l ih =>
    intro t
    have : putN t (c :: l) = putN (t ||| bitN c) l := rfl
    rw [this, ih, Nat.testBit_or, bitN_test c i hi, List.any_cons, Bool.or_assoc]
theorem put_l0 (l : List Int) (hl : l.length < 4611686018427387904) : ∀ (d k i t : Nat), i + d = l.length → d < k → t < 18446744073709551616 →
    tabs_Put.l0 k (t : Int) l (l.length : Int) (i : Int) = some ((putN t (l.drop i) : Nat) : Int) := by
  intro d
  induction d with
  | zero =>
    intro k i t hd hk ht
    obtain ⟨k, rfl⟩ : ∃ m, k = m + 1 := ⟨k - 1, by omega⟩
    simp only [tabs_Put.l0]
    rw [if_neg (by omega), List.drop_eq_nil_of_le (by omega)]; rfl
  | succ d ih =>
    intro k i t hd hk ht
    obtain ⟨k, rfl⟩ : ∃ m, k = m + 1 := ⟨k - 1, by omega⟩
    simp only [tabs_Put.l0]
    rw [if_pos (by omega), if_pos (by omega), if_pos (by omega), bit_eq, Option.bind_some, u64_or_nat _ _ ht (bitN_lt _), w64 (by omega) (by omega)]
    have := ih k (i + 1) (t ||| bitN (rd l i)) (by omega) (by omega) (or_lt ht (bitN_lt _))
    rw [rd_drop l i (by omega)]
    exact this
theorem put_eq (l : List Int) (hl : l.length < 4611686018427387904) (k t : Nat) (hk : l.length < k) (ht : t < 18446744073709551616) : tabs_Put.f k (t : Int) l = some ((putN t l : Nat) : Int) := by
  unfold tabs_Put.f
  exact put_l0 l hl l.length k 0 t (by omega) hk ht
def listN (t : Nat) : List Int := ((List.range 64).filter fun (i : Nat) => t.testBit i).map fun (i : Nat) => (i : Int)
def listFrom (t i : Nat) : List Int := ((List.range' i (64 - i)).filter fun (i : Nat) => t.testBit i).map fun (i : Nat) => (i : Int)
theorem listFrom_zero (t : Nat) : listFrom t 0 = listN t := by
  unfold listFrom listN; rw [List.range_eq_range']
theorem listFrom_step (t i : Nat) (h : i < 64) : listFrom t i = if t.testBit i then (i : Int) :: listFrom t (i + 1) else listFrom t (i + 1) := by
  unfold listFrom
  have : 64 - i = (64 - (i + 1)) + 1 := by omega
  rw [this, List.range'_succ, List.filter_cons]
  split <;> simp
theorem list_l0 (t : Nat) (ht : t < 18446744073709551616) : ∀ (d k i : Nat) (acc : List Int), i + d = 64 → d < k → acc.length ≤ i →
    tabs_List.l0 k (t : Int) acc (i : Int) = some (acc ++ listFrom t i) := by
  intro d
  induction d with
  | zero =>
    intro k i acc hd hk ha
    obtain ⟨k, rfl⟩ : ∃ m, k = m + 1 := ⟨k - 1, by omega⟩
    simp only [tabs_List.l0]
    rw [if_neg (by omega)]
    have : listFrom t i = [] := by
      unfold listFrom
      rw [show 64 - i = 0 by omega]; rfl
    rw [this, List.append_nil]
  | succ d ih =>
    intro k i acc hd hk ha
    obtain ⟨k, rfl⟩ : ∃ m, k = m + 1 := ⟨k - 1, by omega⟩
    simp only [tabs_List.l0]
    rw [if_pos (by omega), has_eq t ht, Option.bind_some, hasN_nat t i (by omega), w64 (by omega) (by omega), listFrom_step t i (by omega)]
    cases hb : t.testBit i with
    | true =>
      rw [if_pos rfl, if_pos (by omega), if_pos rfl]
      have := ih k (i + 1) (acc ++ [(i : Int)]) (by omega) (by omega) (by rw [List.length_append]; simp; omega)
      rw [List.append_assoc] at this
      exact this
    | false =>
      rw [if_neg (by simp), if_neg (by simp)]
      exact ih k (i + 1) acc (by omega) (by omega) (by omega)
theorem list_eq (t : Nat) (ht : t < 18446744073709551616) (k : Nat) (hk : 64 < k) : tabs_List.f k (t : Int) = some (listN t) := by
  unfold tabs_List.f
  have := list_l0 t ht 64 k 0 [] (by omega) hk (by simp)
  rw [List.nil_append, listFrom_zero] at this
  exact this
theorem listN_len (t : Nat) : (listN t).length ≤ 64 := by
  unfold listN
  rw [List.length_map]
  exact Nat.le_trans (List.length_filter_le _ _) (by simp)
theorem mem_listN (t : Nat) (c : Int) : c ∈ listN t ↔ 0 ≤ c ∧ c < 64 ∧ t.testBit c.toNat = true := by
  unfold listN
  simp only [List.mem_map, List.mem_filter, List.mem_range]
  constructor
  · rintro ⟨i, ⟨h1, h2⟩, rfl⟩
    exact ⟨by omega, by omega, by simpa using h2⟩
  · rintro ⟨h0, h1, h2⟩
    exact ⟨c.toNat, ⟨by omega, h2⟩, by omega⟩
theorem listN_sorted (t : Nat) : (listN t).Pairwise (· < ·) := by
  unfold listN
  rw [List.pairwise_map]
  refine List.Pairwise.imp (R := fun (a b : Nat) => a < b) ?_ (List.Pairwise.filter _ (List.pairwise_lt_range))
  intro a b h; omega
def nextN (l : List Int) (c n : Int) : Int := (l.find? fun x => decide (c < x) && decide (x < n)).getD (n - 1)
theorem next_l0 (c n : Int) (hn : -9223372036854775808 < n) (hn2 : n < 9223372036854775808) (l : List Int) (hl : l.length < 4611686018427387904) : ∀ (d k i : Nat), i + d = l.length → d < k →
    tabs_Next.l0 k c n l (l.length : Int) (i : Int) = some (nextN (l.drop i) c n) := by
  intro d
  induction d with
  | zero =>
    intro k i hd hk
    obtain ⟨k, rfl⟩ : ∃ m, k = m + 1 := ⟨k - 1, by omega⟩
    simp only [tabs_Next.l0]
    rw [if_neg (by omega), List.drop_eq_nil_of_le (by omega), w64 (by omega) (by omega)]; rfl
  | succ d ih =>
    intro k i hd hk
    obtain ⟨k, rfl⟩ : ∃ m, k = m + 1 := ⟨k - 1, by omega⟩
    simp only [tabs_Next.l0]
    rw [if_pos (by omega), if_pos (by omega), if_pos (by omega), w64 (by omega) (by omega), rd_drop l i (by omega)]
    have := ih k (i + 1) (by omega) (by omega)
    unfold nextN
    rw [List.find?_cons]
    by_cases h1 : c < rd l (i : Int)
    · rw [if_pos h1, decide_eq_true h1]
      by_cases h2 : rd l (i : Int) < n
      · rw [if_pos h2, decide_eq_true h2]; rfl
      · rw [if_neg h2, decide_eq_false h2]; exact this
    · rw [if_neg h1, decide_eq_false h1]; exact this
theorem next_eq (t : Nat) (ht : t < 18446744073709551616) (c n : Int) (hn : -9223372036854775808 < n) (hn2 : n < 9223372036854775808) (k : Nat) (hk : 64 < k) :
    tabs_Next.f k (t : Int) c n = some (nextN (listN t) c n) := by
  unfold tabs_Next.f
  rw [list_eq t ht k hk, Option.bind_some]
  have h := listN_len t
  exact next_l0 c n hn hn2 (listN t) (by omega) (listN t).length k 0 (by omega) (by omega)
/-- What the next stop is. -/
theorem nextN_tells (t : Nat) (c n : Int) (h0 : 0 ≤ c) :
    (c < nextN (listN t) c n ∧ nextN (listN t) c n < n ∧ nextN (listN t) c n < 64 ∧ t.testBit (nextN (listN t) c n).toNat = true ∧ ∀ i : Nat, i < 64 → c < i → (i : Int) < nextN (listN t) c n → t.testBit i = false) ∨
    (nextN (listN t) c n = n - 1 ∧ ∀ i : Nat, i < 64 → c < i → (i : Int) < n → t.testBit i = false) := by
  unfold nextN
  cases h : (listN t).find? fun x => decide (c < x) && decide (x < n) with
  | none =>
    right
    refine ⟨rfl, fun i hi hc hn => ?_⟩
    rw [List.find?_eq_none] at h
    cases hb : t.testBit i with
    | false => rfl
    | true =>
      have := h (i : Int) ((mem_listN t _).2 ⟨by omega, by omega, by simpa using hb⟩)
      simp at this; omega
  | some x =>
    left
    rw [Option.getD_some]
    have hm := (mem_listN t x).1 (List.mem_of_find?_eq_some h)
    have hp := List.find?_some h
    simp at hp
    refine ⟨hp.1, hp.2, hm.2.1, hm.2.2, fun i hi hc hx => ?_⟩
    cases hb : t.testBit i with
    | false => rfl
    | true =>
      exfalso
      rw [List.find?_eq_some_iff_append] at h
      obtain ⟨_, la, lb, hl, hnot⟩ := h
      have hi' : (i : Int) ∈ listN t := (mem_listN t _).2 ⟨by omega, by omega, by simpa using hb⟩
      have hs := listN_sorted t
      rw [hl] at hi' hs
      rw [List.pairwise_append] at hs
      rw [List.mem_append, List.mem_cons] at hi'
      rcases hi' with hi' | hi' | hi'
      · have := hnot _ hi'
        simp at this; omega
      · omega
      · have := (List.pairwise_cons.1 hs.2.1).1 _ hi'
        omega

theorem within_eq (n lo hi : Int) (hn : -9223372036854775808 ≤ n) (hn2 : n < 9223372036854775808) (h0 : 0 ≤ lo) (h1 : lo ≤ hi) (h2 : hi < 4611686018427387904) :
    ∃ r, linguistbook_Within.f n lo hi = some r ∧ lo ≤ r ∧ r ≤ hi := by
  unfold linguistbook_Within.f
  rw [w64 (x := hi - lo) (by omega) (by omega), w64 (x := hi - lo + 1) (by omega) (by omega), if_neg (by omega)]
  have e : n.tmod (hi - lo + 1) = n - (hi - lo + 1) * n.tdiv (hi - lo + 1) := Int.tmod_def _ _
  have b1 : n.tmod (hi - lo + 1) < hi - lo + 1 := Int.tmod_lt_of_pos _ (by omega)
  have b2 : -(hi - lo + 1) < n.tmod (hi - lo + 1) := by
    have := Int.lt_tmod_of_pos n (show 0 < hi - lo + 1 by omega); omega
  generalize n.tmod (hi - lo + 1) = m at *
  by_cases hm : m < 0
  · rw [if_pos hm, w64 (x := m + hi) (by omega) (by omega), w64 (x := m + hi - lo) (by omega) (by omega), w64 (x := m + hi - lo + 1) (by omega) (by omega), w64 (by omega) (by omega)]
    exact ⟨_, rfl, by omega, by omega⟩
  · rw [if_neg hm, w64 (by omega) (by omega)]
    exact ⟨_, rfl, by omega, by omega⟩

theorem same_l0 (a b : List Int) (hab : a.length = b.length) (hl : a.length < 4611686018427387904) : ∀ (d k i : Nat), i + d = a.length → d < k →
    linguistbook_Same_int.l0 k a b (i : Int) = some (decide (a.drop i = b.drop i)) := by
  intro d
  induction d with
  | zero =>
    intro k i hd hk
    obtain ⟨k, rfl⟩ : ∃ m, k = m + 1 := ⟨k - 1, by omega⟩
    simp only [linguistbook_Same_int.l0]
    rw [if_neg (by omega), List.drop_eq_nil_of_le (by omega), List.drop_eq_nil_of_le (by omega)]; rfl
  | succ d ih =>
    intro k i hd hk
    obtain ⟨k, rfl⟩ : ∃ m, k = m + 1 := ⟨k - 1, by omega⟩
    simp only [linguistbook_Same_int.l0]
    rw [if_pos (by omega), if_pos (by omega), if_pos (by omega), w64 (by omega) (by omega), rd_drop a i (by omega), rd_drop b i (by omega)]
    have := ih k (i + 1) (by omega) (by omega)
    by_cases h : rd a (i : Int) = rd b (i : Int)
    · rw [if_pos h, h]
      simp only [List.cons.injEq, true_and]
      exact this
    · rw [if_neg h]
      simp [h]
theorem same_eq (a b : List Int) (hl : a.length < 4611686018427387904) (k : Nat) (hk : a.length < k) : linguistbook_Same_int.f k a b = some (decide (a = b)) := by
  unfold linguistbook_Same_int.f
  by_cases h : a.length = b.length
  · rw [if_pos (by omega)]
    exact same_l0 a b h hl a.length k 0 (by omega) hk
  · rw [if_neg (by omega), decide_eq_false]
    intro e; exact h (by rw [e])

def dropN (t : Nat) (l : List Int) : Nat := l.foldl (fun t c => t &&& (18446744073709551615 - bitN c)) t
theorem and_lt {a b : Nat} (ha : a < 18446744073709551616) : a &&& b < 18446744073709551616 := Nat.lt_of_le_of_lt Nat.and_le_left ha
theorem dropN_lt (l : List Int) : ∀ t, t < 18446744073709551616 → dropN t l < 18446744073709551616 := by
  induction l with
  | nil => intro t ht; exact ht
  | cons c l ih => intro t ht; exact ih _ (and_lt ht)
theorem dropN_test (l : List Int) (i : Nat) (hi : i < 64) : ∀ t, (dropN t l).testBit i = (t.testBit i && !(l.any fun c => decide (c = (i : Int)))) := by
  induction l with
  | nil => intro t; simp [dropN]
  | cons c l ih =>
    intro t
    have : dropN t (c :: l) = dropN (t &&& (18446744073709551615 - bitN c)) l := rfl
    have h2 : (18446744073709551615 - bitN c).testBit i = !(bitN c).testBit i := by
      have := Nat.testBit_two_pow_sub_succ (n := 64) (x := bitN c) (by have := bitN_lt c; omega) i
      rw [show 2 ^ 64 - (bitN c + 1) = 18446744073709551615 - bitN c by omega] at this
      rw [this, decide_eq_true hi, Bool.true_and]
    rw [this, ih, Nat.testBit_and, h2, bitN_test c i hi, List.any_cons, Bool.not_or, Bool.and_assoc]
theorem drop_l0 (l : List Int) (hl : l.length < 4611686018427387904) : ∀ (d k i t : Nat), i + d = l.length → d < k → t < 18446744073709551616 →
    tabs_Drop.l0 k (t : Int) l (l.length : Int) (i : Int) = some ((dropN t (l.drop i) : Nat) : Int) := by
  intro d
  induction d with
  | zero =>
    intro k i t hd hk ht
    obtain ⟨k, rfl⟩ : ∃ m, k = m + 1 := ⟨k - 1, by omega⟩
    simp only [tabs_Drop.l0]
    rw [if_neg (by omega), List.drop_eq_nil_of_le (by omega)]; rfl
  | succ d ih =>
    intro k i t hd hk ht
    obtain ⟨k, rfl⟩ : ∃ m, k = m + 1 := ⟨k - 1, by omega⟩
    simp only [tabs_Drop.l0]
    rw [if_pos (by omega), if_pos (by omega), if_pos (by omega), bit_eq, Option.bind_some, u64_andNot_nat _ _ ht (bitN_lt _), w64 (by omega) (by omega)]
    have := ih k (i + 1) (t &&& (18446744073709551615 - bitN (rd l i))) (by omega) (by omega) (and_lt ht)
    rw [rd_drop l i (by omega)]
    exact this
theorem drop_eq (l : List Int) (hl : l.length < 4611686018427387904) (k t : Nat) (hk : l.length < k) (ht : t < 18446744073709551616) : tabs_Drop.f k (t : Int) l = some ((dropN t l : Nat) : Int) := by
  unfold tabs_Drop.f
  exact drop_l0 l hl l.length k 0 t (by omega) hk ht
theorem bits_ext {a b : Nat} (ha : a < 18446744073709551616) (hb : b < 18446744073709551616) (h : ∀ i, i < 64 → a.testBit i = b.testBit i) : a = b := by
  apply Nat.eq_of_testBit_eq
  intro i
  by_cases hi : i < 64
  · exact h i hi
  · rw [hi_false ha i (by omega), hi_false hb i (by omega)]

theorem runs_eq : ∃ K, ∀ k, K ≤ k → linguistlaw9_TabsRuns.f k = some true := by
  refine ⟨100, fun k hk => ?_⟩
  have h : linguistlaw9_TabsRuns.f 100 = some true := by decide +kernel
  exact at_rounds linguistlaw9_TabsRuns.mono hk h

def upTo (t : Nat) (n c : Int) : List Int := (listN t).filter fun x => decide (x < n) && decide (x ≤ c)
theorem step_stop (t : Nat) (c n : Int) : (nextN (listN t) c n = n - 1 ∧ (∀ i : Nat, i < 64 → c < i → (i : Int) < n → t.testBit i = false) ∧ ∀ m, c ≤ m → upTo t n m = upTo t n c) ∨
    (c < nextN (listN t) c n ∧ nextN (listN t) c n < n ∧ nextN (listN t) c n < 64 ∧ t.testBit (nextN (listN t) c n).toNat = true ∧ upTo t n (nextN (listN t) c n) = upTo t n c ++ [nextN (listN t) c n]) := by
  unfold nextN
  cases h : (listN t).find? fun x => decide (c < x) && decide (x < n) with
  | none =>
    left
    rw [List.find?_eq_none] at h
    refine ⟨rfl, fun i hi hc hn => ?_, fun m hm => ?_⟩
    · cases hb : t.testBit i with
      | false => rfl
      | true =>
        have := h (i : Int) ((mem_listN t _).2 ⟨by omega, by omega, by simpa using hb⟩)
        simp at this; omega
    · unfold upTo
      apply List.filter_congr
      intro x hx
      have := h x hx
      simp at this
      by_cases h1 : x < n
      · rw [decide_eq_true h1, Bool.true_and, Bool.true_and]
        have : x ≤ c := by
          rcases Int.lt_or_le c x with h2 | h2
          · have := this h2; omega
          · exact h2
        rw [decide_eq_true this, decide_eq_true (by omega : x ≤ m)]
      · rw [decide_eq_false h1]; rfl
  | some s =>
    right
    rw [Option.getD_some]
    have hm := (mem_listN t s).1 (List.mem_of_find?_eq_some h)
    have hp := List.find?_some h
    simp at hp
    refine ⟨hp.1, hp.2, hm.2.1, hm.2.2, ?_⟩
    rw [List.find?_eq_some_iff_append] at h
    obtain ⟨_, la, lb, hl, hnot⟩ := h
    have hs := listN_sorted t
    unfold upTo
    rw [hl] at hs ⊢
    rw [List.pairwise_append] at hs
    have ha : ∀ x ∈ la, x < s := fun x hx => hs.2.2 x hx s (List.mem_cons_self)
    have hb : ∀ x ∈ lb, s < x := fun x hx => (List.pairwise_cons.1 hs.2.1).1 x hx
    have f1 : la.filter (fun x => decide (x < n) && decide (x ≤ s)) = la := by
      rw [List.filter_eq_self]; intro x hx; have := ha x hx; simp; omega
    have f2 : la.filter (fun x => decide (x < n) && decide (x ≤ c)) = la := by
      rw [List.filter_eq_self]; intro x hx; have h1 := ha x hx; have h2 := hnot x hx; simp at h2; simp
      omega
    have f3 : lb.filter (fun x => decide (x < n) && decide (x ≤ s)) = [] := by
      rw [List.filter_eq_nil_iff]; intro x hx; have h1 := hb x hx; simp; omega
    have f4 : lb.filter (fun x => decide (x < n) && decide (x ≤ c)) = [] := by
      rw [List.filter_eq_nil_iff]; intro x hx; have h1 := hb x hx; simp; omega
    rw [List.filter_append, List.filter_append, List.filter_cons, List.filter_cons, f1, f2, f3, f4, if_pos (by simp; omega), if_neg (by simp; omega)]
    simp
theorem walk_l2 (n : Int) (t : Nat) (ht : t < 18446744073709551616) (n0 : 2 ≤ n) (n1 : n ≤ 60) (met : List Int) (hmet : met = (listN t).filter fun x => decide (x < n))
    (K : Nat) (hr : ∀ k, K ≤ k → linguistlaw9_TabsRuns.f k = some true) : ∀ (d k i : Nat) (acc : List Int), i + d = (listN t).length → K + 200 + d < k → acc.length ≤ i → acc ++ ((listN t).drop i).filter (fun x => decide (x < n)) = met →
    linguistlaw9_TabsWalk.l2 k n (t : Int) (n - 1) met acc (listN t) ((listN t).length : Int) (i : Int) = some true := by
  have hlen := listN_len t
  intro d
  induction d with
  | zero =>
    intro k i acc hd hk ha he
    obtain ⟨k, rfl⟩ : ∃ m, k = m + 1 := ⟨k - 1, by omega⟩
    simp only [linguistlaw9_TabsWalk.l2]
    have hml : met.length ≤ 64 := by rw [hmet]; exact Nat.le_trans (List.length_filter_le _ _) hlen
    rw [List.drop_eq_nil_of_le (by omega), List.filter_nil, List.append_nil] at he
    have hz : dropN t (listN t) = 0 := by
      refine bits_ext (dropN_lt _ _ ht) (by omega) fun j hj => ?_
      rw [dropN_test _ j hj, Nat.zero_testBit]
      cases hb : t.testBit j with
      | false => rfl
      | true =>
        have : (listN t).any (fun c => decide (c = (j : Int))) = true := by
          rw [List.any_eq_true]
          exact ⟨(j : Int), (mem_listN t _).2 ⟨by omega, by omega, by simpa using hb⟩, by simp⟩
        rw [this]; rfl
    rw [if_neg (by omega), w64 (by omega) (by omega), if_pos rfl, same_eq met acc (by omega) k (by omega), Option.bind_some, decide_eq_true he.symm, if_pos rfl,
      list_eq t ht k (by omega), Option.bind_some, drop_eq (listN t) (by omega) k t (by omega) ht, Option.bind_some, hz, if_pos (by rfl), hr k (by omega)]
    rfl
  | succ d ih =>
    intro k i acc hd hk ha he
    obtain ⟨k, rfl⟩ : ∃ m, k = m + 1 := ⟨k - 1, by omega⟩
    simp only [linguistlaw9_TabsWalk.l2]
    rw [if_pos (by omega), if_pos (by omega), if_pos (by omega), w64 (by omega) (by omega)]
    rw [rd_drop (listN t) i (by omega), List.filter_cons] at he
    by_cases h : rd (listN t) (i : Int) < n
    · rw [if_pos h, if_pos (by omega)]
      rw [if_pos (by simpa using h)] at he
      exact ih k (i + 1) (acc ++ [rd (listN t) (i : Int)]) (by omega) (by omega) (by rw [List.length_append]; simp; omega) (by rw [List.append_assoc]; exact he)
    · rw [if_neg h]
      rw [if_neg (by simpa using h)] at he
      exact ih k (i + 1) acc (by omega) (by omega) (by omega) he
theorem walk_l1 (n : Int) (t : Nat) (ht : t < 18446744073709551616) (h0 : t.testBit 0 = false) (n0 : 2 ≤ n) (n1 : n ≤ 60)
    (K : Nat) (hr : ∀ k, K ≤ k → linguistlaw9_TabsRuns.f k = some true) : ∀ (d k : Nat) (c j : Int), 0 ≤ c → n - 1 - c = d → 0 ≤ j → j ≤ c → K + 400 + 4 * d < k →
    linguistlaw9_TabsWalk.l1 k n (t : Int) c (upTo t n c) j = some true := by
  have hlen := listN_len t
  have hul : ∀ c, (upTo t n c).length ≤ 64 := fun c => Nat.le_trans (List.length_filter_le _ _) hlen
  have fin : ∀ k, K + 300 < k → linguistlaw9_TabsWalk.j4 k n (t : Int) (n - 1) (upTo t n (n - 1)) = some true := by
    intro k hk
    obtain ⟨k, rfl⟩ : ∃ m, k = m + 1 := ⟨k - 1, by omega⟩
    simp only [linguistlaw9_TabsWalk.j4]
    have e : upTo t n (n - 1) = (listN t).filter fun x => decide (x < n) := by
      unfold upTo
      apply List.filter_congr
      intro x _
      by_cases h : x < n
      · rw [decide_eq_true h, decide_eq_true (by omega : x ≤ n - 1)]; rfl
      · rw [decide_eq_false h]; rfl
    rw [list_eq t ht k (by omega), Option.bind_some]
    exact walk_l2 n t ht n0 n1 _ e K hr (listN t).length k 0 [] (by omega) (by omega) (by simp) (by rw [e]; rfl)
  intro d
  induction d using Nat.strongRecOn with
  | _ d ih =>
    intro k c j c0 hd j0 jc hk
    obtain ⟨k, rfl⟩ : ∃ m, k = m + 2 := ⟨k - 2, by omega⟩
    simp only [linguistlaw9_TabsWalk.l1]
    rw [if_pos (by omega), next_eq t ht c n (by omega) (by omega) (k + 1) (by omega), Option.bind_some]
    rcases step_stop t c n with ⟨e, hno, hu⟩ | ⟨s1, s2, s3, s4, s5⟩
    · rw [e, if_neg (by omega), if_neg (by omega), w64 (by omega) (by omega)]
      by_cases hc : c = n - 1
      · subst hc
        rw [if_pos rfl]
        simp only [linguistlaw9_TabsWalk.j3]
        rw [if_neg (by simp), if_true]
        exact fin k (by omega)
      · rw [if_neg (by omega)]
        simp only [linguistlaw9_TabsWalk.j3]
        have hh : hasN t (n - 1) = false := by
          obtain ⟨m, hm⟩ := Int.eq_ofNat_of_zero_le (show 0 ≤ n - 1 by omega)
          rw [hm, hasN_nat t m (by omega)]
          exact hno m (by omega) (by omega) (by omega)
        rw [if_neg (by simp), if_neg (by omega), has_eq t ht, Option.bind_some, hh, if_neg (by simp), w64 (by omega) (by omega), ← hu (n - 1) (by omega)]
        exact ih 0 (by omega) k (n - 1) (j + 1) (by omega) (by omega) (by omega) (by omega) (by omega)
    · generalize nextN (listN t) c n = s at *
      rw [if_neg (by omega), if_neg (by omega), if_neg (by omega)]
      simp only [linguistlaw9_TabsWalk.j3]
      have hh : hasN t s = true := by
        obtain ⟨m, hm⟩ := Int.eq_ofNat_of_zero_le (show 0 ≤ s by omega)
        subst hm
        rw [hasN_nat t m (by omega)]
        simpa using s4
      have := hul c
      rw [if_neg (by simp), if_neg (by omega), has_eq t ht, Option.bind_some, hh, if_pos rfl, if_pos (by omega), w64 (by omega) (by omega), ← s5]
      exact ih (n - 1 - s).toNat (by omega) k s (j + 1) (by omega) (by omega) (by omega) (by omega) (by omega)
theorem walk_l0 (n : Int) (l : List Int) (hl : l.length < 4611686018427387904) (hw : ∀ x ∈ l, (Lit.int .i64 x).wf = true) (N : Nat)
    (H : ∀ t : Nat, t < 18446744073709551616 → t.testBit 0 = false → ∀ k, N ≤ k → linguistlaw9_TabsWalk.l1 k n (t : Int) 0 [] 0 = some true) :
    ∀ (d k i : Nat) (t : Nat), i + d = l.length → N + 10 + 2 * d < k → t < 18446744073709551616 → t.testBit 0 = false → linguistlaw9_TabsWalk.l0 k l n (t : Int) (i : Int) = some true := by
  intro d
  induction d with
  | zero =>
    intro k i t hd hk ht hb
    obtain ⟨k, rfl⟩ : ∃ m, k = m + 2 := ⟨k - 2, by omega⟩
    simp only [linguistlaw9_TabsWalk.l0]
    rw [if_neg (by omega)]
    simp only [linguistlaw9_TabsWalk.j1]
    rw [if_neg (by simp)]
    exact H t ht hb k (by omega)
  | succ d ih =>
    intro k i t hd hk ht hb
    obtain ⟨k, rfl⟩ : ∃ m, k = m + 2 := ⟨k - 2, by omega⟩
    simp only [linguistlaw9_TabsWalk.l0]
    rw [if_pos (by omega)]
    simp only [linguistlaw9_TabsWalk.j1]
    by_cases h12 : (i : Int) < 12
    · have hm : rd l (i : Int) ∈ l := by
        have h1 := rd_drop l i (by omega)
        exact List.mem_of_mem_drop (i := i) (by rw [h1]; exact List.mem_cons_self)
      have wr := wf64 (hw _ hm)
      obtain ⟨x, ex, x0, x1⟩ := within_eq (rd l (i : Int)) 1 63 wr.1 wr.2 (by omega) (by omega) (by omega)
      rw [decide_eq_true h12, if_pos rfl, if_pos (by omega), if_pos (by omega), ex, Option.bind_some, put_eq [x] (by simp) k t (by simp; omega) ht, Option.bind_some, w64 (by omega) (by omega)]
      refine ih k (i + 1) (putN t [x]) (by omega) (by omega) (putN_lt _ _ ht) ?_
      rw [putN_test _ 0 (by omega), hb]
      simp; omega
    · rw [decide_eq_false h12, if_neg (by simp)]
      exact H t ht hb k (by omega)
theorem TabsWalk : linguistlaw9_TabsWalk.Pure := by
  intro l a1 _ h2 h3 h4
  have w := wf64 h4
  obtain ⟨n, en, n0, n1⟩ := within_eq a1 2 60 w.1 w.2 (by omega) (by omega) (by omega)
  obtain ⟨K, hr⟩ := runs_eq
  refine ⟨K + 2000 + 2 * l.length, ?_⟩
  unfold linguistlaw9_TabsWalk.f
  rw [en, Option.bind_some]
  refine walk_l0 n l (by omega) h3 (K + 1000) (fun t ht hb k hk => ?_) l.length _ 0 0 (by omega) (by omega) (by omega) (by rw [Nat.zero_testBit])
  have := walk_l1 n t ht hb n0 n1 K hr (n - 1).toNat k 0 0 (by omega) (by omega) (by omega) (by omega) (by omega)
  have hu : upTo t n 0 = [] := by
    unfold upTo
    rw [List.filter_eq_nil_iff]
    intro x hx hc
    simp at hc
    obtain ⟨g0, g1, g2⟩ := (mem_listN t x).1 hx
    have : x.toNat = 0 := by omega
    rw [this, hb] at g2; cases g2
  rw [hu] at this
  exact this

end Go.Proofs.Ytmbcoeicnlncbaa.Pure
