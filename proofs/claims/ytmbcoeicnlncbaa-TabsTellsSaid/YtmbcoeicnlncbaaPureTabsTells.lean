/- TabsTells: whatever the input, the law of chapter 9's answers returns true. -/
import Derived.Test.YtmbcoeicnlncbaaGTabsTellsx3
import Derived.Test.YtmbcoeicnlncbaaWSized
import Derived.Laws.BitsAllLaws
import Derived.Laws.Bits64
namespace Go.Proofs.Ytmbcoeicnlncbaa.PrintWords
/-- The printed row names it so. -/
theorem sized_ints : type_of% @Go.Proofs.YtmbcoeicnlncbaaW.PrintWords.sized_ints := @Go.Proofs.YtmbcoeicnlncbaaW.PrintWords.sized_ints
end Go.Proofs.Ytmbcoeicnlncbaa.PrintWords
namespace Go.Proofs.Ytmbcoeicnlncbaa.Pure
open Go Go.RowKit Go.Proofs.Ytmbcoeicnlncbaa.GTabsTells Go.Proofs.YtmbcoeicnlncbaaW.PrintWords Go.Proofs.YtmbcoeicnlncbaaW.PrintLast
set_option linter.unusedVariables false
set_option linter.unusedSimpArgs false

theorem Ev.pos {α : Type} {c : Prop} [Decidable c] {f g : Nat → Option α} {r : α} (h : c) (e : Ev f r) : Ev (fun k => if c then f k else g k) r := by
  obtain ⟨K, e⟩ := e
  exact ⟨K, fun k hk => by show (if c then f k else g k) = some r; rw [if_pos h]; exact e k hk⟩
theorem Ev.neg {α : Type} {c : Prop} [Decidable c] {f g : Nat → Option α} {r : α} (h : ¬ c) (e : Ev g r) : Ev (fun k => if c then f k else g k) r := by
  obtain ⟨K, e⟩ := e
  exact ⟨K, fun k hk => by show (if c then f k else g k) = some r; rw [if_neg h]; exact e k hk⟩
theorem Ev.one {α : Type} {f : Nat → Option α} {r : α} (K : Nat) (h : ∀ k, K ≤ k → f k = some r) : Ev f r := ⟨K, h⟩
theorem w64 {x : Int} (h0 : -9223372036854775808 ≤ x) (h1 : x < 9223372036854775808) : wrap64 x = x := by
  unfold wrap64; omega
theorem wf64 {x : Int} (h : (Lit.int .i64 x).wf = true) : -9223372036854775808 ≤ x ∧ x < 9223372036854775808 := by
  simp [Lit.wf, IntKind.min, IntKind.max, IntKind.bits, IntKind.signed] at h
  omega
theorem wfu64 {x : Int} (h : (Lit.int .u64 x).wf = true) : 0 ≤ x ∧ x < 18446744073709551616 := by
  simp [Lit.wf, IntKind.min, IntKind.max, IntKind.bits, IntKind.signed] at h
  omega
theorem rd_drop (l : List Int) (i : Nat) (h : i < l.length) : l.drop i = rd l (i : Int) :: l.drop (i + 1) := by
  rw [List.drop_eq_getElem_cons h]
  simp [rd, List.getD, h]
theorem wf32 {x : Int} (h : (Lit.int .i32 x).wf = true) : -2147483648 ≤ x ∧ x < 2147483648 := by
  simp [Lit.wf, IntKind.min, IntKind.max, IntKind.bits, IntKind.signed] at h
  omega
theorem wfu8 {x : Int} (h : (Lit.int .u8 x).wf = true) : 0 ≤ x ∧ x < 256 := by
  simp [Lit.wf, IntKind.min, IntKind.max, IntKind.bits, IntKind.signed] at h
  omega
theorem w32 {x : Int} (h0 : -2147483648 ≤ x) (h1 : x < 2147483648) : wrap32 x = x := by
  unfold wrap32; omega
theorem rd_mem (l : List Int) (i : Nat) (h : i < l.length) : rd l (i : Int) ∈ l := by
  have h1 := rd_drop l i h
  exact List.mem_of_mem_drop (i := i) (by rw [h1]; exact List.mem_cons_self)

theorem within_eq (n lo hi : Int) (hn : -9223372036854775808 ≤ n) (hn2 : n < 9223372036854775808) (h0 : 0 ≤ lo) (h1 : lo ≤ hi) (h2 : hi < 4611686018427387904) :
    ∃ r, linguistbook_Within.f n lo hi = some r ∧ lo ≤ r ∧ r ≤ hi := by
  unfold linguistbook_Within.f
  rw [w64 (x := hi - lo) (by omega) (by omega), w64 (x := hi - lo + 1) (by omega) (by omega), if_neg (by omega)]
  have e : n.tmod (hi - lo + 1) = n - (hi - lo + 1) * n.tdiv (hi - lo + 1) := Int.tmod_def _ _
  have b1 : n.tmod (hi - lo + 1) < hi - lo + 1 := Int.tmod_lt_of_pos _ (by omega)
  have b2 : -(hi - lo + 1) < n.tmod (hi - lo + 1) := by
    have := Int.lt_tmod_of_pos n (show 0 < hi - lo + 1 by omega); omega
  generalize n.tmod (hi - lo + 1) = m at *
  by_cases hm : m < 0
  · rw [if_pos hm, w64 (x := m + hi) (by omega) (by omega), w64 (x := m + hi - lo) (by omega) (by omega), w64 (x := m + hi - lo + 1) (by omega) (by omega), w64 (by omega) (by omega)]
    exact ⟨_, rfl, by omega, by omega⟩
  · rw [if_neg hm, w64 (by omega) (by omega)]
    exact ⟨_, rfl, by omega, by omega⟩

def bitN (c : Int) : Nat := if c < 0 then 0 else if 64 ≤ c then 0 else 2 ^ c.toNat
theorem bitN_lt (c : Int) : bitN c < 18446744073709551616 := by
  unfold bitN
  split
  · omega
  · split
    · omega
    · have : 2 ^ c.toNat ≤ 2 ^ 63 := Nat.pow_le_pow_right (by omega) (by omega)
      omega
theorem bit_eq (c : Int) : tabs_bit.f c = some ((bitN c : Nat) : Int) := by
  unfold tabs_bit.f bitN
  split
  · rfl
  · split
    · rfl
    · rename_i h0 h1
      rw [if_pos (by omega)]
      unfold shl
      rw [IntKind.wrap_u64, Nat.min_eq_left (by show c.toNat ≤ 64; omega), Int.one_mul]
      have h2 : 2 ^ c.toNat ≤ 2 ^ 63 := Nat.pow_le_pow_right (by omega) (by omega)
      have h3 : ((2 ^ c.toNat : Nat) : Int) = (2 : Int) ^ c.toNat := by simp
      rw [← h3, Int.emod_eq_of_lt (Int.natCast_nonneg _) (by omega)]
theorem bitN_test (c : Int) (i : Nat) (hi : i < 64) : (bitN c).testBit i = decide (c = (i : Int)) := by
  unfold bitN
  split
  · rw [Nat.zero_testBit]; symm; rw [decide_eq_false_iff_not]; omega
  · split
    · rw [Nat.zero_testBit]; symm; rw [decide_eq_false_iff_not]; omega
    · rw [Nat.testBit_two_pow]
      rw [Bool.eq_iff_iff, decide_eq_true_iff, decide_eq_true_iff]; omega
theorem bitN_hi (c : Int) (i : Nat) (hi : 64 ≤ i) : (bitN c).testBit i = false := by
  apply Nat.testBit_lt_two_pow
  have := bitN_lt c
  have h2 : 2 ^ 64 ≤ 2 ^ i := Nat.pow_le_pow_right (by omega) hi
  omega
theorem hi_false {t : Nat} (ht : t < 18446744073709551616) (i : Nat) (hi : 64 ≤ i) : t.testBit i = false := by
  apply Nat.testBit_lt_two_pow
  have h2 : 2 ^ 64 ≤ 2 ^ i := Nat.pow_le_pow_right (by omega) hi
  omega
def hasN (t : Nat) (c : Int) : Bool := decide (0 ≤ c) && (decide (c < 64) && t.testBit c.toNat)
theorem has_eq (t : Nat) (ht : t < 18446744073709551616) (c : Int) : tabs_Has.f (t : Int) c = some (hasN t c) := by
  unfold tabs_Has.f
  rw [bit_eq, Option.bind_some, u64_and_nat _ _ ht (bitN_lt c)]
  congr 1
  unfold hasN bitN
  split
  · rename_i h
    rw [Nat.and_zero, decide_eq_false (by omega : ¬ (0 ≤ c))]; rfl
  · split
    · rename_i h
      rw [Nat.and_zero, decide_eq_false (by omega : ¬ (c < 64))]; simp
    · rename_i h0 h1
      rw [decide_eq_true (by omega : 0 ≤ c), decide_eq_true (by omega : c < 64), nat_bit, Nat.testBit_eq_decide_div_mod_eq]
      have hp : 0 < 2 ^ c.toNat := Nat.pow_pos (by omega)
      rcases Nat.mod_two_eq_zero_or_one (t / 2 ^ c.toNat) with h | h
      · rw [h]; simp
      · rw [h]
        generalize 2 ^ c.toNat = p at *
        have : ((1 * p : Nat) : Int) ≠ 0 := by omega
        rw [bne_iff_ne.2 this]; rfl
theorem hasN_nat (t i : Nat) (hi : i < 64) : hasN t (i : Int) = t.testBit i := by
  unfold hasN
  rw [decide_eq_true (by omega : (0 : Int) ≤ i), decide_eq_true (by omega : (i : Int) < 64)]; simp
def putN (t : Nat) (l : List Int) : Nat := l.foldl (fun t c => t ||| bitN c) t
theorem or_lt {a b : Nat} (ha : a < 18446744073709551616) (hb : b < 18446744073709551616) : a ||| b < 18446744073709551616 := by
  have := Nat.or_lt_two_pow (n := 64) (x := a) (y := b) (by omega) (by omega)
  omega
theorem putN_lt (l : List Int) : ∀ t, t < 18446744073709551616 → putN t l < 18446744073709551616 := by
  induction l with
  | nil => intro t ht; exact ht
  | cons c l ih => intro t ht; exact ih _ (or_lt ht (bitN_lt c))
theorem putN_test (l : List Int) (i : Nat) (hi : i < 64) : ∀ t, (putN t l).testBit i = (t.testBit i || l.any fun c => decide (c = (i : Int))) := by
  induction l with
  | nil => intro t; simp [putN]
  | cons c l ih =>
    intro t
    have : putN t (c :: l) = putN (t ||| bitN c) l := rfl
    rw [this, ih, Nat.testBit_or, bitN_test c i hi, List.any_cons, Bool.or_assoc]
theorem put_l0 (l : List Int) (hl : l.length < 4611686018427387904) : ∀ (d k i t : Nat), i + d = l.length → d < k → t < 18446744073709551616 →
    tabs_Put.l0 k (t : Int) l (l.length : Int) (i : Int) = some ((putN t (l.drop i) : Nat) : Int) := by
  intro d
  induction d with
  | zero =>
    intro k i t hd hk ht
    obtain ⟨k, rfl⟩ : ∃ m, k = m + 1 := ⟨k - 1, by omega⟩
    simp only [tabs_Put.l0]
    rw [if_neg (by omega), List.drop_eq_nil_of_le (by omega)]; rfl
  | succ d ih =>
    intro k i t hd hk ht
    obtain ⟨k, rfl⟩ : ∃ m, k = m + 1 := ⟨k - 1, by omega⟩
    simp only [tabs_Put.l0]
    rw [if_pos (by omega), if_pos (by omega), if_pos (by omega), bit_eq, Option.bind_some, u64_or_nat _ _ ht (bitN_lt _), w64 (by omega) (by omega)]
    have := ih k (i + 1) (t ||| bitN (rd l i)) (by omega) (by omega) (or_lt ht (bitN_lt _))
    rw [rd_drop l i (by omega)]
    exact this
theorem put_eq (l : List Int) (hl : l.length < 4611686018427387904) (k t : Nat) (hk : l.length < k) (ht : t < 18446744073709551616) : tabs_Put.f k (t : Int) l = some ((putN t l : Nat) : Int) := by
  unfold tabs_Put.f
  exact put_l0 l hl l.length k 0 t (by omega) hk ht
def listN (t : Nat) : List Int := ((List.range 64).filter fun (i : Nat) => t.testBit i).map fun (i : Nat) => (i : Int)
def listFrom (t i : Nat) : List Int := ((List.range' i (64 - i)).filter fun (i : Nat) => t.testBit i).map fun (i : Nat) => (i : Int)
theorem listFrom_zero (t : Nat) : listFrom t 0 = listN t := by
  unfold listFrom listN; rw [List.range_eq_range']
theorem listFrom_step (t i : Nat) (h : i < 64) : listFrom t i = if t.testBit i then (i : Int) :: listFrom t (i + 1) else listFrom t (i + 1) := by
  unfold listFrom
  have : 64 - i = (64 - (i + 1)) + 1 := by omega
  rw [this, List.range'_succ, List.filter_cons]
  split <;> simp
theorem list_l0 (t : Nat) (ht : t < 18446744073709551616) : ∀ (d k i : Nat) (acc : List Int), i + d = 64 → d < k → acc.length ≤ i →
    tabs_List.l0 k (t : Int) acc (i : Int) = some (acc ++ listFrom t i) := by
  intro d
  induction d with
  | zero =>
    intro k i acc hd hk ha
    obtain ⟨k, rfl⟩ : ∃ m, k = m + 1 := ⟨k - 1, by omega⟩
    simp only [tabs_List.l0]
    rw [if_neg (by omega)]
    have : listFrom t i = [] := by
      unfold listFrom
      rw [show 64 - i = 0 by omega]; rfl
    rw [this, List.append_nil]
  | succ d ih =>
    intro k i acc hd hk ha
    obtain ⟨k, rfl⟩ : ∃ m, k = m + 1 := ⟨k - 1, by omega⟩
    simp only [tabs_List.l0]
    rw [if_pos (by omega), has_eq t ht, Option.bind_some, hasN_nat t i (by omega), w64 (by omega) (by omega), listFrom_step t i (by omega)]
    cases hb : t.testBit i with
    | true =>
      rw [if_pos rfl, if_pos (by omega), if_pos rfl]
      have := ih k (i + 1) (acc ++ [(i : Int)]) (by omega) (by omega) (by rw [List.length_append]; simp; omega)
      rw [List.append_assoc] at this
      exact this
    | false =>
      rw [if_neg (by simp), if_neg (by simp)]
      exact ih k (i + 1) acc (by omega) (by omega) (by omega)
theorem list_eq (t : Nat) (ht : t < 18446744073709551616) (k : Nat) (hk : 64 < k) : tabs_List.f k (t : Int) = some (listN t) := by
  unfold tabs_List.f
  have := list_l0 t ht 64 k 0 [] (by omega) hk (by simp)
  rw [List.nil_append, listFrom_zero] at this
  exact this
theorem listN_len (t : Nat) : (listN t).length ≤ 64 := by
  unfold listN
  rw [List.length_map]
  exact Nat.le_trans (List.length_filter_le _ _) (by simp)
theorem mem_listN (t : Nat) (c : Int) : c ∈ listN t ↔ 0 ≤ c ∧ c < 64 ∧ t.testBit c.toNat = true := by
  unfold listN
  simp only [List.mem_map, List.mem_filter, List.mem_range]
  constructor
  · rintro ⟨i, ⟨h1, h2⟩, rfl⟩
    exact ⟨by omega, by omega, by simpa using h2⟩
  · rintro ⟨h0, h1, h2⟩
    exact ⟨c.toNat, ⟨by omega, h2⟩, by omega⟩
theorem listN_sorted (t : Nat) : (listN t).Pairwise (· < ·) := by
  unfold listN
  rw [List.pairwise_map]
  refine List.Pairwise.imp (R := fun (a b : Nat) => a < b) ?_ (List.Pairwise.filter _ (List.pairwise_lt_range))
  intro a b h; omega
def nextN (l : List Int) (c n : Int) : Int := (l.find? fun x => decide (c < x) && decide (x < n)).getD (n - 1)
theorem next_l0 (c n : Int) (hn : -9223372036854775808 < n) (hn2 : n < 9223372036854775808) (l : List Int) (hl : l.length < 4611686018427387904) : ∀ (d k i : Nat), i + d = l.length → d < k →
    tabs_Next.l0 k c n l (l.length : Int) (i : Int) = some (nextN (l.drop i) c n) := by
  intro d
  induction d with
  | zero =>
    intro k i hd hk
    obtain ⟨k, rfl⟩ : ∃ m, k = m + 1 := ⟨k - 1, by omega⟩
    simp only [tabs_Next.l0]
    rw [if_neg (by omega), List.drop_eq_nil_of_le (by omega), w64 (by omega) (by omega)]; rfl
  | succ d ih =>
    intro k i hd hk
    obtain ⟨k, rfl⟩ : ∃ m, k = m + 1 := ⟨k - 1, by omega⟩
    simp only [tabs_Next.l0]
    rw [if_pos (by omega), if_pos (by omega), if_pos (by omega), w64 (by omega) (by omega), rd_drop l i (by omega)]
    have := ih k (i + 1) (by omega) (by omega)
    unfold nextN
    rw [List.find?_cons]
    by_cases h1 : c < rd l (i : Int)
    · rw [if_pos h1, decide_eq_true h1]
      by_cases h2 : rd l (i : Int) < n
      · rw [if_pos h2, decide_eq_true h2]; rfl
      · rw [if_neg h2, decide_eq_false h2]; exact this
    · rw [if_neg h1, decide_eq_false h1]; exact this
theorem next_eq (t : Nat) (ht : t < 18446744073709551616) (c n : Int) (hn : -9223372036854775808 < n) (hn2 : n < 9223372036854775808) (k : Nat) (hk : 64 < k) :
    tabs_Next.f k (t : Int) c n = some (nextN (listN t) c n) := by
  unfold tabs_Next.f
  rw [list_eq t ht k hk, Option.bind_some]
  have h := listN_len t
  exact next_l0 c n hn hn2 (listN t) (by omega) (listN t).length k 0 (by omega) (by omega)
/-- What the next stop is. -/
theorem nextN_tells (t : Nat) (c n : Int) (h0 : 0 ≤ c) :
    (c < nextN (listN t) c n ∧ nextN (listN t) c n < n ∧ nextN (listN t) c n < 64 ∧ t.testBit (nextN (listN t) c n).toNat = true ∧ ∀ i : Nat, i < 64 → c < i → (i : Int) < nextN (listN t) c n → t.testBit i = false) ∨
    (nextN (listN t) c n = n - 1 ∧ ∀ i : Nat, i < 64 → c < i → (i : Int) < n → t.testBit i = false) := by
  unfold nextN
  cases h : (listN t).find? fun x => decide (c < x) && decide (x < n) with
  | none =>
    right
    refine ⟨rfl, fun i hi hc hn => ?_⟩
    rw [List.find?_eq_none] at h
    cases hb : t.testBit i with
    | false => rfl
    | true =>
      have := h (i : Int) ((mem_listN t _).2 ⟨by omega, by omega, by simpa using hb⟩)
      simp at this; omega
  | some x =>
    left
    rw [Option.getD_some]
    have hm := (mem_listN t x).1 (List.mem_of_find?_eq_some h)
    have hp := List.find?_some h
    simp at hp
    refine ⟨hp.1, hp.2, hm.2.1, hm.2.2, fun i hi hc hx => ?_⟩
    cases hb : t.testBit i with
    | false => rfl
    | true =>
      exfalso
      rw [List.find?_eq_some_iff_append] at h
      obtain ⟨_, la, lb, hl, hnot⟩ := h
      have hi' : (i : Int) ∈ listN t := (mem_listN t _).2 ⟨by omega, by omega, by simpa using hb⟩
      have hs := listN_sorted t
      rw [hl] at hi' hs
      rw [List.pairwise_append] at hs
      rw [List.mem_append, List.mem_cons] at hi'
      rcases hi' with hi' | hi' | hi'
      · have := hnot _ hi'
        simp at this; omega
      · omega
      · have := (List.pairwise_cons.1 hs.2.1).1 _ hi'
        omega

theorem same_l0 (a b : List Int) (hab : a.length = b.length) (hl : a.length < 4611686018427387904) : ∀ (d k i : Nat), i + d = a.length → d < k →
    linguistbook_Same_int.l0 k a b (i : Int) = some (decide (a.drop i = b.drop i)) := by
  intro d
  induction d with
  | zero =>
    intro k i hd hk
    obtain ⟨k, rfl⟩ : ∃ m, k = m + 1 := ⟨k - 1, by omega⟩
    simp only [linguistbook_Same_int.l0]
    rw [if_neg (by omega), List.drop_eq_nil_of_le (by omega), List.drop_eq_nil_of_le (by omega)]; rfl
  | succ d ih =>
    intro k i hd hk
    obtain ⟨k, rfl⟩ : ∃ m, k = m + 1 := ⟨k - 1, by omega⟩
    simp only [linguistbook_Same_int.l0]
    rw [if_pos (by omega), if_pos (by omega), if_pos (by omega), w64 (by omega) (by omega), rd_drop a i (by omega), rd_drop b i (by omega)]
    have := ih k (i + 1) (by omega) (by omega)
    by_cases h : rd a (i : Int) = rd b (i : Int)
    · rw [if_pos h, h]
      simp only [List.cons.injEq, true_and]
      exact this
    · rw [if_neg h]
      simp [h]
theorem same_eq (a b : List Int) (hl : a.length < 4611686018427387904) (k : Nat) (hk : a.length < k) : linguistbook_Same_int.f k a b = some (decide (a = b)) := by
  unfold linguistbook_Same_int.f
  by_cases h : a.length = b.length
  · rw [if_pos (by omega)]
    exact same_l0 a b h hl a.length k 0 (by omega) hk
  · rw [if_neg (by omega), decide_eq_false]
    intro e; exact h (by rw [e])

def dropN (t : Nat) (l : List Int) : Nat := l.foldl (fun t c => t &&& (18446744073709551615 - bitN c)) t
theorem and_lt {a b : Nat} (ha : a < 18446744073709551616) : a &&& b < 18446744073709551616 := Nat.lt_of_le_of_lt Nat.and_le_left ha
theorem dropN_lt (l : List Int) : ∀ t, t < 18446744073709551616 → dropN t l < 18446744073709551616 := by
  induction l with
  | nil => intro t ht; exact ht
  | cons c l ih => intro t ht; exact ih _ (and_lt ht)
theorem dropN_test (l : List Int) (i : Nat) (hi : i < 64) : ∀ t, (dropN t l).testBit i = (t.testBit i && !(l.any fun c => decide (c = (i : Int)))) := by
  induction l with
  | nil => intro t; simp [dropN]
  | cons c l ih =>
    intro t
    have : dropN t (c :: l) = dropN (t &&& (18446744073709551615 - bitN c)) l := rfl
    have h2 : (18446744073709551615 - bitN c).testBit i = !(bitN c).testBit i := by
      have := Nat.testBit_two_pow_sub_succ (n := 64) (x := bitN c) (by have := bitN_lt c; omega) i
      rw [show 2 ^ 64 - (bitN c + 1) = 18446744073709551615 - bitN c by omega] at this
      rw [this, decide_eq_true hi, Bool.true_and]
    rw [this, ih, Nat.testBit_and, h2, bitN_test c i hi, List.any_cons, Bool.not_or, Bool.and_assoc]
theorem drop_l0 (l : List Int) (hl : l.length < 4611686018427387904) : ∀ (d k i t : Nat), i + d = l.length → d < k → t < 18446744073709551616 →
    tabs_Drop.l0 k (t : Int) l (l.length : Int) (i : Int) = some ((dropN t (l.drop i) : Nat) : Int) := by
  intro d
  induction d with
  | zero =>
    intro k i t hd hk ht
    obtain ⟨k, rfl⟩ : ∃ m, k = m + 1 := ⟨k - 1, by omega⟩
    simp only [tabs_Drop.l0]
    rw [if_neg (by omega), List.drop_eq_nil_of_le (by omega)]; rfl
  | succ d ih =>
    intro k i t hd hk ht
    obtain ⟨k, rfl⟩ : ∃ m, k = m + 1 := ⟨k - 1, by omega⟩
    simp only [tabs_Drop.l0]
    rw [if_pos (by omega), if_pos (by omega), if_pos (by omega), bit_eq, Option.bind_some, u64_andNot_nat _ _ ht (bitN_lt _), w64 (by omega) (by omega)]
    have := ih k (i + 1) (t &&& (18446744073709551615 - bitN (rd l i))) (by omega) (by omega) (and_lt ht)
    rw [rd_drop l i (by omega)]
    exact this
theorem drop_eq (l : List Int) (hl : l.length < 4611686018427387904) (k t : Nat) (hk : l.length < k) (ht : t < 18446744073709551616) : tabs_Drop.f k (t : Int) l = some ((dropN t l : Nat) : Int) := by
  unfold tabs_Drop.f
  exact drop_l0 l hl l.length k 0 t (by omega) hk ht
theorem bits_ext {a b : Nat} (ha : a < 18446744073709551616) (hb : b < 18446744073709551616) (h : ∀ i, i < 64 → a.testBit i = b.testBit i) : a = b := by
  apply Nat.eq_of_testBit_eq
  intro i
  by_cases hi : i < 64
  · exact h i hi
  · rw [hi_false ha i (by omega), hi_false hb i (by omega)]

theorem roomy_l0 (l : List Int) (m : Int) (hl : l.length < 4611686018427387000) : ∀ (d k j : Nat), j + d = 80 → d < k →
    linguistbook_Roomy_int.l0 k m (l ++ List.replicate j m ++ List.replicate d 0) (((l.length + j : Nat)) : Int) = some (l ++ List.replicate 80 m) := by
  intro d
  induction d with
  | zero =>
    intro k j hd hk
    obtain ⟨k, rfl⟩ : ∃ m, k = m + 1 := ⟨k - 1, by omega⟩
    obtain rfl : j = 80 := by omega
    simp only [linguistbook_Roomy_int.l0]
    rw [if_neg (by simp only [List.length_append, List.length_replicate]; omega)]
    simp
  | succ d ih =>
    intro k j hd hk
    obtain ⟨k, rfl⟩ : ∃ m, k = m + 1 := ⟨k - 1, by omega⟩
    simp only [linguistbook_Roomy_int.l0]
    rw [if_pos (by simp only [List.length_append, List.length_replicate]; omega), if_pos (by omega), w64 (by omega) (by omega)]
    have := ih k (j + 1) (by omega) (by omega)
    rw [show (((l.length + j : Nat) : Int) + 1) = ((l.length + (j + 1) : Nat) : Int) by omega, ← this]
    congr 1
    rw [Int.toNat_natCast]
    rw [List.set_append_right _ _ (by simp), List.length_append, List.length_replicate, Nat.sub_self, List.replicate_succ, List.set_cons_zero, List.replicate_succ', ← List.append_assoc l, List.append_assoc _ [m]]
    rfl
theorem roomy_eq (l : List Int) (m : Int) (hl : l.length < 1000000) (k : Nat) (hk : 80 < k) : linguistbook_Roomy_int.f k l m = some (l ++ List.replicate 80 m) := by
  unfold linguistbook_Roomy_int.f
  rw [w64 (by omega) (by omega), if_pos (by omega), if_pos (by omega), Option.bind_some, if_pos (by rw [List.length_replicate]; omega)]
  have e : cpy (List.replicate ((l.length : Int) + 80).toNat 0) 0 (List.replicate ((l.length : Int) + 80).toNat (0 : Int)).length l = l ++ List.replicate 0 m ++ List.replicate 80 0 := by
    unfold cpy
    rw [List.length_replicate, List.take_zero, List.nil_append, List.take_of_length_le (by omega), List.drop_replicate, List.replicate_zero, List.append_nil]
    congr 2
    omega
  rw [e]
  exact roomy_l0 l m (by omega) 80 k 0 rfl hk
theorem intact_l0 (l : List Int) (m : Int) (hl : l.length < 1000000) : ∀ (d k i : Nat), l.length ≤ i → i + d = l.length + 80 → d < k →
    linguistbook_Intact_int.l0 k (l ++ List.replicate 80 m) m (i : Int) = some true := by
  intro d
  induction d with
  | zero =>
    intro k i h1 hd hk
    obtain ⟨k, rfl⟩ : ∃ m, k = m + 1 := ⟨k - 1, by omega⟩
    simp only [linguistbook_Intact_int.l0]
    rw [if_neg (by simp only [List.length_append, List.length_replicate]; omega)]
  | succ d ih =>
    intro k i h1 hd hk
    obtain ⟨k, rfl⟩ : ∃ m, k = m + 1 := ⟨k - 1, by omega⟩
    simp only [linguistbook_Intact_int.l0]
    have e : rd (l ++ List.replicate 80 m) (i : Int) = m := by
      unfold rd
      rw [Int.toNat_natCast, List.getD_eq_getElem?_getD, List.getElem?_append_right h1, List.getElem?_replicate, if_pos (by omega)]; rfl
    rw [if_pos (by simp only [List.length_append, List.length_replicate]; omega), if_pos (by omega), if_pos e, w64 (by omega) (by omega)]
    exact ih k (i + 1) (by omega) (by omega) (by omega)
theorem intact_eq (l : List Int) (m : Int) (hl : l.length < 1000000) (k : Nat) (hk : l.length + 100 < k) (hs : linguistbook_Same_int.f k l l = some true) : linguistbook_Intact_int.f k (l ++ List.replicate 80 m) l m = some true := by
  unfold linguistbook_Intact_int.f
  rw [w64 (by omega) (by omega), if_pos (by simp only [List.length_append, List.length_replicate]; omega), if_pos (by omega), if_pos (by simp only [List.length_append, List.length_replicate]; omega),
    Int.toNat_natCast, List.take_left, hs, Option.bind_some]
  obtain ⟨k, rfl⟩ : ∃ m, k = m + 1 := ⟨k - 1, by omega⟩
  simp only [linguistbook_Intact_int.j0]
  rw [if_neg (by simp)]
  exact intact_l0 l m hl 80 k l.length (by omega) (by omega) (by omega)

theorem runs_eq : ∃ K, ∀ k, K ≤ k → linguistlaw9_TabsRuns.f k = some true := by
  refine ⟨100, fun k hk => ?_⟩
  have h : linguistlaw9_TabsRuns.f 100 = some true := by decide +kernel
  exact at_rounds linguistlaw9_TabsRuns.mono hk h

theorem shl_bit (c : Int) (h0 : 0 ≤ c) (h1 : c < 64) : shl .u64 1 (IntKind.u64.wrap c) = ((bitN c : Nat) : Int) := by
  have h := bit_eq c
  unfold tabs_bit.f at h
  rw [if_neg (by omega), if_neg (by omega), if_pos h0] at h
  rw [IntKind.wrap_u64, Int.emod_eq_of_lt h0 (by omega)]
  exact Option.some.inj h
theorem u64w (c : Int) (h0 : 0 ≤ c) (h1 : c < 18446744073709551616) : IntKind.u64.wrap c = c := by
  rw [IntKind.wrap_u64, Int.emod_eq_of_lt h0 (by omega)]
theorem shr_bit (t : Nat) (ht : t < 18446744073709551616) (i : Nat) (hi : i < 64) : Go.bits .and .u64 (shr .u64 (t : Int) (IntKind.u64.wrap (i : Int))) 1 = if t.testBit i then 1 else 0 := by
  rw [u64w _ (by omega) (by omega)]
  unfold shr
  have e : (t : Int) / 2 ^ min (i : Int).toNat IntKind.u64.bits = ((t / 2 ^ i : Nat) : Int) := by
    rw [Int.toNat_natCast, Nat.min_eq_left (by show i ≤ 64; omega)]
    simp
  rw [e]
  have hlt : t / 2 ^ i < 18446744073709551616 := Nat.lt_of_le_of_lt (Nat.div_le_self _ _) ht
  have := u64_and_nat (t / 2 ^ i) 1 hlt (by omega)
  rw [show ((1 : Nat) : Int) = 1 from rfl] at this
  rw [this, Nat.and_one_is_mod, Nat.testBit_eq_decide_div_mod_eq]
  rcases Nat.mod_two_eq_zero_or_one (t / 2 ^ i) with h | h
  · rw [h]; rfl
  · rw [h]; rfl
theorem ref_next (t : Nat) (ht : t < 18446744073709551616) (n : Int) (n1 : n ≤ 64) (n0 : 1 ≤ n) : ∀ (d k j : Nat), n ≤ (j : Int) + d → d < k → j ≤ 64 →
    ∃ r, linguistref7_NextTab.l0 k (t : Int) n (j : Int) = some r ∧ (((j : Int) ≤ r ∧ r < n ∧ t.testBit r.toNat = true ∧ ∀ i : Nat, j ≤ i → (i : Int) < r → t.testBit i = false) ∨
      (r = n - 1 ∧ ∀ i : Nat, j ≤ i → (i : Int) < n → t.testBit i = false)) := by
  intro d
  induction d with
  | zero =>
    intro k j hd hk hj
    obtain ⟨k, rfl⟩ : ∃ m, k = m + 1 := ⟨k - 1, by omega⟩
    simp only [linguistref7_NextTab.l0]
    rw [if_neg (by omega), w64 (by omega) (by omega)]
    exact ⟨_, rfl, Or.inr ⟨rfl, fun i h1 h2 => by omega⟩⟩
  | succ d ih =>
    intro k j hd hk hj
    obtain ⟨k, rfl⟩ : ∃ m, k = m + 1 := ⟨k - 1, by omega⟩
    simp only [linguistref7_NextTab.l0]
    by_cases h : (j : Int) < n
    · rw [if_pos h, if_pos (by rw [u64w _ (by omega) (by omega)]; omega), shr_bit t ht j (by omega), w64 (by omega) (by omega)]
      cases hb : t.testBit j with
      | true =>
        rw [if_pos (by rfl)]
        exact ⟨_, rfl, Or.inl ⟨by omega, h, by simpa using hb, fun i h1 h2 => by omega⟩⟩
      | false =>
        rw [if_neg (by simp)]
        obtain ⟨r, hr, hc⟩ := ih k (j + 1) (by omega) (by omega) (by omega)
        refine ⟨r, hr, ?_⟩
        rcases hc with ⟨c1, c2, c3, c4⟩ | ⟨c1, c2⟩
        · refine Or.inl ⟨by omega, c2, c3, fun i h1 h2 => ?_⟩
          by_cases e : i = j
          · rw [e]; exact hb
          · exact c4 i (by omega) h2
        · refine Or.inr ⟨c1, fun i h1 h2 => ?_⟩
          by_cases e : i = j
          · rw [e]; exact hb
          · exact c2 i (by omega) h2
    · rw [if_neg h, w64 (by omega) (by omega)]
      exact ⟨_, rfl, Or.inr ⟨rfl, fun i h1 h2 => by omega⟩⟩
theorem ref_next_eq (t : Nat) (ht : t < 18446744073709551616) (c n : Int) (c0 : 0 ≤ c) (c1 : c ≤ 63) (n0 : 1 ≤ n) (n1 : n ≤ 64) (k : Nat) (hk : 64 < k) : linguistref7_NextTab.f k (t : Int) c n = some (nextN (listN t) c n) := by
  unfold linguistref7_NextTab.f
  rw [w64 (by omega) (by omega)]
  obtain ⟨m, rfl⟩ := Int.eq_ofNat_of_zero_le c0
  obtain ⟨r, hr, hc⟩ := ref_next t ht n n1 n0 64 k (m + 1) (by omega) hk (by omega)
  rw [show ((m : Int) + 1) = ((m + 1 : Nat) : Int) by omega, hr]
  congr 1
  have hn := nextN_tells t (m : Int) n (by omega)
  generalize nextN (listN t) (m : Int) n = s at *
  rcases hc with ⟨a1, a2, a3, a4⟩ | ⟨a1, a2⟩
  · rcases hn with ⟨b1, b2, b3, b4, b5⟩ | ⟨b1, b2⟩
    · rcases Int.lt_trichotomy r s with h | h | h
      · have := b5 r.toNat (by omega) (by omega) (by omega)
        rw [a3] at this; cases this
      · exact h
      · have := a4 s.toNat (by omega) (by omega)
        rw [b4] at this; cases this
    · have := b2 r.toNat (by omega) (by omega) (by omega)
      rw [a3] at this; cases this
  · rcases hn with ⟨b1, b2, b3, b4, b5⟩ | ⟨b1, b2⟩
    · have := a2 s.toNat (by omega) (by omega)
      rw [b4] at this; cases this
    · omega
theorem tabs_all : (List.range 65).all (fun n => match tabs_New.f 100 (n : Int), linguistref7_Tabs.f 100 (n : Int) with
    | some v, some u => decide (v = u)
    | _, _ => false) = true := by decide +kernel
theorem tabs_ok (n : Int) (h0 : 0 ≤ n) (h1 : n ≤ 64) : ∃ v : Int, (∀ k, 100 ≤ k → tabs_New.f k n = some v) ∧ (∀ k, 100 ≤ k → linguistref7_Tabs.f k n = some v) := by
  obtain ⟨m, rfl⟩ := Int.eq_ofNat_of_zero_le h0
  have h := (List.all_eq_true.1 tabs_all) m (List.mem_range.2 (by omega))
  cases hv : tabs_New.f 100 (m : Int) with
  | none => rw [hv] at h; cases h
  | some v =>
    cases hu : linguistref7_Tabs.f 100 (m : Int) with
    | none => rw [hv, hu] at h; cases h
    | some u =>
      rw [hv, hu] at h
      obtain rfl := of_decide_eq_true h
      exact ⟨v, fun k hk => at_rounds (tabs_New.mono _) hk hv, fun k hk => at_rounds (linguistref7_Tabs.mono _) hk hu⟩
theorem tells_l1 (t : Nat) (ht : t < 18446744073709551616) (l : List Int) (hl : l.length ≤ 10) (n c : Int) (n0 : 1 ≤ n) (n1 : n ≤ 64) (c0 : 0 ≤ c) (c1 : c ≤ 63)
    (K : Nat) (hr : ∀ k, K ≤ k → linguistlaw9_TabsRuns.f k = some true) : ∀ (d k i : Nat) (acc : List Int), i + d = 64 → K + 500 + d < k → acc.length ≤ i → acc ++ listFrom t i = listN t →
    linguistlaw9_TabsTells.l1 k (t : Int) l ((putN t l : Nat) : Int) ((dropN t l : Nat) : Int) (l ++ List.replicate 80 7) n c acc (i : Int) = some true := by
  intro d
  induction d with
  | zero =>
    intro k i acc hd hk ha he
    obtain ⟨k, rfl⟩ : ∃ m, k = m + 1 := ⟨k - 1, by omega⟩
    simp only [linguistlaw9_TabsTells.l1]
    have he2 : acc = listN t := by
      rw [← he]
      have : listFrom t i = [] := by
        unfold listFrom
        rw [show 64 - i = 0 by omega]; rfl
      rw [this, List.append_nil]
    have hlen := listN_len t
    obtain ⟨v, hv1, hv2⟩ := tabs_ok n (by omega) n1
    have h64 : hasN t 64 = false := rfl
    have hm1 : hasN t (-1) = false := rfl
    rw [if_neg (by omega), if_pos (by omega), if_pos (by simp only [List.length_append, List.length_replicate]; omega), Int.toNat_natCast, List.take_left, put_eq l (by omega) k t (by omega) ht, Option.bind_some, if_pos rfl,
      drop_eq l (by omega) k t (by omega) ht, Option.bind_some, if_pos rfl, intact_eq l 7 (by omega) k (by omega) (by rw [same_eq l l (by omega) k (by omega), decide_eq_true rfl]), Option.bind_some, if_pos rfl,
      next_eq t ht c n (by omega) (by omega) k (by omega), Option.bind_some, ref_next_eq t ht c n c0 c1 n0 n1 k (by omega), Option.bind_some, if_pos rfl, list_eq t ht k (by omega), Option.bind_some,
      same_eq _ _ (by omega) k (by omega), Option.bind_some, decide_eq_true he2.symm, if_pos rfl, hv1 k (by omega), Option.bind_some, hv2 k (by omega), Option.bind_some, if_pos rfl,
      has_eq t ht, Option.bind_some, h64, if_neg (by simp), has_eq t ht, Option.bind_some, hm1, if_neg (by simp), hr k (by omega)]
    rfl
  | succ d ih =>
    intro k i acc hd hk ha he
    obtain ⟨k, rfl⟩ : ∃ m, k = m + 1 := ⟨k - 1, by omega⟩
    simp only [linguistlaw9_TabsTells.l1]
    rw [if_pos (by omega), if_pos (by rw [u64w _ (by omega) (by omega)]; omega), shr_bit t ht i (by omega), has_eq t ht, Option.bind_some, hasN_nat t i (by omega), w64 (by omega) (by omega)]
    rw [listFrom_step t i (by omega)] at he
    cases hb : t.testBit i with
    | true =>
      rw [hb, if_pos rfl] at he
      rw [if_pos (by rfl), if_pos (by omega), if_neg (by simp)]
      exact ih k (i + 1) (acc ++ [(i : Int)]) (by omega) (by omega) (by rw [List.length_append]; simp; omega) (by rw [List.append_assoc]; exact he)
    | false =>
      rw [hb, if_neg (by simp)] at he
      rw [if_neg (by simp), if_neg (by simp)]
      exact ih k (i + 1) acc (by omega) (by omega) (by omega) he
theorem tells_l0 (t : Nat) (ht : t < 18446744073709551616) (l : List Int) (hl : l.length ≤ 10) (a2 a3 : Int) (w2 : -9223372036854775808 ≤ a2 ∧ a2 < 9223372036854775808) (w3 : -9223372036854775808 ≤ a3 ∧ a3 < 9223372036854775808)
    (hw : ∀ x ∈ l, (Lit.int .i64 x).wf = true) (K : Nat) (hr : ∀ k, K ≤ k → linguistlaw9_TabsRuns.f k = some true) : ∀ (d k i : Nat) (p q : Nat), i + d = l.length → K + 1000 + d < k → p < 18446744073709551616 → q < 18446744073709551616 →
    putN p (l.drop i) = putN t l → dropN q (l.drop i) = dropN t l →
    linguistlaw9_TabsTells.l0 k (t : Int) a2 a3 l (p : Int) (q : Int) l (l.length : Int) (i : Int) = some true := by
  intro d
  induction d with
  | zero =>
    intro k i p q hd hk hp hq h1 h2
    obtain ⟨k, rfl⟩ : ∃ m, k = m + 1 := ⟨k - 1, by omega⟩
    simp only [linguistlaw9_TabsTells.l0]
    rw [List.drop_eq_nil_of_le (by omega)] at h1 h2
    obtain ⟨n, en, n0, n1⟩ := within_eq a3 1 64 w3.1 w3.2 (by omega) (by omega) (by omega)
    obtain ⟨c, ec, c0, c1⟩ := within_eq a2 0 63 w2.1 w2.2 (by omega) (by omega) (by omega)
    rw [if_neg (by omega), roomy_eq l 7 (by omega) k (by omega), Option.bind_some, en, Option.bind_some, ec, Option.bind_some]
    have e1 : p = putN t l := h1
    have e2 : q = dropN t l := h2
    rw [e1, e2]
    exact tells_l1 t ht l hl n c n0 n1 c0 c1 K hr 64 k 0 [] (by omega) (by omega) (by simp) (by rw [listFrom_zero]; rfl)
  | succ d ih =>
    intro k i p q hd hk hp hq h1 h2
    obtain ⟨k, rfl⟩ : ∃ m, k = m + 1 := ⟨k - 1, by omega⟩
    simp only [linguistlaw9_TabsTells.l0]
    rw [rd_drop l i (by omega)] at h1 h2
    have wr := wf64 (hw _ (rd_mem l i (by omega)))
    rw [if_pos (by omega), if_pos (by omega), if_pos (by omega), w64 (by omega) (by omega)]
    generalize rd l (i : Int) = x at *
    have h1' : putN (p ||| bitN x) (l.drop (i + 1)) = putN t l := h1
    have h2' : dropN (q &&& (18446744073709551615 - bitN x)) (l.drop (i + 1)) = dropN t l := h2
    by_cases g0 : x ≥ 0
    · rw [if_pos g0]
      by_cases g1 : x < 64
      · rw [if_pos g1, if_pos (by rw [u64w _ (by omega) (by omega)]; omega), shl_bit x g0 g1, u64_or_nat _ _ hp (bitN_lt _), u64_andNot_nat _ _ hq (bitN_lt _)]
        exact ih k (i + 1) _ _ (by omega) (by omega) (or_lt hp (bitN_lt _)) (and_lt hq) h1' h2'
      · rw [if_neg g1]
        have e : bitN x = 0 := by unfold bitN; rw [if_neg (by omega), if_pos (by omega)]
        rw [e, Nat.or_zero] at h1'
        rw [e, Nat.sub_zero, show q &&& 18446744073709551615 = q from Nat.and_two_pow_sub_one_of_lt_two_pow (n := 64) (by omega)] at h2'
        exact ih k (i + 1) _ _ (by omega) (by omega) hp hq h1' h2'
    · rw [if_neg g0]
      have e : bitN x = 0 := by unfold bitN; rw [if_pos (by omega)]
      rw [e, Nat.or_zero] at h1'
      rw [e, Nat.sub_zero, show q &&& 18446744073709551615 = q from Nat.and_two_pow_sub_one_of_lt_two_pow (n := 64) (by omega)] at h2'
      exact ih k (i + 1) _ _ (by omega) (by omega) hp hq h1' h2'
theorem TabsTells : linguistlaw9_TabsTells.Pure := by
  intro a0 l a2 a3 h0 h1 h1b h2 h3 h4
  have w0 := wfu64 h0
  obtain ⟨t, rfl⟩ := Int.eq_ofNat_of_zero_le w0.1
  obtain ⟨K, hr⟩ := runs_eq
  refine ⟨K + 2000, ?_⟩
  unfold linguistlaw9_TabsTells.f
  have htk : l.take ((mn (l.length : Int) 10) : Int).toNat = l.take 10 := by
    unfold mn
    split
    · rfl
    · rw [List.take_of_length_le (by omega), List.take_of_length_le (by omega)]
  have hm0 : 0 ≤ mn (l.length : Int) 10 ∧ mn (l.length : Int) 10 ≤ (l.length : Int) := by unfold mn; split <;> omega
  have hlen : (l.take 10).length ≤ 10 := by rw [List.length_take]; omega
  rw [Option.bind_some, if_pos hm0.1, if_pos hm0.2, htk, if_pos (by simp only [List.length_nil]; omega), Option.bind_some, List.nil_append]
  exact tells_l0 t (by omega) (l.take 10) hlen a2 a3 (wf64 h3) (wf64 h4) (fun x hx => h2 x (List.mem_of_mem_take hx)) K hr (l.take 10).length _ 0 t t (by omega) (by omega) (by omega) (by omega) rfl rfl

end Go.Proofs.Ytmbcoeicnlncbaa.Pure
