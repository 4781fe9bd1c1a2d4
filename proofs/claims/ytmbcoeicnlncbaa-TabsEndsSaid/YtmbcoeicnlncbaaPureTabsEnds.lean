/- TabsEnds: whatever the input, the law of chapter 9's ends returns true. -/
import Derived.Test.YtmbcoeicnlncbaaPTabsEndsx2
import Derived.Test.YtmbcoeicnlncbaaWSized
import Derived.Laws.BitsAllLaws
import Derived.Laws.Bits64
namespace Go.Proofs.Ytmbcoeicnlncbaa.PrintWords
/-- The printed row names it so. -/
theorem sized_ints : type_of% @Go.Proofs.YtmbcoeicnlncbaaW.PrintWords.sized_ints := @Go.Proofs.YtmbcoeicnlncbaaW.PrintWords.sized_ints
end Go.Proofs.Ytmbcoeicnlncbaa.PrintWords
namespace Go.Proofs.Ytmbcoeicnlncbaa.Pure
open Go Go.RowKit Go.Proofs.Ytmbcoeicnlncbaa.PTabsEnds Go.Proofs.YtmbcoeicnlncbaaW.PrintWords Go.Proofs.YtmbcoeicnlncbaaW.PrintLast
set_option linter.unusedVariables false

theorem Ev.pos {α : Type} {c : Prop} [Decidable c] {f g : Nat → Option α} {r : α} (h : c) (e : Ev f r) : Ev (fun k => if c then f k else g k) r := by
  obtain ⟨K, e⟩ := e
  exact ⟨K, fun k hk => by show (if c then f k else g k) = some r; rw [if_pos h]; exact e k hk⟩
theorem Ev.neg {α : Type} {c : Prop} [Decidable c] {f g : Nat → Option α} {r : α} (h : ¬ c) (e : Ev g r) : Ev (fun k => if c then f k else g k) r := by
  obtain ⟨K, e⟩ := e
  exact ⟨K, fun k hk => by show (if c then f k else g k) = some r; rw [if_neg h]; exact e k hk⟩
theorem Ev.one {α : Type} {f : Nat → Option α} {r : α} (K : Nat) (h : ∀ k, K ≤ k → f k = some r) : Ev f r := ⟨K, h⟩
theorem w64 {x : Int} (h0 : -9223372036854775808 ≤ x) (h1 : x < 9223372036854775808) : wrap64 x = x := by
  unfold wrap64; omega
theorem wf64 {x : Int} (h : (Lit.int .i64 x).wf = true) : -9223372036854775808 ≤ x ∧ x < 9223372036854775808 := by
  simp [Lit.wf, IntKind.min, IntKind.max, IntKind.bits, IntKind.signed] at h
  omega
theorem wfu64 {x : Int} (h : (Lit.int .u64 x).wf = true) : 0 ≤ x ∧ x < 18446744073709551616 := by
  simp [Lit.wf, IntKind.min, IntKind.max, IntKind.bits, IntKind.signed] at h
  omega
theorem rd_drop (l : List Int) (i : Nat) (h : i < l.length) : l.drop i = rd l (i : Int) :: l.drop (i + 1) := by
  rw [List.drop_eq_getElem_cons h]
  simp [rd, List.getD, h]

def bitN (c : Int) : Nat := if c < 0 then 0 else if 64 ≤ c then 0 else 2 ^ c.toNat
theorem bitN_lt (c : Int) : bitN c < 18446744073709551616 := by
  unfold bitN
  split
  · omega
  · split
    · omega
    · have : 2 ^ c.toNat ≤ 2 ^ 63 := Nat.pow_le_pow_right (by omega) (by omega)
      omega
theorem bit_eq (c : Int) : tabs_bit.f c = some ((bitN c : Nat) : Int) := by
  unfold tabs_bit.f bitN
  split
  · rfl
  · split
    · rfl
    · rename_i h0 h1
      rw [if_pos (by omega)]
      unfold shl
      rw [IntKind.wrap_u64, Nat.min_eq_left (by show c.toNat ≤ 64; omega), Int.one_mul]
      have h2 : 2 ^ c.toNat ≤ 2 ^ 63 := Nat.pow_le_pow_right (by omega) (by omega)
      have h3 : ((2 ^ c.toNat : Nat) : Int) = (2 : Int) ^ c.toNat := by simp
      rw [← h3, Int.emod_eq_of_lt (Int.natCast_nonneg _) (by omega)]
theorem bitN_test (c : Int) (i : Nat) (hi : i < 64) : (bitN c).testBit i = decide (c = (i : Int)) := by
  unfold bitN
  split
  · rw [Nat.zero_testBit]; symm; rw [decide_eq_false_iff_not]; omega
  · split
    · rw [Nat.zero_testBit]; symm; rw [decide_eq_false_iff_not]; omega
    · rw [Nat.testBit_two_pow]
      rw [Bool.eq_iff_iff, decide_eq_true_iff, decide_eq_true_iff]; omega
theorem bitN_hi (c : Int) (i : Nat) (hi : 64 ≤ i) : (bitN c).testBit i = false := by
  apply Nat.testBit_lt_two_pow
  have := bitN_lt c
  have h2 : 2 ^ 64 ≤ 2 ^ i := Nat.pow_le_pow_right (by omega) hi
  omega
theorem hi_false {t : Nat} (ht : t < 18446744073709551616) (i : Nat) (hi : 64 ≤ i) : t.testBit i = false := by
  apply Nat.testBit_lt_two_pow
  have h2 : 2 ^ 64 ≤ 2 ^ i := Nat.pow_le_pow_right (by omega) hi
  omega
def hasN (t : Nat) (c : Int) : Bool := decide (0 ≤ c) && (decide (c < 64) && t.testBit c.toNat)
theorem has_eq (t : Nat) (ht : t < 18446744073709551616) (c : Int) : tabs_Has.f (t : Int) c = some (hasN t c) := by
  unfold tabs_Has.f
  rw [bit_eq, Option.bind_some, u64_and_nat _ _ ht (bitN_lt c)]
  congr 1
  unfold hasN bitN
  split
  · rename_i h
    rw [Nat.and_zero, decide_eq_false (by omega : ¬ (0 ≤ c))]; rfl
  · split
    · rename_i h
      rw [Nat.and_zero, decide_eq_false (by omega : ¬ (c < 64))]; simp
    · rename_i h0 h1
      rw [decide_eq_true (by omega : 0 ≤ c), decide_eq_true (by omega : c < 64), nat_bit, Nat.testBit_eq_decide_div_mod_eq]
      have hp : 0 < 2 ^ c.toNat := Nat.pow_pos (by omega)
      rcases Nat.mod_two_eq_zero_or_one (t / 2 ^ c.toNat) with h | h
      · rw [h]; simp
      · rw [h]
        generalize 2 ^ c.toNat = p at *
        have : ((1 * p : Nat) : Int) ≠ 0 := by omega
        rw [bne_iff_ne.2 this]; rfl
theorem hasN_nat (t i : Nat) (hi : i < 64) : hasN t (i : Int) = t.testBit i := by
  unfold hasN
  rw [decide_eq_true (by omega : (0 : Int) ≤ i), decide_eq_true (by omega : (i : Int) < 64)]; simp
def putN (t : Nat) (l : List Int) : Nat := l.foldl (fun t c => t ||| bitN c) t
theorem or_lt {a b : Nat} (ha : a < 18446744073709551616) (hb : b < 18446744073709551616) : a ||| b < 18446744073709551616 := by
  have := Nat.or_lt_two_pow (n := 64) (x := a) (y := b) (by omega) (by omega)
  omega
theorem putN_lt (l : List Int) : ∀ t, t < 18446744073709551616 → putN t l < 18446744073709551616 := by
  induction l with
  | nil => intro t ht; exact ht
  | cons c l ih => intro t ht; exact ih _ (or_lt ht (bitN_lt c))
theorem putN_test (l : List Int) (i : Nat) (hi : i < 64) : ∀ t, (putN t l).testBit i = (t.testBit i || l.any fun c => decide (c = (i : Int))) := by
  induction l with
  | nil => intro t; simp [putN]
  | cons c l ih =>
    intro t
    have : putN t (c :: l) = putN (t ||| bitN c) l := rfl
    rw [this, ih, Nat.testBit_or, bitN_test c i hi, List.any_cons, Bool.or_assoc]
theorem put_l0 (l : List Int) (hl : l.length < 4611686018427387904) : ∀ (d k i t : Nat), i + d = l.length → d < k → t < 18446744073709551616 →
    tabs_Put.l0 k (t : Int) l (l.length : Int) (i : Int) = some ((putN t (l.drop i) : Nat) : Int) := by
  intro d
  induction d with
  | zero =>
    intro k i t hd hk ht
    obtain ⟨k, rfl⟩ : ∃ m, k = m + 1 := ⟨k - 1, by omega⟩
    simp only [tabs_Put.l0]
    rw [if_neg (by omega), List.drop_eq_nil_of_le (by omega)]; rfl
  | succ d ih =>
    intro k i t hd hk ht
    obtain ⟨k, rfl⟩ : ∃ m, k = m + 1 := ⟨k - 1, by omega⟩
    simp only [tabs_Put.l0]
    rw [if_pos (by omega), if_pos (by omega), if_pos (by omega), bit_eq, Option.bind_some, u64_or_nat _ _ ht (bitN_lt _), w64 (by omega) (by omega)]
    have := ih k (i + 1) (t ||| bitN (rd l i)) (by omega) (by omega) (or_lt ht (bitN_lt _))
    rw [rd_drop l i (by omega)]
    exact this
theorem put_eq (l : List Int) (hl : l.length < 4611686018427387904) (k t : Nat) (hk : l.length < k) (ht : t < 18446744073709551616) : tabs_Put.f k (t : Int) l = some ((putN t l : Nat) : Int) := by
  unfold tabs_Put.f
  exact put_l0 l hl l.length k 0 t (by omega) hk ht
def listN (t : Nat) : List Int := ((List.range 64).filter fun (i : Nat) => t.testBit i).map fun (i : Nat) => (i : Int)
def listFrom (t i : Nat) : List Int := ((List.range' i (64 - i)).filter fun (i : Nat) => t.testBit i).map fun (i : Nat) => (i : Int)
theorem listFrom_zero (t : Nat) : listFrom t 0 = listN t := by
  unfold listFrom listN; rw [List.range_eq_range']
theorem listFrom_step (t i : Nat) (h : i < 64) : listFrom t i = if t.testBit i then (i : Int) :: listFrom t (i + 1) else listFrom t (i + 1) := by
  unfold listFrom
  have : 64 - i = (64 - (i + 1)) + 1 := by omega
  rw [this, List.range'_succ, List.filter_cons]
  split <;> simp
theorem list_l0 (t : Nat) (ht : t < 18446744073709551616) : ∀ (d k i : Nat) (acc : List Int), i + d = 64 → d < k → acc.length ≤ i →
    tabs_List.l0 k (t : Int) acc (i : Int) = some (acc ++ listFrom t i) := by
  intro d
  induction d with
  | zero =>
    intro k i acc hd hk ha
    obtain ⟨k, rfl⟩ : ∃ m, k = m + 1 := ⟨k - 1, by omega⟩
    simp only [tabs_List.l0]
    rw [if_neg (by omega)]
    have : listFrom t i = [] := by
      unfold listFrom
      rw [show 64 - i = 0 by omega]; rfl
    rw [this, List.append_nil]
  | succ d ih =>
    intro k i acc hd hk ha
    obtain ⟨k, rfl⟩ : ∃ m, k = m + 1 := ⟨k - 1, by omega⟩
    simp only [tabs_List.l0]
    rw [if_pos (by omega), has_eq t ht, Option.bind_some, hasN_nat t i (by omega), w64 (by omega) (by omega), listFrom_step t i (by omega)]
    cases hb : t.testBit i with
    | true =>
      rw [if_pos rfl, if_pos (by omega), if_pos rfl]
      have := ih k (i + 1) (acc ++ [(i : Int)]) (by omega) (by omega) (by rw [List.length_append]; simp; omega)
      rw [List.append_assoc] at this
      exact this
    | false =>
      rw [if_neg (by simp), if_neg (by simp)]
      exact ih k (i + 1) acc (by omega) (by omega) (by omega)
theorem list_eq (t : Nat) (ht : t < 18446744073709551616) (k : Nat) (hk : 64 < k) : tabs_List.f k (t : Int) = some (listN t) := by
  unfold tabs_List.f
  have := list_l0 t ht 64 k 0 [] (by omega) hk (by simp)
  rw [List.nil_append, listFrom_zero] at this
  exact this
theorem listN_len (t : Nat) : (listN t).length ≤ 64 := by
  unfold listN
  rw [List.length_map]
  exact Nat.le_trans (List.length_filter_le _ _) (by simp)
theorem mem_listN (t : Nat) (c : Int) : c ∈ listN t ↔ 0 ≤ c ∧ c < 64 ∧ t.testBit c.toNat = true := by
  unfold listN
  simp only [List.mem_map, List.mem_filter, List.mem_range]
  constructor
  · rintro ⟨i, ⟨h1, h2⟩, rfl⟩
    exact ⟨by omega, by omega, by simpa using h2⟩
  · rintro ⟨h0, h1, h2⟩
    exact ⟨c.toNat, ⟨by omega, h2⟩, by omega⟩
theorem listN_sorted (t : Nat) : (listN t).Pairwise (· < ·) := by
  unfold listN
  rw [List.pairwise_map]
  refine List.Pairwise.imp (R := fun (a b : Nat) => a < b) ?_ (List.Pairwise.filter _ (List.pairwise_lt_range))
  intro a b h; omega
def nextN (l : List Int) (c n : Int) : Int := (l.find? fun x => decide (c < x) && decide (x < n)).getD (n - 1)
theorem next_l0 (c n : Int) (hn : -9223372036854775808 < n) (hn2 : n < 9223372036854775808) (l : List Int) (hl : l.length < 4611686018427387904) : ∀ (d k i : Nat), i + d = l.length → d < k →
    tabs_Next.l0 k c n l (l.length : Int) (i : Int) = some (nextN (l.drop i) c n) := by
  intro d
  induction d with
  | zero =>
    intro k i hd hk
    obtain ⟨k, rfl⟩ : ∃ m, k = m + 1 := ⟨k - 1, by omega⟩
    simp only [tabs_Next.l0]
    rw [if_neg (by omega), List.drop_eq_nil_of_le (by omega), w64 (by omega) (by omega)]; rfl
  | succ d ih =>
    intro k i hd hk
    obtain ⟨k, rfl⟩ : ∃ m, k = m + 1 := ⟨k - 1, by omega⟩
    simp only [tabs_Next.l0]
    rw [if_pos (by omega), if_pos (by omega), if_pos (by omega), w64 (by omega) (by omega), rd_drop l i (by omega)]
    have := ih k (i + 1) (by omega) (by omega)
    unfold nextN
    rw [List.find?_cons]
    by_cases h1 : c < rd l (i : Int)
    · rw [if_pos h1, decide_eq_true h1]
      by_cases h2 : rd l (i : Int) < n
      · rw [if_pos h2, decide_eq_true h2]; rfl
      · rw [if_neg h2, decide_eq_false h2]; exact this
    · rw [if_neg h1, decide_eq_false h1]; exact this
theorem next_eq (t : Nat) (ht : t < 18446744073709551616) (c n : Int) (hn : -9223372036854775808 < n) (hn2 : n < 9223372036854775808) (k : Nat) (hk : 64 < k) :
    tabs_Next.f k (t : Int) c n = some (nextN (listN t) c n) := by
  unfold tabs_Next.f
  rw [list_eq t ht k hk, Option.bind_some]
  have h := listN_len t
  exact next_l0 c n hn hn2 (listN t) (by omega) (listN t).length k 0 (by omega) (by omega)
/-- What the next stop is. -/
theorem nextN_tells (t : Nat) (c n : Int) (h0 : 0 ≤ c) :
    (c < nextN (listN t) c n ∧ nextN (listN t) c n < n ∧ nextN (listN t) c n < 64 ∧ t.testBit (nextN (listN t) c n).toNat = true ∧ ∀ i : Nat, i < 64 → c < i → (i : Int) < nextN (listN t) c n → t.testBit i = false) ∨
    (nextN (listN t) c n = n - 1 ∧ ∀ i : Nat, i < 64 → c < i → (i : Int) < n → t.testBit i = false) := by
  unfold nextN
  cases h : (listN t).find? fun x => decide (c < x) && decide (x < n) with
  | none =>
    right
    refine ⟨rfl, fun i hi hc hn => ?_⟩
    rw [List.find?_eq_none] at h
    cases hb : t.testBit i with
    | false => rfl
    | true =>
      have := h (i : Int) ((mem_listN t _).2 ⟨by omega, by omega, by simpa using hb⟩)
      simp at this; omega
  | some x =>
    left
    rw [Option.getD_some]
    have hm := (mem_listN t x).1 (List.mem_of_find?_eq_some h)
    have hp := List.find?_some h
    simp at hp
    refine ⟨hp.1, hp.2, hm.2.1, hm.2.2, fun i hi hc hx => ?_⟩
    cases hb : t.testBit i with
    | false => rfl
    | true =>
      exfalso
      rw [List.find?_eq_some_iff_append] at h
      obtain ⟨_, la, lb, hl, hnot⟩ := h
      have hi' : (i : Int) ∈ listN t := (mem_listN t _).2 ⟨by omega, by omega, by simpa using hb⟩
      have hs := listN_sorted t
      rw [hl] at hi' hs
      rw [List.pairwise_append] at hs
      rw [List.mem_append, List.mem_cons] at hi'
      rcases hi' with hi' | hi' | hi'
      · have := hnot _ hi'
        simp at this; omega
      · omega
      · have := (List.pairwise_cons.1 hs.2.1).1 _ hi'
        omega

theorem within_eq (n lo hi : Int) (hn : -9223372036854775808 ≤ n) (hn2 : n < 9223372036854775808) (h0 : 0 ≤ lo) (h1 : lo ≤ hi) (h2 : hi < 4611686018427387904) :
    ∃ r, linguistbook_Within.f n lo hi = some r ∧ lo ≤ r ∧ r ≤ hi := by
  unfold linguistbook_Within.f
  rw [w64 (x := hi - lo) (by omega) (by omega), w64 (x := hi - lo + 1) (by omega) (by omega), if_neg (by omega)]
  have e : n.tmod (hi - lo + 1) = n - (hi - lo + 1) * n.tdiv (hi - lo + 1) := Int.tmod_def _ _
  have b1 : n.tmod (hi - lo + 1) < hi - lo + 1 := Int.tmod_lt_of_pos _ (by omega)
  have b2 : -(hi - lo + 1) < n.tmod (hi - lo + 1) := by
    have := Int.lt_tmod_of_pos n (show 0 < hi - lo + 1 by omega); omega
  generalize n.tmod (hi - lo + 1) = m at *
  by_cases hm : m < 0
  · rw [if_pos hm, w64 (x := m + hi) (by omega) (by omega), w64 (x := m + hi - lo) (by omega) (by omega), w64 (x := m + hi - lo + 1) (by omega) (by omega), w64 (by omega) (by omega)]
    exact ⟨_, rfl, by omega, by omega⟩
  · rw [if_neg hm, w64 (by omega) (by omega)]
    exact ⟨_, rfl, by omega, by omega⟩

theorem runs_eq : ∃ K, ∀ k, K ≤ k → linguistlaw9_TabsRuns.f k = some true := by
  refine ⟨100, fun k hk => ?_⟩
  have h : linguistlaw9_TabsRuns.f 100 = some true := by decide +kernel
  exact at_rounds linguistlaw9_TabsRuns.mono hk h

theorem TabsEnds : linguistlaw9_TabsEnds.Pure := by
  intro a0 a1 a2 a3 w0 w1 w2 w3
  have w0 := wfu64 w0
  have w1 := wf64 w1
  have w2 := wf64 w2
  have w3 := wf64 w3
  obtain ⟨t, rfl⟩ := Int.eq_ofNat_of_zero_le w0.1
  have ht : t < 18446744073709551616 := by omega
  obtain ⟨n, en, n0, n1⟩ := within_eq a2 1 60 w2.1 w2.2 (by omega) (by omega) (by omega)
  obtain ⟨c, ec, c0, c1⟩ := within_eq a1 0 59 w1.1 w1.2 (by omega) (by omega) (by omega)
  obtain ⟨x, ex, x0, x1⟩ := within_eq a3 0 59 w3.1 w3.2 (by omega) (by omega) (by omega)
  obtain ⟨K, hr⟩ := runs_eq
  have hx : (putN t [x]) = t ||| bitN x := rfl
  have hxl : t ||| bitN x < 18446744073709551616 := or_lt ht (bitN_lt x)
  have e0 : nextN (listN t) (n - 1) n = n - 1 := by
    rcases nextN_tells t (n - 1) n (by omega) with h | h <;> omega
  have e1 : nextN (listN 0) 0 n = n - 1 := by
    rcases nextN_tells 0 0 n (by omega) with h | h
    · have := h.2.2.2.1
      rw [Nat.zero_testBit] at this; cases this
    · exact h.1
  have e2 : nextN (listN (putN 0 [n])) 0 n = n - 1 := by
    rcases nextN_tells (putN 0 [n]) 0 n (by omega) with h | h
    · obtain ⟨g1, g2, g3, g4, _⟩ := h
      generalize nextN (listN (putN 0 [n])) 0 n = r at *
      rw [putN_test _ _ (by omega), Nat.zero_testBit] at g4
      simp at g4
      omega
    · exact h.1
  have hput : putN 0 [n] < 18446744073709551616 := putN_lt _ _ (by omega)
  -- the stop more
  have key : nextN (listN (t ||| bitN x)) c n = if x > c ∧ x < n ∧ x < nextN (listN t) c n then (if x > c ∧ x = n - 1 then nextN (listN t) c n else x) else nextN (listN t) c n := by
    have h1 := nextN_tells t c n c0
    have h2 := nextN_tells (t ||| bitN x) c n c0
    have hb : ∀ i : Nat, i < 64 → (t ||| bitN x).testBit i = (t.testBit i || decide (x = (i : Int))) := fun i hi => by rw [Nat.testBit_or, bitN_test x i hi]
    generalize nextN (listN t) c n = r at *
    generalize nextN (listN (t ||| bitN x)) c n = s at *
    rcases h1 with ⟨a1, a2, a3, a4, a5⟩ | ⟨a1, a5⟩ <;> rcases h2 with ⟨b1, b2, b3, b4, b5⟩ | ⟨b1, b5⟩
    · rw [hb _ (by omega)] at b4
      have hr' := b5 r.toNat (by omega) (by omega)
      rw [hb _ (by omega), a4] at hr'
      have hs' := a5 s.toNat (by omega) (by omega)
      have hx' := b5 x.toNat (by omega)
      rw [hb _ (by omega)] at hx'
      have hxx : decide (x = ((x.toNat : Nat) : Int)) = true := decide_eq_true (by omega)
      rw [hxx] at hx'
      have hsr : s ≤ r := by
        rcases Int.lt_or_le r s with h | h
        · have := hr' (by omega); simp at this
        · exact h
      have hsx : c < x → s ≤ x := by
        intro hc
        rcases Int.lt_or_le x s with h | h
        · have := hx' (by omega) (by omega); simp at this
        · exact h
      by_cases hsr2 : s < r
      · have := hs' (by omega)
        rw [this] at b4
        simp at b4
        have : x = s := by omega
        subst this
        rw [if_pos ⟨by omega, by omega, by omega⟩]
        split <;> omega
      · have : s = r := by omega
        subst this
        split
        · have := hsx (by omega); omega
        · rfl
    · have := b5 r.toNat (by omega) (by omega) (by omega)
      rw [hb _ (by omega), a4] at this; simp at this
    · rw [hb _ (by omega), a5 s.toNat (by omega) (by omega) (by omega)] at b4
      simp at b4
      have : x = s := by omega
      subst this
      split <;> (try split) <;> omega
    · split
      · rename_i h
        have := b5 x.toNat (by omega) (by omega) (by omega)
        rw [hb _ (by omega)] at this
        simp at this; omega
      · omega
  refine ⟨K + 200, ?_⟩
  unfold linguistlaw9_TabsEnds.f
  rw [en, Option.bind_some, ec, Option.bind_some, ex, Option.bind_some, next_eq t ht c n (by omega) (by omega) _ (by omega), Option.bind_some,
    put_eq [x] (by simp) _ t (by simp) ht, Option.bind_some, next_eq _ (putN_lt _ _ ht) c n (by omega) (by omega) _ (by omega), Option.bind_some, hx, key]
  have fin : ∀ k : Nat, K + 100 < k → ∀ r : Int, linguistlaw9_TabsEnds.j3 k (t : Int) n r r = some true := by
    intro k hk r
    obtain ⟨k, rfl⟩ : ∃ m, k = m + 1 := ⟨k - 1, by omega⟩
    simp only [linguistlaw9_TabsEnds.j3, if_true]
    rw [w64 (by omega) (by omega), next_eq t ht _ n (by omega) (by omega) _ (by omega), Option.bind_some, e0, if_pos rfl]
    have h00 := next_eq 0 (by omega) 0 n (by omega) (by omega) k (by omega)
    rw [show ((0 : Nat) : Int) = 0 from rfl] at h00
    rw [h00, Option.bind_some, e1, if_pos rfl]
    have h01 := put_eq [n] (by simp) k 0 (by simp; omega) (by omega)
    rw [show ((0 : Nat) : Int) = 0 from rfl] at h01
    rw [h01, Option.bind_some, next_eq _ hput 0 n (by omega) (by omega) _ (by omega), Option.bind_some, e2, if_pos rfl, hr k (by omega), Option.bind_some]
  generalize nextN (listN t) c n = r
  have j2 : ∀ k : Nat, K + 110 < k → ∀ r s q : Int, ∀ b : Bool, s = (if b then r else q) → linguistlaw9_TabsEnds.j2 k (t : Int) n r s q b = some true := by
    intro k hk r s q b hs
    obtain ⟨k, rfl⟩ : ∃ m, k = m + 1 := ⟨k - 1, by omega⟩
    simp only [linguistlaw9_TabsEnds.j2]
    cases b with
    | true => rw [if_pos rfl]; simp at hs; rw [hs]; exact fin k (by omega) _
    | false => rw [if_neg (by simp)]; simp at hs; rw [hs]; exact fin k (by omega) _
  have j1 : ∀ k : Nat, K + 120 < k → ∀ r s q : Int, s = (if x > c ∧ x = n - 1 then r else q) → linguistlaw9_TabsEnds.j1 k (t : Int) n c x r s q = some true := by
    intro k hk r s q hs
    obtain ⟨k, rfl⟩ : ∃ m, k = m + 1 := ⟨k - 1, by omega⟩
    simp only [linguistlaw9_TabsEnds.j1]
    rw [w64 (by omega) (by omega)]
    by_cases h : x > c
    · rw [if_pos h]
      refine j2 k (by omega) _ _ _ _ ?_
      rw [hs]
      by_cases h2 : x = n - 1
      · rw [if_pos ⟨h, h2⟩]; simp [h2]
      · rw [if_neg (fun g => h2 g.2)]; simp [h2]
    · rw [if_neg h]
      refine j2 k (by omega) _ _ _ _ ?_
      rw [hs]; simp [h]
  have j0 : ∀ k : Nat, K + 130 < k → ∀ r s : Int, ∀ b : Bool, s = (if x > c ∧ x = n - 1 then r else (if b then x else r)) → linguistlaw9_TabsEnds.j0 k (t : Int) n c x r s r b = some true := by
    intro k hk r s b hs
    obtain ⟨k, rfl⟩ : ∃ m, k = m + 1 := ⟨k - 1, by omega⟩
    simp only [linguistlaw9_TabsEnds.j0]
    cases b with
    | true => rw [if_pos rfl]; simp at hs; exact j1 k (by omega) _ _ _ (by simpa using hs)
    | false => rw [if_neg (by simp)]; simp at hs; exact j1 k (by omega) _ _ _ (by simpa using hs)
  by_cases h1 : x > c
  · rw [if_pos h1]
    by_cases h2 : x < n
    · rw [if_pos h2]
      refine j0 _ (by omega) _ _ _ ?_
      by_cases h3 : x < r <;> simp [h1, h2, h3]
    · rw [if_neg h2]
      refine j0 _ (by omega) _ _ _ ?_
      simp [h1, h2]
  · rw [if_neg h1]
    refine j0 _ (by omega) _ _ _ ?_
    simp [h1]

end Go.Proofs.Ytmbcoeicnlncbaa.Pure
