/- UtfCuts: whatever the input, the law of chapter 1's cuts returns true. -/
import Derived.Test.YtnammlamdhpnpaaGUtfCutsx6
import Derived.Test.YtnammlamdhpnpaaWSized
import Derived.Laws.BitsAllLaws
import Derived.Laws.Bits64
import Derived.Laws.BitsLemmas
namespace Go.Proofs.Ytnammlamdhpnpaa.PrintWords
/-- The printed row names it so. -/
theorem sized_ints : type_of% @Go.Proofs.YtnammlamdhpnpaaW.PrintWords.sized_ints := @Go.Proofs.YtnammlamdhpnpaaW.PrintWords.sized_ints
end Go.Proofs.Ytnammlamdhpnpaa.PrintWords
namespace Go.Proofs.Ytnammlamdhpnpaa.Pure
open Go Go.RowKit Go.Proofs.Ytnammlamdhpnpaa.GUtfCuts Go.Proofs.YtnammlamdhpnpaaW.PrintWords Go.Proofs.YtnammlamdhpnpaaW.PrintLast
set_option linter.unusedVariables false
set_option linter.unusedSimpArgs false

theorem Ev.pos {α : Type} {c : Prop} [Decidable c] {f g : Nat → Option α} {r : α} (h : c) (e : Ev f r) : Ev (fun k => if c then f k else g k) r := by
  obtain ⟨K, e⟩ := e
  exact ⟨K, fun k hk => by show (if c then f k else g k) = some r; rw [if_pos h]; exact e k hk⟩
theorem Ev.neg {α : Type} {c : Prop} [Decidable c] {f g : Nat → Option α} {r : α} (h : ¬ c) (e : Ev g r) : Ev (fun k => if c then f k else g k) r := by
  obtain ⟨K, e⟩ := e
  exact ⟨K, fun k hk => by show (if c then f k else g k) = some r; rw [if_neg h]; exact e k hk⟩
theorem Ev.one {α : Type} {f : Nat → Option α} {r : α} (K : Nat) (h : ∀ k, K ≤ k → f k = some r) : Ev f r := ⟨K, h⟩
theorem w64 {x : Int} (h0 : -9223372036854775808 ≤ x) (h1 : x < 9223372036854775808) : wrap64 x = x := by
  unfold wrap64; omega
theorem wf64 {x : Int} (h : (Lit.int .i64 x).wf = true) : -9223372036854775808 ≤ x ∧ x < 9223372036854775808 := by
  simp [Lit.wf, IntKind.min, IntKind.max, IntKind.bits, IntKind.signed] at h
  omega
theorem wfu64 {x : Int} (h : (Lit.int .u64 x).wf = true) : 0 ≤ x ∧ x < 18446744073709551616 := by
  simp [Lit.wf, IntKind.min, IntKind.max, IntKind.bits, IntKind.signed] at h
  omega
theorem rd_drop (l : List Int) (i : Nat) (h : i < l.length) : l.drop i = rd l (i : Int) :: l.drop (i + 1) := by
  rw [List.drop_eq_getElem_cons h]
  simp [rd, List.getD, h]
theorem wf32 {x : Int} (h : (Lit.int .i32 x).wf = true) : -2147483648 ≤ x ∧ x < 2147483648 := by
  simp [Lit.wf, IntKind.min, IntKind.max, IntKind.bits, IntKind.signed] at h
  omega
theorem wfu8 {x : Int} (h : (Lit.int .u8 x).wf = true) : 0 ≤ x ∧ x < 256 := by
  simp [Lit.wf, IntKind.min, IntKind.max, IntKind.bits, IntKind.signed] at h
  omega
theorem w32 {x : Int} (h0 : -2147483648 ≤ x) (h1 : x < 2147483648) : wrap32 x = x := by
  unfold wrap32; omega
theorem rd_mem (l : List Int) (i : Nat) (h : i < l.length) : rd l (i : Int) ∈ l := by
  have h1 := rd_drop l i h
  exact List.mem_of_mem_drop (i := i) (by rw [h1]; exact List.mem_cons_self)

theorem within_eq (n lo hi : Int) (hn : -9223372036854775808 ≤ n) (hn2 : n < 9223372036854775808) (h0 : 0 ≤ lo) (h1 : lo ≤ hi) (h2 : hi < 4611686018427387904) :
    ∃ r, linguistbook_Within.f n lo hi = some r ∧ lo ≤ r ∧ r ≤ hi := by
  unfold linguistbook_Within.f
  rw [w64 (x := hi - lo) (by omega) (by omega), w64 (x := hi - lo + 1) (by omega) (by omega), if_neg (by omega)]
  have e : n.tmod (hi - lo + 1) = n - (hi - lo + 1) * n.tdiv (hi - lo + 1) := Int.tmod_def _ _
  have b1 : n.tmod (hi - lo + 1) < hi - lo + 1 := Int.tmod_lt_of_pos _ (by omega)
  have b2 : -(hi - lo + 1) < n.tmod (hi - lo + 1) := by
    have := Int.lt_tmod_of_pos n (show 0 < hi - lo + 1 by omega); omega
  generalize n.tmod (hi - lo + 1) = m at *
  by_cases hm : m < 0
  · rw [if_pos hm, w64 (x := m + hi) (by omega) (by omega), w64 (x := m + hi - lo) (by omega) (by omega), w64 (x := m + hi - lo + 1) (by omega) (by omega), w64 (by omega) (by omega)]
    exact ⟨_, rfl, by omega, by omega⟩
  · rw [if_neg hm, w64 (by omega) (by omega)]
    exact ⟨_, rfl, by omega, by omega⟩

theorem wraps_i64 (n : Int) (h₀ : 0 ≤ n) (h₁ : n < 2 ^ 62) : IntKind.i64.wrap n = n := by rw [IntKind.wrap_i64]; omega
theorem i64_or_nat (a b : Nat) (ha : a < 2 ^ 62) (hb : b < 2 ^ 62) : Go.bits .or .i64 (a : Int) (b : Int) = ((a ||| b : Nat) : Int) :=
  (bits_nat .i64 62 (by decide) wraps_i64 a b ha hb).2
theorem i64_and_nat (a b : Nat) (ha : a < 2 ^ 62) (hb : b < 2 ^ 62) : Go.bits .and .i64 (a : Int) (b : Int) = ((a &&& b : Nat) : Int) :=
  (bits_nat .i64 62 (by decide) wraps_i64 a b ha hb).1
theorem or64 (a c : Int) (a0 : 0 ≤ a) (a1 : a < 16777216) (c0 : 0 ≤ c) (c1 : c < 64) : Go.bits .or .i64 (a * 64) c = a * 64 + c := by
  obtain ⟨m, rfl⟩ := Int.eq_ofNat_of_zero_le a0
  obtain ⟨n, rfl⟩ := Int.eq_ofNat_of_zero_le c0
  have h := i64_or_nat (m * 64) n (by omega) (by omega)
  rw [show ((m * 64 : Nat) : Int) = (m : Int) * 64 by omega] at h
  rw [h]
  have e := Nat.two_pow_add_eq_or_of_lt (i := 6) (b := n) (by omega) m
  rw [Nat.mul_comm m 64, show 64 = 2 ^ 6 from rfl, ← e]
  omega
theorem and63 (x : Int) (x0 : 0 ≤ x) (x1 : x < 2147483648) : Go.bits .and .i64 x 63 = x % 64 := by
  obtain ⟨m, rfl⟩ := Int.eq_ofNat_of_zero_le x0
  have h := i64_and_nat m 63 (by omega) (by omega)
  rw [show ((63 : Nat) : Int) = 63 from rfl] at h
  rw [h, show m &&& 63 = m % 64 from Nat.and_two_pow_sub_one_eq_mod m 6]
  omega
/-- What a byte begins. -/
def begN (b : Int) : Int × Int × Int × List Int :=
  if b < 128 then (0, 0, 0, [b]) else if b < 194 then (0, 0, 0, [65533]) else if b ≤ 223 then (1, 1, b - 192, []) else if b ≤ 239 then (2, 1, b - 224, []) else if b ≤ 244 then (3, 1, b - 240, []) else (0, 0, 0, [65533])
theorem beg_all : (List.range 256).all (fun n => decide (utf_begin.f 4 (n : Int) = some (begN (n : Int)))) = true := by decide +kernel
theorem byte_all : (List.range 256).all (fun n => decide (Go.bits .and .u8 (n : Int) 63 = (n : Int) % 64) && decide (Go.bits .and .u8 (n : Int) 127 = (n : Int) % 128) && (decide (Go.bits .and .u8 (n : Int) 192 = 128) == (decide (128 ≤ n) && decide (n ≤ 191)))) = true := by decide +kernel
theorem beg_eq (b : Int) (b0 : 0 ≤ b) (b1 : b < 256) (k : Nat) (hk : 4 ≤ k) : utf_begin.f k b = some (begN b) := by
  obtain ⟨m, rfl⟩ := Int.eq_ofNat_of_zero_le b0
  exact at_rounds (utf_begin.mono _) hk (of_decide_eq_true ((List.all_eq_true.1 beg_all) m (List.mem_range.2 (by omega))))
theorem byte63 (b : Int) (b0 : 0 ≤ b) (b1 : b < 256) : Go.bits .and .u8 b 63 = b % 64 := by
  obtain ⟨m, rfl⟩ := Int.eq_ofNat_of_zero_le b0
  have h := (List.all_eq_true.1 byte_all) m (List.mem_range.2 (by omega))
  simp only [Bool.and_eq_true, decide_eq_true_eq] at h
  exact h.1.1
theorem byte127 (b : Int) (b0 : 0 ≤ b) (b1 : b < 256) : Go.bits .and .u8 b 127 = b % 128 := by
  obtain ⟨m, rfl⟩ := Int.eq_ofNat_of_zero_le b0
  have h := (List.all_eq_true.1 byte_all) m (List.mem_range.2 (by omega))
  simp only [Bool.and_eq_true, decide_eq_true_eq] at h
  exact h.1.2
theorem byte192 (b : Int) (b0 : 0 ≤ b) (b1 : b < 256) : Go.bits .and .u8 b 192 = 128 ↔ 128 ≤ b ∧ b ≤ 191 := by
  obtain ⟨m, rfl⟩ := Int.eq_ofNat_of_zero_le b0
  have h := (List.all_eq_true.1 byte_all) m (List.mem_range.2 (by omega))
  simp only [Bool.and_eq_true, decide_eq_true_eq, beq_iff_eq] at h
  have h2 := h.2
  constructor
  · intro e
    rw [decide_eq_true e] at h2
    have := h2.symm
    simp at this
    omega
  · intro e
    rw [decide_eq_true (by omega : 128 ≤ m), decide_eq_true (by omega : m ≤ 191)] at h2
    simpa using h2
/-- May a rune be of a sequence of so many bytes? -/
def wholeN (a h : Int) : Bool := decide ((if h = 2 then 128 else if h = 3 then 2048 else 65536) ≤ a) && decide (a ≤ 1114111) && (decide (a < 55296) || decide (57343 < a))
theorem whole_eq (a h : Int) (h0 : 2 ≤ h) (h1 : h ≤ 4) : utf_whole.f a h = some (wholeN a h) := by
  unfold utf_whole.f wholeN
  rw [Option.bind_some, if_pos (by omega), if_pos (by simp only [List.length_cons, List.length_nil]; omega)]
  have e : rd [0, 0, 128, 2048, 65536] h = if h = 2 then 128 else if h = 3 then 2048 else 65536 := by
    rcases (by omega : h = 2 ∨ h = 3 ∨ h = 4) with rfl | rfl | rfl <;> rfl
  rw [e]
  generalize (if h = 2 then (128 : Int) else if h = 3 then 2048 else 65536) = L
  by_cases c1 : L ≤ a
  · rw [if_pos c1, decide_eq_true c1]
    by_cases c2 : a ≤ 1114111
    · rw [if_pos c2, decide_eq_true c2]
      by_cases c3 : a < 55296
      · rw [if_pos c3, decide_eq_true c3]; rfl
      · rw [if_neg c3, decide_eq_false c3]; rfl
    · rw [if_neg c2, decide_eq_false c2]; simp
  · rw [if_neg c1, decide_eq_false c1]; rfl
/-- May the decoder stand so? -/
def St (n h a : Int) : Prop := (n = 0 ∧ h = 0 ∧ a = 0) ∨ (1 ≤ n ∧ 1 ≤ h ∧ n + h ≤ 4 ∧ 0 ≤ a ∧ (h = 1 → a < 32) ∧ (h = 2 → a < 2048) ∧ (h = 3 → a < 131072))
/-- What the decoder does with a byte. -/
def pushN (n h a b : Int) : Int × Int × Int × List Int :=
  if h ≤ 0 then begN b else if b < 128 ∨ 191 < b then ((begN b).1, (begN b).2.1, (begN b).2.2.1, 65533 :: (begN b).2.2.2) else if 1 < n then (n - 1, h + 1, a * 64 + b % 64, [])
  else if wholeN (a * 64 + b % 64) (h + 1) then (0, 0, 0, [a * 64 + b % 64]) else (0, 0, 0, [65533])
theorem beg_st (b : Int) (b0 : 0 ≤ b) (b1 : b < 256) : St (begN b).1 (begN b).2.1 (begN b).2.2.1 ∧ (begN b).2.2.2.length ≤ 1 := by
  unfold begN St
  repeat' split
  all_goals simp
  all_goals omega
theorem push_st (n h a b : Int) (s : St n h a) (b0 : 0 ≤ b) (b1 : b < 256) : St (pushN n h a b).1 (pushN n h a b).2.1 (pushN n h a b).2.2.1 ∧ (pushN n h a b).2.2.2.length ≤ 2 := by
  have hb := beg_st b b0 b1
  unfold pushN
  split
  · exact ⟨hb.1, by omega⟩
  · split
    · exact ⟨hb.1, by simp only [List.length_cons]; omega⟩
    · unfold St at s
      split
      · refine ⟨?_, by simp⟩
        rcases s with s | ⟨s1, s2, s3, s4, s5, s6, s7⟩
        · omega
        · right
          simp only
          rcases (by omega : h = 1 ∨ h = 2 ∨ h = 3) with rfl | rfl | rfl
          · have := s5 rfl; omega
          · have := s6 rfl; omega
          · omega
      · split <;> exact ⟨Or.inl ⟨rfl, rfl, rfl⟩, by simp⟩
theorem push_eq (n h a b : Int) (s : St n h a) (b0 : 0 ≤ b) (b1 : b < 256) (k : Nat) (hk : 4 ≤ k) : utf_Decoder_Push.f k n h a b = some (pushN n h a b) := by
  have hb := beg_st b b0 b1
  have hw : wrap64 b = b := w64 (by omega) (by omega)
  unfold utf_Decoder_Push.f pushN utf_Decoder_Held.f
  rw [Option.bind_some, beg_eq b b0 b1 k hk]
  by_cases c : 0 < h
  · rw [decide_eq_true c, if_pos rfl, if_neg (by omega : ¬ h ≤ 0)]
    unfold St at s
    rcases s with s | ⟨s1, s2, s3, s4, s5, s6, s7⟩
    · omega
    · by_cases c1 : b < 128
      · rw [if_pos c1, if_pos (Or.inl c1), Option.bind_some, Option.bind_some, if_pos (by simp only [List.length_cons, List.length_nil]; omega)]; rfl
      · rw [if_neg c1]
        by_cases c2 : b > 191
        · rw [if_pos c2, if_pos (Or.inr c2), Option.bind_some, Option.bind_some, if_pos (by simp only [List.length_cons, List.length_nil]; omega)]; rfl
        · have ha : a < 16777216 := by
            rcases (by omega : h = 1 ∨ h = 2 ∨ h = 3) with rfl | rfl | rfl
            · have := s5 rfl; omega
            · have := s6 rfl; omega
            · have := s7 rfl; omega
          rw [if_neg c2, if_neg (by omega : ¬ (b < 128 ∨ 191 < b)), byte63 b b0 b1, w64 (x := b % 64) (by omega) (by omega), w64 (x := a * 64) (by omega) (by omega), or64 a (b % 64) s4 ha (by omega) (by omega), w64 (x := n - 1) (by omega) (by omega), w64 (x := h + 1) (by omega) (by omega)]
          by_cases c3 : 1 < n
          · rw [if_pos (by omega), if_pos c3]
          · rw [if_neg (by omega), if_neg c3, if_pos (by omega), whole_eq _ _ (by omega) (by omega), Option.bind_some]
            cases hwh : wholeN (a * 64 + b % 64) (h + 1) with
            | false => rw [if_neg (by simp), if_neg (by simp)]
            | true =>
              rw [if_pos rfl, if_pos rfl, w32]
              · unfold wholeN at hwh; simp at hwh; omega
              · unfold wholeN at hwh; simp at hwh; omega
  · rw [decide_eq_false c, if_neg (by simp), if_pos (by omega)]; rfl
/-- What the decoder makes of bytes. -/
def runN : Int → Int → Int → List Int → List Int × Int × Int × Int
  | n, h, a, [] => ([], n, h, a)
  | n, h, a, b :: bs => let p := pushN n h a b; let q := runN p.1 p.2.1 p.2.2.1 bs; (p.2.2.2 ++ q.1, q.2)
theorem dec_l0 (l : List Int) (hl : l.length < 1000000) (hb : ∀ x ∈ l, 0 ≤ x ∧ x < 256) : ∀ (d k i : Nat) (acc : List Int) (n h a : Int), i + d = l.length → 10 + d < k → acc.length ≤ 2 * i → St n h a →
    utf_Decode.l0 k acc l (l.length : Int) (i : Int) n h a = some (acc ++ (runN n h a (l.drop i)).1, (runN n h a (l.drop i)).2) := by
  intro d
  induction d with
  | zero =>
    intro k i acc n h a hd hk ha s
    obtain ⟨k, rfl⟩ : ∃ m, k = m + 1 := ⟨k - 1, by omega⟩
    simp only [utf_Decode.l0]
    rw [if_neg (by omega), List.drop_eq_nil_of_le (by omega)]
    simp [runN]
  | succ d ih =>
    intro k i acc n h a hd hk ha s
    obtain ⟨k, rfl⟩ : ∃ m, k = m + 1 := ⟨k - 1, by omega⟩
    simp only [utf_Decode.l0]
    obtain ⟨b0, b1⟩ := hb _ (rd_mem l i (by omega))
    have hp := push_st n h a _ s b0 b1
    rw [if_pos (by omega), if_pos (by omega), if_pos (by omega), push_eq n h a _ s b0 b1 k (by omega), Option.bind_some, if_pos (by omega), w64 (by omega) (by omega), rd_drop l i (by omega)]
    have := ih k (i + 1) (acc ++ (pushN n h a (rd l i)).2.2.2) _ _ _ (by omega) (by omega) (by rw [List.length_append]; omega) hp.1
    rw [show ((i + 1 : Nat) : Int) = (i : Int) + 1 by omega] at this
    rw [this]
    simp [runN, List.append_assoc]
theorem dec_eq (l : List Int) (hl : l.length < 1000000) (hb : ∀ x ∈ l, 0 ≤ x ∧ x < 256) (k : Nat) (hk : 10 + l.length < k) : utf_Decode.f k l = some (runN 0 0 0 l) := by
  unfold utf_Decode.f
  have := dec_l0 l hl hb l.length k 0 [] 0 0 0 (by omega) (by omega) (by simp) (Or.inl ⟨rfl, rfl, rfl⟩)
  simpa using this
theorem run_st : ∀ (l : List Int) (n h a : Int), (∀ x ∈ l, 0 ≤ x ∧ x < 256) → St n h a → St (runN n h a l).2.1 (runN n h a l).2.2.1 (runN n h a l).2.2.2 ∧ (runN n h a l).1.length ≤ 2 * l.length := by
  intro l
  induction l with
  | nil => intro n h a _ s; exact ⟨s, by simp [runN]⟩
  | cons b l ih =>
    intro n h a hb s
    have hb1 := hb b (List.mem_cons_self)
    have hp := push_st n h a b s hb1.1 hb1.2
    have := ih _ _ _ (fun x hx => hb x (List.mem_cons_of_mem _ hx)) hp.1
    simp only [runN, List.length_append, List.length_cons]
    exact ⟨this.1, by omega⟩
theorem run_append : ∀ (l m : List Int) (n h a : Int), runN n h a (l ++ m) = ((runN n h a l).1 ++ (runN (runN n h a l).2.1 (runN n h a l).2.2.1 (runN n h a l).2.2.2 m).1, (runN (runN n h a l).2.1 (runN n h a l).2.2.1 (runN n h a l).2.2.2 m).2) := by
  intro l
  induction l with
  | nil => intro m n h a; simp [runN]
  | cons b l ih =>
    intro m n h a
    simp only [List.cons_append, runN]
    rw [ih]
    simp [List.append_assoc]
/-- A rune's bytes. -/
def oneN (r : Int) : List Int := if r < 0 ∨ 1114111 < r ∨ (55296 ≤ r ∧ r ≤ 57343) then [239, 191, 189] else if r < 128 then [r] else if r < 2048 then [192 + r / 64, 128 + r % 64]
  else if r < 65536 then [224 + r / 4096, 128 + r / 64 % 64, 128 + r % 64] else [240 + r / 262144, 128 + r / 4096 % 64, 128 + r / 64 % 64, 128 + r % 64]
theorem one_eq (r : Int) (r0 : -2147483648 ≤ r) (r1 : r < 2147483648) : utf_one.f r = some (oneN r) := by
  unfold utf_one.f oneN
  rw [if_neg (by omega)]
  repeat' split
  all_goals rfl
theorem oneN_len (r : Int) : 1 ≤ (oneN r).length ∧ (oneN r).length ≤ 4 := by
  unfold oneN
  repeat' split
  all_goals simp
theorem oneN_byte (r : Int) : ∀ x ∈ oneN r, 0 ≤ x ∧ x < 256 := by
  unfold oneN
  intro x hx
  repeat' split at hx
  all_goals simp only [List.mem_cons, List.mem_nil_iff, or_false] at hx
  all_goals omega
def encN (l : List Int) : List Int := l.flatMap oneN
theorem encN_byte (l : List Int) : ∀ x ∈ encN l, 0 ≤ x ∧ x < 256 := by
  intro x hx
  obtain ⟨r, _, hr⟩ := List.mem_flatMap.1 hx
  exact oneN_byte r x hr
theorem encN_len (l : List Int) : (encN l).length ≤ 4 * l.length := by
  induction l with
  | nil => simp [encN]
  | cons r l ih =>
    have := oneN_len r
    simp only [encN, List.flatMap_cons, List.length_append, List.length_cons] at ih ⊢
    omega
theorem enc_l0 (l : List Int) (hl : l.length < 1000000) (hb : ∀ x ∈ l, -2147483648 ≤ x ∧ x < 2147483648) : ∀ (d k i : Nat) (acc : List Int), i + d = l.length → d < k → acc.length ≤ 4 * i →
    utf_Encode.l0 k acc l (l.length : Int) (i : Int) = some (acc ++ encN (l.drop i)) := by
  intro d
  induction d with
  | zero =>
    intro k i acc hd hk ha
    obtain ⟨k, rfl⟩ : ∃ m, k = m + 1 := ⟨k - 1, by omega⟩
    simp only [utf_Encode.l0]
    rw [if_neg (by omega), List.drop_eq_nil_of_le (by omega)]
    simp [encN]
  | succ d ih =>
    intro k i acc hd hk ha
    obtain ⟨k, rfl⟩ : ∃ m, k = m + 1 := ⟨k - 1, by omega⟩
    simp only [utf_Encode.l0]
    obtain ⟨b0, b1⟩ := hb _ (rd_mem l i (by omega))
    have hp := oneN_len (rd l i)
    rw [if_pos (by omega), if_pos (by omega), if_pos (by omega), one_eq _ b0 b1, Option.bind_some, if_pos (by omega), w64 (by omega) (by omega), rd_drop l i (by omega)]
    have := ih k (i + 1) (acc ++ oneN (rd l i)) (by omega) (by omega) (by rw [List.length_append]; omega)
    rw [show ((i + 1 : Nat) : Int) = (i : Int) + 1 by omega] at this
    rw [this]
    simp [encN, List.append_assoc]
theorem enc_eq (l : List Int) (hl : l.length < 1000000) (hb : ∀ x ∈ l, -2147483648 ≤ x ∧ x < 2147483648) (k : Nat) (hk : l.length < k) : utf_Encode.f k l = some (encN l) := by
  unfold utf_Encode.f
  have := enc_l0 l hl hb l.length k 0 [] (by omega) (by omega) (by simp)
  simpa using this

theorem same_rune_l0 (a b : List Int) (hab : a.length = b.length) (hl : a.length < 4611686018427387904) : ∀ (d k i : Nat), i + d = a.length → d < k →
    linguistbook_Same_rune.l0 k a b (i : Int) = some (decide (a.drop i = b.drop i)) := by
  intro d
  induction d with
  | zero =>
    intro k i hd hk
    obtain ⟨k, rfl⟩ : ∃ m, k = m + 1 := ⟨k - 1, by omega⟩
    simp only [linguistbook_Same_rune.l0]
    rw [if_neg (by omega), List.drop_eq_nil_of_le (by omega), List.drop_eq_nil_of_le (by omega)]; rfl
  | succ d ih =>
    intro k i hd hk
    obtain ⟨k, rfl⟩ : ∃ m, k = m + 1 := ⟨k - 1, by omega⟩
    simp only [linguistbook_Same_rune.l0]
    rw [if_pos (by omega), if_pos (by omega), if_pos (by omega), w64 (by omega) (by omega), rd_drop a i (by omega), rd_drop b i (by omega)]
    have := ih k (i + 1) (by omega) (by omega)
    by_cases h : rd a (i : Int) = rd b (i : Int)
    · rw [if_pos h, h]
      simp only [List.cons.injEq, true_and]
      exact this
    · rw [if_neg h]
      simp [h]
theorem same_rune_eq (a b : List Int) (hl : a.length < 4611686018427387904) (k : Nat) (hk : a.length < k) : linguistbook_Same_rune.f k a b = some (decide (a = b)) := by
  unfold linguistbook_Same_rune.f
  by_cases h : a.length = b.length
  · rw [if_pos (by omega)]
    exact same_rune_l0 a b h hl a.length k 0 (by omega) hk
  · rw [if_neg (by omega), decide_eq_false]
    intro e; exact h (by rw [e])

theorem runs_eq : ∃ K, ∀ k, K ≤ k → linguistlaw1_UtfRuns.f k = some true := by
  refine ⟨100, fun k hk => ?_⟩
  have h : linguistlaw1_UtfRuns.f 100 = some true := by decide +kernel
  exact at_rounds linguistlaw1_UtfRuns.mono hk h

theorem cuts_l0 (all own c : List Int) (en eh ea : Int) (hc : c.length ≤ 30) (hb : ∀ x ∈ c, 0 ≤ x ∧ x < 256) (hall : all.length ≤ 1000) (K : Nat) (hr : ∀ k, K ≤ k → linguistlaw1_UtfRuns.f k = some true) :
    ∀ (d k i : Nat) (acc : List Int) (n h a : Int), i + d = c.length → K + 2000 + d < k → acc.length ≤ 100 + 2 * i → St n h a → acc ++ (runN n h a (c.drop i)).1 = all → (runN n h a (c.drop i)).2 = (en, eh, ea) →
    linguistlaw1_UtfCuts.l0 k all acc own c (c.length : Int) (i : Int) en eh ea n h a = some true := by
  intro d
  induction d with
  | zero =>
    intro k i acc n h a hd hk ha s e1 e2
    obtain ⟨k, rfl⟩ : ∃ m, k = m + 1 := ⟨k - 1, by omega⟩
    simp only [linguistlaw1_UtfCuts.l0]
    rw [List.drop_eq_nil_of_le (by omega)] at e1 e2
    simp only [runN, List.append_nil] at e1
    simp only [runN, Prod.mk.injEq] at e2
    obtain ⟨rfl, rfl, rfl⟩ := e2
    rw [if_neg (by omega), same_rune_eq acc all (by omega) k (by omega), Option.bind_some, decide_eq_true e1, if_pos rfl, if_pos (by simp), hr k (by omega)]
    rfl
  | succ d ih =>
    intro k i acc n h a hd hk ha s e1 e2
    obtain ⟨k, rfl⟩ : ∃ m, k = m + 1 := ⟨k - 1, by omega⟩
    have hbb := hb _ (rd_mem c i (by omega))
    have hps := push_st n h a _ s hbb.1 hbb.2
    have hbs := beg_st _ hbb.1 hbb.2
    rw [rd_drop c i (by omega)] at e1 e2
    simp only [runN] at e1 e2
    simp only [linguistlaw1_UtfCuts.l0]
    rw [if_pos (by omega), if_pos (by omega), if_pos (by omega), push_eq n h a _ s hbb.1 hbb.2 k (by omega), Option.bind_some, if_neg (by omega), w64 (by omega) (by omega)]
    unfold utf_Decoder_Held.f
    rw [Option.bind_some]
    have go := ih k (i + 1) (acc ++ (pushN n h a (rd c (i : Int))).2.2.2) _ _ _ (by omega) (by omega) (by rw [List.length_append]; omega) hps.1 (by rw [List.append_assoc]; exact e1) e2
    by_cases c0 : h > 0
    · rw [decide_eq_true c0, if_neg (by simp), if_pos (by omega)]
      exact go
    · have hl : (pushN n h a (rd c (i : Int))).2.2.2.length ≤ 1 := by
        unfold pushN
        rw [if_pos (by omega)]
        exact hbs.2
      rw [decide_eq_false c0, if_pos (by simp), if_neg (by omega), if_pos (by omega)]
      exact go
theorem UtfCuts : linguistlaw1_UtfCuts.Pure := by
  intro l0 a1 h0 h0b h1 h2
  have w1 := wf64 h2
  obtain ⟨K, hr⟩ := runs_eq
  have t0 : l0.take ((mn (l0.length : Int) 30) : Int).toNat = l0.take 30 := by
    unfold mn
    split
    · rfl
    · rw [List.take_of_length_le (by omega), List.take_of_length_le (by omega)]
  have g0 : 0 ≤ mn (l0.length : Int) 30 ∧ mn (l0.length : Int) 30 ≤ (l0.length : Int) := by unfold mn; split <;> omega
  have n0 : (l0.take 30).length ≤ 30 := by rw [List.length_take]; omega
  have hb : ∀ x ∈ l0.take 30, 0 ≤ x ∧ x < 256 := fun x hx => wfu8 (h1 x (List.mem_of_mem_take hx))
  refine ⟨K + 5000, ?_⟩
  unfold linguistlaw1_UtfCuts.f
  rw [Option.bind_some, if_pos g0.1, if_pos g0.2, t0, if_pos (by simp only [List.length_nil]; omega), Option.bind_some, List.nil_append]
  generalize l0.take 30 = own at *
  obtain ⟨t, et, t0', t1⟩ := within_eq a1 0 (own.length : Int) w1.1 w1.2 (by omega) (by omega) (by omega)
  obtain ⟨m, rfl⟩ := Int.eq_ofNat_of_zero_le t0'
  have hbt : ∀ x ∈ own.take m, 0 ≤ x ∧ x < 256 := fun x hx => hb x (List.mem_of_mem_take hx)
  have hbd : ∀ x ∈ own.drop m, 0 ≤ x ∧ x < 256 := fun x hx => hb x (List.mem_of_mem_drop hx)
  have hlt : (own.take m).length ≤ 30 := by rw [List.length_take]; omega
  have s1 := run_st own 0 0 0 hb (Or.inl ⟨rfl, rfl, rfl⟩)
  have s2 := run_st (own.take m) 0 0 0 hbt (Or.inl ⟨rfl, rfl, rfl⟩)
  have ha := run_append (own.take m) (own.drop m) 0 0 0
  rw [List.take_append_drop] at ha
  rw [et, Option.bind_some, dec_eq own (by omega) hb _ (by omega), Option.bind_some, if_pos (by omega), if_pos t1, Int.toNat_natCast, dec_eq _ (by omega) hbt _ (by omega), Option.bind_some, Option.bind_some]
  exact cuts_l0 _ own (own.drop m) _ _ _ (by rw [List.length_drop]; omega) hbd (by omega) K hr (own.drop m).length _ 0 _ _ _ _ (by omega) (by rw [List.length_drop]; omega) (by omega) s2.1 (by rw [List.drop_zero, ha]) (by rw [List.drop_zero, ha])

end Go.Proofs.Ytnammlamdhpnpaa.Pure
