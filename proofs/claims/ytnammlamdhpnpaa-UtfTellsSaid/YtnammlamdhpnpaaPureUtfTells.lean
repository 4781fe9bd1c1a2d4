/- UtfTells: whatever the input, the law of chapter 1's answers returns true. -/
import Derived.Test.YtnammlamdhpnpaaGUtfTellsx7
import Derived.Test.YtnammlamdhpnpaaWSized
import Derived.Laws.BitsAllLaws
import Derived.Laws.Bits64
import Derived.Laws.BitsLemmas
namespace Go.Proofs.Ytnammlamdhpnpaa.PrintWords
/-- The printed row names it so. -/
theorem sized_ints : type_of% @Go.Proofs.YtnammlamdhpnpaaW.PrintWords.sized_ints := @Go.Proofs.YtnammlamdhpnpaaW.PrintWords.sized_ints
end Go.Proofs.Ytnammlamdhpnpaa.PrintWords
namespace Go.Proofs.Ytnammlamdhpnpaa.Pure
open Go Go.RowKit Go.Proofs.Ytnammlamdhpnpaa.GUtfTells Go.Proofs.YtnammlamdhpnpaaW.PrintWords Go.Proofs.YtnammlamdhpnpaaW.PrintLast
set_option linter.unusedVariables false
set_option linter.unusedSimpArgs false

theorem Ev.pos {α : Type} {c : Prop} [Decidable c] {f g : Nat → Option α} {r : α} (h : c) (e : Ev f r) : Ev (fun k => if c then f k else g k) r := by
  obtain ⟨K, e⟩ := e
  exact ⟨K, fun k hk => by show (if c then f k else g k) = some r; rw [if_pos h]; exact e k hk⟩
theorem Ev.neg {α : Type} {c : Prop} [Decidable c] {f g : Nat → Option α} {r : α} (h : ¬ c) (e : Ev g r) : Ev (fun k => if c then f k else g k) r := by
  obtain ⟨K, e⟩ := e
  exact ⟨K, fun k hk => by show (if c then f k else g k) = some r; rw [if_neg h]; exact e k hk⟩
theorem Ev.one {α : Type} {f : Nat → Option α} {r : α} (K : Nat) (h : ∀ k, K ≤ k → f k = some r) : Ev f r := ⟨K, h⟩
theorem w64 {x : Int} (h0 : -9223372036854775808 ≤ x) (h1 : x < 9223372036854775808) : wrap64 x = x := by
  unfold wrap64; omega
theorem wf64 {x : Int} (h : (Lit.int .i64 x).wf = true) : -9223372036854775808 ≤ x ∧ x < 9223372036854775808 := by
  simp [Lit.wf, IntKind.min, IntKind.max, IntKind.bits, IntKind.signed] at h
  omega
theorem wfu64 {x : Int} (h : (Lit.int .u64 x).wf = true) : 0 ≤ x ∧ x < 18446744073709551616 := by
  simp [Lit.wf, IntKind.min, IntKind.max, IntKind.bits, IntKind.signed] at h
  omega
theorem rd_drop (l : List Int) (i : Nat) (h : i < l.length) : l.drop i = rd l (i : Int) :: l.drop (i + 1) := by
  rw [List.drop_eq_getElem_cons h]
  simp [rd, List.getD, h]
theorem wf32 {x : Int} (h : (Lit.int .i32 x).wf = true) : -2147483648 ≤ x ∧ x < 2147483648 := by
  simp [Lit.wf, IntKind.min, IntKind.max, IntKind.bits, IntKind.signed] at h
  omega
theorem wfu8 {x : Int} (h : (Lit.int .u8 x).wf = true) : 0 ≤ x ∧ x < 256 := by
  simp [Lit.wf, IntKind.min, IntKind.max, IntKind.bits, IntKind.signed] at h
  omega
theorem w32 {x : Int} (h0 : -2147483648 ≤ x) (h1 : x < 2147483648) : wrap32 x = x := by
  unfold wrap32; omega
theorem rd_mem (l : List Int) (i : Nat) (h : i < l.length) : rd l (i : Int) ∈ l := by
  have h1 := rd_drop l i h
  exact List.mem_of_mem_drop (i := i) (by rw [h1]; exact List.mem_cons_self)

theorem wraps_i64 (n : Int) (h₀ : 0 ≤ n) (h₁ : n < 2 ^ 62) : IntKind.i64.wrap n = n := by rw [IntKind.wrap_i64]; omega
theorem i64_or_nat (a b : Nat) (ha : a < 2 ^ 62) (hb : b < 2 ^ 62) : Go.bits .or .i64 (a : Int) (b : Int) = ((a ||| b : Nat) : Int) :=
  (bits_nat .i64 62 (by decide) wraps_i64 a b ha hb).2
theorem i64_and_nat (a b : Nat) (ha : a < 2 ^ 62) (hb : b < 2 ^ 62) : Go.bits .and .i64 (a : Int) (b : Int) = ((a &&& b : Nat) : Int) :=
  (bits_nat .i64 62 (by decide) wraps_i64 a b ha hb).1
theorem or64 (a c : Int) (a0 : 0 ≤ a) (a1 : a < 16777216) (c0 : 0 ≤ c) (c1 : c < 64) : Go.bits .or .i64 (a * 64) c = a * 64 + c := by
  obtain ⟨m, rfl⟩ := Int.eq_ofNat_of_zero_le a0
  obtain ⟨n, rfl⟩ := Int.eq_ofNat_of_zero_le c0
  have h := i64_or_nat (m * 64) n (by omega) (by omega)
  rw [show ((m * 64 : Nat) : Int) = (m : Int) * 64 by omega] at h
  rw [h]
  have e := Nat.two_pow_add_eq_or_of_lt (i := 6) (b := n) (by omega) m
  rw [Nat.mul_comm m 64, show 64 = 2 ^ 6 from rfl, ← e]
  omega
theorem and63 (x : Int) (x0 : 0 ≤ x) (x1 : x < 2147483648) : Go.bits .and .i64 x 63 = x % 64 := by
  obtain ⟨m, rfl⟩ := Int.eq_ofNat_of_zero_le x0
  have h := i64_and_nat m 63 (by omega) (by omega)
  rw [show ((63 : Nat) : Int) = 63 from rfl] at h
  rw [h, show m &&& 63 = m % 64 from Nat.and_two_pow_sub_one_eq_mod m 6]
  omega
/-- What a byte begins. -/
def begN (b : Int) : Int × Int × Int × List Int :=
  if b < 128 then (0, 0, 0, [b]) else if b < 194 then (0, 0, 0, [65533]) else if b ≤ 223 then (1, 1, b - 192, []) else if b ≤ 239 then (2, 1, b - 224, []) else if b ≤ 244 then (3, 1, b - 240, []) else (0, 0, 0, [65533])
theorem beg_all : (List.range 256).all (fun n => decide (utf_begin.f 4 (n : Int) = some (begN (n : Int)))) = true := by decide +kernel
theorem byte_all : (List.range 256).all (fun n => decide (Go.bits .and .u8 (n : Int) 63 = (n : Int) % 64) && decide (Go.bits .and .u8 (n : Int) 127 = (n : Int) % 128) && (decide (Go.bits .and .u8 (n : Int) 192 = 128) == (decide (128 ≤ n) && decide (n ≤ 191)))) = true := by decide +kernel
theorem beg_eq (b : Int) (b0 : 0 ≤ b) (b1 : b < 256) (k : Nat) (hk : 4 ≤ k) : utf_begin.f k b = some (begN b) := by
  obtain ⟨m, rfl⟩ := Int.eq_ofNat_of_zero_le b0
  exact at_rounds (utf_begin.mono _) hk (of_decide_eq_true ((List.all_eq_true.1 beg_all) m (List.mem_range.2 (by omega))))
theorem byte63 (b : Int) (b0 : 0 ≤ b) (b1 : b < 256) : Go.bits .and .u8 b 63 = b % 64 := by
  obtain ⟨m, rfl⟩ := Int.eq_ofNat_of_zero_le b0
  have h := (List.all_eq_true.1 byte_all) m (List.mem_range.2 (by omega))
  simp only [Bool.and_eq_true, decide_eq_true_eq] at h
  exact h.1.1
theorem byte127 (b : Int) (b0 : 0 ≤ b) (b1 : b < 256) : Go.bits .and .u8 b 127 = b % 128 := by
  obtain ⟨m, rfl⟩ := Int.eq_ofNat_of_zero_le b0
  have h := (List.all_eq_true.1 byte_all) m (List.mem_range.2 (by omega))
  simp only [Bool.and_eq_true, decide_eq_true_eq] at h
  exact h.1.2
theorem byte192 (b : Int) (b0 : 0 ≤ b) (b1 : b < 256) : Go.bits .and .u8 b 192 = 128 ↔ 128 ≤ b ∧ b ≤ 191 := by
  obtain ⟨m, rfl⟩ := Int.eq_ofNat_of_zero_le b0
  have h := (List.all_eq_true.1 byte_all) m (List.mem_range.2 (by omega))
  simp only [Bool.and_eq_true, decide_eq_true_eq, beq_iff_eq] at h
  have h2 := h.2
  constructor
  · intro e
    rw [decide_eq_true e] at h2
    have := h2.symm
    simp at this
    omega
  · intro e
    rw [decide_eq_true (by omega : 128 ≤ m), decide_eq_true (by omega : m ≤ 191)] at h2
    simpa using h2
/-- May a rune be of a sequence of so many bytes? -/
def wholeN (a h : Int) : Bool := decide ((if h = 2 then 128 else if h = 3 then 2048 else 65536) ≤ a) && decide (a ≤ 1114111) && (decide (a < 55296) || decide (57343 < a))
theorem whole_eq (a h : Int) (h0 : 2 ≤ h) (h1 : h ≤ 4) : utf_whole.f a h = some (wholeN a h) := by
  unfold utf_whole.f wholeN
  rw [Option.bind_some, if_pos (by omega), if_pos (by simp only [List.length_cons, List.length_nil]; omega)]
  have e : rd [0, 0, 128, 2048, 65536] h = if h = 2 then 128 else if h = 3 then 2048 else 65536 := by
    rcases (by omega : h = 2 ∨ h = 3 ∨ h = 4) with rfl | rfl | rfl <;> rfl
  rw [e]
  generalize (if h = 2 then (128 : Int) else if h = 3 then 2048 else 65536) = L
  by_cases c1 : L ≤ a
  · rw [if_pos c1, decide_eq_true c1]
    by_cases c2 : a ≤ 1114111
    · rw [if_pos c2, decide_eq_true c2]
      by_cases c3 : a < 55296
      · rw [if_pos c3, decide_eq_true c3]; rfl
      · rw [if_neg c3, decide_eq_false c3]; rfl
    · rw [if_neg c2, decide_eq_false c2]; simp
  · rw [if_neg c1, decide_eq_false c1]; rfl
/-- May the decoder stand so? -/
def St (n h a : Int) : Prop := (n = 0 ∧ h = 0 ∧ a = 0) ∨ (1 ≤ n ∧ 1 ≤ h ∧ n + h ≤ 4 ∧ 0 ≤ a ∧ (h = 1 → a < 32) ∧ (h = 2 → a < 2048) ∧ (h = 3 → a < 131072))
/-- What the decoder does with a byte. -/
def pushN (n h a b : Int) : Int × Int × Int × List Int :=
  if h ≤ 0 then begN b else if b < 128 ∨ 191 < b then ((begN b).1, (begN b).2.1, (begN b).2.2.1, 65533 :: (begN b).2.2.2) else if 1 < n then (n - 1, h + 1, a * 64 + b % 64, [])
  else if wholeN (a * 64 + b % 64) (h + 1) then (0, 0, 0, [a * 64 + b % 64]) else (0, 0, 0, [65533])
theorem beg_st (b : Int) (b0 : 0 ≤ b) (b1 : b < 256) : St (begN b).1 (begN b).2.1 (begN b).2.2.1 ∧ (begN b).2.2.2.length ≤ 1 := by
  unfold begN St
  repeat' split
  all_goals simp
  all_goals omega
theorem push_st (n h a b : Int) (s : St n h a) (b0 : 0 ≤ b) (b1 : b < 256) : St (pushN n h a b).1 (pushN n h a b).2.1 (pushN n h a b).2.2.1 ∧ (pushN n h a b).2.2.2.length ≤ 2 := by
  have hb := beg_st b b0 b1
  unfold pushN
  split
  · exact ⟨hb.1, by omega⟩
  · split
    · exact ⟨hb.1, by simp only [List.length_cons]; omega⟩
    · unfold St at s
      split
      · refine ⟨?_, by simp⟩
        rcases s with s | ⟨s1, s2, s3, s4, s5, s6, s7⟩
        · omega
        · right
          simp only
          rcases (by omega : h = 1 ∨ h = 2 ∨ h = 3) with rfl | rfl | rfl
          · have := s5 rfl; omega
          · have := s6 rfl; omega
          · omega
      · split <;> exact ⟨Or.inl ⟨rfl, rfl, rfl⟩, by simp⟩
theorem push_eq (n h a b : Int) (s : St n h a) (b0 : 0 ≤ b) (b1 : b < 256) (k : Nat) (hk : 4 ≤ k) : utf_Decoder_Push.f k n h a b = some (pushN n h a b) := by
  have hb := beg_st b b0 b1
  have hw : wrap64 b = b := w64 (by omega) (by omega)
  unfold utf_Decoder_Push.f pushN utf_Decoder_Held.f
  rw [Option.bind_some, beg_eq b b0 b1 k hk]
  by_cases c : 0 < h
  · rw [decide_eq_true c, if_pos rfl, if_neg (by omega : ¬ h ≤ 0)]
    unfold St at s
    rcases s with s | ⟨s1, s2, s3, s4, s5, s6, s7⟩
    · omega
    · by_cases c1 : b < 128
      · rw [if_pos c1, if_pos (Or.inl c1), Option.bind_some, Option.bind_some, if_pos (by simp only [List.length_cons, List.length_nil]; omega)]; rfl
      · rw [if_neg c1]
        by_cases c2 : b > 191
        · rw [if_pos c2, if_pos (Or.inr c2), Option.bind_some, Option.bind_some, if_pos (by simp only [List.length_cons, List.length_nil]; omega)]; rfl
        · have ha : a < 16777216 := by
            rcases (by omega : h = 1 ∨ h = 2 ∨ h = 3) with rfl | rfl | rfl
            · have := s5 rfl; omega
            · have := s6 rfl; omega
            · have := s7 rfl; omega
          rw [if_neg c2, if_neg (by omega : ¬ (b < 128 ∨ 191 < b)), byte63 b b0 b1, w64 (x := b % 64) (by omega) (by omega), w64 (x := a * 64) (by omega) (by omega), or64 a (b % 64) s4 ha (by omega) (by omega), w64 (x := n - 1) (by omega) (by omega), w64 (x := h + 1) (by omega) (by omega)]
          by_cases c3 : 1 < n
          · rw [if_pos (by omega), if_pos c3]
          · rw [if_neg (by omega), if_neg c3, if_pos (by omega), whole_eq _ _ (by omega) (by omega), Option.bind_some]
            cases hwh : wholeN (a * 64 + b % 64) (h + 1) with
            | false => rw [if_neg (by simp), if_neg (by simp)]
            | true =>
              rw [if_pos rfl, if_pos rfl, w32]
              · unfold wholeN at hwh; simp at hwh; omega
              · unfold wholeN at hwh; simp at hwh; omega
  · rw [decide_eq_false c, if_neg (by simp), if_pos (by omega)]; rfl
/-- What the decoder makes of bytes. -/
def runN : Int → Int → Int → List Int → List Int × Int × Int × Int
  | n, h, a, [] => ([], n, h, a)
  | n, h, a, b :: bs => let p := pushN n h a b; let q := runN p.1 p.2.1 p.2.2.1 bs; (p.2.2.2 ++ q.1, q.2)
theorem dec_l0 (l : List Int) (hl : l.length < 1000000) (hb : ∀ x ∈ l, 0 ≤ x ∧ x < 256) : ∀ (d k i : Nat) (acc : List Int) (n h a : Int), i + d = l.length → 10 + d < k → acc.length ≤ 2 * i → St n h a →
    utf_Decode.l0 k acc l (l.length : Int) (i : Int) n h a = some (acc ++ (runN n h a (l.drop i)).1, (runN n h a (l.drop i)).2) := by
  intro d
  induction d with
  | zero =>
    intro k i acc n h a hd hk ha s
    obtain ⟨k, rfl⟩ : ∃ m, k = m + 1 := ⟨k - 1, by omega⟩
    simp only [utf_Decode.l0]
    rw [if_neg (by omega), List.drop_eq_nil_of_le (by omega)]
    simp [runN]
  | succ d ih =>
    intro k i acc n h a hd hk ha s
    obtain ⟨k, rfl⟩ : ∃ m, k = m + 1 := ⟨k - 1, by omega⟩
    simp only [utf_Decode.l0]
    obtain ⟨b0, b1⟩ := hb _ (rd_mem l i (by omega))
    have hp := push_st n h a _ s b0 b1
    rw [if_pos (by omega), if_pos (by omega), if_pos (by omega), push_eq n h a _ s b0 b1 k (by omega), Option.bind_some, if_pos (by omega), w64 (by omega) (by omega), rd_drop l i (by omega)]
    have := ih k (i + 1) (acc ++ (pushN n h a (rd l i)).2.2.2) _ _ _ (by omega) (by omega) (by rw [List.length_append]; omega) hp.1
    rw [show ((i + 1 : Nat) : Int) = (i : Int) + 1 by omega] at this
    rw [this]
    simp [runN, List.append_assoc]
theorem dec_eq (l : List Int) (hl : l.length < 1000000) (hb : ∀ x ∈ l, 0 ≤ x ∧ x < 256) (k : Nat) (hk : 10 + l.length < k) : utf_Decode.f k l = some (runN 0 0 0 l) := by
  unfold utf_Decode.f
  have := dec_l0 l hl hb l.length k 0 [] 0 0 0 (by omega) (by omega) (by simp) (Or.inl ⟨rfl, rfl, rfl⟩)
  simpa using this
theorem run_st : ∀ (l : List Int) (n h a : Int), (∀ x ∈ l, 0 ≤ x ∧ x < 256) → St n h a → St (runN n h a l).2.1 (runN n h a l).2.2.1 (runN n h a l).2.2.2 ∧ (runN n h a l).1.length ≤ 2 * l.length := by
  intro l
  induction l with
  | nil => intro n h a _ s; exact ⟨s, by simp [runN]⟩
  | cons b l ih =>
    intro n h a hb s
    have hb1 := hb b (List.mem_cons_self)
    have hp := push_st n h a b s hb1.1 hb1.2
    have := ih _ _ _ (fun x hx => hb x (List.mem_cons_of_mem _ hx)) hp.1
    simp only [runN, List.length_append, List.length_cons]
    exact ⟨this.1, by omega⟩
theorem run_append : ∀ (l m : List Int) (n h a : Int), runN n h a (l ++ m) = ((runN n h a l).1 ++ (runN (runN n h a l).2.1 (runN n h a l).2.2.1 (runN n h a l).2.2.2 m).1, (runN (runN n h a l).2.1 (runN n h a l).2.2.1 (runN n h a l).2.2.2 m).2) := by
  intro l
  induction l with
  | nil => intro m n h a; simp [runN]
  | cons b l ih =>
    intro m n h a
    simp only [List.cons_append, runN]
    rw [ih]
    simp [List.append_assoc]
/-- A rune's bytes. -/
def oneN (r : Int) : List Int := if r < 0 ∨ 1114111 < r ∨ (55296 ≤ r ∧ r ≤ 57343) then [239, 191, 189] else if r < 128 then [r] else if r < 2048 then [192 + r / 64, 128 + r % 64]
  else if r < 65536 then [224 + r / 4096, 128 + r / 64 % 64, 128 + r % 64] else [240 + r / 262144, 128 + r / 4096 % 64, 128 + r / 64 % 64, 128 + r % 64]
theorem one_eq (r : Int) (r0 : -2147483648 ≤ r) (r1 : r < 2147483648) : utf_one.f r = some (oneN r) := by
  unfold utf_one.f oneN
  rw [if_neg (by omega)]
  repeat' split
  all_goals rfl
theorem oneN_len (r : Int) : 1 ≤ (oneN r).length ∧ (oneN r).length ≤ 4 := by
  unfold oneN
  repeat' split
  all_goals simp
theorem oneN_byte (r : Int) : ∀ x ∈ oneN r, 0 ≤ x ∧ x < 256 := by
  unfold oneN
  intro x hx
  repeat' split at hx
  all_goals simp only [List.mem_cons, List.mem_nil_iff, or_false] at hx
  all_goals omega
def encN (l : List Int) : List Int := l.flatMap oneN
theorem encN_byte (l : List Int) : ∀ x ∈ encN l, 0 ≤ x ∧ x < 256 := by
  intro x hx
  obtain ⟨r, _, hr⟩ := List.mem_flatMap.1 hx
  exact oneN_byte r x hr
theorem encN_len (l : List Int) : (encN l).length ≤ 4 * l.length := by
  induction l with
  | nil => simp [encN]
  | cons r l ih =>
    have := oneN_len r
    simp only [encN, List.flatMap_cons, List.length_append, List.length_cons] at ih ⊢
    omega
theorem enc_l0 (l : List Int) (hl : l.length < 1000000) (hb : ∀ x ∈ l, -2147483648 ≤ x ∧ x < 2147483648) : ∀ (d k i : Nat) (acc : List Int), i + d = l.length → d < k → acc.length ≤ 4 * i →
    utf_Encode.l0 k acc l (l.length : Int) (i : Int) = some (acc ++ encN (l.drop i)) := by
  intro d
  induction d with
  | zero =>
    intro k i acc hd hk ha
    obtain ⟨k, rfl⟩ : ∃ m, k = m + 1 := ⟨k - 1, by omega⟩
    simp only [utf_Encode.l0]
    rw [if_neg (by omega), List.drop_eq_nil_of_le (by omega)]
    simp [encN]
  | succ d ih =>
    intro k i acc hd hk ha
    obtain ⟨k, rfl⟩ : ∃ m, k = m + 1 := ⟨k - 1, by omega⟩
    simp only [utf_Encode.l0]
    obtain ⟨b0, b1⟩ := hb _ (rd_mem l i (by omega))
    have hp := oneN_len (rd l i)
    rw [if_pos (by omega), if_pos (by omega), if_pos (by omega), one_eq _ b0 b1, Option.bind_some, if_pos (by omega), w64 (by omega) (by omega), rd_drop l i (by omega)]
    have := ih k (i + 1) (acc ++ oneN (rd l i)) (by omega) (by omega) (by rw [List.length_append]; omega)
    rw [show ((i + 1 : Nat) : Int) = (i : Int) + 1 by omega] at this
    rw [this]
    simp [encN, List.append_assoc]
theorem enc_eq (l : List Int) (hl : l.length < 1000000) (hb : ∀ x ∈ l, -2147483648 ≤ x ∧ x < 2147483648) (k : Nat) (hk : l.length < k) : utf_Encode.f k l = some (encN l) := by
  unfold utf_Encode.f
  have := enc_l0 l hl hb l.length k 0 [] (by omega) (by omega) (by simp)
  simpa using this

theorem f65_all : (List.range 256).all (fun n => (decide (Go.bits .and .i64 (n : Int) 31 = (n : Int) - 192) || !(decide (194 ≤ n) && decide (n ≤ 223))) && (decide (Go.bits .and .i64 (n : Int) 15 = (n : Int) - 224) || !(decide (224 ≤ n) && decide (n ≤ 239))) && (decide (Go.bits .and .i64 (n : Int) 7 = (n : Int) - 240) || !(decide (240 ≤ n) && decide (n ≤ 244)))) = true := by decide +kernel
theorem lead1 (b : Int) (h0 : 194 ≤ b) (h1 : b ≤ 223) : Go.bits .and .i64 b 31 = b - 192 := by
  obtain ⟨m, rfl⟩ := Int.eq_ofNat_of_zero_le (show 0 ≤ b by omega)
  have h := (List.all_eq_true.1 f65_all) m (List.mem_range.2 (by omega))
  simp only [Bool.and_eq_true, Bool.or_eq_true, decide_eq_true_eq] at h
  rcases h.1.1 with e | e
  · exact e
  · simp at e; omega
theorem lead2 (b : Int) (h0 : 224 ≤ b) (h1 : b ≤ 239) : Go.bits .and .i64 b 15 = b - 224 := by
  obtain ⟨m, rfl⟩ := Int.eq_ofNat_of_zero_le (show 0 ≤ b by omega)
  have h := (List.all_eq_true.1 f65_all) m (List.mem_range.2 (by omega))
  simp only [Bool.and_eq_true, Bool.or_eq_true, decide_eq_true_eq] at h
  rcases h.1.2 with e | e
  · exact e
  · simp at e; omega
theorem lead3 (b : Int) (h0 : 240 ≤ b) (h1 : b ≤ 244) : Go.bits .and .i64 b 7 = b - 240 := by
  obtain ⟨m, rfl⟩ := Int.eq_ofNat_of_zero_le (show 0 ≤ b by omega)
  have h := (List.all_eq_true.1 f65_all) m (List.mem_range.2 (by omega))
  simp only [Bool.and_eq_true, Bool.or_eq_true, decide_eq_true_eq] at h
  rcases h.2 with e | e
  · exact e
  · simp at e; omega
/-- What the document's own answer comes to from some place on, if it agrees with the decoder. -/
def Agrees (f : Nat → Option (List Int × Int)) (N : Nat) (acc : List Int) (q : List Int × Int × Int × Int) : Prop :=
  ∃ left : Int, (0 < left ↔ 0 < q.2.2.1) ∧ ∀ k, N ≤ k → f k = some (acc ++ q.1, left)
/-- From a place on the document's own answer is the decoder's. -/
def Told (l : List Int) (j : Nat) : Prop := ∀ acc : List Int, acc.length ≤ 2 * j → Agrees (fun k => linguistref1_Decode.l0 k l acc (j : Int)) (20 + 20 * (l.length - j)) acc (runN 0 0 0 (l.drop j))
/-- A rune, or Bad, at once: the rest is told already. -/
theorem ref_one (l : List Int) (hl : l.length < 1000000) (i : Nat) (hi : i < l.length) (ih : ∀ j, i < j → j ≤ l.length → Told l j) (acc : List Int) (ha : acc.length ≤ 2 * i) (h : Nat) (x : Int) (h1 : 1 ≤ h) (h2 : i + h ≤ l.length)
    (q : List Int × Int × Int × Int) (hq : q = (x :: (runN 0 0 0 (l.drop (i + h))).1, (runN 0 0 0 (l.drop (i + h))).2)) :
    ∃ left : Int, (0 < left ↔ 0 < q.2.2.1) ∧ ∀ k, 20 * (l.length - i) ≤ k → linguistref1_Decode.l0 k l (acc ++ [x]) (wrap64 ((i : Int) + (h : Int))) = some (acc ++ q.1, left) := by
  obtain ⟨left, hlf, hk⟩ := ih (i + h) (by omega) h2 (acc ++ [x]) (by rw [List.length_append, List.length_singleton]; omega)
  subst hq
  refine ⟨left, hlf, fun k hk2 => ?_⟩
  have := hk k (by omega)
  rw [w64 (by omega) (by omega), show (i : Int) + (h : Int) = ((i + h : Nat) : Int) by omega]
  simpa [List.append_assoc] using this
theorem push_go (nd h : Nat) (n b : Int) (h1 : 1 ≤ h) (h2 : h ≤ nd) (c0 : 128 ≤ b) (c1 : b ≤ 191) : pushN ((nd - h + 1 : Nat) : Int) (h : Int) n b =
    if h < nd then (((nd - h : Nat) : Int), ((h + 1 : Nat) : Int), n * 64 + b % 64, []) else if wholeN (n * 64 + b % 64) ((h : Int) + 1) then (0, 0, 0, [n * 64 + b % 64]) else (0, 0, 0, [65533]) := by
  unfold pushN
  rw [if_neg (by omega), if_neg (by omega)]
  by_cases hlt : h < nd
  · rw [if_pos (by omega), if_pos hlt, show ((nd - h + 1 : Nat) : Int) - 1 = ((nd - h : Nat) : Int) by omega]
    rfl
  · rw [if_neg (by omega), if_neg hlt]
theorem push_broken (n h a b : Int) (h1 : 1 ≤ h) (c : ¬ (128 ≤ b ∧ b ≤ 191)) : pushN n h a b = ((begN b).1, (begN b).2.1, (begN b).2.2.1, 65533 :: (begN b).2.2.2) := by
  unfold pushN
  rw [if_neg (by omega), if_pos (by omega)]
theorem push_zero (b : Int) : pushN 0 0 0 b = begN b := by
  unfold pushN
  rw [if_pos (by omega)]
theorem ref_step (l : List Int) (hl : l.length < 1000000) (acc : List Int) (i h nd : Nat) (n : Int) (hh : i + h < l.length) (h1 : h ≤ nd) (h3 : nd ≤ 3) (n0 : 0 ≤ n) (n1 : n < 16777216)
    (x0 : 0 ≤ rd l ((i + h : Nat) : Int)) (x1 : rd l ((i + h : Nat) : Int) < 256) (c0 : 128 ≤ rd l ((i + h : Nat) : Int)) (c1 : rd l ((i + h : Nat) : Int) ≤ 191) (k : Nat) :
    linguistref1_Decode.l1 (k + 1) l acc (i : Int) n (nd : Int) (h : Int) = linguistref1_Decode.l1 k l acc (i : Int) (n * 64 + rd l ((i + h : Nat) : Int) % 64) (nd : Int) ((h + 1 : Nat) : Int) := by
  have e1 : wrap64 ((i : Int) + (h : Int)) = ((i + h : Nat) : Int) := by rw [w64 (by omega) (by omega)]; omega
  have e2 : wrap64 ((h : Int) + 1) = ((h + 1 : Nat) : Int) := by rw [w64 (by omega) (by omega)]; omega
  have hm := (byte192 _ x0 x1).2 ⟨c0, c1⟩
  have h63 := byte63 _ x0 x1
  simp only [linguistref1_Decode.l1]
  rw [e1, e2]
  generalize rd l ((i + h : Nat) : Int) = b at *
  rw [if_pos (by omega), if_pos (by omega), if_pos (by omega), if_pos hm, h63, w64 (x := n * 64) (by omega) (by omega), w64 (x := b % 64) (by omega) (by omega), or64 n _ n0 n1 (by omega) (by omega)]
theorem ref_whole (l : List Int) (hl : l.length < 1000000) (acc : List Int) (i h : Nat) (ha : acc.length ≤ 2 * i) (hi : i < l.length) (h1 : 1 ≤ h) (h3 : h ≤ 3) (A : Int) (a0 : 0 ≤ A) (a1 : A < 1073741824) (k : Nat) :
    linguistref1_Decode.l1 (k + 3) l acc (i : Int) A (h : Int) ((h + 1 : Nat) : Int) = linguistref1_Decode.l0 k l (acc ++ [if wholeN A ((h : Int) + 1) then A else 65533]) (wrap64 ((i : Int) + ((h + 1 : Nat) : Int))) := by
  have elow : rd [0, 128, 2048, 65536] (h : Int) = if (h : Int) + 1 = 2 then 128 else if (h : Int) + 1 = 3 then 2048 else 65536 := by
    rcases (by omega : h = 1 ∨ h = 2 ∨ h = 3) with rfl | rfl | rfl <;> rfl
  simp only [linguistref1_Decode.l1]
  rw [if_neg (by omega)]
  simp only [linguistref1_Decode.j5]
  rw [if_neg (by omega)]
  simp only [linguistref1_Decode.j6]
  rw [if_neg (by simp), Option.bind_some, if_pos (by omega), if_pos (by simp only [List.length_cons, List.length_nil]; omega), if_neg (by omega), elow]
  unfold wholeN
  generalize (if (h : Int) + 1 = 2 then (128 : Int) else if (h : Int) + 1 = 3 then 2048 else 65536) = L
  by_cases c1 : A < L
  · rw [decide_eq_false (by omega : ¬ L ≤ A), if_pos c1, if_pos (by omega)]
    rfl
  · rw [decide_eq_true (by omega : L ≤ A), if_neg c1]
    by_cases c2 : A > 1114111
    · rw [decide_eq_false (by omega : ¬ A ≤ 1114111), if_pos c2, if_pos (by omega)]
      rfl
    · rw [decide_eq_true (by omega : A ≤ 1114111), if_neg c2]
      by_cases c3 : A ≥ 55296
      · rw [decide_eq_false (by omega : ¬ A < 55296), if_pos c3]
        by_cases c4 : A ≤ 57343
        · rw [decide_eq_false (by omega : ¬ 57343 < A), if_pos c4, if_pos (by omega)]
          rfl
        · rw [decide_eq_true (by omega : 57343 < A), if_neg c4, if_pos (by omega), w32 (by omega) (by omega)]
          rfl
      · rw [decide_eq_true (by omega : A < 55296), if_neg c3, if_pos (by omega), w32 (by omega) (by omega)]
        rfl
theorem ref_broken (l : List Int) (hl : l.length < 1000000) (acc : List Int) (i h nd : Nat) (n : Int) (ha : acc.length ≤ 2 * i) (hh : i + h < l.length) (h1 : h ≤ nd) (h3 : nd ≤ 3)
    (x0 : 0 ≤ rd l ((i + h : Nat) : Int)) (x1 : rd l ((i + h : Nat) : Int) < 256) (c : ¬ (128 ≤ rd l ((i + h : Nat) : Int) ∧ rd l ((i + h : Nat) : Int) ≤ 191)) (k : Nat) :
    linguistref1_Decode.l1 (k + 3) l acc (i : Int) n (nd : Int) (h : Int) = linguistref1_Decode.l0 k l (acc ++ [65533]) (wrap64 ((i : Int) + (h : Int))) := by
  have e1 : wrap64 ((i : Int) + (h : Int)) = ((i + h : Nat) : Int) := by rw [w64 (by omega) (by omega)]; omega
  have hm : ¬ Go.bits .and .u8 (rd l ((i + h : Nat) : Int)) 192 = 128 := fun e => c ((byte192 _ x0 x1).1 e)
  simp only [linguistref1_Decode.l1]
  rw [e1, if_pos (by omega), if_pos (by omega), if_pos (by omega), if_neg hm]
  simp only [linguistref1_Decode.j5]
  rw [if_pos (by omega), e1]
  simp only [linguistref1_Decode.j6]
  rw [if_neg (by rw [beq_iff_eq]; omega), Option.bind_some, if_pos (by omega), if_pos (by simp only [List.length_cons, List.length_nil]; omega), if_pos (by omega), if_pos (by omega), e1]
theorem ref_left (l : List Int) (hl : l.length < 1000000) (acc : List Int) (i h nd : Nat) (n : Int) (hi : i < l.length) (hh : i + h = l.length) (h1 : h ≤ nd) (h3 : nd ≤ 3) (k : Nat) :
    linguistref1_Decode.l1 (k + 3) l acc (i : Int) n (nd : Int) (h : Int) = some (acc, (l.length : Int) - (i : Int)) := by
  have e1 : wrap64 ((i : Int) + (h : Int)) = (l.length : Int) := by rw [w64 (by omega) (by omega)]; omega
  simp only [linguistref1_Decode.l1]
  rw [e1, if_pos (by omega), if_neg (by omega)]
  simp only [linguistref1_Decode.j5]
  rw [if_pos (by omega), e1]
  simp only [linguistref1_Decode.j6]
  rw [if_pos (by rw [beq_iff_eq]), w64 (by omega) (by omega)]
theorem ref_seq (l : List Int) (hl : l.length < 1000000) (hb : ∀ x ∈ l, 0 ≤ x ∧ x < 256) (i : Nat) (hi : i < l.length) (ih : ∀ j, i < j → j ≤ l.length → Told l j) (acc : List Int) (ha : acc.length ≤ 2 * i) :
    ∀ (e : Nat) (h nd : Nat) (n : Int), 1 ≤ h → h ≤ nd → nd ≤ 3 → i + h + e = l.length → St ((nd - h + 1 : Nat) : Int) (h : Int) n →
      Agrees (fun k => linguistref1_Decode.l1 k l acc (i : Int) n (nd : Int) (h : Int)) (20 * (l.length - i) + 4 + (nd - h)) acc (runN ((nd - h + 1 : Nat) : Int) (h : Int) n (l.drop (i + h))) := by
  intro e
  induction e with
  | zero =>
    intro h nd n h1 h2 h3 hh s
    refine ⟨(l.length : Int) - (i : Int), ?_, fun k hk => ?_⟩
    · rw [List.drop_eq_nil_of_le (by omega)]; simp only [runN]; omega
    · obtain ⟨k, rfl⟩ : ∃ m, k = m + 3 := ⟨k - 3, by omega⟩
      show linguistref1_Decode.l1 (k + 3) l acc (i : Int) n (nd : Int) (h : Int) = _
      rw [ref_left l hl acc i h nd n hi (by omega) h2 h3, List.drop_eq_nil_of_le (by omega)]
      simp [runN]
  | succ e ihe =>
    intro h nd n h1 h2 h3 hh s
    have s0 := s
    have hbb := hb _ (rd_mem l (i + h) (by omega))
    have hps := push_st ((nd - h + 1 : Nat) : Int) (h : Int) n _ s0 hbb.1 hbb.2
    obtain ⟨n0, n1⟩ : 0 ≤ n ∧ n < 131072 := by
      unfold St at s
      rcases s with s | ⟨s1, s2, s3, s4, s5, s6, s7⟩
      · omega
      · refine ⟨s4, ?_⟩
        rcases (by omega : h = 1 ∨ h = 2 ∨ h = 3) with rfl | rfl | rfl
        · have := s5 rfl; omega
        · have := s6 rfl; omega
        · have := s7 rfl; omega
    clear s s0
    rw [rd_drop l (i + h) (by omega)]
    by_cases hc : 128 ≤ rd l ((i + h : Nat) : Int) ∧ rd l ((i + h : Nat) : Int) ≤ 191
    · have hp := push_go nd h n (rd l ((i + h : Nat) : Int)) h1 h2 hc.1 hc.2
      have step := ref_step l hl acc i h nd n (by omega) h2 h3 n0 (by omega) hbb.1 hbb.2 hc.1 hc.2
      have hA0 : 0 ≤ n * 64 + rd l ((i + h : Nat) : Int) % 64 := by omega
      have hA1 : n * 64 + rd l ((i + h : Nat) : Int) % 64 < 16777216 := by omega
      generalize n * 64 + rd l ((i + h : Nat) : Int) % 64 = A at *
      by_cases hlt : h < nd
      · rw [if_pos hlt] at hp
        rw [hp] at hps
        have hk := ihe (h + 1) nd A (by omega) (by omega) h3 (by omega) (by rw [show nd - (h + 1) + 1 = nd - h by omega]; exact hps.1)
        rw [show nd - (h + 1) + 1 = nd - h by omega, show i + (h + 1) = i + h + 1 by omega] at hk
        obtain ⟨left, hlf, hk⟩ := hk
        simp only [runN]
        rw [hp]
        refine ⟨left, by simpa using hlf, fun k hk2 => ?_⟩
        obtain ⟨k, rfl⟩ : ∃ m, k = m + 1 := ⟨k - 1, by omega⟩
        show linguistref1_Decode.l1 (k + 1) l acc (i : Int) n (nd : Int) (h : Int) = _
        rw [step k]
        have := hk k (by omega)
        simpa using this
      · rw [if_neg hlt] at hp
        obtain rfl : h = nd := by omega
        have hx : (runN ((h - h + 1 : Nat) : Int) (h : Int) n (rd l ((i + h : Nat) : Int) :: l.drop (i + h + 1))) = ((if wholeN A ((h : Int) + 1) then A else 65533) :: (runN 0 0 0 (l.drop (i + (h + 1)))).1, (runN 0 0 0 (l.drop (i + (h + 1)))).2) := by
          simp only [runN]
          rw [hp]
          split <;> rfl
        rw [hx]
        obtain ⟨left, hlf, hk⟩ := ref_one l hl i hi ih acc ha (h + 1) (if wholeN A ((h : Int) + 1) then A else 65533) (by omega) (by omega) _ rfl
        refine ⟨left, hlf, fun k hk2 => ?_⟩
        obtain ⟨k, rfl⟩ : ∃ m, k = m + 4 := ⟨k - 4, by omega⟩
        show linguistref1_Decode.l1 (k + 3 + 1) l acc (i : Int) n (h : Int) (h : Int) = _
        rw [step (k + 3), ref_whole l hl acc i h ha hi h1 h3 A hA0 (by omega) k]
        exact hk k (by omega)
    · have hx : (runN ((nd - h + 1 : Nat) : Int) (h : Int) n (rd l ((i + h : Nat) : Int) :: l.drop (i + h + 1))) = (65533 :: (runN 0 0 0 (l.drop (i + h))).1, (runN 0 0 0 (l.drop (i + h))).2) := by
        rw [rd_drop l (i + h) (by omega)]
        simp only [runN]
        rw [push_broken _ _ _ _ (by omega) hc, push_zero]
        rfl
      rw [hx]
      obtain ⟨left, hlf, hk⟩ := ref_one l hl i hi ih acc ha h 65533 h1 (by omega) _ rfl
      refine ⟨left, hlf, fun k hk2 => ?_⟩
      obtain ⟨k, rfl⟩ : ∃ m, k = m + 3 := ⟨k - 3, by omega⟩
      show linguistref1_Decode.l1 (k + 3) l acc (i : Int) n (nd : Int) (h : Int) = _
      rw [ref_broken l hl acc i h nd n ha (by omega) h2 h3 hbb.1 hbb.2 hc k]
      exact hk k (by omega)
theorem ref_l0 (l : List Int) (acc : List Int) (i : Nat) (hi : i < l.length) (ha : acc.length ≤ 2 * i) (hl : l.length < 1000000) (b0 : 0 ≤ rd l (i : Int)) (b1 : rd l (i : Int) < 256) (k : Nat) :
    linguistref1_Decode.l0 (k + 4) l acc (i : Int) = if rd l (i : Int) < 128 then linguistref1_Decode.l0 (k + 3) l (acc ++ [rd l (i : Int)]) (wrap64 ((i : Int) + 1)) else
      if rd l (i : Int) < 194 then linguistref1_Decode.l0 (k + 1) l (acc ++ [65533]) (wrap64 ((i : Int) + 1)) else
      if rd l (i : Int) ≤ 223 then linguistref1_Decode.l1 (k + 1) l acc (i : Int) (rd l (i : Int) - 192) 1 1 else
      if rd l (i : Int) ≤ 239 then linguistref1_Decode.l1 k l acc (i : Int) (rd l (i : Int) - 224) 2 1 else
      if rd l (i : Int) ≤ 244 then linguistref1_Decode.l1 k l acc (i : Int) (rd l (i : Int) - 240) 3 1 else linguistref1_Decode.l0 (k + 1) l (acc ++ [65533]) (wrap64 ((i : Int) + 1)) := by
  have hw : wrap64 (rd l (i : Int)) = rd l (i : Int) := w64 (by omega) (by omega)
  generalize hG : linguistref1_Decode.l0 (k + 1) l (acc ++ [65533]) (wrap64 ((i : Int) + 1)) = G
  simp only [linguistref1_Decode.l0]
  rw [hw, if_pos (by omega), if_pos (by omega)]
  generalize rd l (i : Int) = b at *
  by_cases c1 : b < 128
  · rw [if_pos c1, if_pos c1, if_pos (by omega), w32 (by omega) (by omega)]
  · rw [if_neg c1, if_neg c1]
    have j2 : ∀ v : Bool, linguistref1_Decode.j2 (k + 2) l acc (i : Int) b v = if v = true then linguistref1_Decode.l1 k l acc (i : Int) (Go.bits .and .i64 b 15) 2 1 else if b ≥ 240 then (if b ≤ 244 then linguistref1_Decode.l1 k l acc (i : Int) (Go.bits .and .i64 b 7) 3 1 else linguistref1_Decode.l0 (k + 1) l (acc ++ [65533]) (wrap64 ((i : Int) + 1))) else linguistref1_Decode.l0 (k + 1) l (acc ++ [65533]) (wrap64 ((i : Int) + 1)) := by
      intro v
      simp only [linguistref1_Decode.j2, linguistref1_Decode.j3]
      rw [if_pos (by omega : acc.length < 35184372088832)]
    by_cases c2 : b < 194
    · rw [if_neg (by omega), if_pos c2]
      simp only [linguistref1_Decode.j1]
      rw [if_neg (by simp), if_neg (by omega), j2, if_neg (by simp), if_neg (by omega), hG]
    · rw [if_pos (by omega), if_neg c2]
      by_cases c3 : b ≤ 223
      · rw [if_pos c3, decide_eq_true c3]
        simp only [linguistref1_Decode.j1, linguistref1_Decode.j3]
        rw [if_pos True.intro, lead1 b (by omega) c3]
      · rw [if_neg c3, decide_eq_false c3]
        simp only [linguistref1_Decode.j1]
        rw [if_neg (by simp), if_pos (by omega), j2]
        by_cases c4 : b ≤ 239
        · rw [decide_eq_true c4, if_pos rfl, if_pos c4, lead2 b (by omega) c4]
        · rw [decide_eq_false c4, if_neg (by simp), if_neg c4, if_pos (by omega)]
          by_cases c5 : b ≤ 244
          · rw [if_pos c5, if_pos c5, lead3 b (by omega) c5]
          · rw [if_neg c5, if_neg c5, hG]
theorem ref_all (l : List Int) (hl : l.length < 1000000) (hb : ∀ x ∈ l, 0 ≤ x ∧ x < 256) : ∀ (d i : Nat), i + d = l.length → Told l i := by
  intro d
  induction d using Nat.strongRecOn with
  | _ d ihd =>
    intro i hd acc ha
    by_cases he : d = 0
    · subst he
      refine ⟨0, ?_, fun k hk => ?_⟩
      · rw [List.drop_eq_nil_of_le (by omega)]; simp [runN]
      · obtain ⟨k, rfl⟩ : ∃ m, k = m + 1 := ⟨k - 1, by omega⟩
        simp only [linguistref1_Decode.l0]
        rw [if_neg (by omega), List.drop_eq_nil_of_le (by omega)]
        simp [runN]
    · have hi : i < l.length := by omega
      have ih : ∀ j, i < j → j ≤ l.length → Told l j := fun j h1 h2 => ihd (l.length - j) (by omega) j (by omega)
      obtain ⟨b0, b1⟩ := hb _ (rd_mem l i hi)
      have hz := ref_l0 l acc i hi ha hl b0 b1
      have hr : runN 0 0 0 (l.drop i) = (let p := begN (rd l (i : Int)); let q := runN p.1 p.2.1 p.2.2.1 (l.drop (i + 1)); (p.2.2.2 ++ q.1, q.2)) := by
        rw [rd_drop l i hi]
        simp only [runN]
        rw [push_zero]
      have once : ∀ x : Int, begN (rd l (i : Int)) = (0, 0, 0, [x]) → ∃ left : Int, (0 < left ↔ 0 < (runN 0 0 0 (l.drop i)).2.2.1) ∧ ∀ k, 20 * (l.length - i) ≤ k → linguistref1_Decode.l0 k l (acc ++ [x]) (wrap64 ((i : Int) + 1)) = some (acc ++ (runN 0 0 0 (l.drop i)).1, left) := by
        intro x hx
        refine ref_one l hl i hi ih acc ha 1 x (by omega) (by omega) _ ?_
        rw [hr, hx]
        rfl
      have begun : ∀ (nd : Nat) (n : Int), 1 ≤ nd → nd ≤ 3 → 0 ≤ n → n < 32 → begN (rd l (i : Int)) = ((nd : Int), 1, n, []) → Agrees (fun k => linguistref1_Decode.l1 k l acc (i : Int) n (nd : Int) 1) (20 * (l.length - i) + 6) acc (runN 0 0 0 (l.drop i)) := by
        intro nd n g1 g2 g3 g4 hx
        obtain ⟨left, hlf, hk⟩ := ref_seq l hl hb i hi ih acc ha (l.length - i - 1) 1 nd n (by omega) g1 g2 (by omega) (Or.inr ⟨by omega, by omega, by omega, g3, fun _ => by omega, fun _ => by omega, fun _ => by omega⟩)
        have e : runN 0 0 0 (l.drop i) = runN ((nd - 1 + 1 : Nat) : Int) ((1 : Nat) : Int) n (l.drop (i + 1)) := by
          rw [hr, hx, show nd - 1 + 1 = nd by omega]
          rfl
        rw [e]
        exact ⟨left, hlf, fun k hk2 => hk k (by omega)⟩
      clear hr ihd hb
      unfold begN at once begun
      unfold Agrees at begun ⊢
      generalize runN 0 0 0 (l.drop i) = q at *
      generalize rd l (i : Int) = b at *
      by_cases c1 : b < 128
      · rw [if_pos c1] at once
        obtain ⟨left, hlf, hk⟩ := once b rfl
        refine ⟨left, hlf, fun k hk2 => ?_⟩
        obtain ⟨k, rfl⟩ : ∃ m, k = m + 4 := ⟨k - 4, by omega⟩
        show linguistref1_Decode.l0 (k + 4) l acc (i : Int) = _
        rw [hz, if_pos c1]
        exact hk _ (by omega)
      · rw [if_neg c1] at once begun
        by_cases c2 : b < 194
        · rw [if_pos c2] at once
          obtain ⟨left, hlf, hk⟩ := once 65533 rfl
          refine ⟨left, hlf, fun k hk2 => ?_⟩
          obtain ⟨k, rfl⟩ : ∃ m, k = m + 4 := ⟨k - 4, by omega⟩
          show linguistref1_Decode.l0 (k + 4) l acc (i : Int) = _
          rw [hz, if_neg c1, if_pos c2]
          exact hk _ (by omega)
        · rw [if_neg c2] at once begun
          by_cases c3 : b ≤ 223
          · rw [if_pos c3] at begun
            obtain ⟨left, hlf, hk⟩ := begun 1 (b - 192) (by omega) (by omega) (by omega) (by omega) rfl
            refine ⟨left, hlf, fun k hk2 => ?_⟩
            obtain ⟨k, rfl⟩ : ∃ m, k = m + 4 := ⟨k - 4, by omega⟩
            show linguistref1_Decode.l0 (k + 4) l acc (i : Int) = _
            rw [hz, if_neg c1, if_neg c2, if_pos c3]
            exact hk _ (by omega)
          · rw [if_neg c3] at once begun
            by_cases c4 : b ≤ 239
            · rw [if_pos c4] at begun
              obtain ⟨left, hlf, hk⟩ := begun 2 (b - 224) (by omega) (by omega) (by omega) (by omega) rfl
              refine ⟨left, hlf, fun k hk2 => ?_⟩
              obtain ⟨k, rfl⟩ : ∃ m, k = m + 4 := ⟨k - 4, by omega⟩
              show linguistref1_Decode.l0 (k + 4) l acc (i : Int) = _
              rw [hz, if_neg c1, if_neg c2, if_neg c3, if_pos c4]
              exact hk _ (by omega)
            · rw [if_neg c4] at once begun
              by_cases c5 : b ≤ 244
              · rw [if_pos c5] at begun
                obtain ⟨left, hlf, hk⟩ := begun 3 (b - 240) (by omega) (by omega) (by omega) (by omega) rfl
                refine ⟨left, hlf, fun k hk2 => ?_⟩
                obtain ⟨k, rfl⟩ : ∃ m, k = m + 4 := ⟨k - 4, by omega⟩
                show linguistref1_Decode.l0 (k + 4) l acc (i : Int) = _
                rw [hz, if_neg c1, if_neg c2, if_neg c3, if_neg c4, if_pos c5]
                exact hk _ (by omega)
              · rw [if_neg c5] at once
                obtain ⟨left, hlf, hk⟩ := once 65533 rfl
                refine ⟨left, hlf, fun k hk2 => ?_⟩
                obtain ⟨k, rfl⟩ : ∃ m, k = m + 4 := ⟨k - 4, by omega⟩
                show linguistref1_Decode.l0 (k + 4) l acc (i : Int) = _
                rw [hz, if_neg c1, if_neg c2, if_neg c3, if_neg c4, if_neg c5]
                exact hk _ (by omega)
theorem ref_eq (l : List Int) (hl : l.length < 1000000) (hb : ∀ x ∈ l, 0 ≤ x ∧ x < 256) : ∃ left : Int, (0 < left ↔ 0 < (runN 0 0 0 l).2.2.1) ∧ ∀ k, 20 + 20 * l.length ≤ k → linguistref1_Decode.f k l = some ((runN 0 0 0 l).1, left) := by
  obtain ⟨left, hlf, hk⟩ := ref_all l hl hb l.length 0 (by omega) [] (by simp)
  refine ⟨left, hlf, fun k hk2 => ?_⟩
  unfold linguistref1_Decode.f
  have := hk k (by omega)
  simpa using this

theorem orb_all : (List.range 64).all (fun n => decide ((Go.bits .or .i64 128 (n : Int)) % 256 = 128 + (n : Int)) && (decide ((Go.bits .or .i64 192 (n : Int)) % 256 = 192 + (n : Int)) || !(decide (n < 32))) && (decide ((Go.bits .or .i64 224 (n : Int)) % 256 = 224 + (n : Int)) || !(decide (n < 16))) && (decide ((Go.bits .or .i64 240 (n : Int)) % 256 = 240 + (n : Int)) || !(decide (n < 8)))) = true := by decide +kernel
theorem orb (y : Int) (h0 : 0 ≤ y) (h1 : y < 64) : (Go.bits .or .i64 128 y) % 256 = 128 + y ∧ (y < 32 → (Go.bits .or .i64 192 y) % 256 = 192 + y) ∧ (y < 16 → (Go.bits .or .i64 224 y) % 256 = 224 + y) ∧ (y < 8 → (Go.bits .or .i64 240 y) % 256 = 240 + y) := by
  obtain ⟨m, rfl⟩ := Int.eq_ofNat_of_zero_le h0
  have h := (List.all_eq_true.1 orb_all) m (List.mem_range.2 (by omega))
  simp only [Bool.and_eq_true, Bool.or_eq_true, decide_eq_true_eq, Bool.not_eq_true', decide_eq_false_iff_not] at h
  obtain ⟨⟨⟨a, b⟩, c⟩, d⟩ := h
  refine ⟨a, fun g => ?_, fun g => ?_, fun g => ?_⟩
  · rcases b with b | b
    · exact b
    · omega
  · rcases c with c | c
    · exact c
    · omega
  · rcases d with d | d
    · exact d
    · omega
theorem renc_bad (k : Nat) : linguistref1_Encode.f (k + 2) 65533 = some [239, 191, 189] := by
  have h : linguistref1_Encode.f 2 65533 = some [239, 191, 189] := by decide +kernel
  exact at_rounds (linguistref1_Encode.mono _) (by omega) h
theorem renc_j0 (x : Int) (k : Nat) (h0 : 0 ≤ x) (h1 : x ≤ 1114111) (h2 : ¬ (55296 ≤ x ∧ x ≤ 57343)) : linguistref1_Encode.j0 (k + 1) x false = some (oneN x) := by
  simp only [linguistref1_Encode.j0]
  unfold oneN
  rw [if_neg (show ¬ (false = true) by simp), if_neg (show ¬ (x < 0 ∨ 1114111 < x ∨ 55296 ≤ x ∧ x ≤ 57343) by omega)]
  by_cases c1 : x < 128
  · rw [if_pos c1, if_pos c1, Int.emod_eq_of_lt h0 (by omega)]
  · rw [if_neg c1, if_neg c1]
    have o0 := orb (x % 64) (by omega) (by omega)
    by_cases c2 : x < 2048
    · have o1 := orb (x / 64) (by omega) (by omega)
      rw [if_pos c2, if_pos c2, and63 x h0 (by omega), o0.1, o1.2.1 (by omega)]
    · rw [if_neg c2, if_neg c2]
      have o2 := orb (x / 64 % 64) (by omega) (by omega)
      by_cases c3 : x < 65536
      · have o1 := orb (x / 4096) (by omega) (by omega)
        rw [if_pos c3, if_pos c3, and63 x h0 (by omega), and63 (x / 64) (by omega) (by omega), o0.1, o2.1, o1.2.2.1 (by omega)]
      · have o1 := orb (x / 262144) (by omega) (by omega)
        have o3 := orb (x / 4096 % 64) (by omega) (by omega)
        rw [if_neg c3, if_neg c3, and63 x h0 (by omega), and63 (x / 64) (by omega) (by omega), and63 (x / 4096) (by omega) (by omega), o0.1, o2.1, o3.1, o1.2.2.2 (by omega)]
theorem renc_true (x : Int) (k : Nat) (h : x < 0 ∨ 1114111 < x ∨ (55296 ≤ x ∧ x ≤ 57343)) : linguistref1_Encode.j0 (k + 3) x true = some (oneN x) := by
  simp only [linguistref1_Encode.j0]
  unfold oneN
  rw [if_pos True.intro, renc_bad, Option.bind_some, if_pos h]
theorem renc_eq (x : Int) (k : Nat) (r0 : -2147483648 ≤ x) (r1 : x < 2147483648) : linguistref1_Encode.f (k + 4) x = some (oneN x) := by
  simp only [linguistref1_Encode.f]
  rw [w64 (by omega) (by omega)]
  by_cases c1 : x < 0
  · rw [if_pos c1]; exact renc_true x k (Or.inl c1)
  · rw [if_neg c1]
    by_cases c2 : x > 1114111
    · rw [if_pos c2]; exact renc_true x k (Or.inr (Or.inl c2))
    · rw [if_neg c2]
      by_cases c3 : x ≥ 55296
      · rw [if_pos c3]
        by_cases c4 : x ≤ 57343
        · rw [decide_eq_true c4]; exact renc_true x k (Or.inr (Or.inr ⟨c3, c4⟩))
        · rw [decide_eq_false c4]; exact renc_j0 x (k + 2) (by omega) (by omega) (by omega)
      · rw [if_neg c3]; exact renc_j0 x (k + 2) (by omega) (by omega) (by omega)

theorem same_rune_l0 (a b : List Int) (hab : a.length = b.length) (hl : a.length < 4611686018427387904) : ∀ (d k i : Nat), i + d = a.length → d < k →
    linguistbook_Same_rune.l0 k a b (i : Int) = some (decide (a.drop i = b.drop i)) := by
  intro d
  induction d with
  | zero =>
    intro k i hd hk
    obtain ⟨k, rfl⟩ : ∃ m, k = m + 1 := ⟨k - 1, by omega⟩
    simp only [linguistbook_Same_rune.l0]
    rw [if_neg (by omega), List.drop_eq_nil_of_le (by omega), List.drop_eq_nil_of_le (by omega)]; rfl
  | succ d ih =>
    intro k i hd hk
    obtain ⟨k, rfl⟩ : ∃ m, k = m + 1 := ⟨k - 1, by omega⟩
    simp only [linguistbook_Same_rune.l0]
    rw [if_pos (by omega), if_pos (by omega), if_pos (by omega), w64 (by omega) (by omega), rd_drop a i (by omega), rd_drop b i (by omega)]
    have := ih k (i + 1) (by omega) (by omega)
    by_cases h : rd a (i : Int) = rd b (i : Int)
    · rw [if_pos h, h]
      simp only [List.cons.injEq, true_and]
      exact this
    · rw [if_neg h]
      simp [h]
theorem same_rune_eq (a b : List Int) (hl : a.length < 4611686018427387904) (k : Nat) (hk : a.length < k) : linguistbook_Same_rune.f k a b = some (decide (a = b)) := by
  unfold linguistbook_Same_rune.f
  by_cases h : a.length = b.length
  · rw [if_pos (by omega)]
    exact same_rune_l0 a b h hl a.length k 0 (by omega) hk
  · rw [if_neg (by omega), decide_eq_false]
    intro e; exact h (by rw [e])

theorem same_byte_l0 (a b : List Int) (hab : a.length = b.length) (hl : a.length < 4611686018427387904) : ∀ (d k i : Nat), i + d = a.length → d < k →
    linguistbook_Same_byte.l0 k a b (i : Int) = some (decide (a.drop i = b.drop i)) := by
  intro d
  induction d with
  | zero =>
    intro k i hd hk
    obtain ⟨k, rfl⟩ : ∃ m, k = m + 1 := ⟨k - 1, by omega⟩
    simp only [linguistbook_Same_byte.l0]
    rw [if_neg (by omega), List.drop_eq_nil_of_le (by omega), List.drop_eq_nil_of_le (by omega)]; rfl
  | succ d ih =>
    intro k i hd hk
    obtain ⟨k, rfl⟩ : ∃ m, k = m + 1 := ⟨k - 1, by omega⟩
    simp only [linguistbook_Same_byte.l0]
    rw [if_pos (by omega), if_pos (by omega), if_pos (by omega), w64 (by omega) (by omega), rd_drop a i (by omega), rd_drop b i (by omega)]
    have := ih k (i + 1) (by omega) (by omega)
    by_cases h : rd a (i : Int) = rd b (i : Int)
    · rw [if_pos h, h]
      simp only [List.cons.injEq, true_and]
      exact this
    · rw [if_neg h]
      simp [h]
theorem same_byte_eq (a b : List Int) (hl : a.length < 4611686018427387904) (k : Nat) (hk : a.length < k) : linguistbook_Same_byte.f k a b = some (decide (a = b)) := by
  unfold linguistbook_Same_byte.f
  by_cases h : a.length = b.length
  · rw [if_pos (by omega)]
    exact same_byte_l0 a b h hl a.length k 0 (by omega) hk
  · rw [if_neg (by omega), decide_eq_false]
    intro e; exact h (by rw [e])

theorem roomy_l0 (l : List Int) (m : Int) (hl : l.length < 4611686018427387000) : ∀ (d k j : Nat), j + d = 80 → d < k →
    linguistbook_Roomy_rune.l0 k m (l ++ List.replicate j m ++ List.replicate d 0) (((l.length + j : Nat)) : Int) = some (l ++ List.replicate 80 m) := by
  intro d
  induction d with
  | zero =>
    intro k j hd hk
    obtain ⟨k, rfl⟩ : ∃ m, k = m + 1 := ⟨k - 1, by omega⟩
    obtain rfl : j = 80 := by omega
    simp only [linguistbook_Roomy_rune.l0]
    rw [if_neg (by simp only [List.length_append, List.length_replicate]; omega)]
    simp
  | succ d ih =>
    intro k j hd hk
    obtain ⟨k, rfl⟩ : ∃ m, k = m + 1 := ⟨k - 1, by omega⟩
    simp only [linguistbook_Roomy_rune.l0]
    rw [if_pos (by simp only [List.length_append, List.length_replicate]; omega), if_pos (by omega), w64 (by omega) (by omega)]
    have := ih k (j + 1) (by omega) (by omega)
    rw [show (((l.length + j : Nat) : Int) + 1) = ((l.length + (j + 1) : Nat) : Int) by omega, ← this]
    congr 1
    rw [Int.toNat_natCast]
    rw [List.set_append_right _ _ (by simp), List.length_append, List.length_replicate, Nat.sub_self, List.replicate_succ, List.set_cons_zero, List.replicate_succ', ← List.append_assoc l, List.append_assoc _ [m]]
    rfl
theorem roomy_eq (l : List Int) (m : Int) (hl : l.length < 1000000) (k : Nat) (hk : 80 < k) : linguistbook_Roomy_rune.f k l m = some (l ++ List.replicate 80 m) := by
  unfold linguistbook_Roomy_rune.f
  rw [w64 (by omega) (by omega), if_pos (by omega), if_pos (by omega), Option.bind_some, if_pos (by rw [List.length_replicate]; omega)]
  have e : cpy (List.replicate ((l.length : Int) + 80).toNat 0) 0 (List.replicate ((l.length : Int) + 80).toNat (0 : Int)).length l = l ++ List.replicate 0 m ++ List.replicate 80 0 := by
    unfold cpy
    rw [List.length_replicate, List.take_zero, List.nil_append, List.take_of_length_le (by omega), List.drop_replicate, List.replicate_zero, List.append_nil]
    congr 2
    omega
  rw [e]
  exact roomy_l0 l m (by omega) 80 k 0 rfl hk
theorem intact_l0 (l : List Int) (m : Int) (hl : l.length < 1000000) : ∀ (d k i : Nat), l.length ≤ i → i + d = l.length + 80 → d < k →
    linguistbook_Intact_rune.l0 k (l ++ List.replicate 80 m) m (i : Int) = some true := by
  intro d
  induction d with
  | zero =>
    intro k i h1 hd hk
    obtain ⟨k, rfl⟩ : ∃ m, k = m + 1 := ⟨k - 1, by omega⟩
    simp only [linguistbook_Intact_rune.l0]
    rw [if_neg (by simp only [List.length_append, List.length_replicate]; omega)]
  | succ d ih =>
    intro k i h1 hd hk
    obtain ⟨k, rfl⟩ : ∃ m, k = m + 1 := ⟨k - 1, by omega⟩
    simp only [linguistbook_Intact_rune.l0]
    have e : rd (l ++ List.replicate 80 m) (i : Int) = m := by
      unfold rd
      rw [Int.toNat_natCast, List.getD_eq_getElem?_getD, List.getElem?_append_right h1, List.getElem?_replicate, if_pos (by omega)]; rfl
    rw [if_pos (by simp only [List.length_append, List.length_replicate]; omega), if_pos (by omega), if_pos e, w64 (by omega) (by omega)]
    exact ih k (i + 1) (by omega) (by omega) (by omega)
theorem intact_eq (l : List Int) (m : Int) (hl : l.length < 1000000) (k : Nat) (hk : l.length + 100 < k) (hs : linguistbook_Same_rune.f k l l = some true) : linguistbook_Intact_rune.f k (l ++ List.replicate 80 m) l m = some true := by
  unfold linguistbook_Intact_rune.f
  rw [w64 (by omega) (by omega), if_pos (by simp only [List.length_append, List.length_replicate]; omega), if_pos (by omega), if_pos (by simp only [List.length_append, List.length_replicate]; omega),
    Int.toNat_natCast, List.take_left, hs, Option.bind_some]
  obtain ⟨k, rfl⟩ : ∃ m, k = m + 1 := ⟨k - 1, by omega⟩
  simp only [linguistbook_Intact_rune.j0]
  rw [if_neg (by simp)]
  exact intact_l0 l m hl 80 k l.length (by omega) (by omega) (by omega)

theorem runs_eq : ∃ K, ∀ k, K ≤ k → linguistlaw1_UtfRuns.f k = some true := by
  refine ⟨100, fun k hk => ?_⟩
  have h : linguistlaw1_UtfRuns.f 100 = some true := by decide +kernel
  exact at_rounds linguistlaw1_UtfRuns.mono hk h

theorem tells_l0 (w : List Int) (hwl : w.length < 1000000) (left : Int) (m : List Int) (hm : m.length ≤ 10) (hb : ∀ x ∈ m, -2147483648 ≤ x ∧ x < 2147483648) (n h a : Int) (hlf : 0 < left ↔ 0 < h) (K : Nat) (hr : ∀ k, K ≤ k → linguistlaw1_UtfRuns.f k = some true) :
    ∀ (d k i : Nat) (acc : List Int), i + d = m.length → K + w.length + 1000 + d < k → acc.length ≤ 4 * i → acc ++ encN (m.drop i) = encN m →
    linguistlaw1_UtfTells.l0 k w w left m acc m (m.length : Int) (i : Int) n h a = some true := by
  intro d
  induction d with
  | zero =>
    intro k i acc hd hk ha he
    obtain ⟨k, rfl⟩ : ∃ m, k = m + 1 := ⟨k - 1, by omega⟩
    simp only [linguistlaw1_UtfTells.l0]
    rw [List.drop_eq_nil_of_le (by omega)] at he
    have he2 : encN m = acc := by rw [← he]; simp [encN]
    have hel := encN_len m
    unfold utf_Decoder_Held.f
    rw [if_neg (by omega), roomy_eq m 7 (by omega) k (by omega), Option.bind_some, same_rune_eq w w (by omega) k (by omega), Option.bind_some, decide_eq_true rfl, if_pos rfl, Option.bind_some,
      if_pos (by rw [beq_iff_eq]; exact decide_eq_decide.2 hlf.symm), if_pos (by omega), if_pos (by simp only [List.length_append, List.length_replicate]; omega), Int.toNat_natCast, List.take_left,
      enc_eq m (by omega) hb k (by omega), Option.bind_some, same_byte_eq _ _ (by omega) k (by omega), Option.bind_some, decide_eq_true he2, if_pos rfl,
      intact_eq m 7 (by omega) k (by omega) (by rw [same_rune_eq m m (by omega) k (by omega), decide_eq_true rfl]), Option.bind_some, if_pos rfl, hr k (by omega)]
    rfl
  | succ d ih =>
    intro k i acc hd hk ha he
    obtain ⟨k, rfl⟩ : ∃ m, k = m + 5 := ⟨k - 5, by omega⟩
    simp only [linguistlaw1_UtfTells.l0]
    obtain ⟨b0, b1⟩ := hb _ (rd_mem m i (by omega))
    have hp := oneN_len (rd m i)
    rw [rd_drop m i (by omega)] at he
    rw [if_pos (by omega), if_pos (by omega), if_pos (by omega), renc_eq _ k b0 b1, Option.bind_some, if_pos (by omega), w64 (by omega) (by omega)]
    exact ih (k + 4) (i + 1) (acc ++ oneN (rd m i)) (by omega) (by omega) (by rw [List.length_append]; omega) (by rw [List.append_assoc]; exact he)
theorem UtfTells : linguistlaw1_UtfTells.Pure := by
  intro l0 l1 h0 h0b h1 h2 h2b h3
  obtain ⟨K, hr⟩ := runs_eq
  have htk : ∀ (l : List Int) (c : Nat), 0 < c → l.take ((mn (l.length : Int) (c : Int)) : Int).toNat = l.take c := by
    intro l c hc
    unfold mn
    split
    · rw [Int.toNat_natCast]
    · rw [List.take_of_length_le (by omega), List.take_of_length_le (by omega)]
  have hm0 : ∀ (l : List Int) (c : Nat), 0 ≤ mn (l.length : Int) (c : Int) ∧ mn (l.length : Int) (c : Int) ≤ (l.length : Int) := by intro l c; unfold mn; split <;> omega
  have t0 := htk l0 40 (by omega)
  have t1 := htk l1 10 (by omega)
  have g0 := hm0 l0 40
  have g1 := hm0 l1 10
  have n0 : (l0.take 40).length ≤ 40 := by rw [List.length_take]; omega
  have n1 : (l1.take 10).length ≤ 10 := by rw [List.length_take]; omega
  have hb : ∀ x ∈ l0.take 40, 0 ≤ x ∧ x < 256 := fun x hx => wfu8 (h1 x (List.mem_of_mem_take hx))
  have hb1 : ∀ x ∈ l1.take 10, -2147483648 ≤ x ∧ x < 2147483648 := fun x hx => wf32 (h3 x (List.mem_of_mem_take hx))
  rw [show ((40 : Nat) : Int) = 40 from rfl] at t0 g0
  rw [show ((10 : Nat) : Int) = 10 from rfl] at t1 g1
  refine ⟨K + 5000, ?_⟩
  unfold linguistlaw1_UtfTells.f
  obtain ⟨left, hlf, hk⟩ := ref_eq (l0.take 40) (by omega) hb
  have hst := (run_st (l0.take 40) 0 0 0 hb (Or.inl ⟨rfl, rfl, rfl⟩)).2
  rw [Option.bind_some, if_pos g0.1, if_pos g0.2, t0, if_pos (by simp only [List.length_nil]; omega), Option.bind_some, List.nil_append, dec_eq _ (by omega) hb _ (by omega), Option.bind_some, hk _ (by omega), Option.bind_some, Option.bind_some,
    if_pos g1.1, if_pos g1.2, t1, if_pos (by simp only [List.length_nil]; omega), Option.bind_some, List.nil_append]
  exact tells_l0 _ (by omega) left (l1.take 10) n1 hb1 _ _ _ hlf K hr (l1.take 10).length _ 0 [] (by omega) (by omega) (by simp) (by rfl)

end Go.Proofs.Ytnammlamdhpnpaa.Pure
