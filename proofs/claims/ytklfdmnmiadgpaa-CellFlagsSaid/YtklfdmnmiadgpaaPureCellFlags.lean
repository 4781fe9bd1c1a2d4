/- CellFlags: whatever the pen and the flags, the law of chapter 2's flags returns true. -/
import Derived.Test.YtklfdmnmiadgpaaGCellFlagsx4
import Derived.Test.YtklfdmnmiadgpaaWSized
import Derived.Laws.BitsAllLaws
import Derived.Laws.Bits64
import Derived.Laws.BitsLemmas
namespace Go.Proofs.Ytklfdmnmiadgpaa.PrintWords
/-- The printed row names it so. -/
theorem sized_ints : type_of% @Go.Proofs.YtklfdmnmiadgpaaW.PrintWords.sized_ints := @Go.Proofs.YtklfdmnmiadgpaaW.PrintWords.sized_ints
end Go.Proofs.Ytklfdmnmiadgpaa.PrintWords
namespace Go.Proofs.Ytklfdmnmiadgpaa.Pure
open Go Go.RowKit Go.Proofs.Ytklfdmnmiadgpaa.GCellFlags Go.Proofs.YtklfdmnmiadgpaaW.PrintWords Go.Proofs.YtklfdmnmiadgpaaW.PrintLast
set_option linter.unusedVariables false
set_option linter.unusedSimpArgs false

theorem Ev.pos {α : Type} {c : Prop} [Decidable c] {f g : Nat → Option α} {r : α} (h : c) (e : Ev f r) : Ev (fun k => if c then f k else g k) r := by
  obtain ⟨K, e⟩ := e
  exact ⟨K, fun k hk => by show (if c then f k else g k) = some r; rw [if_pos h]; exact e k hk⟩
theorem Ev.neg {α : Type} {c : Prop} [Decidable c] {f g : Nat → Option α} {r : α} (h : ¬ c) (e : Ev g r) : Ev (fun k => if c then f k else g k) r := by
  obtain ⟨K, e⟩ := e
  exact ⟨K, fun k hk => by show (if c then f k else g k) = some r; rw [if_neg h]; exact e k hk⟩
theorem Ev.one {α : Type} {f : Nat → Option α} {r : α} (K : Nat) (h : ∀ k, K ≤ k → f k = some r) : Ev f r := ⟨K, h⟩
theorem w64 {x : Int} (h0 : -9223372036854775808 ≤ x) (h1 : x < 9223372036854775808) : wrap64 x = x := by
  unfold wrap64; omega
theorem wf64 {x : Int} (h : (Lit.int .i64 x).wf = true) : -9223372036854775808 ≤ x ∧ x < 9223372036854775808 := by
  simp [Lit.wf, IntKind.min, IntKind.max, IntKind.bits, IntKind.signed] at h
  omega
theorem wfu64 {x : Int} (h : (Lit.int .u64 x).wf = true) : 0 ≤ x ∧ x < 18446744073709551616 := by
  simp [Lit.wf, IntKind.min, IntKind.max, IntKind.bits, IntKind.signed] at h
  omega
theorem rd_drop (l : List Int) (i : Nat) (h : i < l.length) : l.drop i = rd l (i : Int) :: l.drop (i + 1) := by
  rw [List.drop_eq_getElem_cons h]
  simp [rd, List.getD, h]
theorem wf32 {x : Int} (h : (Lit.int .i32 x).wf = true) : -2147483648 ≤ x ∧ x < 2147483648 := by
  simp [Lit.wf, IntKind.min, IntKind.max, IntKind.bits, IntKind.signed] at h
  omega
theorem wfu8 {x : Int} (h : (Lit.int .u8 x).wf = true) : 0 ≤ x ∧ x < 256 := by
  simp [Lit.wf, IntKind.min, IntKind.max, IntKind.bits, IntKind.signed] at h
  omega
theorem w32 {x : Int} (h0 : -2147483648 ≤ x) (h1 : x < 2147483648) : wrap32 x = x := by
  unfold wrap32; omega
theorem rd_mem (l : List Int) (i : Nat) (h : i < l.length) : rd l (i : Int) ∈ l := by
  have h1 := rd_drop l i h
  exact List.mem_of_mem_drop (i := i) (by rw [h1]; exact List.mem_cons_self)

theorem within_eq (n lo hi : Int) (hn : -9223372036854775808 ≤ n) (hn2 : n < 9223372036854775808) (h0 : 0 ≤ lo) (h1 : lo ≤ hi) (h2 : hi < 4611686018427387904) :
    ∃ r, linguistbook_Within.f n lo hi = some r ∧ lo ≤ r ∧ r ≤ hi := by
  unfold linguistbook_Within.f
  rw [w64 (x := hi - lo) (by omega) (by omega), w64 (x := hi - lo + 1) (by omega) (by omega), if_neg (by omega)]
  have e : n.tmod (hi - lo + 1) = n - (hi - lo + 1) * n.tdiv (hi - lo + 1) := Int.tmod_def _ _
  have b1 : n.tmod (hi - lo + 1) < hi - lo + 1 := Int.tmod_lt_of_pos _ (by omega)
  have b2 : -(hi - lo + 1) < n.tmod (hi - lo + 1) := by
    have := Int.lt_tmod_of_pos n (show 0 < hi - lo + 1 by omega); omega
  generalize n.tmod (hi - lo + 1) = m at *
  by_cases hm : m < 0
  · rw [if_pos hm, w64 (x := m + hi) (by omega) (by omega), w64 (x := m + hi - lo) (by omega) (by omega), w64 (x := m + hi - lo + 1) (by omega) (by omega), w64 (by omega) (by omega)]
    exact ⟨_, rfl, by omega, by omega⟩
  · rw [if_neg hm, w64 (by omega) (by omega)]
    exact ⟨_, rfl, by omega, by omega⟩

theorem wraps_i64 (n : Int) (h₀ : 0 ≤ n) (h₁ : n < 2 ^ 62) : IntKind.i64.wrap n = n := by rw [IntKind.wrap_i64]; omega
theorem i64_or_nat (a b : Nat) (ha : a < 2 ^ 62) (hb : b < 2 ^ 62) : Go.bits .or .i64 (a : Int) (b : Int) = ((a ||| b : Nat) : Int) :=
  (bits_nat .i64 62 (by decide) wraps_i64 a b ha hb).2
theorem i64_and_nat (a b : Nat) (ha : a < 2 ^ 62) (hb : b < 2 ^ 62) : Go.bits .and .i64 (a : Int) (b : Int) = ((a &&& b : Nat) : Int) :=
  (bits_nat .i64 62 (by decide) wraps_i64 a b ha hb).1
def orL (f : Int) (l : List Int) : Int := l.foldl (fun t c => Go.bits .or .i64 t c) f

theorem runs_eq : ∃ K, ∀ k, K ≤ k → linguistlaw2_CellRuns.f k = some true := by
  refine ⟨100, fun k hk => ?_⟩
  have h : linguistlaw2_CellRuns.f 100 = some true := by decide +kernel
  exact at_rounds linguistlaw2_CellRuns.mono hk h

theorem with_l0 (fo ba : Int) (l : List Int) (hl : l.length < 4611686018427387904) : ∀ (d k i : Nat) (x : Int), i + d = l.length → d < k → cell_With.l0 k l (l.length : Int) (i : Int) fo ba x = some (fo, ba, orL x (l.drop i)) := by
  intro d
  induction d with
  | zero =>
    intro k i x hd hk
    obtain ⟨k, rfl⟩ : ∃ m, k = m + 1 := ⟨k - 1, by omega⟩
    simp only [cell_With.l0]
    rw [if_neg (by omega), List.drop_eq_nil_of_le (by omega)]; rfl
  | succ d ih =>
    intro k i x hd hk
    obtain ⟨k, rfl⟩ : ∃ m, k = m + 1 := ⟨k - 1, by omega⟩
    simp only [cell_With.l0]
    rw [if_pos (by omega), if_pos (by omega), if_pos (by omega), w64 (by omega) (by omega), rd_drop l i (by omega)]
    exact ih k (i + 1) _ (by omega) (by omega)
theorem with_eq (fo ba x : Int) (l : List Int) (hl : l.length < 4611686018427387904) (k : Nat) (hk : l.length < k) : cell_With.f k fo ba x l = some (fo, ba, orL x l) := by
  unfold cell_With.f
  exact with_l0 fo ba l hl l.length k 0 x (by omega) hk

/-- A colour that may be. -/
def Col (c : Int) : Prop := (-1 ≤ c ∧ c ≤ 255) ∨ (16777216 ≤ c ∧ c < 33554432)
theorem color_ok (c : Int) (h : Col c) : cell_color.f c = some true := by
  rcases h with h | h
  · simp (disch := omega) only [cell_color.f, if_pos, decide_eq_true]
  · simp (disch := omega) only [cell_color.f, if_pos, if_neg, decide_eq_true]
theorem keep_col (n : Int) (h0 : -9223372036854775808 ≤ n) (h1 : n < 9223372036854775808) : ∃ c, linguistkeep_colour.f n = some c ∧ Col c := by
  unfold linguistkeep_colour.f
  obtain ⟨x, ex, x0, x1⟩ := within_eq n 0 3 h0 h1 (by omega) (by omega) (by omega)
  have hq : -9223372036854775808 ≤ wrap64 (n.tdiv 4) ∧ wrap64 (n.tdiv 4) < 9223372036854775808 := by unfold wrap64; omega
  obtain ⟨a, ea, a0, a1⟩ := within_eq (wrap64 (n.tdiv 4)) 0 15 hq.1 hq.2 (by omega) (by omega) (by omega)
  obtain ⟨b, eb, b0, b1⟩ := within_eq (wrap64 (n.tdiv 4)) 0 255 hq.1 hq.2 (by omega) (by omega) (by omega)
  obtain ⟨d, ed, d0, d1⟩ := within_eq (wrap64 (n.tdiv 4)) 0 16777215 hq.1 hq.2 (by omega) (by omega) (by omega)
  rw [ex, Option.bind_some, ea, eb, ed]
  simp only [Option.bind_some]
  split
  · exact ⟨_, rfl, by unfold Col; omega⟩
  · split
    · exact ⟨_, rfl, by unfold Col; omega⟩
    · split
      · exact ⟨_, rfl, by unfold Col; omega⟩
      · exact ⟨_, rfl, by rw [w64 (by omega) (by omega)]; unfold Col; omega⟩
theorem keep_pen (a b c : Int) (ha : (Lit.int .i64 a).wf = true) (hb : (Lit.int .i64 b).wf = true) (hc : (Lit.int .i64 c).wf = true) :
    ∃ fo ba fl, linguistkeep_Pen_Pen.f a b c = some (fo, ba, fl) ∧ Col fo ∧ Col ba ∧ 0 ≤ fl ∧ fl ≤ 255 := by
  have ha := wf64 ha
  have hb := wf64 hb
  have hc := wf64 hc
  obtain ⟨fo, e1, f1⟩ := keep_col a ha.1 ha.2
  obtain ⟨ba, e2, f2⟩ := keep_col b hb.1 hb.2
  obtain ⟨fl, e3, f3, f4⟩ := within_eq c 0 255 hc.1 hc.2 (by omega) (by omega) (by omega)
  refine ⟨fo, ba, fl, ?_, f1, f2, f3, f4⟩
  unfold linguistkeep_Pen_Pen.f
  rw [e1, Option.bind_some, e2, Option.bind_some, e3, Option.bind_some]
theorem uw (n : Int) (h0 : 0 ≤ n) (h1 : n < 18446744073709551616) : IntKind.u64.wrap n = n := by rw [IntKind.wrap_u64]; omega
theorem or_sum (x y : Int) (i : Nat) (hx0 : 0 ≤ x) (hx : x < 2 ^ i) (hy0 : 0 ≤ y) (hy : y % 2 ^ i = 0) (hx1 : x < 18446744073709551616) (hy1 : y < 18446744073709551616) : Go.bits .or .u64 x y = y + x := by
  obtain ⟨a, rfl⟩ := Int.eq_ofNat_of_zero_le hx0
  obtain ⟨b, rfl⟩ := Int.eq_ofNat_of_zero_le hy0
  have hy' : b % 2 ^ i = 0 := by
    have : ((b % 2 ^ i : Nat) : Int) = 0 := by simpa using hy
    omega
  have hx' : a < 2 ^ i := by
    have : ((2 ^ i : Nat) : Int) = (2 : Int) ^ i := by simp
    omega
  rw [u64_or_nat a b (by omega) (by omega), Nat.or_comm, nat_join i b a hy' hx']
  omega
/-- The number of a right pen. -/
theorem pack_ok (fo ba fl : Int) (hf : Col fo) (hb : Col ba) (h0 : 0 ≤ fl) (h1 : fl ≤ 255) : cell_Pack.f fo ba fl = some ((ba + 1) * 17179869184 + ((fo + 1) * 256 + fl)) := by
  have f1 : 0 ≤ fo + 1 ∧ fo + 1 ≤ 33554432 := by unfold Col at hf; omega
  have b1 : 0 ≤ ba + 1 ∧ ba + 1 ≤ 33554432 := by unfold Col at hb; omega
  unfold cell_Pack.f cell_Right.f
  rw [color_ok fo hf, color_ok ba hb]
  simp only [Option.bind_some, if_true]
  rw [if_pos (by omega), decide_eq_true h1]
  simp only [Option.bind_some, if_true]
  rw [w64 (x := fo + 1) (by omega) (by omega), w64 (x := ba + 1) (by omega) (by omega), uw fl (by omega) (by omega), uw (fo + 1) (by omega) (by omega), uw (ba + 1) (by omega) (by omega), uw ((fo + 1) * 256) (by omega) (by omega), uw ((ba + 1) * 17179869184) (by omega) (by omega),
    or_sum fl ((fo + 1) * 256) 8 (by omega) (by omega) (by omega) (by omega) (by omega) (by omega),
    or_sum ((fo + 1) * 256 + fl) ((ba + 1) * 17179869184) 34 (by omega) (by omega) (by omega) (by omega) (by omega) (by omega)]
def orN (f : Nat) (l : List Nat) : Nat := l.foldl (fun t c => t ||| c) f
def ints (l : List Nat) : List Int := l.map fun (n : Nat) => (n : Int)
theorem orL_ints (l : List Nat) (hl : ∀ x ∈ l, x < 256) : ∀ f : Nat, f < 256 → orL (f : Int) (ints l) = ((orN f l : Nat) : Int) := by
  induction l with
  | nil => intro f _; rfl
  | cons c l ih =>
    intro f hf
    have hc := hl c List.mem_cons_self
    have e : orL (f : Int) (ints (c :: l)) = orL (Go.bits .or .i64 (f : Int) (c : Int)) (ints l) := rfl
    have h2 : f ||| c < 256 := Nat.or_lt_two_pow (n := 8) hf hc
    rw [e, i64_or_nat f c (by omega) (by omega), ih (fun x hx => hl x (List.mem_cons_of_mem _ hx)) _ h2]
    rfl
theorem orN_lt (l : List Nat) (hl : ∀ x ∈ l, x < 256) : ∀ f : Nat, f < 256 → orN f l < 256 := by
  induction l with
  | nil => intro f hf; exact hf
  | cons c l ih => intro f hf; exact ih (fun x hx => hl x (List.mem_cons_of_mem _ hx)) _ (Nat.or_lt_two_pow (n := 8) hf (hl c List.mem_cons_self))
theorem orN_test (l : List Nat) (i : Nat) : ∀ f : Nat, (orN f l).testBit i = (f.testBit i || l.any fun c => c.testBit i) := by
  induction l with
  | nil => intro f; simp [orN]
  | cons c l ih =>
    intro f
    have e : orN f (c :: l) = orN (f ||| c) l := rfl
    rw [e, ih, Nat.testBit_or, List.any_cons, Bool.or_assoc]
theorem orN_twice (l : List Nat) : orN (orN 0 l) l = orN 0 l := by
  apply Nat.eq_of_testBit_eq
  intro i
  rw [orN_test, orN_test]
  cases l.any _ <;> simp
theorem orN_snoc (l : List Nat) (c : Nat) : orN 0 (l ++ [c]) = orN 0 l ||| c := by
  unfold orN; rw [List.foldl_append]; rfl
theorem ints_get (l : List Nat) (i : Nat) (h : i < l.length) : ∃ c ∈ l, rd (ints l) (i : Int) = (c : Int) := by
  refine ⟨l[i], List.getElem_mem h, ?_⟩
  simp [rd, ints, List.getD, h]
theorem flags_l1 (l : List Nat) (hl : ∀ x ∈ l, x < 256 ∧ 0 < x) (hlen : l.length ≤ 100) (P0 P1 P2 : Int) (h0 : Col P0) (h1 : Col P1) (K : Nat) (hr : ∀ k, K ≤ k → linguistlaw2_CellRuns.f k = some true) :
    ∀ (d k i : Nat), i + d = l.length → K + 300 + d < k →
    linguistlaw2_CellFlags.l1 k (ints l) ((orN 0 l : Nat) : Int) ((P1 + 1) * 17179869184 + ((P0 + 1) * 256 + 0)) (ints l) ((ints l).length : Int) (i : Int) P0 P1 P2 P0 P1 0 P0 P1 ((orN 0 l : Nat) : Int) = some true := by
  have hil : (ints l).length = l.length := by simp [ints]
  have hl' : ∀ x ∈ l, x < 256 := fun x hx => (hl x hx).1
  intro d
  induction d with
  | zero =>
    intro k i hd hk
    obtain ⟨k, rfl⟩ : ∃ m, k = m + 1 := ⟨k - 1, by omega⟩
    simp only [linguistlaw2_CellFlags.l1]
    have hw := with_eq P0 P1 P2 [] (by simp) k (by simp; omega)
    have hb : ∀ a b c, cell_Blank.f a b c = some (32, 0, a, b, c) := fun _ _ _ => rfl
    have hw2 := with_eq P0 P1 ((orN 0 l : Nat) : Int) (ints l) (by omega) k (by omega)
    rw [orL_ints l hl' _ (orN_lt l hl' 0 (by omega)), orN_twice] at hw2
    have e0 : orL P2 [] = P2 := rfl
    rw [if_neg (by omega)]
    simp only [if_true, hw, Option.bind_some, e0, hb, hw2, hr k (by omega), beq_self_eq_true, Bool.and_self]
  | succ d ih =>
    intro k i hd hk
    obtain ⟨k, rfl⟩ : ∃ m, k = m + 1 := ⟨k - 1, by omega⟩
    obtain ⟨c, hc, ec⟩ := ints_get l i (by omega)
    have hc2 := hl c hc
    simp only [linguistlaw2_CellFlags.l1]
    have hw := with_eq P0 P1 0 [(c : Int)] (by simp) k (by simp; omega)
    have e0 : orL 0 [(c : Int)] = (c : Int) := by
      have := orL_ints [c] (by simp; omega) 0 (by omega)
      have e : orN 0 [c] = c := by simp [orN]
      rw [e] at this
      exact this
    rw [e0] at hw
    have b0 : 0 ≤ P0 + 1 ∧ P0 + 1 ≤ 33554432 := by unfold Col at h0; omega
    have b1 : 0 ≤ P1 + 1 ∧ P1 + 1 ≤ 33554432 := by unfold Col at h1; omega
    rw [if_pos (by omega), if_pos (by omega), if_pos (by omega), ec, hw, Option.bind_some, pack_ok P0 P1 c h0 h1 (by omega) (by omega), Option.bind_some, if_neg (by omega), w64 (by omega) (by omega), if_pos (by rw [uw _ (by omega) (by omega), uw _ (by omega) (by omega)]; omega)]
    exact ih k (i + 1) (by omega) (by omega)
theorem flags_l0 (A : List Int) (hA : A.length < 4611686018427387904) (hw : ∀ x ∈ A, (Lit.int .i64 x).wf = true) (P0 P1 P2 : Int) (h0 : Col P0) (h1 : Col P1) (K : Nat) (hr : ∀ k, K ≤ k → linguistlaw2_CellRuns.f k = some true) :
    ∀ (d k i : Nat) (l : List Nat), i + d = A.length → K + 500 + d < k → l.length ≤ i → l.length ≤ 8 → (∀ x ∈ l, x < 256 ∧ 0 < x) →
    linguistlaw2_CellFlags.l0 k A (ints l) ((orN 0 l : Nat) : Int) (i : Int) P0 P1 P2 P0 P1 0 = some true := by
  have fin : ∀ (k : Nat) (l : List Nat), K + 400 < k → l.length ≤ 8 → (∀ x ∈ l, x < 256 ∧ 0 < x) → linguistlaw2_CellFlags.j1 k (ints l) ((orN 0 l : Nat) : Int) P0 P1 P2 P0 P1 0 = some true := by
    intro k l hk hl8 hl
    have hil : (ints l).length = l.length := by simp [ints]
    obtain ⟨k, rfl⟩ : ∃ m, k = m + 1 := ⟨k - 1, by omega⟩
    simp only [linguistlaw2_CellFlags.j1]
    have hw := with_eq P0 P1 0 (ints l) (by omega) k (by omega)
    have e := orL_ints l (fun x hx => (hl x hx).1) 0 (by omega)
    have e : orL 0 (ints l) = ((orN 0 l : Nat) : Int) := e
    rw [hw, Option.bind_some, pack_ok P0 P1 0 h0 h1 (by omega) (by omega), Option.bind_some, e]
    exact flags_l1 l hl (by omega) P0 P1 P2 h0 h1 K hr l.length k 0 (by omega) (by omega)
  intro d
  induction d with
  | zero =>
    intro k i l hd hk hl hl8 hx
    obtain ⟨k, rfl⟩ : ∃ m, k = m + 1 := ⟨k - 1, by omega⟩
    simp only [linguistlaw2_CellFlags.l0]
    rw [if_neg (by omega)]
    exact fin k l (by omega) hl8 hx
  | succ d ih =>
    intro k i l hd hk hl hl8 hx
    obtain ⟨k, rfl⟩ : ∃ m, k = m + 1 := ⟨k - 1, by omega⟩
    simp only [linguistlaw2_CellFlags.l0]
    rw [if_pos (by omega)]
    by_cases h8 : (i : Int) < 8
    · have wr := wf64 (hw _ (rd_mem A i (by omega)))
      obtain ⟨c, ec, c0, c1⟩ := within_eq (rd A (i : Int)) 0 7 wr.1 wr.2 (by omega) (by omega) (by omega)
      have hil : (ints l).length = l.length := by simp [ints]
      obtain ⟨m, rfl⟩ := Int.eq_ofNat_of_zero_le c0
      have hp : 2 ^ m ≤ 2 ^ 7 := Nat.pow_le_pow_right (by omega) (by omega)
      have hp0 : 0 < 2 ^ m := Nat.pow_pos (by omega)
      have hs : shl .i64 1 (m : Int) = ((2 ^ m : Nat) : Int) := by
        unfold shl
        rw [Int.toNat_natCast, Nat.min_eq_left (by show m ≤ 64; omega), Int.one_mul]
        have h3 : ((2 ^ m : Nat) : Int) = (2 : Int) ^ m := by simp
        rw [← h3, IntKind.wrap_i64]
        omega
      have hlt : orN 0 l < 256 := orN_lt l (fun x hx' => (hx x hx').1) 0 (by omega)
      rw [if_pos h8, if_pos (by omega), ec, Option.bind_some, uw _ (by omega) (by omega), if_pos (by omega), if_pos (by omega), hs, i64_or_nat _ _ (by omega) (by omega), w64 (by omega) (by omega), ← orN_snoc]
      have e : ints l ++ [((2 ^ m : Nat) : Int)] = ints (l ++ [2 ^ m]) := by simp [ints]
      rw [e]
      refine ih k (i + 1) (l ++ [2 ^ m]) (by omega) (by omega) (by rw [List.length_append]; simp; omega) (by rw [List.length_append]; simp; omega) ?_
      intro x hx'
      rw [List.mem_append, List.mem_singleton] at hx'
      rcases hx' with h' | h'
      · exact hx x h'
      · subst h'; omega
    · rw [if_neg h8]
      exact fin k l (by omega) hl8 hx
theorem CellFlags : linguistlaw2_CellFlags.Pure := by
  intro a b c l ha hb hc _ h1 hw
  obtain ⟨K, hr⟩ := runs_eq
  obtain ⟨P0, P1, P2, e, h0, h2, _, _⟩ := keep_pen a b c ha hb hc
  refine ⟨K + 600 + l.length, ?_⟩
  unfold linguistlaw2_CellFlags.f
  rw [e, Option.bind_some]
  exact flags_l0 l (by omega) hw P0 P1 P2 h0 h2 K hr l.length _ 0 [] (by omega) (by omega) (by simp) (by simp) (by simp)

end Go.Proofs.Ytklfdmnmiadgpaa.Pure
