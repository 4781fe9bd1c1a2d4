/- ColorTells: whatever the colour and the number, the law of chapter 3's colours returns true. -/
import Derived.Test.YthlmpppddloiaaaGColorTellsx2
import Derived.Test.YthlmpppddloiaaaWSized
import Derived.Laws.BitsAllLaws
import Derived.Laws.Bits64
namespace Go.Proofs.Ythlmpppddloiaaa.PrintWords
/-- The printed row names it so. -/
theorem sized_ints : type_of% @Go.Proofs.YthlmpppddloiaaaW.PrintWords.sized_ints := @Go.Proofs.YthlmpppddloiaaaW.PrintWords.sized_ints
end Go.Proofs.Ythlmpppddloiaaa.PrintWords
namespace Go.Proofs.Ythlmpppddloiaaa.Pure
open Go Go.RowKit Go.Proofs.Ythlmpppddloiaaa.GColorTells Go.Proofs.YthlmpppddloiaaaW.PrintWords Go.Proofs.YthlmpppddloiaaaW.PrintLast
set_option linter.unusedVariables false
set_option linter.unusedSimpArgs false

theorem Ev.pos {α : Type} {c : Prop} [Decidable c] {f g : Nat → Option α} {r : α} (h : c) (e : Ev f r) : Ev (fun k => if c then f k else g k) r := by
  obtain ⟨K, e⟩ := e
  exact ⟨K, fun k hk => by show (if c then f k else g k) = some r; rw [if_pos h]; exact e k hk⟩
theorem Ev.neg {α : Type} {c : Prop} [Decidable c] {f g : Nat → Option α} {r : α} (h : ¬ c) (e : Ev g r) : Ev (fun k => if c then f k else g k) r := by
  obtain ⟨K, e⟩ := e
  exact ⟨K, fun k hk => by show (if c then f k else g k) = some r; rw [if_neg h]; exact e k hk⟩
theorem Ev.one {α : Type} {f : Nat → Option α} {r : α} (K : Nat) (h : ∀ k, K ≤ k → f k = some r) : Ev f r := ⟨K, h⟩
theorem w64 {x : Int} (h0 : -9223372036854775808 ≤ x) (h1 : x < 9223372036854775808) : wrap64 x = x := by
  unfold wrap64; omega
theorem wf64 {x : Int} (h : (Lit.int .i64 x).wf = true) : -9223372036854775808 ≤ x ∧ x < 9223372036854775808 := by
  simp [Lit.wf, IntKind.min, IntKind.max, IntKind.bits, IntKind.signed] at h
  omega
theorem wfu64 {x : Int} (h : (Lit.int .u64 x).wf = true) : 0 ≤ x ∧ x < 18446744073709551616 := by
  simp [Lit.wf, IntKind.min, IntKind.max, IntKind.bits, IntKind.signed] at h
  omega
theorem rd_drop (l : List Int) (i : Nat) (h : i < l.length) : l.drop i = rd l (i : Int) :: l.drop (i + 1) := by
  rw [List.drop_eq_getElem_cons h]
  simp [rd, List.getD, h]
theorem wf32 {x : Int} (h : (Lit.int .i32 x).wf = true) : -2147483648 ≤ x ∧ x < 2147483648 := by
  simp [Lit.wf, IntKind.min, IntKind.max, IntKind.bits, IntKind.signed] at h
  omega
theorem wfu8 {x : Int} (h : (Lit.int .u8 x).wf = true) : 0 ≤ x ∧ x < 256 := by
  simp [Lit.wf, IntKind.min, IntKind.max, IntKind.bits, IntKind.signed] at h
  omega
theorem w32 {x : Int} (h0 : -2147483648 ≤ x) (h1 : x < 2147483648) : wrap32 x = x := by
  unfold wrap32; omega
theorem rd_mem (l : List Int) (i : Nat) (h : i < l.length) : rd l (i : Int) ∈ l := by
  have h1 := rd_drop l i h
  exact List.mem_of_mem_drop (i := i) (by rw [h1]; exact List.mem_cons_self)

theorem runs_eq : ∃ K, ∀ k, K ≤ k → linguistlaw3_ColorRuns.f k = some true := by
  refine ⟨400, fun k hk => ?_⟩
  have h : linguistlaw3_ColorRuns.f 400 = some true := by decide +kernel
  exact at_rounds linguistlaw3_ColorRuns.mono hk h
/-- The parts of a colour. -/
def rgb (c : Int) : Int × Int × Int × Bool :=
  if 16777216 ≤ c ∧ c < 33554432 then (c / 65536 % 256, c / 256 % 256, c % 256, true) else if 0 ≤ c ∧ c < 256 then (color_RGB.f 10 c).getD (0, 0, 0, false) else (0, 0, 0, false)
theorem small_all : (List.range 256).all (fun c => match color_RGB.f 10 (c : Int) with
    | some (x, y, z, ok) => ok && (decide (0 ≤ x) && (decide (x ≤ 255) && (decide (0 ≤ y) && (decide (y ≤ 255) && (decide (0 ≤ z) && decide (z ≤ 255))))))
    | none => false) = true := by decide +kernel
theorem small_ok (c : Int) (h0 : 0 ≤ c) (h1 : c < 256) : ∃ x y z, color_RGB.f 10 c = some (x, y, z, true) ∧ 0 ≤ x ∧ x ≤ 255 ∧ 0 ≤ y ∧ y ≤ 255 ∧ 0 ≤ z ∧ z ≤ 255 := by
  obtain ⟨m, rfl⟩ := Int.eq_ofNat_of_zero_le h0
  have h := (List.all_eq_true.1 small_all) m (List.mem_range.2 (by omega))
  cases hu : color_RGB.f 10 (m : Int) with
  | none => rw [hu] at h; cases h
  | some q =>
    obtain ⟨x, y, z, ok⟩ := q
    rw [hu] at h
    simp only [Bool.and_eq_true, decide_eq_true_eq] at h
    obtain ⟨h1, h2, h3, h4, h5, h6, h7⟩ := h
    subst h1
    exact ⟨x, y, z, rfl, h2, h3, h4, h5, h6, h7⟩
theorem and255 (x : Int) (h0 : 0 ≤ x) (h1 : x < 4611686018427387904) : Go.bits .and .i64 x 255 = x % 256 :=
  bits_mask .i64 62 (by decide) (fun n a b => by rw [IntKind.wrap_i64]; omega) 8 (by decide) x h0 (by omega)
theorem rgb_eq (c : Int) (hc : -9223372036854775808 ≤ c ∧ c < 9223372036854775808) (k : Nat) (hk : 10 ≤ k) : color_RGB.f k c = some (rgb c) := by
  unfold rgb
  by_cases hd : 16777216 ≤ c ∧ c < 33554432
  · rw [if_pos hd]
    obtain ⟨k, rfl⟩ : ∃ m, k = m + 1 := ⟨k - 1, by omega⟩
    unfold color_RGB.f
    simp only [Option.bind_some]
    rw [if_pos (by omega), decide_eq_true hd.2]
    simp only [color_RGB.j0, if_true]
    rw [and255 _ (by omega) (by omega), and255 _ (by omega) (by omega), and255 _ (by omega) (by omega)]
  · rw [if_neg hd]
    by_cases hs : 0 ≤ c ∧ c < 256
    · rw [if_pos hs]
      obtain ⟨x, y, z, h, _⟩ := small_ok c hs.1 hs.2
      rw [h, Option.getD_some]
      exact at_rounds (color_RGB.mono _) hk h
    · rw [if_neg hs]
      obtain ⟨k, rfl⟩ : ∃ m, k = m + 2 := ⟨k - 2, by omega⟩
      unfold color_RGB.f
      simp only [Option.bind_some]
      have key : ∀ l1 l2 w, color_RGB.j0 (k + 2) c l1 l2 w false = some (0, 0, 0, false) := by
        intro l1 l2 w
        simp only [color_RGB.j0, Bool.false_eq_true, if_false]
        by_cases h0 : c < 0
        · rw [if_pos h0]; simp only [color_RGB.j1, if_true]
        · rw [if_neg h0, decide_eq_true (by omega)]; simp only [color_RGB.j1, if_true]
      by_cases h1 : c ≥ 16777216
      · rw [if_pos h1, decide_eq_false (by omega)]; exact key _ _ _
      · rw [if_neg h1]; exact key _ _ _
theorem rgb_bd (c : Int) : 0 ≤ (rgb c).1 ∧ (rgb c).1 ≤ 255 ∧ 0 ≤ (rgb c).2.1 ∧ (rgb c).2.1 ≤ 255 ∧ 0 ≤ (rgb c).2.2.1 ∧ (rgb c).2.2.1 ≤ 255 := by
  unfold rgb
  split
  · simp only; omega
  · split
    · rename_i hs
      obtain ⟨x, y, z, h, h1⟩ := small_ok c hs.1 hs.2
      rw [h, Option.getD_some]; exact h1
    · simp
theorem rgb_ok (c : Int) : (rgb c).2.2.2 = decide ((16777216 ≤ c ∧ c < 33554432) ∨ (0 ≤ c ∧ c < 256)) := by
  unfold rgb
  split
  · rename_i h; simp [h]
  · split
    · rename_i h hs
      obtain ⟨x, y, z, h, h1⟩ := small_ok c hs.1 hs.2
      rw [h, Option.getD_some]; simp [hs]
    · rename_i h hs
      symm; rw [decide_eq_false_iff_not]; omega
/-- How far two colours are. -/
def far (a b : Int) : Int := if (rgb a).2.2.2 = true then (if (rgb b).2.2.2 = true then ((rgb a).1 - (rgb b).1) * ((rgb a).1 - (rgb b).1) + ((rgb a).2.1 - (rgb b).2.1) * ((rgb a).2.1 - (rgb b).2.1) + ((rgb a).2.2.1 - (rgb b).2.2.1) * ((rgb a).2.2.1 - (rgb b).2.2.1) else 0) else 0
theorem sq_bd (d : Int) (h0 : -255 ≤ d) (h1 : d ≤ 255) : 0 ≤ d * d ∧ d * d ≤ 65025 := by
  rcases Int.le_total 0 d with h | h
  · exact ⟨Int.mul_nonneg h h, by have := Int.mul_le_mul h1 h1 h (by omega : (0 : Int) ≤ 255); omega⟩
  · have e : d * d = (-d) * (-d) := by rw [Int.neg_mul_neg]
    have h' : 0 ≤ -d := by omega
    rw [e]
    exact ⟨Int.mul_nonneg h' h', by have := Int.mul_le_mul (by omega : -d ≤ 255) (by omega : -d ≤ 255) h' (by omega : (0 : Int) ≤ 255); omega⟩
theorem far_eq (a b : Int) (ha : -9223372036854775808 ≤ a ∧ a < 9223372036854775808) (hb : -9223372036854775808 ≤ b ∧ b < 9223372036854775808) (k : Nat) (hk : 10 ≤ k) : color_Far.f k a b = some (far a b) := by
  unfold color_Far.f far
  rw [rgb_eq a ha k hk, rgb_eq b hb k hk]
  simp only [Option.bind_some]
  have h1 := rgb_bd a
  have h2 := rgb_bd b
  split
  · split
    · have s1 := sq_bd ((rgb a).1 - (rgb b).1) (by omega) (by omega)
      have s2 := sq_bd ((rgb a).2.1 - (rgb b).2.1) (by omega) (by omega)
      have s3 := sq_bd ((rgb a).2.2.1 - (rgb b).2.2.1) (by omega) (by omega)
      rw [w64 (x := (rgb a).1 - (rgb b).1) (by omega) (by omega), w64 (x := (rgb a).2.1 - (rgb b).2.1) (by omega) (by omega), w64 (x := (rgb a).2.2.1 - (rgb b).2.2.1) (by omega) (by omega)]
      generalize ((rgb a).1 - (rgb b).1) * ((rgb a).1 - (rgb b).1) = q1 at *
      generalize ((rgb a).2.1 - (rgb b).2.1) * ((rgb a).2.1 - (rgb b).2.1) = q2 at *
      generalize ((rgb a).2.2.1 - (rgb b).2.2.1) * ((rgb a).2.2.1 - (rgb b).2.2.1) = q3 at *
      rw [w64 (x := q1) (by omega) (by omega), w64 (x := q2) (by omega) (by omega), w64 (x := q3) (by omega) (by omega), w64 (x := q1 + q2) (by omega) (by omega), w64 (x := q1 + q2 + q3) (by omega) (by omega)]
    · rfl
  · rfl
theorem far_nonneg (a b : Int) : 0 ≤ far a b := by
  unfold far
  have h1 := rgb_bd a
  have h2 := rgb_bd b
  split
  · split
    · have s1 := sq_bd ((rgb a).1 - (rgb b).1) (by omega) (by omega)
      have s2 := sq_bd ((rgb a).2.1 - (rgb b).2.1) (by omega) (by omega)
      have s3 := sq_bd ((rgb a).2.2.1 - (rgb b).2.2.1) (by omega) (by omega)
      omega
    · omega
  · omega
theorem sq_comm (x y : Int) : (x - y) * (x - y) = (y - x) * (y - x) := by
  rw [← Int.neg_sub x y, Int.neg_mul_neg]
theorem far_comm (a b : Int) : far a b = far b a := by
  unfold far
  cases (rgb a).2.2.2 <;> cases (rgb b).2.2.2 <;> simp [sq_comm (rgb a).1, sq_comm (rgb a).2.1, sq_comm (rgb a).2.2.1]
theorem far_self (a : Int) : far a a = 0 := by
  unfold far
  split <;> simp
/-- The first of the nearest. -/
def First (c n m : Int) : Prop := 0 ≤ m ∧ m < n ∧ (∀ i, 0 ≤ i → i < n → far c m ≤ far c i) ∧ ∀ i, 0 ≤ i → i < m → far c m < far c i
theorem First.same {c n m q : Int} (h : First c n m) (g : First c n q) : m = q := by
  obtain ⟨a1, a2, a3, a4⟩ := h
  obtain ⟨b1, b2, b3, b4⟩ := g
  rcases Int.lt_trichotomy m q with h | h | h
  · have := b4 m a1 h; have := a3 q b1 b2; omega
  · exact h
  · have := a4 q b1 h; have := b3 m a1 a2; omega
theorem near_l0 (c n : Int) (hc : -9223372036854775808 ≤ c ∧ c < 9223372036854775808) (hn : n ≤ 256) : ∀ (d : Nat) (i best : Int), i + d = n → 0 ≤ best → best < n → 0 ≤ i → (∀ j, 0 ≤ j → j < i → far c best ≤ far c j) → (∀ j, 0 ≤ j → j < best → far c best < far c j) →
    ∃ m, (∀ k, 20 + d < k → color_Nearest.l0 k c best n i = some m) ∧ First c n m := by
  intro d
  induction d with
  | zero =>
    intro i best hd b0 b1 hi h1 h2
    refine ⟨best, fun k hk => ?_, b0, b1, fun j hj hj2 => h1 j hj (by omega), h2⟩
    obtain ⟨k, rfl⟩ : ∃ m, k = m + 1 := ⟨k - 1, by omega⟩
    simp only [color_Nearest.l0]
    rw [if_neg (by omega)]
  | succ d ih =>
    intro i best hd b0 b1 hi h1 h2
    by_cases h : far c i < far c best
    · obtain ⟨m, hm, hf⟩ := ih (i + 1) i (by omega) hi (by omega) (by omega) (fun j hj hj2 => by
        rcases Int.lt_or_le j i with g | g
        · have := h1 j hj g; omega
        · have : j = i := by omega
          subst this; exact Int.le_refl _) (fun j hj hj2 => by have := h1 j hj hj2; omega)
      refine ⟨m, fun k hk => ?_, hf⟩
      obtain ⟨k, rfl⟩ : ∃ m, k = m + 1 := ⟨k - 1, by omega⟩
      simp only [color_Nearest.l0]
      rw [if_pos (by omega), far_eq c i hc (by omega) k (by omega), Option.bind_some, far_eq c best hc (by omega) k (by omega), Option.bind_some, if_pos h, w64 (by omega) (by omega)]
      exact hm k (by omega)
    · obtain ⟨m, hm, hf⟩ := ih (i + 1) best (by omega) b0 b1 (by omega) (fun j hj hj2 => by
        rcases Int.lt_or_le j i with g | g
        · exact h1 j hj g
        · have : j = i := by omega
          subst this; omega) h2
      refine ⟨m, fun k hk => ?_, hf⟩
      obtain ⟨k, rfl⟩ : ∃ m, k = m + 1 := ⟨k - 1, by omega⟩
      simp only [color_Nearest.l0]
      rw [if_pos (by omega), far_eq c i hc (by omega) k (by omega), Option.bind_some, far_eq c best hc (by omega) k (by omega), Option.bind_some, if_neg h, w64 (by omega) (by omega)]
      exact hm k (by omega)
theorem near_ok (c n : Int) (hc : -9223372036854775808 ≤ c ∧ c < 9223372036854775808) (hok : (rgb c).2.2.2 = true) (h1 : 1 ≤ n) (h2 : n ≤ 256) : ∃ m, (∀ k, 300 < k → color_Nearest.f k c n = some m) ∧ First c n m := by
  obtain ⟨m, hm, hf⟩ := near_l0 c n hc h2 n.toNat 0 0 (by omega) (by omega) (by omega) (by omega) (fun j _ _ => by omega) (fun j _ _ => by omega)
  refine ⟨m, fun k hk => ?_, hf⟩
  obtain ⟨k, rfl⟩ : ∃ m, k = m + 1 := ⟨k - 1, by omega⟩
  unfold color_Nearest.f
  rw [rgb_eq c hc (k + 1) (by omega), Option.bind_some, if_pos hok, if_neg (by omega), decide_eq_false (by omega)]
  simp only [color_Nearest.j0, Bool.false_eq_true, if_false]
  exact hm k (by omega)
theorem near_no (c n : Int) (hc : -9223372036854775808 ≤ c ∧ c < 9223372036854775808) (h : (rgb c).2.2.2 = false ∨ n < 1 ∨ 256 < n) (k : Nat) (hk : 20 < k) : color_Nearest.f k c n = some (-1) := by
  obtain ⟨k, rfl⟩ : ∃ m, k = m + 1 := ⟨k - 1, by omega⟩
  unfold color_Nearest.f
  rw [rgb_eq c hc (k + 1) (by omega), Option.bind_some]
  cases hb : (rgb c).2.2.2 with
  | false => rw [if_neg (by simp)]; simp only [color_Nearest.j0, if_true]
  | true =>
    rw [if_pos rfl]
    rw [hb] at h
    by_cases h1 : n < 1
    · rw [if_pos h1]; simp only [color_Nearest.j0, if_true]
    · rw [if_neg h1, decide_eq_true (by rcases h with h | h | h <;> first | (cases h) | omega)]; simp only [color_Nearest.j0, if_true]
theorem or_low (x y i : Nat) (hx : x % 2 ^ i = 0) (hy : y < 2 ^ i) (hx1 : x < 2 ^ 62) (hy1 : y < 2 ^ 62) : Go.bits .or .i64 (x : Int) (y : Int) = ((x + y : Nat) : Int) := by
  rw [(bits_nat .i64 62 (by decide) (fun n a b => by rw [IntKind.wrap_i64]; omega) x y hx1 hy1).2, nat_join i x y hx hy]
theorem of_eq (r g b : Int) (hr : 0 ≤ r ∧ r ≤ 255) (hg : 0 ≤ g ∧ g ≤ 255) (hb : 0 ≤ b ∧ b ≤ 255) : color_Of.f r g b = some (16777216 + r * 65536 + g * 256 + b) := by
  have cut : ∀ x : Int, 0 ≤ x ∧ x ≤ 255 → color_cut.f x = some x := by
    intro x hx
    have : mx 0 (mn x 255) = x := by unfold mx mn; split <;> split <;> omega
    unfold color_cut.f; rw [this]
  unfold color_Of.f
  rw [cut r hr, cut g hg, cut b hb]
  simp only [Option.bind_some]
  rw [w64 (x := r * 65536) (by omega) (by omega), w64 (x := g * 256) (by omega) (by omega)]
  obtain ⟨r, rfl⟩ := Int.eq_ofNat_of_zero_le hr.1
  obtain ⟨g, rfl⟩ := Int.eq_ofNat_of_zero_le hg.1
  obtain ⟨b, rfl⟩ := Int.eq_ofNat_of_zero_le hb.1
  have e1 : ((r : Int) * 65536) = ((r * 65536 : Nat) : Int) := by omega
  have e2 : ((g : Int) * 256) = ((g * 256 : Nat) : Int) := by omega
  have e0 : (16777216 : Int) = ((16777216 : Nat) : Int) := rfl
  rw [e0, e1, e2, or_low 16777216 (r * 65536) 24 (by omega) (by omega) (by omega) (by omega), or_low (16777216 + r * 65536) (g * 256) 16 (by omega) (by omega) (by omega) (by omega), or_low (16777216 + r * 65536 + g * 256) b 8 (by omega) (by omega) (by omega) (by omega)]
  rfl
theorem rgb_of (r g b : Int) (hr : 0 ≤ r ∧ r ≤ 255) (hg : 0 ≤ g ∧ g ≤ 255) (hb : 0 ≤ b ∧ b ≤ 255) : rgb (16777216 + r * 65536 + g * 256 + b) = (r, g, b, true) := by
  unfold rgb
  rw [if_pos (by omega)]
  have e1 : (16777216 + r * 65536 + g * 256 + b) / 65536 % 256 = r := by omega
  have e2 : (16777216 + r * 65536 + g * 256 + b) / 256 % 256 = g := by omega
  have e3 : (16777216 + r * 65536 + g * 256 + b) % 256 = b := by omega
  rw [e1, e2, e3]

theorem refsmall_all : (List.range 256).all (fun c => decide (linguistref1_RGB.f 10 (c : Int) = some (rgb (c : Int)))) = true := by decide +kernel
theorem tdiv_nonneg (x d : Int) (h : 0 ≤ x) : Int.tdiv x d = x / d := Int.tdiv_eq_ediv_of_nonneg h
theorem ref_rgb (c : Int) (hc : -9223372036854775808 ≤ c ∧ c < 9223372036854775808) (k : Nat) (hk : 10 ≤ k) : linguistref1_RGB.f k c = some (rgb c) := by
  by_cases hs : 0 ≤ c ∧ c < 256
  · obtain ⟨m, rfl⟩ := Int.eq_ofNat_of_zero_le hs.1
    have h := (List.all_eq_true.1 refsmall_all) m (List.mem_range.2 (by omega))
    rw [decide_eq_true_eq] at h
    exact at_rounds (linguistref1_RGB.mono _) hk h
  · by_cases hd : 16777216 ≤ c ∧ c < 33554432
    · obtain ⟨k, rfl⟩ : ∃ m, k = m + 1 := ⟨k - 1, by omega⟩
      unfold linguistref1_RGB.f rgb
      rw [if_pos (by omega), if_pos hd, decide_eq_true hd.2]
      simp only [linguistref1_RGB.j0, if_true]
      rw [tdiv_nonneg c _ (by omega), tdiv_nonneg c _ (by omega), w64 (by omega) (by omega), w64 (by omega) (by omega), Int.tmod_eq_emod_of_nonneg (by omega), Int.tmod_eq_emod_of_nonneg (by omega), Int.tmod_eq_emod_of_nonneg (by omega)]
    · obtain ⟨k, rfl⟩ : ∃ m, k = m + 2 := ⟨k - 2, by omega⟩
      have key : linguistref1_RGB.j0 (k + 2) c false = some (0, 0, 0, false) := by
        simp only [linguistref1_RGB.j0, Bool.false_eq_true, if_false, Option.bind_some]
        by_cases h0 : c < 0
        · rw [if_pos h0]; simp only [linguistref1_RGB.j1, if_true]
        · rw [if_neg h0, decide_eq_true (by omega)]; simp only [linguistref1_RGB.j1, if_true]
      unfold linguistref1_RGB.f rgb
      rw [if_neg hd, if_neg hs]
      by_cases h1 : c ≥ 16777216
      · rw [if_pos h1, decide_eq_false (by omega)]; exact key
      · rw [if_neg h1]; exact key
theorem dist_eq (c i : Int) (hc : (rgb c).2.2.2 = true) (hi : (rgb i).2.2.2 = true) : wrap64 ((wrap64 ((wrap64 ((wrap64 ((rgb c).1 - (rgb i).1)) * (wrap64 ((rgb c).1 - (rgb i).1)))) + (wrap64 ((wrap64 ((rgb c).2.1 - (rgb i).2.1)) * (wrap64 ((rgb c).2.1 - (rgb i).2.1)))))) + (wrap64 ((wrap64 ((rgb c).2.2.1 - (rgb i).2.2.1)) * (wrap64 ((rgb c).2.2.1 - (rgb i).2.2.1))))) = far c i := by
  unfold far
  rw [if_pos hc, if_pos hi]
  have h1 := rgb_bd c
  have h2 := rgb_bd i
  have s1 := sq_bd ((rgb c).1 - (rgb i).1) (by omega) (by omega)
  have s2 := sq_bd ((rgb c).2.1 - (rgb i).2.1) (by omega) (by omega)
  have s3 := sq_bd ((rgb c).2.2.1 - (rgb i).2.2.1) (by omega) (by omega)
  rw [w64 (x := (rgb c).1 - (rgb i).1) (by omega) (by omega), w64 (x := (rgb c).2.1 - (rgb i).2.1) (by omega) (by omega), w64 (x := (rgb c).2.2.1 - (rgb i).2.2.1) (by omega) (by omega)]
  generalize ((rgb c).1 - (rgb i).1) * ((rgb c).1 - (rgb i).1) = q1 at *
  generalize ((rgb c).2.1 - (rgb i).2.1) * ((rgb c).2.1 - (rgb i).2.1) = q2 at *
  generalize ((rgb c).2.2.1 - (rgb i).2.2.1) * ((rgb c).2.2.1 - (rgb i).2.2.1) = q3 at *
  rw [w64 (x := q1) (by omega) (by omega), w64 (x := q2) (by omega) (by omega), w64 (x := q3) (by omega) (by omega), w64 (x := q1 + q2) (by omega) (by omega), w64 (x := q1 + q2 + q3) (by omega) (by omega)]
theorem ref_l0 (c n : Int) (hok : (rgb c).2.2.2 = true) (hn : n ≤ 256) : ∀ (d : Nat) (i best : Int), i + d = n → 0 ≤ best → best < n → 0 < i → (∀ j, 0 ≤ j → j < i → far c best ≤ far c j) → (∀ j, 0 ≤ j → j < best → far c best < far c j) →
    ∃ m, (∀ k, 20 + d < k → linguistref1_Nearest.l0 k (rgb c).1 (rgb c).2.1 (rgb c).2.2.1 best (far c best) n i = some m) ∧ First c n m := by
  intro d
  induction d with
  | zero =>
    intro i best hd b0 b1 hi h1 h2
    refine ⟨best, fun k hk => ?_, b0, b1, fun j hj hj2 => h1 j hj (by omega), h2⟩
    obtain ⟨k, rfl⟩ : ∃ m, k = m + 1 := ⟨k - 1, by omega⟩
    simp only [linguistref1_Nearest.l0]
    rw [if_neg (by omega)]
  | succ d ih =>
    intro i best hd b0 b1 hi h1 h2
    have hio : (rgb i).2.2.2 = true := by rw [rgb_ok, decide_eq_true_eq]; omega
    by_cases h : far c i < far c best
    · obtain ⟨m, hm, hf⟩ := ih (i + 1) i (by omega) (by omega) (by omega) (by omega) (fun j hj hj2 => by
        rcases Int.lt_or_le j i with g | g
        · have := h1 j hj g; omega
        · have : j = i := by omega
          subst this; exact Int.le_refl _) (fun j hj hj2 => by have := h1 j hj hj2; omega)
      refine ⟨m, fun k hk => ?_, hf⟩
      obtain ⟨k, rfl⟩ : ∃ m, k = m + 1 := ⟨k - 1, by omega⟩
      simp only [linguistref1_Nearest.l0]
      rw [if_pos (by omega), ref_rgb i (by omega) k (by omega), Option.bind_some, if_neg (by omega), dist_eq c i hok hio, if_pos h, w64 (by omega) (by omega)]
      exact hm k (by omega)
    · obtain ⟨m, hm, hf⟩ := ih (i + 1) best (by omega) b0 b1 (by omega) (fun j hj hj2 => by
        rcases Int.lt_or_le j i with g | g
        · exact h1 j hj g
        · have : j = i := by omega
          subst this; omega) h2
      refine ⟨m, fun k hk => ?_, hf⟩
      obtain ⟨k, rfl⟩ : ∃ m, k = m + 1 := ⟨k - 1, by omega⟩
      simp only [linguistref1_Nearest.l0]
      rw [if_pos (by omega), ref_rgb i (by omega) k (by omega), Option.bind_some, if_neg (by omega), dist_eq c i hok hio, if_neg h, w64 (by omega) (by omega)]
      exact hm k (by omega)
theorem ref_near (c n : Int) (hc : -9223372036854775808 ≤ c ∧ c < 9223372036854775808) (k : Nat) (hk : 400 < k) : ∃ v, color_Nearest.f k c n = some v ∧ linguistref1_Nearest.f k c n = some v := by
  obtain ⟨k, rfl⟩ : ∃ m, k = m + 2 := ⟨k - 2, by omega⟩
  have no : ((rgb c).2.2.2 = false ∨ n < 1 ∨ 256 < n) → linguistref1_Nearest.f (k + 2) c n = some (-1) := by
    intro h
    unfold linguistref1_Nearest.f
    rw [ref_rgb c hc (k + 2) (by omega), Option.bind_some]
    cases hb : (rgb c).2.2.2 with
    | false => rw [if_neg (by simp)]; simp only [linguistref1_Nearest.j0, if_true]
    | true =>
      rw [if_pos rfl]
      rw [hb] at h
      by_cases h1 : n < 1
      · rw [if_pos h1]; simp only [linguistref1_Nearest.j0, if_true]
      · rw [if_neg h1, decide_eq_true (by rcases h with h | h | h <;> first | (cases h) | omega)]; simp only [linguistref1_Nearest.j0, if_true]
  by_cases hall : (rgb c).2.2.2 = true ∧ 1 ≤ n ∧ n ≤ 256
  · obtain ⟨hok, h1, h2⟩ := hall
    obtain ⟨m, hm, hf⟩ := near_ok c n hc hok h1 h2
    refine ⟨m, hm _ (by omega), ?_⟩
    unfold linguistref1_Nearest.f
    rw [ref_rgb c hc (k + 2) (by omega), Option.bind_some, if_pos hok, if_neg (by omega), decide_eq_false (by omega)]
    simp only [linguistref1_Nearest.j0, Bool.false_eq_true, if_false, linguistref1_Nearest.l0]
    have h0 : (rgb 0).2.2.2 = true := by rw [rgb_ok, decide_eq_true_eq]; omega
    rw [if_pos (by omega), ref_rgb 0 (by omega) k (by omega), Option.bind_some]
    simp only [if_true]
    rw [dist_eq c 0 hok h0, w64 (by omega) (by omega)]
    obtain ⟨m', hm', hf'⟩ := ref_l0 c n hok h2 (n - 1).toNat (0 + 1) 0 (by omega) (by omega) (by omega) (by omega) (fun j a b => by
      have : j = 0 := by omega
      subst this; exact Int.le_refl _) (fun j a b => by omega)
    rw [hm' k (by omega), hf.same hf']
  · have h : (rgb c).2.2.2 = false ∨ n < 1 ∨ 256 < n := by
      cases hb : (rgb c).2.2.2 with
      | false => exact Or.inl rfl
      | true =>
        have g : ¬ (1 ≤ n ∧ n ≤ 256) := fun g => hall ⟨hb, g⟩
        right; omega
    exact ⟨-1, near_no c n hc h _ (by omega), no h⟩
theorem ref_lower (c n : Int) (hc : -9223372036854775808 ≤ c ∧ c < 9223372036854775808) (k : Nat) (hk : 500 < k) : ∃ v, color_Lower.f k c n = some v ∧ linguistref1_Lower.f k c n = some v := by
  obtain ⟨k, rfl⟩ : ∃ m, k = m + 1 := ⟨k - 1, by omega⟩
  unfold color_Lower.f linguistref1_Lower.f
  by_cases h1 : n < 1
  · refine ⟨-1, by rw [if_pos h1], ?_⟩
    by_cases h0 : c < 0
    · rw [if_pos h0]; simp only [linguistref1_Lower.j0, if_true]; rw [if_pos h1]
    · rw [if_neg h0, if_pos h1]; simp only [linguistref1_Lower.j0, if_true]; rw [if_pos h1]
  · rw [if_neg h1]
    by_cases h0 : c < 0
    · refine ⟨c, by rw [if_pos h0], ?_⟩
      rw [if_pos h0]; simp only [linguistref1_Lower.j0, if_true]; rw [if_neg h1]
    · rw [if_neg h0, if_neg h0, if_neg h1]
      by_cases h2 : c < n
      · refine ⟨c, by rw [if_pos h2], ?_⟩
        rw [decide_eq_true h2]; simp only [linguistref1_Lower.j0, if_true]; rw [if_neg h1]
      · rw [if_neg h2, decide_eq_false h2]
        obtain ⟨v, hv, _⟩ := ref_near c n hc (k + 1) (by omega)
        obtain ⟨v', hv', hr'⟩ := ref_near c n hc k (by omega)
        have : v = v' := by
          have := at_rounds (color_Nearest.mono c n) (Nat.le_succ k) hv'
          rw [hv] at this
          exact Option.some.inj this
        subst this
        refine ⟨v, by rw [hv]; rfl, ?_⟩
        simp only [linguistref1_Lower.j0, Bool.false_eq_true, if_false]
        rw [hr']; rfl
theorem within_wide (n : Int) (hn : -9223372036854775808 ≤ n) (hn2 : n < 9223372036854775808) : ∃ r, linguistbook_Within.f n (-3) 260 = some r ∧ -3 ≤ r ∧ r ≤ 260 := by
  unfold linguistbook_Within.f
  rw [w64 (x := 260 - (-3)) (by omega) (by omega), w64 (x := 260 - (-3) + 1) (by omega) (by omega), if_neg (by omega)]
  have b1 : n.tmod (260 - (-3) + 1) < 260 - (-3) + 1 := Int.tmod_lt_of_pos _ (by omega)
  have b2 : -(260 - (-3) + 1) < n.tmod (260 - (-3) + 1) := Int.lt_tmod_of_pos n (show (0 : Int) < 260 - (-3) + 1 by omega)
  generalize n.tmod (260 - (-3) + 1) = m at *
  by_cases hm : m < 0
  · rw [if_pos hm, w64 (x := m + 260) (by omega) (by omega), w64 (x := m + 260 - (-3)) (by omega) (by omega), w64 (x := m + 260 - (-3) + 1) (by omega) (by omega), w64 (by omega) (by omega)]
    exact ⟨_, rfl, by omega, by omega⟩
  · rw [if_neg hm, w64 (by omega) (by omega)]
    exact ⟨_, rfl, by omega, by omega⟩
theorem ColorTells : linguistlaw3_ColorTells.Pure := by
  intro c n hc hn
  have hc := wf64 hc
  have hn := wf64 hn
  obtain ⟨K, hruns⟩ := runs_eq
  obtain ⟨q, eq, q0, q1⟩ := within_wide n hn.1 hn.2
  obtain ⟨v, v1, v2⟩ := ref_near c q hc (K + 1000) (by omega)
  obtain ⟨u, u1, u2⟩ := ref_lower c (mn q 256) hc (K + 1000) (by omega)
  refine ⟨K + 1000, ?_⟩
  unfold linguistlaw3_ColorTells.f
  rw [rgb_eq c hc _ (by omega), Option.bind_some, ref_rgb c hc _ (by omega), Option.bind_some, eq, Option.bind_some]
  simp only [if_true, beq_self_eq_true, v1, v2, u1, u2, Option.bind_some, hruns (K + 1000) (by omega)]

end Go.Proofs.Ythlmpppddloiaaa.Pure
