/- CellWidths: whatever the number, the law of chapter 2's widths returns true. -/
import Derived.Test.YtklfdmnmiadgpaaGCellWidthsx2
import Derived.Test.YtklfdmnmiadgpaaWSized
import Derived.Laws.BitsAllLaws
import Derived.Laws.Bits64
namespace Go.Proofs.Ytklfdmnmiadgpaa.PrintWords
/-- The printed row names it so. -/
theorem sized_ints : type_of% @Go.Proofs.YtklfdmnmiadgpaaW.PrintWords.sized_ints := @Go.Proofs.YtklfdmnmiadgpaaW.PrintWords.sized_ints
end Go.Proofs.Ytklfdmnmiadgpaa.PrintWords
namespace Go.Proofs.Ytklfdmnmiadgpaa.Pure
open Go Go.RowKit Go.Proofs.Ytklfdmnmiadgpaa.GCellWidths Go.Proofs.YtklfdmnmiadgpaaW.PrintWords Go.Proofs.YtklfdmnmiadgpaaW.PrintLast
set_option linter.unusedVariables false

theorem Ev.pos {α : Type} {c : Prop} [Decidable c] {f g : Nat → Option α} {r : α} (h : c) (e : Ev f r) : Ev (fun k => if c then f k else g k) r := by
  obtain ⟨K, e⟩ := e
  exact ⟨K, fun k hk => by show (if c then f k else g k) = some r; rw [if_pos h]; exact e k hk⟩
theorem Ev.neg {α : Type} {c : Prop} [Decidable c] {f g : Nat → Option α} {r : α} (h : ¬ c) (e : Ev g r) : Ev (fun k => if c then f k else g k) r := by
  obtain ⟨K, e⟩ := e
  exact ⟨K, fun k hk => by show (if c then f k else g k) = some r; rw [if_neg h]; exact e k hk⟩
theorem Ev.one {α : Type} {f : Nat → Option α} {r : α} (K : Nat) (h : ∀ k, K ≤ k → f k = some r) : Ev f r := ⟨K, h⟩
theorem w64 {x : Int} (h0 : -9223372036854775808 ≤ x) (h1 : x < 9223372036854775808) : wrap64 x = x := by
  unfold wrap64; omega
theorem wf64 {x : Int} (h : (Lit.int .i64 x).wf = true) : -9223372036854775808 ≤ x ∧ x < 9223372036854775808 := by
  simp [Lit.wf, IntKind.min, IntKind.max, IntKind.bits, IntKind.signed] at h
  omega
theorem wfu64 {x : Int} (h : (Lit.int .u64 x).wf = true) : 0 ≤ x ∧ x < 18446744073709551616 := by
  simp [Lit.wf, IntKind.min, IntKind.max, IntKind.bits, IntKind.signed] at h
  omega
theorem rd_drop (l : List Int) (i : Nat) (h : i < l.length) : l.drop i = rd l (i : Int) :: l.drop (i + 1) := by
  rw [List.drop_eq_getElem_cons h]
  simp [rd, List.getD, h]
theorem wf32 {x : Int} (h : (Lit.int .i32 x).wf = true) : -2147483648 ≤ x ∧ x < 2147483648 := by
  simp [Lit.wf, IntKind.min, IntKind.max, IntKind.bits, IntKind.signed] at h
  omega
theorem wfu8 {x : Int} (h : (Lit.int .u8 x).wf = true) : 0 ≤ x ∧ x < 256 := by
  simp [Lit.wf, IntKind.min, IntKind.max, IntKind.bits, IntKind.signed] at h
  omega
theorem w32 {x : Int} (h0 : -2147483648 ≤ x) (h1 : x < 2147483648) : wrap32 x = x := by
  unfold wrap32; omega
theorem rd_mem (l : List Int) (i : Nat) (h : i < l.length) : rd l (i : Int) ∈ l := by
  have h1 := rd_drop l i h
  exact List.mem_of_mem_drop (i := i) (by rw [h1]; exact List.mem_cons_self)

theorem within_eq (n lo hi : Int) (hn : -9223372036854775808 ≤ n) (hn2 : n < 9223372036854775808) (h0 : 0 ≤ lo) (h1 : lo ≤ hi) (h2 : hi < 4611686018427387904) :
    ∃ r, linguistbook_Within.f n lo hi = some r ∧ lo ≤ r ∧ r ≤ hi := by
  unfold linguistbook_Within.f
  rw [w64 (x := hi - lo) (by omega) (by omega), w64 (x := hi - lo + 1) (by omega) (by omega), if_neg (by omega)]
  have e : n.tmod (hi - lo + 1) = n - (hi - lo + 1) * n.tdiv (hi - lo + 1) := Int.tmod_def _ _
  have b1 : n.tmod (hi - lo + 1) < hi - lo + 1 := Int.tmod_lt_of_pos _ (by omega)
  have b2 : -(hi - lo + 1) < n.tmod (hi - lo + 1) := by
    have := Int.lt_tmod_of_pos n (show 0 < hi - lo + 1 by omega); omega
  generalize n.tmod (hi - lo + 1) = m at *
  by_cases hm : m < 0
  · rw [if_pos hm, w64 (x := m + hi) (by omega) (by omega), w64 (x := m + hi - lo) (by omega) (by omega), w64 (x := m + hi - lo + 1) (by omega) (by omega), w64 (by omega) (by omega)]
    exact ⟨_, rfl, by omega, by omega⟩
  · rw [if_neg hm, w64 (by omega) (by omega)]
    exact ⟨_, rfl, by omega, by omega⟩

theorem all160 : (List.range 160).all (fun n => decide ((if (n : Int) < 32 then linguistlaw2_CellWidths.j0 200 (n : Int) 1 true else linguistlaw2_CellWidths.j0 200 (n : Int) 1 (decide ((n : Int) ≥ 127))) = some true)) = true := by decide +kernel
theorem CellWidths : linguistlaw2_CellWidths.Pure := by
  intro n hn
  have w := wf64 hn
  obtain ⟨x, ex, x0, x1⟩ := within_eq n 0 159 w.1 w.2 (by omega) (by omega) (by omega)
  refine ⟨200, ?_⟩
  unfold linguistlaw2_CellWidths.f
  rw [ex, Option.bind_some]
  obtain ⟨m, rfl⟩ := Int.eq_ofNat_of_zero_le x0
  have h := (List.all_eq_true.1 all160) m (List.mem_range.2 (by omega))
  rw [decide_eq_true_eq] at h
  exact h

end Go.Proofs.Ytklfdmnmiadgpaa.Pure
