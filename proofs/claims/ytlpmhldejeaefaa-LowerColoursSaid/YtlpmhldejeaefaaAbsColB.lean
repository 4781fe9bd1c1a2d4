/- LowerColours: pens, the law over letters. -/
import Derived.Test.YtlpmhldejeaefaaAbsCol
namespace Go.Proofs.YtlpmhldejeaefaaAbs
set_option linter.unusedVariables false
open Go Go.Proofs
set_option maxRecDepth 1000000
theorem T30 (n : Int) : acall (R := AV) (envS []) 60 30 [.int .i64 n] [] outN = (bif decide (n.tmod 4 < 0) then (bif IntKind.i64.wrap (0 + IntKind.i64.wrap (IntKind.i64.wrap (IntKind.i64.wrap (n.tmod 4 + 3) - 0) + 1)) == 0 then some (.int .i64 ((-1))) else (bif IntKind.i64.wrap (0 + IntKind.i64.wrap (IntKind.i64.wrap (IntKind.i64.wrap (n.tmod 4 + 3) - 0) + 1)) == 1 then (bif decide ((IntKind.i64.wrap (n.tdiv 4)).tmod 16 < 0) then some (.int .i64 (IntKind.i64.wrap (0 + IntKind.i64.wrap (IntKind.i64.wrap (IntKind.i64.wrap ((IntKind.i64.wrap (n.tdiv 4)).tmod 16 + 15) - 0) + 1)))) else some (.int .i64 (IntKind.i64.wrap (0 + (IntKind.i64.wrap (n.tdiv 4)).tmod 16)))) else (bif IntKind.i64.wrap (0 + IntKind.i64.wrap (IntKind.i64.wrap (IntKind.i64.wrap (n.tmod 4 + 3) - 0) + 1)) == 2 then (bif decide ((IntKind.i64.wrap (n.tdiv 4)).tmod 256 < 0) then some (.int .i64 (IntKind.i64.wrap (0 + IntKind.i64.wrap (IntKind.i64.wrap (IntKind.i64.wrap ((IntKind.i64.wrap (n.tdiv 4)).tmod 256 + 255) - 0) + 1)))) else some (.int .i64 (IntKind.i64.wrap (0 + (IntKind.i64.wrap (n.tdiv 4)).tmod 256)))) else (bif decide ((IntKind.i64.wrap (n.tdiv 4)).tmod 16777216 < 0) then some (.int .i64 (IntKind.i64.wrap (16777216 + IntKind.i64.wrap (0 + IntKind.i64.wrap (IntKind.i64.wrap (IntKind.i64.wrap ((IntKind.i64.wrap (n.tdiv 4)).tmod 16777216 + 16777215) - 0) + 1))))) else some (.int .i64 (IntKind.i64.wrap (16777216 + IntKind.i64.wrap (0 + (IntKind.i64.wrap (n.tdiv 4)).tmod 16777216)))))))) else (bif IntKind.i64.wrap (0 + n.tmod 4) == 0 then some (.int .i64 ((-1))) else (bif IntKind.i64.wrap (0 + n.tmod 4) == 1 then (bif decide ((IntKind.i64.wrap (n.tdiv 4)).tmod 16 < 0) then some (.int .i64 (IntKind.i64.wrap (0 + IntKind.i64.wrap (IntKind.i64.wrap (IntKind.i64.wrap ((IntKind.i64.wrap (n.tdiv 4)).tmod 16 + 15) - 0) + 1)))) else some (.int .i64 (IntKind.i64.wrap (0 + (IntKind.i64.wrap (n.tdiv 4)).tmod 16)))) else (bif IntKind.i64.wrap (0 + n.tmod 4) == 2 then (bif decide ((IntKind.i64.wrap (n.tdiv 4)).tmod 256 < 0) then some (.int .i64 (IntKind.i64.wrap (0 + IntKind.i64.wrap (IntKind.i64.wrap (IntKind.i64.wrap ((IntKind.i64.wrap (n.tdiv 4)).tmod 256 + 255) - 0) + 1)))) else some (.int .i64 (IntKind.i64.wrap (0 + (IntKind.i64.wrap (n.tdiv 4)).tmod 256)))) else (bif decide ((IntKind.i64.wrap (n.tdiv 4)).tmod 16777216 < 0) then some (.int .i64 (IntKind.i64.wrap (16777216 + IntKind.i64.wrap (0 + IntKind.i64.wrap (IntKind.i64.wrap (IntKind.i64.wrap ((IntKind.i64.wrap (n.tdiv 4)).tmod 16777216 + 16777215) - 0) + 1))))) else some (.int .i64 (IntKind.i64.wrap (16777216 + IntKind.i64.wrap (0 + (IntKind.i64.wrap (n.tdiv 4)).tmod 16777216))))))))) := by kernel_rfl
theorem ex30 (n : Int) : ∃ v, IsI (acall (R := AV) (envS []) 60 30 [.int .i64 n] [] outN) v := by
  rw [T30]
  repeat' (first | exact isI_mk _ | (refine ex_bif ?_ ?_ <;> intro _))
noncomputable def CF (n : Int) : Int := Classical.choose (ex30 n)
theorem s30_ok : SumOk Try.prog 30 (sCol CF) := fun args v e => by
  unfold sCol at e
  split at e
  · rename_i n
    injection e with e; subst e
    exact ⟨rfl, rfl, runs_ofN (envS_ok (l := []) trivial) (Classical.choose_spec (ex30 n))⟩
  · cases e

def IsP (x : Option AV) (a b : Int) (v : Int) : Prop := x = some (.agg [.int .i64 a, .int .i64 b, .int .i64 v])
def W255 (c : Int) : Int := bif decide (c.tmod 256 < 0) then IntKind.i64.wrap (0 + IntKind.i64.wrap (IntKind.i64.wrap (IntKind.i64.wrap (c.tmod 256 + 255) - 0) + 1)) else IntKind.i64.wrap (0 + c.tmod 256)
theorem T12 (CF : Int → Int) (a b c : Int) : acall (R := AV) (envS [(30, sCol CF)]) 60 12 [.agg [.int .i64 a, .int .i64 b, .int .i64 c]] [] outN = (bif decide (c.tmod 256 < 0) then some (.agg [(.int .i64 (CF a)), (.int .i64 (CF b)), (.int .i64 (IntKind.i64.wrap (0 + IntKind.i64.wrap (IntKind.i64.wrap (IntKind.i64.wrap (c.tmod 256 + 255) - 0) + 1))))]) else some (.agg [(.int .i64 (CF a)), (.int .i64 (CF b)), (.int .i64 (IntKind.i64.wrap (0 + c.tmod 256)))])) := by kernel_rfl
theorem s12_ok : SumOk Try.prog 12 (sPen CF W255) := fun args v e => by
  unfold sPen at e
  split at e
  · rename_i a b c
    injection e with e; subst e
    refine ⟨rfl, rfl, runs_ofN (envS_ok (l := [(30, sCol CF)]) ⟨s30_ok, trivial⟩) (n := 60) ?_⟩
    rw [T12]
    unfold W255
    cases decide (c.tmod 256 < 0) <;> rfl
  · cases e

def W7 (n : Int) : Int := bif decide (n.tmod 8 < 0) then IntKind.i64.wrap (0 + IntKind.i64.wrap (IntKind.i64.wrap (IntKind.i64.wrap (n.tmod 8 + 7) - 0) + 1)) else IntKind.i64.wrap (0 + n.tmod 8)
theorem T13 (n : Int) : acall (R := AV) (envS []) 60 13 [.int .i64 n, .int .i64 0, .int .i64 7] [] outN = (bif decide (n.tmod 8 < 0) then some (.int .i64 (IntKind.i64.wrap (0 + IntKind.i64.wrap (IntKind.i64.wrap (IntKind.i64.wrap (n.tmod 8 + 7) - 0) + 1)))) else some (.int .i64 (IntKind.i64.wrap (0 + n.tmod 8)))) := by kernel_rfl
theorem w7_bnd (n : Int) : 0 ≤ W7 n ∧ W7 n ≤ 7 := by
  have h1 := Int.tmod_lt_of_pos n (show (0 : Int) < 8 by omega)
  have h2 := Int.lt_tmod_of_pos n (show (0 : Int) < 8 by omega)
  unfold W7
  generalize n.tmod 8 = t at h1 h2 ⊢
  by_cases h : t < 0
  · rw [decide_eq_true h]; simp only [cond_true, IntKind.wrap_i64]; omega
  · rw [decide_eq_false h]; simp only [cond_false, IntKind.wrap_i64]; omega
theorem s13_ok : SumOk Try.prog 13 (sW W7) := fun args v e => by
  unfold sW at e
  split at e
  · rename_i n lo hi
    obtain ⟨hn, e⟩ := cond_some e
    simp only [Bool.and_eq_true, decide_eq_true_eq] at hn
    obtain ⟨rfl, rfl⟩ := hn
    injection e with e; subst e
    refine ⟨rfl, rfl, runs_ofN (envS_ok (l := []) trivial) (n := 60) ?_⟩
    rw [T13]
    unfold W7
    cases decide (n.tmod 8 < 0) <;> rfl
  · cases e
theorem T3 : acall (R := AV) env0 60 3 [] [] outN = some (.bool true) := by kernel_rfl
theorem s3_ok : SumOk Try.prog 3 sTrue := fun args v e => by
  unfold sTrue at e
  split at e
  · injection e with e; subst e
    exact ⟨rfl, rfl, runs_ofN env0_ok T3⟩
  · cases e

/-! ### the law -/
theorem lf_small (c : Int) (h : c < 8) : LF c = c := by
  unfold LF
  rw [decide_eq_true h]
  cases decide (c < 0) <;> rfl
theorem lf_great (c : Int) (h : 8 ≤ c) : LF c = NF c := by
  unfold LF
  rw [decide_eq_false (show ¬ c < 0 by omega), decide_eq_false (show ¬ c < 8 by omega)]
  rfl
theorem law_tree (LF NF CF W255 W7 : Int → Int) (a b c n : Int) : acall (R := Bool) (envS [(28, sLow LF), (14, sNear NF), (12, sPen CF W255), (13, sW W7), (3, sTrue)]) 60 4 [.agg [.int .i64 a, .int .i64 b, .int .i64 c], .int .i64 n] [] isTrue =
  (bif decide (CF a ≥ 8) then (bif LF (CF a) != NF (CF a) then some Bool.false else (bif decide (CF a < 8) then (bif LF (CF a) != CF a then some Bool.false else (bif LF (W7 n) == W7 n then (bif LF (-1) == -1 then (bif bitsOp BinOp.and IntKind.i64 (W255 c) 57 == bitsOp BinOp.and IntKind.i64 (W255 c) 57 then (bif -1 == -1 && (-1 == -1 && (bitsOp BinOp.and IntKind.i64 (W255 c) 57 == bitsOp BinOp.and IntKind.i64 (W255 c) 57 && Bool.true)) then some Bool.true else some Bool.false) else some Bool.false) else some Bool.false) else some Bool.false)) else (bif LF (W7 n) == W7 n then (bif LF (-1) == -1 then (bif bitsOp BinOp.and IntKind.i64 (W255 c) 57 == bitsOp BinOp.and IntKind.i64 (W255 c) 57 then (bif -1 == -1 && (-1 == -1 && (bitsOp BinOp.and IntKind.i64 (W255 c) 57 == bitsOp BinOp.and IntKind.i64 (W255 c) 57 && Bool.true)) then some Bool.true else some Bool.false) else some Bool.false) else some Bool.false) else some Bool.false))) else (bif decide (CF a < 8) then (bif LF (CF a) != CF a then some Bool.false else (bif LF (W7 n) == W7 n then (bif LF (-1) == -1 then (bif bitsOp BinOp.and IntKind.i64 (W255 c) 57 == bitsOp BinOp.and IntKind.i64 (W255 c) 57 then (bif -1 == -1 && (-1 == -1 && (bitsOp BinOp.and IntKind.i64 (W255 c) 57 == bitsOp BinOp.and IntKind.i64 (W255 c) 57 && Bool.true)) then some Bool.true else some Bool.false) else some Bool.false) else some Bool.false) else some Bool.false)) else (bif LF (W7 n) == W7 n then (bif LF (-1) == -1 then (bif bitsOp BinOp.and IntKind.i64 (W255 c) 57 == bitsOp BinOp.and IntKind.i64 (W255 c) 57 then (bif -1 == -1 && (-1 == -1 && (bitsOp BinOp.and IntKind.i64 (W255 c) 57 == bitsOp BinOp.and IntKind.i64 (W255 c) 57 && Bool.true)) then some Bool.true else some Bool.false) else some Bool.false) else some Bool.false) else some Bool.false))) := by kernel_rfl
theorem law_true (a b c n : Int) : acall (R := Bool) (envS [(28, sLow LF), (14, sNear NF), (12, sPen CF W255), (13, sW W7), (3, sTrue)]) 60 4 [.agg [.int .i64 a, .int .i64 b, .int .i64 c], .int .i64 n] [] isTrue = some true := by
  rw [law_tree]
  have h7 := w7_bnd n
  rw [lf_small (W7 n) (by omega), lf_small (-1) (by omega)]
  by_cases h : CF a < 8
  · rw [lf_small (CF a) h, decide_eq_false (show ¬ (CF a ≥ 8) by omega), decide_eq_true h]
    simp
  · rw [lf_great (CF a) (by omega), decide_eq_true (show CF a ≥ 8 by omega), decide_eq_false h]
    simp
theorem law_calls (a b c : Int) (wa : (Lit.int .i64 a).wf = true) (wb : (Lit.int .i64 b).wf = true) (wc : (Lit.int .i64 c).wf = true) (n : Int) (w0 : (Lit.int .i64 n).wf = true) (W : World) : Calls Try.prog 4 #[.agg #[.int .i64 a, .int .i64 b, .int .i64 c], .int .i64 n] W fun e W' => e = .returned (.bool true) ∧ RowKit.Below W.heap.size W W' :=
  law_ok (us := [.agg #[.int .i64 a, .int .i64 b, .int .i64 c], .int .i64 n]) (envS_ok (l := [(28, sLow LF), (14, sNear NF), (12, sPen CF W255), (13, sW W7), (3, sTrue)]) ⟨s28_ok, s14_ok, s12_ok, s13_ok, s3_ok, trivial⟩) (law_true a b c n) W
    fun m _ => ⟨_, _, rfl, ⟨[.int .i64 a, .int .i64 b, .int .i64 c], rfl, _, _, rfl, ⟨rfl, rfl⟩, (fun _ => rfl), _, _, rfl, ⟨rfl, rfl⟩, (fun _ => rfl), _, _, rfl, ⟨rfl, rfl⟩, (fun _ => rfl), rfl⟩, (fun k => by cases k), _, _, rfl, ⟨rfl, rfl⟩, (fun k => by cases k), rfl⟩
end Go.Proofs.YtlpmhldejeaefaaAbs
