/- CharsetBack: the plain byte of a rune over a letter, the law over a letter. -/
import Derived.Test.YtdobkoiimcneiaaAbsTab
namespace Go.Proofs.YtdobkoiimcneiaaAbs
set_option linter.unusedVariables false
open Go Go.Proofs
set_option maxRecDepth 1000000

/-- The plain byte of a rune that isn't ASCII. -/
def PL (r : Int) : Int := (bif r == 9670 then 42 else (bif r == 9618 then 35 else (bif r == 9225 then 72 else (bif r == 9228 then 70 else (bif r == 9229 then 67 else (bif r == 9226 then 76 else (bif r == 176 then 111 else (bif r == 177 then 43 else (bif r == 9252 then 78 else (bif r == 9227 then 86 else (bif r == 9496 then 43 else (bif r == 9488 then 43 else (bif r == 9484 then 43 else (bif r == 9492 then 43 else (bif r == 9532 then 43 else (bif r == 9146 then 45 else (bif r == 9147 then 45 else (bif r == 9472 then 45 else (bif r == 9148 then 45 else (bif r == 9149 then 95 else (bif r == 9500 then 43 else (bif r == 9508 then 43 else (bif r == 9524 then 43 else (bif r == 9516 then 43 else (bif r == 9474 then 124 else (bif r == 8804 then 60 else (bif r == 8805 then 62 else (bif r == 960 then 112 else (bif r == 8800 then 33 else (bif r == 163 then 76 else (bif r == 183 then 46 else 63)))))))))))))))))))))))))))))))
/-- The plain byte of a rune. -/
def PF (r : Int) : Int := bif decide (r ≥ 32) then (bif decide (r ≤ 126) then IntKind.u8.wrap r else PL r) else PL r
def PLT (r : Int) : Option AV := (bif r == 9670 then some (.int .u8 (42)) else (bif r == 9618 then some (.int .u8 (35)) else (bif r == 9225 then some (.int .u8 (72)) else (bif r == 9228 then some (.int .u8 (70)) else (bif r == 9229 then some (.int .u8 (67)) else (bif r == 9226 then some (.int .u8 (76)) else (bif r == 176 then some (.int .u8 (111)) else (bif r == 177 then some (.int .u8 (43)) else (bif r == 9252 then some (.int .u8 (78)) else (bif r == 9227 then some (.int .u8 (86)) else (bif r == 9496 then some (.int .u8 (43)) else (bif r == 9488 then some (.int .u8 (43)) else (bif r == 9484 then some (.int .u8 (43)) else (bif r == 9492 then some (.int .u8 (43)) else (bif r == 9532 then some (.int .u8 (43)) else (bif r == 9146 then some (.int .u8 (45)) else (bif r == 9147 then some (.int .u8 (45)) else (bif r == 9472 then some (.int .u8 (45)) else (bif r == 9148 then some (.int .u8 (45)) else (bif r == 9149 then some (.int .u8 (95)) else (bif r == 9500 then some (.int .u8 (43)) else (bif r == 9508 then some (.int .u8 (43)) else (bif r == 9524 then some (.int .u8 (43)) else (bif r == 9516 then some (.int .u8 (43)) else (bif r == 9474 then some (.int .u8 (124)) else (bif r == 8804 then some (.int .u8 (60)) else (bif r == 8805 then some (.int .u8 (62)) else (bif r == 960 then some (.int .u8 (112)) else (bif r == 8800 then some (.int .u8 (33)) else (bif r == 163 then some (.int .u8 (76)) else (bif r == 183 then some (.int .u8 (46)) else some (.int .u8 (63)))))))))))))))))))))))))))))))))
theorem plt_is (r : Int) : PLT r = some (.int .u8 (PL r)) := by
  unfold PLT PL
  simp only [push_int]
theorem plain_run (r : Int) : acall (R := AV) (envS []) 60 9 [.int .i32 r] [] outN = bif decide (r ≥ 32) then (bif decide (r ≤ 126) then some (.int .u8 (IntKind.u8.wrap r)) else PLT r) else PLT r := by kernel_rfl
theorem plain_is (r : Int) : acall (R := AV) (envS []) 60 9 [.int .i32 r] [] outN = some (.int .u8 (PF r)) := by
  rw [plain_run, plt_is]
  unfold PF
  simp only [push_int]
theorem runs_is : acall (R := AV) env0 60 3 [] [] outN = some (.bool true) := by kernel_rfl

theorem bnd {c : Bool} {a b : Int} (h1 : 32 ≤ a ∧ a < 127) (h2 : 32 ≤ b ∧ b < 127) : 32 ≤ (bif c then a else b) ∧ (bif c then a else b) < 127 := by cases c <;> assumption
theorem pl_bnd (r : Int) : 32 ≤ PL r ∧ PL r < 127 := by
  unfold PL
  repeat' (first | exact ⟨by decide, by decide⟩ | refine bnd ?_ ?_)
theorem pf_small (r : Int) (h1 : 32 ≤ r) (h2 : r ≤ 126) : PF r = r := by
  unfold PF
  rw [decide_eq_true h1, decide_eq_true h2]
  simp only [cond_true]
  rw [IntKind.wrap_u8]; omega
theorem pf_bnd (r : Int) : 32 ≤ PF r ∧ PF r < 127 := by
  by_cases h1 : 32 ≤ r
  · by_cases h2 : r ≤ 126
    · rw [pf_small r h1 h2]; omega
    · unfold PF
      rw [decide_eq_true h1, decide_eq_false h2]
      exact pl_bnd r
  · unfold PF
    rw [decide_eq_false h1]
    exact pl_bnd r

/-- The functions that the law is run with: the plain byte, the closed sentence. -/
def known (PF : Int → Int) : List (FuncId × (List AV → Option AV)) :=
  [(9, fun args => match args with
    | [.int .i32 r] => some (.int .u8 (PF r))
    | _ => none),
   (3, fun args => match args with
    | [] => some (.bool true)
    | _ => none)]
theorem known_ok : AllSum Try.prog (known PF) := by
  refine ⟨fun args v e => ?_, fun args v e => ?_, trivial⟩
  · simp only at e
    split at e
    · rename_i r
      injection e with e; subst e
      exact ⟨rfl, rfl, runs_ofN (envS_ok (l := []) trivial) (plain_is r)⟩
    · cases e
  · simp only at e
    split at e
    · injection e with e; subst e
      exact ⟨rfl, rfl, runs_ofN env0_ok runs_is⟩
    · cases e
theorem law_tree (PF : Int → Int) (n : Int) : acall (R := Bool) (envS (known PF)) 60 5 [.int .i64 n] [] isTrue =
    bif Decidable.decide (PF (IntKind.i32.wrap n) ≥ 32) then (bif Decidable.decide (PF (IntKind.i32.wrap n) < 127) then (bif PF (IntKind.i32.wrap (PF (IntKind.i32.wrap n))) == PF (IntKind.i32.wrap n) then some Bool.true else some Bool.false) else some Bool.false) else some Bool.false := by kernel_rfl
theorem law_true (n : Int) : acall (R := Bool) (envS (known PF)) 60 5 [.int .i64 n] [] isTrue = some true := by
  rw [law_tree]
  have h1 := pf_bnd (IntKind.i32.wrap n)
  generalize PF (IntKind.i32.wrap n) = p at h1 ⊢
  have hw : IntKind.i32.wrap p = p := by rw [IntKind.wrap_i32]; omega
  rw [hw, pf_small p (by omega) (by omega), decide_eq_true (show p ≥ 32 by omega), decide_eq_true h1.2]
  simp
theorem law_calls (a0 : Int) (w0 : (Lit.int .i64 a0).wf = true) (W : World) : Calls Try.prog 5 #[.int .i64 a0] W fun e W' => e = .returned (.bool true) ∧ RowKit.Below W.heap.size W W' :=
  law_ok (us := [.int .i64 a0]) (envS_ok known_ok) (law_true a0) W fun m _ => ⟨_, _, rfl, ⟨rfl, rfl⟩, (fun k => by cases k), rfl⟩
end Go.Proofs.YtdobkoiimcneiaaAbs
