/- CellPacks: what its functions give over letters, the law over letters. -/
import Derived.Test.YtklfdmnmiadgpaaAbsBits
namespace Go.Proofs.YtklfdmnmiadgpaaAbs
set_option linter.unusedVariables false
open Go Go.Proofs
set_option maxRecDepth 1000000

/-! ### summaries, over letters -/
def sCK (CK : Int → Bool) : List AV → Option AV := fun args => match args with
  | [.int .i64 c] => some (.bool (CK c))
  | _ => none
def sRT (RT : Int → Int → Int → Bool) : List AV → Option AV := fun args => match args with
  | [.agg [.int .i64 a, .int .i64 b, .int .i64 c]] => some (.bool (RT a b c))
  | _ => none
def sPK (PK : Int → Int → Int → Int) : List AV → Option AV := fun args => match args with
  | [.agg [.int .i64 a, .int .i64 b, .int .i64 c]] => some (.int .u64 (PK a b c))
  | _ => none
def sUn (UF UB UL : Int → Int) (UK : Int → Bool) : List AV → Option AV := fun args => match args with
  | [.int .u64 n] => some (.tup [.agg [.int .i64 (UF n), .int .i64 (UB n), .int .i64 (UL n)], .bool (UK n)])
  | _ => none
def sCol (CF : Int → Int) : List AV → Option AV := fun args => match args with
  | [.int .i64 n] => some (.int .i64 (CF n))
  | _ => none
def sPen (CF W255 : Int → Int) : List AV → Option AV := fun args => match args with
  | [.agg [.int .i64 a, .int .i64 b, .int .i64 c]] => some (.agg [.int .i64 (CF a), .int .i64 (CF b), .int .i64 (W255 c)])
  | _ => none
def sTrue : List AV → Option AV := fun args => match args with
  | [] => some (.bool true)
  | _ => none
theorem push_bool (c : Bool) (a b : Bool) : (bif c then some (AV.bool a) else some (AV.bool b)) = some (AV.bool (bif c then a else b)) := by cases c <;> rfl

/-! ### may a number be a colour? -/
def CK (c : Int) : Bool := bif decide (c ≥ -1) then (bif decide (c ≤ 255) then true else (bif decide (c ≥ 16777216) then decide (c < 33554432) else false)) else (bif decide (c ≥ 16777216) then decide (c < 33554432) else false)
theorem T21 (c : Int) : acall (R := AV) (envS []) 60 21 [.int .i64 c] [] outN = (bif decide (c ≥ -1) then (bif decide (c ≤ 255) then some (.bool (true)) else (bif decide (c ≥ 16777216) then some (.bool (decide (c < 33554432))) else some (.bool (false)))) else (bif decide (c ≥ 16777216) then some (.bool (decide (c < 33554432))) else some (.bool (false)))) := by kernel_rfl
theorem s21_ok : SumOk Try.prog 21 (sCK CK) := fun args v e => by
  unfold sCK at e
  split at e
  · rename_i c
    injection e with e; subst e
    refine ⟨rfl, rfl, runs_ofN (envS_ok (l := []) trivial) (n := 60) ?_⟩
    rw [T21]
    simp only [push_bool]
    rfl
  · cases e
def IsC (c : Int) : Prop := (-1 ≤ c ∧ c ≤ 255) ∨ (16777216 ≤ c ∧ c < 33554432)
theorem ck_iff (c : Int) : CK c = true ↔ IsC c := by
  unfold CK IsC
  by_cases h1 : c ≥ -1
  · rw [decide_eq_true h1]
    by_cases h2 : c ≤ 255
    · rw [decide_eq_true h2]; simp; omega
    · rw [decide_eq_false h2]
      by_cases h3 : c ≥ 16777216
      · rw [decide_eq_true h3]; simp; omega
      · rw [decide_eq_false h3]; simp; omega
  · rw [decide_eq_false h1]
    by_cases h3 : c ≥ 16777216
    · rw [decide_eq_true h3]; simp; omega
    · rw [decide_eq_false h3]; simp; omega
theorem isC_bnd {c : Int} (h : IsC c) : 0 ≤ c + 1 ∧ c + 1 ≤ 33554432 := by unfold IsC at h; omega

/-! ### may a pen be? -/
def RT (a b c : Int) : Bool := bif CK a then (bif CK b then (bif decide (c ≥ 0) then decide (c ≤ 255) else false) else false) else false
theorem T11 (CK : Int → Bool) (a b c : Int) : acall (R := AV) (envS [(21, sCK CK)]) 60 11 [.agg [.int .i64 a, .int .i64 b, .int .i64 c]] [] outN = (bif CK a then (bif CK b then (bif decide (c ≥ 0) then some (.bool (decide (c ≤ 255))) else some (.bool (false))) else some (.bool (false))) else some (.bool (false))) := by kernel_rfl
theorem s11_ok : SumOk Try.prog 11 (sRT RT) := fun args v e => by
  unfold sRT at e
  split at e
  · rename_i a b c
    injection e with e; subst e
    refine ⟨rfl, rfl, runs_ofN (envS_ok (l := [(21, sCK CK)]) ⟨s21_ok, trivial⟩) (n := 60) ?_⟩
    rw [T11]
    simp only [push_bool]
    rfl
  · cases e
theorem rt_iff (a b c : Int) : RT a b c = true ↔ IsC a ∧ IsC b ∧ 0 ≤ c ∧ c ≤ 255 := by
  rw [← ck_iff, ← ck_iff]
  unfold RT
  cases CK a <;> cases CK b <;> by_cases h : c ≥ 0 <;> simp [h] <;> omega

/-! ### a pen's number -/
def EX (a b c : Int) : Int := bitsOp BinOp.or IntKind.u64 (bitsOp BinOp.or IntKind.u64 (IntKind.u64.wrap c) (IntKind.u64.wrap (IntKind.u64.wrap (IntKind.i64.wrap (a + 1)) * 256))) (IntKind.u64.wrap (IntKind.u64.wrap (IntKind.i64.wrap (b + 1)) * 17179869184))
def PK (a b c : Int) : Int := bif !RT a b c then 18446744073709551615 else EX a b c
theorem T9 (RT : Int → Int → Int → Bool) (a b c : Int) : acall (R := AV) (envS [(11, sRT RT)]) 60 9 [.agg [.int .i64 a, .int .i64 b, .int .i64 c]] [] outN = (bif !RT a b c then some (.int .u64 (18446744073709551615)) else some (.int .u64 (bitsOp BinOp.or IntKind.u64 (bitsOp BinOp.or IntKind.u64 (IntKind.u64.wrap c) (IntKind.u64.wrap (IntKind.u64.wrap (IntKind.i64.wrap (a + 1)) * 256))) (IntKind.u64.wrap (IntKind.u64.wrap (IntKind.i64.wrap (b + 1)) * 17179869184))))) := by kernel_rfl
theorem s9_ok : SumOk Try.prog 9 (sPK PK) := fun args v e => by
  unfold sPK at e
  split at e
  · rename_i a b c
    injection e with e; subst e
    refine ⟨rfl, rfl, runs_ofN (envS_ok (l := [(11, sRT RT)]) ⟨s11_ok, trivial⟩) (n := 60) ?_⟩
    rw [T9]
    simp only [push_int]
    rfl
  · cases e
theorem ex_sum (a b c : Int) (ha : IsC a) (hb : IsC b) (h0 : 0 ≤ c) (h1 : c ≤ 255) : EX a b c = c + 256 * (a + 1) + 17179869184 * (b + 1) := by
  have h2 := isC_bnd ha
  have h3 := isC_bnd hb
  have e1 : IntKind.u64.wrap c = c := by rw [IntKind.wrap_u64]; omega
  have e2 : IntKind.u64.wrap (IntKind.u64.wrap (IntKind.i64.wrap (a + 1)) * 256) = 2 ^ 8 * (a + 1) := by
    rw [IntKind.wrap_u64, IntKind.wrap_u64, IntKind.wrap_i64]; omega
  have e3 : IntKind.u64.wrap (IntKind.u64.wrap (IntKind.i64.wrap (b + 1)) * 17179869184) = 2 ^ 34 * (b + 1) := by
    rw [IntKind.wrap_u64, IntKind.wrap_u64, IntKind.wrap_i64]; omega
  unfold EX
  rw [e1, e2, e3, or64_add 8 (by omega) c (a + 1) h0 (by omega) h2.1 (by omega), or64_add 34 (by omega) _ (b + 1) (by omega) (by omega) h3.1 (by omega)]
  omega
theorem pk_right {a b c : Int} (h : RT a b c = true) : PK a b c = c + 256 * (a + 1) + 17179869184 * (b + 1) := by
  obtain ⟨h1, h2, h3, h4⟩ := (rt_iff a b c).1 h
  unfold PK
  rw [h]
  exact ex_sum a b c h1 h2 h3 h4
theorem pk_wrong {a b c : Int} (h : RT a b c = false) : PK a b c = 18446744073709551615 := by unfold PK; rw [h]; rfl

/-! ### the pen of a number -/
def uF (n : Int) : Int := IntKind.i64.wrap (IntKind.i64.wrap (bitsOp BinOp.and IntKind.u64 (n.fdiv 256) 67108863) - 1)
def uB (n : Int) : Int := IntKind.i64.wrap (IntKind.i64.wrap (bitsOp BinOp.and IntKind.u64 (n.fdiv 17179869184) 67108863) - 1)
def uL (n : Int) : Int := IntKind.i64.wrap (bitsOp BinOp.and IntKind.u64 n 255)
def UK (n : Int) : Bool := bif PK (uF n) (uB n) (uL n) != n then false else bif n == 18446744073709551615 then false else true
def UF (n : Int) : Int := bif UK n then uF n else 0
def UB (n : Int) : Int := bif UK n then uB n else 0
def UL (n : Int) : Int := bif UK n then uL n else 0
theorem T18 (PK : Int → Int → Int → Int) (n : Int) : acall (R := AV) (envS [(9, sPK PK)]) 60 18 [.int .u64 n] [] outN = (bif PK (IntKind.i64.wrap (IntKind.i64.wrap (bitsOp BinOp.and IntKind.u64 (n.fdiv 256) 67108863) - 1)) (IntKind.i64.wrap (IntKind.i64.wrap (bitsOp BinOp.and IntKind.u64 (n.fdiv 17179869184) 67108863) - 1)) (IntKind.i64.wrap (bitsOp BinOp.and IntKind.u64 n 255)) != n then some (.tup [(.agg [(.int .i64 (0)), (.int .i64 (0)), (.int .i64 (0))]), (.bool (false))]) else (bif n == 18446744073709551615 then some (.tup [(.agg [(.int .i64 (0)), (.int .i64 (0)), (.int .i64 (0))]), (.bool (false))]) else some (.tup [(.agg [(.int .i64 (IntKind.i64.wrap (IntKind.i64.wrap (bitsOp BinOp.and IntKind.u64 (n.fdiv 256) 67108863) - 1))), (.int .i64 (IntKind.i64.wrap (IntKind.i64.wrap (bitsOp BinOp.and IntKind.u64 (n.fdiv 17179869184) 67108863) - 1))), (.int .i64 (IntKind.i64.wrap (bitsOp BinOp.and IntKind.u64 n 255)))]), (.bool (true))]))) := by kernel_rfl
theorem s18_ok : SumOk Try.prog 18 (sUn UF UB UL UK) := fun args v e => by
  unfold sUn at e
  split at e
  · rename_i n
    injection e with e; subst e
    refine ⟨rfl, rfl, runs_ofN (envS_ok (l := [(9, sPK PK)]) ⟨s9_ok, trivial⟩) (n := 60) ?_⟩
    rw [T18]
    unfold UF UB UL UK
    show (bif PK (uF n) (uB n) (uL n) != n then some (AV.tup [(.agg [(.int .i64 (0)), (.int .i64 (0)), (.int .i64 (0))]), (.bool (false))]) else (bif n == 18446744073709551615 then some (AV.tup [(.agg [(.int .i64 (0)), (.int .i64 (0)), (.int .i64 (0))]), (.bool (false))]) else some (AV.tup [(.agg [(.int .i64 (uF n)), (.int .i64 (uB n)), (.int .i64 (uL n))]), (.bool (true))]))) = _
    cases PK (uF n) (uB n) (uL n) != n <;> cases n == 18446744073709551615 <;> rfl
  · cases e
theorem and26 (x : Int) (h0 : 0 ≤ x) (h1 : x < 18446744073709551616) : bitsOp .and .u64 x 67108863 = x % 67108864 := and64_mod 26 (by omega) x h0 h1
theorem and8 (x : Int) (h0 : 0 ≤ x) (h1 : x < 18446744073709551616) : bitsOp .and .u64 x 255 = x % 256 := and64_mod 8 (by omega) x h0 h1
theorem u_back (a b c : Int) (ha : IsC a) (hb : IsC b) (h0 : 0 ≤ c) (h1 : c ≤ 255) :
    uF (c + 256 * (a + 1) + 17179869184 * (b + 1)) = a ∧ uB (c + 256 * (a + 1) + 17179869184 * (b + 1)) = b ∧ uL (c + 256 * (a + 1) + 17179869184 * (b + 1)) = c := by
  have h2 := isC_bnd ha
  have h3 := isC_bnd hb
  unfold uF uB uL
  rw [Int.fdiv_eq_ediv_of_nonneg _ (by omega), Int.fdiv_eq_ediv_of_nonneg _ (by omega), and26 _ (by omega) (by omega), and26 _ (by omega) (by omega), and8 _ (by omega) (by omega)]
  simp only [IntKind.wrap_i64]
  omega
theorem unpack_back {a b c : Int} (h : RT a b c = true) : UK (PK a b c) = true ∧ UF (PK a b c) = a ∧ UB (PK a b c) = b ∧ UL (PK a b c) = c := by
  obtain ⟨h1, h2, h3, h4⟩ := (rt_iff a b c).1 h
  have e := pk_right h
  obtain ⟨u1, u2, u3⟩ := u_back a b c h1 h2 h3 h4
  rw [← e] at u1 u2 u3
  have k : UK (PK a b c) = true := by
    unfold UK
    rw [u1, u2, u3]
    have b1 := isC_bnd h1
    have b2 := isC_bnd h2
    have : (PK a b c == 18446744073709551615) = false := by rw [e]; simp; omega
    rw [this]
    simp
  refine ⟨k, ?_, ?_, ?_⟩
  · unfold UF; rw [k]; exact u1
  · unfold UB; rw [k]; exact u2
  · unfold UL; rw [k]; exact u3
theorem unpack_right {n : Int} (h : UK n = true) : RT (UF n) (UB n) (UL n) = true ∧ PK (UF n) (UB n) (UL n) = n := by
  have e1 : UF n = uF n := by unfold UF; rw [h]; rfl
  have e2 : UB n = uB n := by unfold UB; rw [h]; rfl
  have e3 : UL n = uL n := by unfold UL; rw [h]; rfl
  rw [e1, e2, e3]
  unfold UK at h
  cases hq : PK (uF n) (uB n) (uL n) != n with
  | true => rw [hq] at h; cases h
  | false =>
    rw [hq] at h
    have hp : PK (uF n) (uB n) (uL n) = n := by simpa using hq
    refine ⟨?_, hp⟩
    cases hr : RT (uF n) (uB n) (uL n) with
    | true => rfl
    | false =>
      rw [pk_wrong hr] at hp
      rw [← hp] at h
      simp at h
theorem unpack_none {n : Int} (h : UK n = false) : UF n = 0 ∧ UB n = 0 ∧ UL n = 0 := by
  unfold UF UB UL; rw [h]; exact ⟨rfl, rfl, rfl⟩

/-! ### pens made of numbers -/
theorem ex_bif {α : Type} {p : Option AV → α → Prop} {c : Bool} {x y : Option AV} (h1 : c = true → ∃ v, p x v) (h2 : c = false → ∃ v, p y v) : ∃ v, p (bif c then x else y) v := by
  cases c with
  | true => exact h1 rfl
  | false => exact h2 rfl
def IsIC (x : Option AV) (v : Int) : Prop := x = some (.int .i64 v) ∧ IsC v
theorem T24 (n : Int) : acall (R := AV) (envS []) 60 24 [.int .i64 n] [] outN = (bif decide (n.tmod 4 < 0) then (bif IntKind.i64.wrap (0 + IntKind.i64.wrap (IntKind.i64.wrap (IntKind.i64.wrap (n.tmod 4 + 3) - 0) + 1)) == 0 then some (.int .i64 ((-1))) else (bif IntKind.i64.wrap (0 + IntKind.i64.wrap (IntKind.i64.wrap (IntKind.i64.wrap (n.tmod 4 + 3) - 0) + 1)) == 1 then (bif decide ((IntKind.i64.wrap (n.tdiv 4)).tmod 16 < 0) then some (.int .i64 (IntKind.i64.wrap (0 + IntKind.i64.wrap (IntKind.i64.wrap (IntKind.i64.wrap ((IntKind.i64.wrap (n.tdiv 4)).tmod 16 + 15) - 0) + 1)))) else some (.int .i64 (IntKind.i64.wrap (0 + (IntKind.i64.wrap (n.tdiv 4)).tmod 16)))) else (bif IntKind.i64.wrap (0 + IntKind.i64.wrap (IntKind.i64.wrap (IntKind.i64.wrap (n.tmod 4 + 3) - 0) + 1)) == 2 then (bif decide ((IntKind.i64.wrap (n.tdiv 4)).tmod 256 < 0) then some (.int .i64 (IntKind.i64.wrap (0 + IntKind.i64.wrap (IntKind.i64.wrap (IntKind.i64.wrap ((IntKind.i64.wrap (n.tdiv 4)).tmod 256 + 255) - 0) + 1)))) else some (.int .i64 (IntKind.i64.wrap (0 + (IntKind.i64.wrap (n.tdiv 4)).tmod 256)))) else (bif decide ((IntKind.i64.wrap (n.tdiv 4)).tmod 16777216 < 0) then some (.int .i64 (IntKind.i64.wrap (16777216 + IntKind.i64.wrap (0 + IntKind.i64.wrap (IntKind.i64.wrap (IntKind.i64.wrap ((IntKind.i64.wrap (n.tdiv 4)).tmod 16777216 + 16777215) - 0) + 1))))) else some (.int .i64 (IntKind.i64.wrap (16777216 + IntKind.i64.wrap (0 + (IntKind.i64.wrap (n.tdiv 4)).tmod 16777216)))))))) else (bif IntKind.i64.wrap (0 + n.tmod 4) == 0 then some (.int .i64 ((-1))) else (bif IntKind.i64.wrap (0 + n.tmod 4) == 1 then (bif decide ((IntKind.i64.wrap (n.tdiv 4)).tmod 16 < 0) then some (.int .i64 (IntKind.i64.wrap (0 + IntKind.i64.wrap (IntKind.i64.wrap (IntKind.i64.wrap ((IntKind.i64.wrap (n.tdiv 4)).tmod 16 + 15) - 0) + 1)))) else some (.int .i64 (IntKind.i64.wrap (0 + (IntKind.i64.wrap (n.tdiv 4)).tmod 16)))) else (bif IntKind.i64.wrap (0 + n.tmod 4) == 2 then (bif decide ((IntKind.i64.wrap (n.tdiv 4)).tmod 256 < 0) then some (.int .i64 (IntKind.i64.wrap (0 + IntKind.i64.wrap (IntKind.i64.wrap (IntKind.i64.wrap ((IntKind.i64.wrap (n.tdiv 4)).tmod 256 + 255) - 0) + 1)))) else some (.int .i64 (IntKind.i64.wrap (0 + (IntKind.i64.wrap (n.tdiv 4)).tmod 256)))) else (bif decide ((IntKind.i64.wrap (n.tdiv 4)).tmod 16777216 < 0) then some (.int .i64 (IntKind.i64.wrap (16777216 + IntKind.i64.wrap (0 + IntKind.i64.wrap (IntKind.i64.wrap (IntKind.i64.wrap ((IntKind.i64.wrap (n.tdiv 4)).tmod 16777216 + 16777215) - 0) + 1))))) else some (.int .i64 (IntKind.i64.wrap (16777216 + IntKind.i64.wrap (0 + (IntKind.i64.wrap (n.tdiv 4)).tmod 16777216))))))))) := by kernel_rfl
theorem ex24 (n : Int) : ∃ v, IsIC (acall (R := AV) (envS []) 60 24 [.int .i64 n] [] outN) v := by
  rw [T24]
  generalize IntKind.i64.wrap (n.tdiv 4) = x
  generalize n.tmod 4 = y
  have a1 := Int.tmod_lt_of_pos x (show (0 : Int) < 16 by omega)
  have a2 := Int.lt_tmod_of_pos x (show (0 : Int) < 16 by omega)
  have b1 := Int.tmod_lt_of_pos x (show (0 : Int) < 256 by omega)
  have b2 := Int.lt_tmod_of_pos x (show (0 : Int) < 256 by omega)
  have c1 := Int.tmod_lt_of_pos x (show (0 : Int) < 16777216 by omega)
  have c2 := Int.lt_tmod_of_pos x (show (0 : Int) < 16777216 by omega)
  generalize x.tmod 16 = t at a1 a2 ⊢
  generalize x.tmod 256 = u at b1 b2 ⊢
  generalize x.tmod 16777216 = z at c1 c2 ⊢
  repeat' (first | (refine ex_bif ?_ ?_ <;> intro _))
  all_goals refine ⟨_, rfl, ?_⟩
  all_goals unfold IsC
  all_goals simp only [decide_eq_true_eq, decide_eq_false_iff_not, IntKind.wrap_i64] at *
  all_goals omega
noncomputable def CF (n : Int) : Int := Classical.choose (ex24 n)
theorem cf_is (n : Int) : IsC (CF n) := (Classical.choose_spec (ex24 n)).2
theorem s24_ok : SumOk Try.prog 24 (sCol CF) := fun args v e => by
  unfold sCol at e
  split at e
  · rename_i n
    injection e with e; subst e
    exact ⟨rfl, rfl, runs_ofN (envS_ok (l := []) trivial) (Classical.choose_spec (ex24 n)).1⟩
  · cases e
def W255 (c : Int) : Int := bif decide (c.tmod 256 < 0) then IntKind.i64.wrap (0 + IntKind.i64.wrap (IntKind.i64.wrap (IntKind.i64.wrap (c.tmod 256 + 255) - 0) + 1)) else IntKind.i64.wrap (0 + c.tmod 256)
theorem w255_bnd (n : Int) : 0 ≤ W255 n ∧ W255 n ≤ 255 := by
  have h1 := Int.tmod_lt_of_pos n (show (0 : Int) < 256 by omega)
  have h2 := Int.lt_tmod_of_pos n (show (0 : Int) < 256 by omega)
  unfold W255
  generalize n.tmod 256 = t at h1 h2 ⊢
  by_cases h : t < 0
  · rw [decide_eq_true h]; simp only [cond_true, IntKind.wrap_i64]; omega
  · rw [decide_eq_false h]; simp only [cond_false, IntKind.wrap_i64]; omega
theorem T17 (CF : Int → Int) (a b c : Int) : acall (R := AV) (envS [(24, sCol CF)]) 60 17 [.agg [.int .i64 a, .int .i64 b, .int .i64 c]] [] outN = (bif decide (c.tmod 256 < 0) then some (.agg [(.int .i64 (CF a)), (.int .i64 (CF b)), (.int .i64 (IntKind.i64.wrap (0 + IntKind.i64.wrap (IntKind.i64.wrap (IntKind.i64.wrap (c.tmod 256 + 255) - 0) + 1))))]) else some (.agg [(.int .i64 (CF a)), (.int .i64 (CF b)), (.int .i64 (IntKind.i64.wrap (0 + c.tmod 256)))])) := by kernel_rfl
theorem s17_ok : SumOk Try.prog 17 (sPen CF W255) := fun args v e => by
  unfold sPen at e
  split at e
  · rename_i a b c
    injection e with e; subst e
    refine ⟨rfl, rfl, runs_ofN (envS_ok (l := [(24, sCol CF)]) ⟨s24_ok, trivial⟩) (n := 60) ?_⟩
    rw [T17]
    unfold W255
    cases decide (c.tmod 256 < 0) <;> rfl
  · cases e
theorem T3 : acall (R := AV) env0 60 3 [] [] outN = some (.bool true) := by kernel_rfl
theorem s3_ok : SumOk Try.prog 3 sTrue := fun args v e => by
  unfold sTrue at e
  split at e
  · injection e with e; subst e
    exact ⟨rfl, rfl, runs_ofN env0_ok T3⟩
  · cases e

/-! ### the law -/
theorem rt_made (a b c : Int) : RT (CF a) (CF b) (W255 c) = true := (rt_iff _ _ _).2 ⟨cf_is a, cf_is b, w255_bnd c⟩
theorem pk_same (a0 a1 a2 b0 b1 b2 : Int) : (PK (CF a0) (CF a1) (W255 a2) == PK (CF b0) (CF b1) (W255 b2)) = (CF a0 == CF b0 && (CF a1 == CF b1 && (W255 a2 == W255 b2 && true))) := by
  rw [pk_right (rt_made a0 a1 a2), pk_right (rt_made b0 b1 b2)]
  have h1 := isC_bnd (cf_is a0); have h2 := isC_bnd (cf_is a1); have h3 := w255_bnd a2
  have h4 := isC_bnd (cf_is b0); have h5 := isC_bnd (cf_is b1); have h6 := w255_bnd b2
  rw [Bool.eq_iff_iff]
  simp only [beq_iff_eq, Bool.and_eq_true, and_true]
  omega
theorem pk_top (a b c : Int) : (PK (CF a) (CF b) (W255 c)).fdiv 1152921504606846976 = 0 := by
  rw [pk_right (rt_made a b c)]
  have h1 := isC_bnd (cf_is a); have h2 := isC_bnd (cf_is b); have h3 := w255_bnd c
  rw [Int.fdiv_eq_ediv_of_nonneg _ (by omega)]
  omega
theorem rt_none (a b c : Int) : (RT a b c == (PK a b c != 18446744073709551615)) = true := by
  cases h : RT a b c with
  | false => rw [pk_wrong h]; rfl
  | true =>
    obtain ⟨h1, h2, h3, h4⟩ := (rt_iff a b c).1 h
    have b1 := isC_bnd h1
    have b2 := isC_bnd h2
    have : (PK a b c != 18446744073709551615) = true := by rw [pk_right h]; simp; omega
    rw [this]; rfl
theorem law_tree (RT : Int → Int → Int → Bool) (PK : Int → Int → Int → Int) (CF W255 UF UB UL : Int → Int) (UK : Int → Bool) (a0 a1 a2 b0 b1 b2 n r0 r1 r2 : Int) :
    acall (R := Bool) (envS [(9, sPK PK), (11, sRT RT), (18, sUn UF UB UL UK), (17, sPen CF W255), (3, sTrue)]) 60 7 [.agg [.int .i64 a0, .int .i64 a1, .int .i64 a2], .agg [.int .i64 b0, .int .i64 b1, .int .i64 b2], .int .u64 n, .agg [.int .i64 r0, .int .i64 r1, .int .i64 r2]] [] isTrue =
  (bif !RT (CF a0) (CF a1) (W255 a2) then some Bool.false else (bif !UK (PK (CF a0) (CF a1) (W255 a2)) then some Bool.false else (bif !(UF (PK (CF a0) (CF a1) (W255 a2)) == CF a0 && (UB (PK (CF a0) (CF a1) (W255 a2)) == CF a1 && (UL (PK (CF a0) (CF a1) (W255 a2)) == W255 a2 && Bool.true))) then some Bool.false else (bif !(PK (CF a0) (CF a1) (W255 a2) == PK (CF b0) (CF b1) (W255 b2)) == (CF a0 == CF b0 && (CF a1 == CF b1 && (W255 a2 == W255 b2 && Bool.true))) then some Bool.false else (bif (PK (CF a0) (CF a1) (W255 a2)).fdiv 1152921504606846976 != 0 then some Bool.false else (bif UK n then (bif !RT (UF n) (UB n) (UL n) then some Bool.false else (bif PK (UF n) (UB n) (UL n) != n then some Bool.false else (bif !UK n then (bif !(UF n == 0 && (UB n == 0 && (UL n == 0 && Bool.true))) then some Bool.false else (bif RT r0 r1 r2 == (PK r0 r1 r2 != 18446744073709551615) then (bif PK (CF a0) (CF a1) (W255 a2) == bitsOp BinOp.or IntKind.u64 (bitsOp BinOp.or IntKind.u64 (IntKind.u64.wrap (W255 a2)) (IntKind.u64.wrap (IntKind.u64.wrap (IntKind.i64.wrap (CF a0 + 1)) * 256))) (IntKind.u64.wrap (IntKind.u64.wrap (IntKind.i64.wrap (CF a1 + 1)) * 17179869184)) then some Bool.true else some Bool.false) else some Bool.false)) else (bif RT r0 r1 r2 == (PK r0 r1 r2 != 18446744073709551615) then (bif PK (CF a0) (CF a1) (W255 a2) == bitsOp BinOp.or IntKind.u64 (bitsOp BinOp.or IntKind.u64 (IntKind.u64.wrap (W255 a2)) (IntKind.u64.wrap (IntKind.u64.wrap (IntKind.i64.wrap (CF a0 + 1)) * 256))) (IntKind.u64.wrap (IntKind.u64.wrap (IntKind.i64.wrap (CF a1 + 1)) * 17179869184)) then some Bool.true else some Bool.false) else some Bool.false)))) else (bif !UK n then (bif !(UF n == 0 && (UB n == 0 && (UL n == 0 && Bool.true))) then some Bool.false else (bif RT r0 r1 r2 == (PK r0 r1 r2 != 18446744073709551615) then (bif PK (CF a0) (CF a1) (W255 a2) == bitsOp BinOp.or IntKind.u64 (bitsOp BinOp.or IntKind.u64 (IntKind.u64.wrap (W255 a2)) (IntKind.u64.wrap (IntKind.u64.wrap (IntKind.i64.wrap (CF a0 + 1)) * 256))) (IntKind.u64.wrap (IntKind.u64.wrap (IntKind.i64.wrap (CF a1 + 1)) * 17179869184)) then some Bool.true else some Bool.false) else some Bool.false)) else (bif RT r0 r1 r2 == (PK r0 r1 r2 != 18446744073709551615) then (bif PK (CF a0) (CF a1) (W255 a2) == bitsOp BinOp.or IntKind.u64 (bitsOp BinOp.or IntKind.u64 (IntKind.u64.wrap (W255 a2)) (IntKind.u64.wrap (IntKind.u64.wrap (IntKind.i64.wrap (CF a0 + 1)) * 256))) (IntKind.u64.wrap (IntKind.u64.wrap (IntKind.i64.wrap (CF a1 + 1)) * 17179869184)) then some Bool.true else some Bool.false) else some Bool.false)))))))) := by kernel_rfl
theorem law_true (a0 a1 a2 b0 b1 b2 n r0 r1 r2 : Int) :
    acall (R := Bool) (envS [(9, sPK PK), (11, sRT RT), (18, sUn UF UB UL UK), (17, sPen CF W255), (3, sTrue)]) 60 7 [.agg [.int .i64 a0, .int .i64 a1, .int .i64 a2], .agg [.int .i64 b0, .int .i64 b1, .int .i64 b2], .int .u64 n, .agg [.int .i64 r0, .int .i64 r1, .int .i64 r2]] [] isTrue = some true := by
  rw [law_tree]
  have hm := rt_made a0 a1 a2
  obtain ⟨k1, k2, k3, k4⟩ := unpack_back hm
  have hex : PK (CF a0) (CF a1) (W255 a2) = EX (CF a0) (CF a1) (W255 a2) := by unfold PK; rw [hm]; rfl
  have hlast : (PK (CF a0) (CF a1) (W255 a2) == bitsOp BinOp.or IntKind.u64 (bitsOp BinOp.or IntKind.u64 (IntKind.u64.wrap (W255 a2)) (IntKind.u64.wrap (IntKind.u64.wrap (IntKind.i64.wrap (CF a0 + 1)) * 256))) (IntKind.u64.wrap (IntKind.u64.wrap (IntKind.i64.wrap (CF a1 + 1)) * 17179869184))) = true := by
    rw [hex]; exact beq_self_eq_true _
  rw [hlast, pk_same, pk_top, rt_none, hm, k1, k2, k3, k4]
  cases h : UK n with
  | true =>
    obtain ⟨u1, u2⟩ := unpack_right h
    rw [u1, u2]
    simp
  | false =>
    obtain ⟨u1, u2, u3⟩ := unpack_none h
    rw [u1, u2, u3]
    simp
theorem relI (m : Mem) (a : Int) : Rel m [] (.int .i64 a) (.int .i64 a) := ⟨rfl, rfl⟩
theorem relP (m : Mem) (a b c : Int) : Rel m [] (.agg [.int .i64 a, .int .i64 b, .int .i64 c]) (.agg #[.int .i64 a, .int .i64 b, .int .i64 c]) :=
  ⟨[.int .i64 a, .int .i64 b, .int .i64 c], rfl, _, _, rfl, ⟨rfl, rfl⟩, (fun _ => rfl), _, _, rfl, ⟨rfl, rfl⟩, (fun _ => rfl), _, _, rfl, ⟨rfl, rfl⟩, (fun _ => rfl), rfl⟩
theorem law_calls (a0 a1 a2 : Int) (_ : (Lit.int .i64 a0).wf = true) (_ : (Lit.int .i64 a1).wf = true) (_ : (Lit.int .i64 a2).wf = true) (b0 b1 b2 : Int) (_ : (Lit.int .i64 b0).wf = true) (_ : (Lit.int .i64 b1).wf = true) (_ : (Lit.int .i64 b2).wf = true)
    (n : Int) (_ : (Lit.int .u64 n).wf = true) (r0 r1 r2 : Int) (_ : (Lit.int .i64 r0).wf = true) (_ : (Lit.int .i64 r1).wf = true) (_ : (Lit.int .i64 r2).wf = true) (W : World) :
    Calls Try.prog 7 #[.agg #[.int .i64 a0, .int .i64 a1, .int .i64 a2], .agg #[.int .i64 b0, .int .i64 b1, .int .i64 b2], .int .u64 n, .agg #[.int .i64 r0, .int .i64 r1, .int .i64 r2]] W fun e W' => e = .returned (.bool true) ∧ RowKit.Below W.heap.size W W' :=
  law_ok (us := [.agg #[.int .i64 a0, .int .i64 a1, .int .i64 a2], .agg #[.int .i64 b0, .int .i64 b1, .int .i64 b2], .int .u64 n, .agg #[.int .i64 r0, .int .i64 r1, .int .i64 r2]])
    (envS_ok (l := [(9, sPK PK), (11, sRT RT), (18, sUn UF UB UL UK), (17, sPen CF W255), (3, sTrue)]) ⟨s9_ok, s11_ok, s18_ok, s17_ok, s3_ok, trivial⟩) (law_true a0 a1 a2 b0 b1 b2 n r0 r1 r2) W
    fun m _ => ⟨_, _, rfl, relP m a0 a1 a2, (fun k => by cases k), _, _, rfl, relP m b0 b1 b2, (fun k => by cases k), _, _, rfl, ⟨rfl, rfl⟩, (fun k => by cases k), _, _, rfl, relP m r0 r1 r2, (fun k => by cases k), rfl⟩
end Go.Proofs.YtklfdmnmiadgpaaAbs
