-- Written by a program of this session (out of the kit's printer); Lean checks it.
import Derived.Test.YtklfdmnmiadgpaaRows
import Derived.Test.YtklfdmnmiadgpaaGCellTellsx5
import Derived.Test.YtklfdmnmiadgpaaPureCellTells
import Derived.Test.YtklfdmnmiadgpaaMine
import Derived.WalkKit
import Derived.ProofKit
import Derived.OpenShut
import Derived.ShutString
import Derived.ChangeOld
import Derived.Below
import Derived.SizedLaws
import Derived.Test.YtklfdmnmiadgpaaWSized
namespace Go.Proofs.Ytklfdmnmiadgpaa.cellTells
open Go.ChangeShapes Go.WideShapes Go.ChangeAt Go.RowKit Go.Proofs.YtklfdmnmiadgpaaMine Go.Proofs.Ytklfdmnmiadgpaa.GCellTells
open Go.Proofs.YtklfdmnmiadgpaaW.PrintWords (Kd)
open Go.ChangeMaps (open_string shut_string)
set_option linter.unusedVariables false
theorem own : ownKnob Try.prog.godebug = none := by kernel_rfl
theorem laidOut : laidOutB Try.prog = true := by kernel_rfl
theorem open_t26 {H : Type} {enc : TypeId × Value → H} {W : World} {r : Reach} {b0 : Nat} {spare : Nat → Bool} {held : Bool} {v : Value} {d : DataW H} {p : List MemPlace} (hv : Value.okWide Try.prog W r b0 26 v) (h : DataW.Trod enc Try.prog W 0 spare held 26 v d p) :
    ∃ (a_0 : Int) (a_1 : Int) (a_2 : Int), v = .agg #[.int .i64 a_0, .int .i64 a_1, .int .i64 a_2] ∧ (Lit.int .i64 a_0).wf = true ∧ (Lit.int .i64 a_1).wf = true ∧ (Lit.int .i64 a_2).wf = true := by
  obtain ⟨cs, rfl, hsz⟩ := okWide_struct Try.underlying26 hv
  obtain ⟨c0, c1, c2, rfl⟩ := array_3 (hsz.trans (show Try.prog.cellsOf 26 = 3 by kernel_rfl))
  obtain ⟨fuel, hf⟩ := h
  have h0 : DataW.trod enc Try.prog W 0 spare held fuel 26 [c0, c1, c2] = some (d, p) := hf
  obtain ⟨n_, hf_⟩ := trod_fields Try.underlying26 h0
  obtain ⟨y__0, e__0⟩ := hf_ 0 _ rfl
  have g__0 : DataW.trod enc Try.prog W 0 spare held n_ 3 [c0] = some y__0 := e__0
  obtain ⟨a__0, hk__0, hw__0⟩ := (Opens.int Try.underlying3) g__0
  obtain ⟨y__1, e__1⟩ := hf_ 1 _ rfl
  have g__1 : DataW.trod enc Try.prog W 0 spare held n_ 3 [c1] = some y__1 := e__1
  obtain ⟨a__1, hk__1, hw__1⟩ := (Opens.int Try.underlying3) g__1
  obtain ⟨y__2, e__2⟩ := hf_ 2 _ rfl
  have g__2 : DataW.trod enc Try.prog W 0 spare held n_ 3 [c2] = some y__2 := e__2
  obtain ⟨a__2, hk__2, hw__2⟩ := (Opens.int Try.underlying3) g__2
  obtain rfl : c0 = .int .i64 a__0 := by simpa [Kd.int, Kd.bool, Kd.string, Kd.scalar] using hk__0
  obtain rfl : c1 = .int .i64 a__1 := by simpa [Kd.int, Kd.bool, Kd.string, Kd.scalar] using hk__1
  obtain rfl : c2 = .int .i64 a__2 := by simpa [Kd.int, Kd.bool, Kd.string, Kd.scalar] using hk__2
  exact ⟨a__0, a__1, a__2, rfl, hw__0, hw__1, hw__2⟩
set_option maxRecDepth 100000 in
theorem lifted (os : Os) (started : os.Started) (H : Type) (enc : TypeId × Value → H) :
    ReturnsInHanded {} Try.checked os 5 .any (Rows.cellTellsSpec.pre6 enc Try.prog Try.f5 Rows.cellTellsRow.domain false) (Rows.cellTellsSpec.post enc Try.prog Try.f5 false true false false) := by
  refine returnsInHanded_of_change_sized (C := Try.checked) own started (by kernel_rfl) Try.func5
    (ChangeSpec.witness6 (enc := enc) (C := Try.checked) false ⟨#[], #[.int .i32 0, .agg #[.int .i64 0, .int .i64 0, .int .i64 0], .slice none 0 0], []⟩ 8 (by kernel_rfl) (by kernel_rfl) (by kernel_rfl) (by kernel_rfl)) ?_
  intro W base args ds gs before hval0 hW hcnd hsz0 _
  have hsz : (DataW.weightsEach Try.prog (Try.f5.params.toList ++ Rows.cellTellsSpec.plain.varTypes Try.prog) (ds ++ gs)).all (· ≤ reachBytes) = true := hsz0
  have hval : ∀ (j : Nat) t v, Try.f5.params[j]? = some t → args[j]? = some v → Value.okWide Try.prog W .any base t v := hval0
  have hW' := hW
  obtain ⟨p, q, hA0, hV, rfl, hfz, hnd⟩ := hW
  have hA : DataW.TrodAll enc Try.prog W 0 (fun _ => true) true Try.f5.params.toList args.toList ds p := hA0
  rw [Try.params5] at hA hval hsz
  obtain ⟨v0, vs0, d0, ds0, p0, q0, hargs, rfl, rfl, h0, r0⟩ := trodAll_cons hA
  obtain ⟨v1, vs1, d1, ds1, p1, q1, rfl, rfl, rfl, h1, r1⟩ := trodAll_cons r0
  obtain ⟨v2, vs2, d2, ds2, p2, q2, rfl, rfl, rfl, h2, r2⟩ := trodAll_cons r1
  obtain ⟨rfl, rfl, rfl⟩ := trodAll_nil r2
  obtain rfl : args = #[v0, v1, v2] := by cases args; simp_all
  obtain ⟨rfl, rfl⟩ := trodVars_none hV
  obtain ⟨a0, rfl, rfl, rfl, w0⟩ := open_int Try.underlying21 (hval 0 21 v0 rfl rfl) h0
  have k1 := h1
  have lt1 : ∀ x ∈ p1, x.block < W.heap.size := by obtain ⟨m, hm⟩ := k1; exact DataW.trod_lt m _ _ _ hm
  obtain ⟨a1_0, a1_1, a1_2, rfl, w1_0, w1_1, w1_2⟩ := open_t26 (hval 1 26 v1 rfl rfl) h1
  have k2 := h2
  have lt2 : ∀ x ∈ p2, x.block < W.heap.size := by obtain ⟨m, hm⟩ := k2; exact DataW.trod_lt m _ _ _ hm
  obtain ⟨A2, len2, c2, rfl⟩ := okWide_slice Try.underlying37 (hval 2 37 v2 rfl rfl)
  have y2 : len2 * 8 ≤ 140737488351232 := Go.Proofs.YtklfdmnmiadgpaaW.PrintWords.sized_ints hsz (j := 2) (t := 37) rfl rfl Try.underlying37 Try.underlying3 (by kernel_rfl) (by kernel_rfl) h2
  obtain ⟨fuel2, hf2⟩ := h2
  obtain ⟨l2, hk2, hw2⟩ := (Opens.slice Try.underlying37 (by kernel_rfl) (Opens.int Try.underlying3)) (show DataW.trod enc Try.prog W 0 _ _ fuel2 37 [.slice A2 len2 c2] = _ from hf2)
  obtain ⟨B2, d2_, e2_, hl2, hC2⟩ := hk2
  simp only [List.cons.injEq, Value.slice.injEq, and_true] at e2_
  obtain ⟨rfl, rfl, rfl⟩ := e2_
  clear hA0 hval0 hsz0 hsz
  refine (GCellTells.linguistlaw2_CellTells.walk Pure.CellTells a0 a1_0 a1_1 a1_2 _ _ l2 W w0 w1_0 w1_1 w1_2 hw2.1 y2 hw2.2 hC2 hl2).mono fun e W' ⟨he, bel⟩ => ?_
  subst he
  exact ⟨_, rfl, _, _, _, [], _, [], hW', trodAll_mk1 (shut_bool Try.underlying4 _), (trodAll_cons_mk (shut_int Try.underlying21 w0) (trodAll_cons_mk (Below.trod laidOut (by kernel_rfl) (of_decide_eq_true (by kernel_rfl)) k1 bel lt1) (trodAll_cons_mk (Below.trod laidOut (by kernel_rfl) (of_decide_eq_true (by kernel_rfl)) k2 bel lt2) trodAll_mk0))), rfl, bel.frame _, fun h => by cases h⟩
theorem over : Rows.cellTellsRow.holds Try.pinned (OpenSpec.ofChange Rows.cellTellsSpec) :=
  OpenClaim.holds_of_wide 5 Try.f5 rfl rfl rfl rfl rfl rfl rfl ⟨rfl, rfl, rfl, rfl, rfl⟩ rfl rfl rfl rfl rfl (by kernel_rfl) Try.func5 (by kernel_rfl)
    (of_decide_eq_true (by kernel_rfl)) (by unfold Func.isWrapper; first | (rw [if_pos (by decide +kernel)]; kernel_rfl) | (rw [if_neg (by decide +kernel)]; exact ⟨rfl, rfl⟩))
    (fun os started H enc _ => lifted os started H enc)
theorem proved : Rows.CellTellsSaid := over
#print axioms proved
end Go.Proofs.Ytklfdmnmiadgpaa.cellTells
namespace Go.Proofs.Ytklfdmnmiadgpaa
/-- The row, under a short name, for the claim. -/
theorem cellTells_holds : Rows.CellTellsSaid := cellTells.proved
end Go.Proofs.Ytklfdmnmiadgpaa
