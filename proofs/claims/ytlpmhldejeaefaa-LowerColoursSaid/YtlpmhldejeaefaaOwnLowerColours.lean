-- Written by a program of this session (own1.py); Lean checks it.
import Derived.Test.YtlpmhldejeaefaaRows
import Derived.Test.YtlpmhldejeaefaaAbsColB
import Derived.Test.YtlpmhldejeaefaaAbsCore28
import Derived.WalkKit
import Derived.ProofKit
import Derived.OpenShut
import Derived.ShutString
import Derived.ChangeOld
import Derived.Below
import Derived.SizedLaws
namespace Go.Proofs.Ytlpmhldejeaefaa.lowerColours
open Go.ChangeShapes Go.WideShapes Go.ChangeAt Go.RowKit Go.Proofs.YtlpmhldejeaefaaAbs
set_option linter.unusedVariables false
theorem own : ownKnob Try.prog.godebug = none := by kernel_rfl
theorem laidOut : laidOutB Try.prog = true := by kernel_rfl
theorem array_n3 {cs : Array Value} (h : cs.size = 3) : ∃ c0 c1 c2, cs = #[c0, c1, c2] := by
  obtain ⟨l⟩ := cs
  match l, h with
  | [c0, c1, c2], _ => exact ⟨c0, c1, c2, rfl⟩
theorem open_t31 {H : Type} {enc : TypeId × Value → H} {W : World} {r : Reach} {b0 : Nat} {spare : Nat → Bool} {held : Bool} {v : Value} {d : DataW H} {p : List MemPlace} (hv : Value.okWide Try.prog W r b0 31 v) (h : DataW.Trod enc Try.prog W 0 spare held 31 v d p) :
    ∃ (a_0 : Int) (a_1 : Int) (a_2 : Int), v = .agg #[.int .i64 a_0, .int .i64 a_1, .int .i64 a_2] ∧ (Lit.int .i64 a_0).wf = true ∧ (Lit.int .i64 a_1).wf = true ∧ (Lit.int .i64 a_2).wf = true := by
  obtain ⟨cs, rfl, hsz⟩ := okWide_struct Try.underlying31 hv
  obtain ⟨c0, c1, c2, rfl⟩ := array_n3 (hsz.trans (show Try.prog.cellsOf 31 = 3 by kernel_rfl))
  obtain ⟨fuel, hf⟩ := h
  have h0 : DataW.trod enc Try.prog W 0 spare held fuel 31 [c0, c1, c2] = some (d, p) := hf
  obtain ⟨n_, hf_⟩ := trod_fields Try.underlying31 h0
  obtain ⟨y__0, e__0⟩ := hf_ 0 _ rfl
  have g__0 : DataW.trod enc Try.prog W 0 spare held n_ 3 [c0] = some y__0 := e__0
  obtain ⟨a__0, hk__0, _, hw__0⟩ := DataW.trod_int Try.underlying3 g__0
  obtain rfl : c0 = .int .i64 a__0 := by simpa using hk__0
  obtain ⟨y__1, e__1⟩ := hf_ 1 _ rfl
  have g__1 : DataW.trod enc Try.prog W 0 spare held n_ 3 [c1] = some y__1 := e__1
  obtain ⟨a__1, hk__1, _, hw__1⟩ := DataW.trod_int Try.underlying3 g__1
  obtain rfl : c1 = .int .i64 a__1 := by simpa using hk__1
  obtain ⟨y__2, e__2⟩ := hf_ 2 _ rfl
  have g__2 : DataW.trod enc Try.prog W 0 spare held n_ 3 [c2] = some y__2 := e__2
  obtain ⟨a__2, hk__2, _, hw__2⟩ := DataW.trod_int Try.underlying3 g__2
  obtain rfl : c2 = .int .i64 a__2 := by simpa using hk__2
  exact ⟨a__0, a__1, a__2, rfl, hw__0, hw__1, hw__2⟩
set_option maxRecDepth 100000 in
theorem lifted (os : Os) (started : os.Started) (H : Type) (enc : TypeId × Value → H) :
    ReturnsInHanded {} Try.checked os 4 .any (Rows.lowerColoursSpec.pre6 enc Try.prog Try.f4 Rows.lowerColoursRow.domain false) (Rows.lowerColoursSpec.post enc Try.prog Try.f4 false true false false) := by
  refine returnsInHanded_of_change_sized (C := Try.checked) own started (by kernel_rfl) Try.func4
    (ChangeSpec.witness6 (enc := enc) (C := Try.checked) false ⟨#[], #[.agg #[.int .i64 0, .int .i64 0, .int .i64 0], .int .i64 0], []⟩ 8 (by kernel_rfl) (by kernel_rfl) (by kernel_rfl) (by kernel_rfl)) ?_
  intro W base args ds gs before hval0 hW hcnd hsz0 _
  have hsz : (DataW.weightsEach Try.prog (Try.f4.params.toList ++ Rows.lowerColoursSpec.plain.varTypes Try.prog) (ds ++ gs)).all (· ≤ reachBytes) = true := hsz0
  have hval : ∀ (j : Nat) t v, Try.f4.params[j]? = some t → args[j]? = some v → Value.okWide Try.prog W .any base t v := hval0
  have hW' := hW
  obtain ⟨p, q, hA0, hV, rfl, hfz, hnd⟩ := hW
  have hA : DataW.TrodAll enc Try.prog W 0 (fun _ => true) true Try.f4.params.toList args.toList ds p := hA0
  rw [Try.params4] at hA hval hsz
  obtain ⟨v0, vs0, d0, ds0, p0, q0, hargs, rfl, rfl, h0, r0⟩ := trodAll_cons hA
  obtain ⟨v1, vs1, d1, ds1, p1, q1, rfl, rfl, rfl, h1, r1⟩ := trodAll_cons r0
  obtain ⟨rfl, rfl, rfl⟩ := trodAll_nil r1
  obtain rfl : args = #[v0, v1] := by cases args; simp_all
  obtain ⟨rfl, rfl⟩ := trodVars_none hV
  have k0 := h0
  have lt0 : ∀ x ∈ p0, x.block < W.heap.size := by obtain ⟨m, hm⟩ := k0; exact DataW.trod_lt m _ _ _ hm
  obtain ⟨a0_0, a0_1, a0_2, rfl, w0_0, w0_1, w0_2⟩ := open_t31 (hval 0 31 v0 rfl rfl) h0
  obtain ⟨a1, rfl, rfl, rfl, w1⟩ := open_int Try.underlying3 (hval 1 3 v1 rfl rfl) h1
  clear hA0 hval0 hsz0 hsz
  refine (law_calls a0_0 a0_1 a0_2 w0_0 w0_1 w0_2 a1 w1 W).mono fun e W' ⟨he, bel⟩ => ?_
  subst he
  exact ⟨_, rfl, _, _, _, [], _, [], hW', trodAll_mk1 (shut_bool Try.underlying4 _), (trodAll_cons_mk (Below.trod laidOut (by kernel_rfl) (of_decide_eq_true (by kernel_rfl)) k0 bel lt0) (trodAll_cons_mk (shut_int Try.underlying3 w1) trodAll_mk0)), rfl, bel.frame _, fun h => by cases h⟩
theorem over : Rows.lowerColoursRow.holds Try.pinned (OpenSpec.ofChange Rows.lowerColoursSpec) :=
  OpenClaim.holds_of_wide 4 Try.f4 rfl rfl rfl rfl rfl rfl rfl ⟨rfl, rfl, rfl, rfl, rfl⟩ rfl rfl rfl rfl rfl (by kernel_rfl) Try.func4 (by kernel_rfl)
    (of_decide_eq_true (by kernel_rfl)) (by unfold Func.isWrapper; first | (rw [if_pos (by decide +kernel)]; kernel_rfl) | (rw [if_neg (by decide +kernel)]; exact ⟨rfl, rfl⟩))
    (fun os started H enc _ => lifted os started H enc)
theorem proved : Rows.LowerColoursSaid := over
#print axioms proved
end Go.Proofs.Ytlpmhldejeaefaa.lowerColours
namespace Go.Proofs.Ytlpmhldejeaefaa
/-- The row, under a short name, for the claim. -/
theorem lowerColours_holds : Rows.LowerColoursSaid := lowerColours.proved
end Go.Proofs.Ytlpmhldejeaefaa
