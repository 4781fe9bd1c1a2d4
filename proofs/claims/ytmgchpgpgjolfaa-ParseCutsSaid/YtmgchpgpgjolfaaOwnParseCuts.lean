-- Written by a program of this session (own2.py); Lean checks it.
import Derived.Test.YtmgchpgpgjolfaaRows
import Derived.WalkKit
import Derived.ProofKit
import Derived.OpenShut
import Derived.ShutString
import Derived.ChangeOld
import Derived.Below
import Derived.SizedLaws
import Derived.Test.YtmgchpgpgjolfaaBunB4
namespace Go.Proofs.Ytmgchpgpgjolfaa.parseCuts
open Go.ChangeShapes Go.WideShapes Go.ChangeAt Go.RowKit Go.Proofs.YtmgchpgpgjolfaaAbs
set_option linter.unusedVariables false
set_option maxRecDepth 100000
theorem own : ownKnob Try.prog.godebug = none := by kernel_rfl
theorem laidOut : laidOutB Try.prog = true := by kernel_rfl
theorem opl_t5 {W : World} {H : Type} {enc : TypeId × Value → H} {spare : Nat → Bool} {held : Bool} {fuel : Nat} {cs : List Value} {x : DataW H × List MemPlace} (h : DataW.trod enc Try.prog W 0 spare held fuel 5 cs = some x) :
    ∃ (x0 : Int) (v0 : Value), cs = [v0] ∧ CTy.rep W (gd W) (.int .u8) x0 v0 ∧ (Lit.int .u8 x0).wf = true := by
  obtain ⟨a, v, h1, h2, h3⟩ := OpC.int Try.underlying5 h
  exact ⟨a, v, h1, h2, h3⟩
theorem opr_t5 {W : World} : OpR Try.prog W (.one (.int .u8)) 5 (fun y : Int => ((Lit.int .u8 y).wf = true)) := by
  intro H enc spare held fuel cs x h
  obtain ⟨x0, v0, rfl, r0, w0⟩ := opl_t5 h
  exact ⟨x0, ⟨v0, rfl, r0⟩, w0⟩
theorem opl_t26 {W : World} {H : Type} {enc : TypeId × Value → H} {spare : Nat → Bool} {held : Bool} {fuel : Nat} {cs : List Value} {x : DataW H × List MemPlace} (h : DataW.trod enc Try.prog W 0 spare held fuel 26 cs = some x) :
    ∃ (x0 : List (Int)) (v0 : Value), cs = [v0] ∧ CTy.rep W (gd W) (.slice (.one (.int .u8))) x0 v0 ∧ (List.length (α := Int) x0 ≤ 9223372036854775807 ∧ ∀ y : Int, List.Mem y x0 → ((Lit.int .u8 y).wf = true)) := by
  obtain ⟨a, v, h1, h2, h3⟩ := OpC.slice Try.underlying26 (by decide) (show Try.prog.cellsOf 5 = Row.size (.one (.int .u8)) by kernel_rfl) opr_t5 h
  exact ⟨a, v, h1, h2, h3⟩
theorem opl_t3 {W : World} {H : Type} {enc : TypeId × Value → H} {spare : Nat → Bool} {held : Bool} {fuel : Nat} {cs : List Value} {x : DataW H × List MemPlace} (h : DataW.trod enc Try.prog W 0 spare held fuel 3 cs = some x) :
    ∃ (x0 : Int) (v0 : Value), cs = [v0] ∧ CTy.rep W (gd W) (.int .i64) x0 v0 ∧ (Lit.int .i64 x0).wf = true := by
  obtain ⟨a, v, h1, h2, h3⟩ := OpC.int Try.underlying3 h
  exact ⟨a, v, h1, h2, h3⟩
set_option maxRecDepth 100000 in
theorem lifted (os : Os) (started : os.Started) (H : Type) (enc : TypeId × Value → H) :
    ReturnsInHanded {} Try.checked os 7 .any (Rows.parseCutsSpec.pre6 enc Try.prog Try.f7 Rows.parseCutsRow.domain false) (Rows.parseCutsSpec.post enc Try.prog Try.f7 false true false false) := by
  refine returnsInHanded_of_change_sized (C := Try.checked) own started (by kernel_rfl) Try.func7
    (ChangeSpec.witness6 (enc := enc) (C := Try.checked) false ⟨#[], #[.slice none 0 0, .int .i64 0], []⟩ 8 (by kernel_rfl) (by kernel_rfl) (by kernel_rfl) (by kernel_rfl)) ?_
  intro W base args ds gs before hval0 hW hcnd hsz0 _
  have hsz : (DataW.weightsEach Try.prog (Try.f7.params.toList ++ Rows.parseCutsSpec.plain.varTypes Try.prog) (ds ++ gs)).all (· ≤ reachBytes) = true := hsz0
  have hval : ∀ (j : Nat) t v, Try.f7.params[j]? = some t → args[j]? = some v → Value.okWide Try.prog W .any base t v := hval0
  have hW' := hW
  obtain ⟨p, q, hA0, hV, rfl, hfz, hnd⟩ := hW
  have hA : DataW.TrodAll enc Try.prog W 0 (fun _ => true) true Try.f7.params.toList args.toList ds p := hA0
  rw [Try.params7] at hA hval hsz
  obtain ⟨v0, vs0, d0, ds0, p0, q0, hargs, rfl, rfl, h0, r0⟩ := trodAll_cons hA
  obtain ⟨v1, vs1, d1, ds1, p1, q1, rfl, rfl, rfl, h1, r1⟩ := trodAll_cons r0
  obtain ⟨rfl, rfl, rfl⟩ := trodAll_nil r1
  obtain rfl : args = #[v0, v1] := by cases args; simp_all
  obtain ⟨rfl, rfl⟩ := trodVars_none hV
  have k0 := h0
  have lt0 : ∀ x ∈ p0, x.block < W.heap.size := by obtain ⟨m, hm⟩ := k0; exact DataW.trod_lt m _ _ _ hm
  obtain ⟨n0, nl0, nc0, rfl⟩ := okWide_slice Try.underlying26 (hval 0 26 v0 rfl rfl)
  obtain ⟨fuel0, hf0⟩ := h0
  obtain ⟨a0_0, u0_0, E0, q0_0, w0_0⟩ := opl_t26 (cs := [_]) hf0
  simp only [List.cons.injEq, and_true] at E0
  obtain rfl := E0
  have k1 := h1
  have lt1 : ∀ x ∈ p1, x.block < W.heap.size := by obtain ⟨m, hm⟩ := k1; exact DataW.trod_lt m _ _ _ hm
  obtain ⟨n1, rfl⟩ := okWide_int Try.underlying3 (hval 1 3 v1 rfl rfl)
  obtain ⟨fuel1, hf1⟩ := h1
  obtain ⟨a1_0, u1_0, E1, q1_0, w1_0⟩ := opl_t3 (cs := [_]) hf1
  simp only [List.cons.injEq, and_true] at E1
  obtain rfl := E1
  clear hA0 hval0 hsz0 hsz
  refine (law_res (us := [.slice n0 nl0 nc0, .int _ n1]) (envC_ok linguistlaw5_ParseCuts_pp_ok linguistlaw5_ParseCuts_su_ok linguistlaw5_ParseCuts_ll1_ok cs0_ok) (parseCuts_run a0_0 a1_0 w0_0 w1_0) W ⟨_, _, rfl, ⟨q0_0, (fun k => by cases k)⟩, (fun k => by cases k), _, _, rfl, q1_0, (fun k => by cases k), rfl⟩).mono fun e W' ⟨he, bel⟩ => ?_
  subst he
  exact ⟨_, rfl, _, _, _, [], _, [], hW', trodAll_mk1 (shut_bool Try.underlying4 _), (trodAll_cons_mk (Below.trod laidOut (by kernel_rfl) (of_decide_eq_true (by kernel_rfl)) k0 bel lt0) (trodAll_cons_mk (Below.trod laidOut (by kernel_rfl) (of_decide_eq_true (by kernel_rfl)) k1 bel lt1) trodAll_mk0)), rfl, bel.frame _, fun h => by cases h⟩
theorem over : Rows.parseCutsRow.holds Try.pinned (OpenSpec.ofChange Rows.parseCutsSpec) :=
  OpenClaim.holds_of_wide 7 Try.f7 rfl rfl rfl rfl rfl rfl rfl ⟨rfl, rfl, rfl, rfl, rfl⟩ rfl rfl rfl rfl rfl (by kernel_rfl) Try.func7 (by kernel_rfl)
    (of_decide_eq_true (by kernel_rfl)) (by unfold Func.isWrapper; first | (rw [if_pos (by decide +kernel)]; kernel_rfl) | (rw [if_neg (by decide +kernel)]; exact ⟨rfl, rfl⟩))
    (fun os started H enc _ => lifted os started H enc)
theorem proved : Rows.ParseCutsSaid := over
#print axioms proved
end Go.Proofs.Ytmgchpgpgjolfaa.parseCuts
namespace Go.Proofs.Ytmgchpgpgjolfaa
/-- The row, under a short name, for the claim. -/
theorem parseCuts_holds : Rows.ParseCutsSaid := parseCuts.proved
end Go.Proofs.Ytmgchpgpgjolfaa
