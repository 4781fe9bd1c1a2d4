-- Written by a program of this session (out of the kit's printer); Lean checks it.
import Derived.Test.YtnammlamdhpnpaaRows
import Derived.Test.YtnammlamdhpnpaaGUtfBackx5
import Derived.Test.YtnammlamdhpnpaaPureUtfBack
import Derived.Test.YtnammlamdhpnpaaMine
import Derived.WalkKit
import Derived.ProofKit
import Derived.OpenShut
import Derived.ShutString
import Derived.ChangeOld
import Derived.Below
import Derived.SizedLaws
import Derived.Test.YtnammlamdhpnpaaWSized
namespace Go.Proofs.Ytnammlamdhpnpaa.utfBack
open Go.ChangeShapes Go.WideShapes Go.ChangeAt Go.RowKit Go.Proofs.YtnammlamdhpnpaaMine Go.Proofs.Ytnammlamdhpnpaa.GUtfBack
open Go.Proofs.YtnammlamdhpnpaaW.PrintWords (Kd)
open Go.ChangeMaps (open_string shut_string)
set_option linter.unusedVariables false
theorem own : ownKnob Try.prog.godebug = none := by kernel_rfl
theorem laidOut : laidOutB Try.prog = true := by kernel_rfl
set_option maxRecDepth 100000 in
theorem lifted (os : Os) (started : os.Started) (H : Type) (enc : TypeId × Value → H) :
    ReturnsInHanded {} Try.checked os 5 .any (Rows.utfBackSpec.pre6 enc Try.prog Try.f5 Rows.utfBackRow.domain false) (Rows.utfBackSpec.post enc Try.prog Try.f5 false true false false) := by
  refine returnsInHanded_of_change_sized (C := Try.checked) own started (by kernel_rfl) Try.func5
    (ChangeSpec.witness6 (enc := enc) (C := Try.checked) false ⟨#[], #[.slice none 0 0, .slice none 0 0], []⟩ 8 (by kernel_rfl) (by kernel_rfl) (by kernel_rfl) (by kernel_rfl)) ?_
  intro W base args ds gs before hval0 hW hcnd hsz0 _
  have hsz : (DataW.weightsEach Try.prog (Try.f5.params.toList ++ Rows.utfBackSpec.plain.varTypes Try.prog) (ds ++ gs)).all (· ≤ reachBytes) = true := hsz0
  have hval : ∀ (j : Nat) t v, Try.f5.params[j]? = some t → args[j]? = some v → Value.okWide Try.prog W .any base t v := hval0
  have hW' := hW
  obtain ⟨p, q, hA0, hV, rfl, hfz, hnd⟩ := hW
  have hA : DataW.TrodAll enc Try.prog W 0 (fun _ => true) true Try.f5.params.toList args.toList ds p := hA0
  rw [Try.params5] at hA hval hsz
  obtain ⟨v0, vs0, d0, ds0, p0, q0, hargs, rfl, rfl, h0, r0⟩ := trodAll_cons hA
  obtain ⟨v1, vs1, d1, ds1, p1, q1, rfl, rfl, rfl, h1, r1⟩ := trodAll_cons r0
  obtain ⟨rfl, rfl, rfl⟩ := trodAll_nil r1
  obtain rfl : args = #[v0, v1] := by cases args; simp_all
  obtain ⟨rfl, rfl⟩ := trodVars_none hV
  have k0 := h0
  have lt0 : ∀ x ∈ p0, x.block < W.heap.size := by obtain ⟨m, hm⟩ := k0; exact DataW.trod_lt m _ _ _ hm
  obtain ⟨A0, len0, c0, rfl⟩ := okWide_slice Try.underlying22 (hval 0 22 v0 rfl rfl)
  have y0 : len0 * 4 ≤ 140737488351232 := Go.Proofs.YtnammlamdhpnpaaW.PrintWords.sized_ints hsz (j := 0) (t := 22) rfl rfl Try.underlying22 Try.underlying21 (by kernel_rfl) (by kernel_rfl) h0
  obtain ⟨fuel0, hf0⟩ := h0
  obtain ⟨l0, hk0, hw0⟩ := (Opens.slice Try.underlying22 (by kernel_rfl) (Opens.int Try.underlying21)) (show DataW.trod enc Try.prog W 0 _ _ fuel0 22 [.slice A0 len0 c0] = _ from hf0)
  obtain ⟨B0, d0_, e0_, hl0, hC0⟩ := hk0
  simp only [List.cons.injEq, Value.slice.injEq, and_true] at e0_
  obtain ⟨rfl, rfl, rfl⟩ := e0_
  have k1 := h1
  have lt1 : ∀ x ∈ p1, x.block < W.heap.size := by obtain ⟨m, hm⟩ := k1; exact DataW.trod_lt m _ _ _ hm
  obtain ⟨A1, len1, c1, rfl⟩ := okWide_slice Try.underlying27 (hval 1 27 v1 rfl rfl)
  have y1 : len1 * 1 ≤ 140737488351232 := Go.Proofs.YtnammlamdhpnpaaW.PrintWords.sized_ints hsz (j := 1) (t := 27) rfl rfl Try.underlying27 Try.underlying5 (by kernel_rfl) (by kernel_rfl) h1
  obtain ⟨fuel1, hf1⟩ := h1
  obtain ⟨l1, hk1, hw1⟩ := (Opens.slice Try.underlying27 (by kernel_rfl) (Opens.int Try.underlying5)) (show DataW.trod enc Try.prog W 0 _ _ fuel1 27 [.slice A1 len1 c1] = _ from hf1)
  obtain ⟨B1, d1_, e1_, hl1, hC1⟩ := hk1
  simp only [List.cons.injEq, Value.slice.injEq, and_true] at e1_
  obtain ⟨rfl, rfl, rfl⟩ := e1_
  clear hA0 hval0 hsz0 hsz
  refine (GUtfBack.linguistlaw1_UtfBack.walk Pure.UtfBack _ _ l0 _ _ l1 W hw0.1 y0 hw0.2 hw1.1 y1 hw1.2 hC0 hl0 hC1 hl1).mono fun e W' ⟨he, bel⟩ => ?_
  subst he
  exact ⟨_, rfl, _, _, _, [], _, [], hW', trodAll_mk1 (shut_bool Try.underlying4 _), (trodAll_cons_mk (Below.trod laidOut (by kernel_rfl) (of_decide_eq_true (by kernel_rfl)) k0 bel lt0) (trodAll_cons_mk (Below.trod laidOut (by kernel_rfl) (of_decide_eq_true (by kernel_rfl)) k1 bel lt1) trodAll_mk0)), rfl, bel.frame _, fun h => by cases h⟩
theorem over : Rows.utfBackRow.holds Try.pinned (OpenSpec.ofChange Rows.utfBackSpec) :=
  OpenClaim.holds_of_wide 5 Try.f5 rfl rfl rfl rfl rfl rfl rfl ⟨rfl, rfl, rfl, rfl, rfl⟩ rfl rfl rfl rfl rfl (by kernel_rfl) Try.func5 (by kernel_rfl)
    (of_decide_eq_true (by kernel_rfl)) (by unfold Func.isWrapper; first | (rw [if_pos (by decide +kernel)]; kernel_rfl) | (rw [if_neg (by decide +kernel)]; exact ⟨rfl, rfl⟩))
    (fun os started H enc _ => lifted os started H enc)
theorem proved : Rows.UtfBackSaid := over
#print axioms proved
end Go.Proofs.Ytnammlamdhpnpaa.utfBack
namespace Go.Proofs.Ytnammlamdhpnpaa
/-- The row, under a short name, for the claim. -/
theorem utfBack_holds : Rows.UtfBackSaid := utfBack.proved
end Go.Proofs.Ytnammlamdhpnpaa
