-- Written by a program of this session (own2.py); Lean checks it.
import Derived.Test.YtpneolkfeihkhaaRows
import Derived.WalkKit
import Derived.ProofKit
import Derived.OpenShut
import Derived.ShutString
import Derived.ChangeOld
import Derived.Below
import Derived.SizedLaws
import Derived.Test.YtpneolkfeihkhaaBunC6
namespace Go.Proofs.Ytpneolkfeihkhaa.editPlays
open Go.ChangeShapes Go.WideShapes Go.ChangeAt Go.RowKit Go.Proofs.YtpneolkfeihkhaaAbs
set_option linter.unusedVariables false
set_option maxRecDepth 100000
theorem own : ownKnob Try.prog.godebug = none := by kernel_rfl
theorem laidOut : laidOutB Try.prog = true := by kernel_rfl
theorem opl_t3 {W : World} {H : Type} {enc : TypeId × Value → H} {spare : Nat → Bool} {held : Bool} {fuel : Nat} {cs : List Value} {x : DataW H × List MemPlace} (h : DataW.trod enc Try.prog W 0 spare held fuel 3 cs = some x) :
    ∃ (x0 : Int) (v0 : Value), cs = [v0] ∧ CTy.rep W (gd W) (.int .i64) x0 v0 ∧ (Lit.int .i64 x0).wf = true := by
  obtain ⟨a, v, h1, h2, h3⟩ := OpC.int Try.underlying3 h
  exact ⟨a, v, h1, h2, h3⟩
theorem opr_t3 {W : World} : OpR Try.prog W (.one (.int .i64)) 3 (fun y : Int => ((Lit.int .i64 y).wf = true)) := by
  intro H enc spare held fuel cs x h
  obtain ⟨x0, v0, rfl, r0, w0⟩ := opl_t3 h
  exact ⟨x0, ⟨v0, rfl, r0⟩, w0⟩
theorem opl_t34 {W : World} {H : Type} {enc : TypeId × Value → H} {spare : Nat → Bool} {held : Bool} {fuel : Nat} {cs : List Value} {x : DataW H × List MemPlace} (h : DataW.trod enc Try.prog W 0 spare held fuel 34 cs = some x) :
    ∃ (x0 : List (Int)) (v0 : Value), cs = [v0] ∧ CTy.rep W (gd W) (.slice (.one (.int .i64))) x0 v0 ∧ (List.length (α := Int) x0 ≤ 9223372036854775807 ∧ ∀ y : Int, List.Mem y x0 → ((Lit.int .i64 y).wf = true)) := by
  obtain ⟨a, v, h1, h2, h3⟩ := OpC.slice Try.underlying34 (by decide) (show Try.prog.cellsOf 3 = Row.size (.one (.int .i64)) by kernel_rfl) opr_t3 h
  exact ⟨a, v, h1, h2, h3⟩
theorem list_n4 {cs : List Value} (h : cs.length = 4) : ∃ c0 c1 c2 c3, cs = [c0, c1, c2, c3] := by
  match cs, h with
  | [c0, c1, c2, c3], _ => exact ⟨c0, c1, c2, c3, rfl⟩
theorem opl_t36 {W : World} {H : Type} {enc : TypeId × Value → H} {spare : Nat → Bool} {held : Bool} {fuel : Nat} {cs : List Value} {x : DataW H × List MemPlace} (h : DataW.trod enc Try.prog W 0 spare held fuel 36 cs = some x) :
    ∃ (x0 : Int) (v0 : Value) (x1 : Int) (v1 : Value) (x2 : List (Int)) (v2 : Value) (x3 : List (Int)) (v3 : Value), cs = [v0, v1, v2, v3] ∧ CTy.rep W (gd W) (.int .i64) x0 v0 ∧ CTy.rep W (gd W) (.int .i64) x1 v1 ∧ CTy.rep W (gd W) (.slice (.one (.int .i64))) x2 v2 ∧ CTy.rep W (gd W) (.slice (.one (.int .i64))) x3 v3 ∧ (Lit.int .i64 x0).wf = true ∧ (Lit.int .i64 x1).wf = true ∧ (List.length (α := Int) x2 ≤ 9223372036854775807 ∧ ∀ y : Int, List.Mem y x2 → ((Lit.int .i64 y).wf = true)) ∧ (List.length (α := Int) x3 ≤ 9223372036854775807 ∧ ∀ y : Int, List.Mem y x3 → ((Lit.int .i64 y).wf = true)) := by
  obtain ⟨hl, n_, hf_⟩ := trod_field Try.underlying36 h
  obtain ⟨c0, c1, c2, c3, rfl⟩ := list_n4 (hl.trans (show Try.prog.cellsOf 36 = 4 by kernel_rfl))
  obtain ⟨y0, e0⟩ := hf_ 0 _ rfl
  have g0 : DataW.trod enc Try.prog W 0 spare held n_ 3 [c0] = some y0 := e0
  obtain ⟨z0_0, u0_0, E0, r0_0, w0_0⟩ := opl_t3 g0
  simp only [List.cons.injEq, and_true] at E0
  obtain rfl := E0
  obtain ⟨y1, e1⟩ := hf_ 1 _ rfl
  have g1 : DataW.trod enc Try.prog W 0 spare held n_ 3 [c1] = some y1 := e1
  obtain ⟨z1_0, u1_0, E1, r1_0, w1_0⟩ := opl_t3 g1
  simp only [List.cons.injEq, and_true] at E1
  obtain rfl := E1
  obtain ⟨y2, e2⟩ := hf_ 2 _ rfl
  have g2 : DataW.trod enc Try.prog W 0 spare held n_ 34 [c2] = some y2 := e2
  obtain ⟨z2_0, u2_0, E2, r2_0, w2_0⟩ := opl_t34 g2
  simp only [List.cons.injEq, and_true] at E2
  obtain rfl := E2
  obtain ⟨y3, e3⟩ := hf_ 3 _ rfl
  have g3 : DataW.trod enc Try.prog W 0 spare held n_ 34 [c3] = some y3 := e3
  obtain ⟨z3_0, u3_0, E3, r3_0, w3_0⟩ := opl_t34 g3
  simp only [List.cons.injEq, and_true] at E3
  obtain rfl := E3
  exact ⟨z0_0, _, z1_0, _, z2_0, _, z3_0, _, rfl, r0_0, r1_0, r2_0, r3_0, w0_0, w1_0, w2_0, w3_0⟩
theorem list_n3 {cs : List Value} (h : cs.length = 3) : ∃ c0 c1 c2, cs = [c0, c1, c2] := by
  match cs, h with
  | [c0, c1, c2], _ => exact ⟨c0, c1, c2, rfl⟩
theorem opl_t37 {W : World} {H : Type} {enc : TypeId × Value → H} {spare : Nat → Bool} {held : Bool} {fuel : Nat} {cs : List Value} {x : DataW H × List MemPlace} (h : DataW.trod enc Try.prog W 0 spare held fuel 37 cs = some x) :
    ∃ (x0 : Int) (v0 : Value) (x1 : Int) (v1 : Value) (x2 : Int) (v2 : Value), cs = [v0, v1, v2] ∧ CTy.rep W (gd W) (.int .i64) x0 v0 ∧ CTy.rep W (gd W) (.int .i64) x1 v1 ∧ CTy.rep W (gd W) (.int .i64) x2 v2 ∧ (Lit.int .i64 x0).wf = true ∧ (Lit.int .i64 x1).wf = true ∧ (Lit.int .i64 x2).wf = true := by
  obtain ⟨hl, n_, hf_⟩ := trod_field Try.underlying37 h
  obtain ⟨c0, c1, c2, rfl⟩ := list_n3 (hl.trans (show Try.prog.cellsOf 37 = 3 by kernel_rfl))
  obtain ⟨y0, e0⟩ := hf_ 0 _ rfl
  have g0 : DataW.trod enc Try.prog W 0 spare held n_ 3 [c0] = some y0 := e0
  obtain ⟨z0_0, u0_0, E0, r0_0, w0_0⟩ := opl_t3 g0
  simp only [List.cons.injEq, and_true] at E0
  obtain rfl := E0
  obtain ⟨y1, e1⟩ := hf_ 1 _ rfl
  have g1 : DataW.trod enc Try.prog W 0 spare held n_ 3 [c1] = some y1 := e1
  obtain ⟨z1_0, u1_0, E1, r1_0, w1_0⟩ := opl_t3 g1
  simp only [List.cons.injEq, and_true] at E1
  obtain rfl := E1
  obtain ⟨y2, e2⟩ := hf_ 2 _ rfl
  have g2 : DataW.trod enc Try.prog W 0 spare held n_ 3 [c2] = some y2 := e2
  obtain ⟨z2_0, u2_0, E2, r2_0, w2_0⟩ := opl_t3 g2
  simp only [List.cons.injEq, and_true] at E2
  obtain rfl := E2
  exact ⟨z0_0, _, z1_0, _, z2_0, _, rfl, r0_0, r1_0, r2_0, w0_0, w1_0, w2_0⟩
theorem list_n7 {cs : List Value} (h : cs.length = 7) : ∃ c0 c1 c2 c3 c4 c5 c6, cs = [c0, c1, c2, c3, c4, c5, c6] := by
  match cs, h with
  | [c0, c1, c2, c3, c4, c5, c6], _ => exact ⟨c0, c1, c2, c3, c4, c5, c6, rfl⟩
theorem opl_t50 {W : World} {H : Type} {enc : TypeId × Value → H} {spare : Nat → Bool} {held : Bool} {fuel : Nat} {cs : List Value} {x : DataW H × List MemPlace} (h : DataW.trod enc Try.prog W 0 spare held fuel 50 cs = some x) :
    ∃ (x0 : Int) (v0 : Value) (x1 : Int) (v1 : Value) (x2 : Int) (v2 : Value) (x3 : Int) (v3 : Value) (x4 : Int) (v4 : Value) (x5 : Int) (v5 : Value) (x6 : Int) (v6 : Value), cs = [v0, v1, v2, v3, v4, v5, v6] ∧ CTy.rep W (gd W) (.int .i64) x0 v0 ∧ CTy.rep W (gd W) (.int .i64) x1 v1 ∧ CTy.rep W (gd W) (.int .i64) x2 v2 ∧ CTy.rep W (gd W) (.int .i64) x3 v3 ∧ CTy.rep W (gd W) (.int .i64) x4 v4 ∧ CTy.rep W (gd W) (.int .i64) x5 v5 ∧ CTy.rep W (gd W) (.int .i64) x6 v6 ∧ (Lit.int .i64 x0).wf = true ∧ (Lit.int .i64 x1).wf = true ∧ (Lit.int .i64 x2).wf = true ∧ (Lit.int .i64 x3).wf = true ∧ (Lit.int .i64 x4).wf = true ∧ (Lit.int .i64 x5).wf = true ∧ (Lit.int .i64 x6).wf = true := by
  obtain ⟨hl, n_, hf_⟩ := trod_field Try.underlying50 h
  obtain ⟨c0, c1, c2, c3, c4, c5, c6, rfl⟩ := list_n7 (hl.trans (show Try.prog.cellsOf 50 = 7 by kernel_rfl))
  obtain ⟨y0, e0⟩ := hf_ 0 _ rfl
  have g0 : DataW.trod enc Try.prog W 0 spare held n_ 3 [c0] = some y0 := e0
  obtain ⟨z0_0, u0_0, E0, r0_0, w0_0⟩ := opl_t3 g0
  simp only [List.cons.injEq, and_true] at E0
  obtain rfl := E0
  obtain ⟨y1, e1⟩ := hf_ 1 _ rfl
  have g1 : DataW.trod enc Try.prog W 0 spare held n_ 3 [c1] = some y1 := e1
  obtain ⟨z1_0, u1_0, E1, r1_0, w1_0⟩ := opl_t3 g1
  simp only [List.cons.injEq, and_true] at E1
  obtain rfl := E1
  obtain ⟨y2, e2⟩ := hf_ 2 _ rfl
  have g2 : DataW.trod enc Try.prog W 0 spare held n_ 3 [c2] = some y2 := e2
  obtain ⟨z2_0, u2_0, E2, r2_0, w2_0⟩ := opl_t3 g2
  simp only [List.cons.injEq, and_true] at E2
  obtain rfl := E2
  obtain ⟨y3, e3⟩ := hf_ 3 _ rfl
  have g3 : DataW.trod enc Try.prog W 0 spare held n_ 3 [c3] = some y3 := e3
  obtain ⟨z3_0, u3_0, E3, r3_0, w3_0⟩ := opl_t3 g3
  simp only [List.cons.injEq, and_true] at E3
  obtain rfl := E3
  obtain ⟨y4, e4⟩ := hf_ 4 _ rfl
  have g4 : DataW.trod enc Try.prog W 0 spare held n_ 37 [c4, c5, c6] = some y4 := e4
  obtain ⟨z4_0, u4_0, z4_1, u4_1, z4_2, u4_2, E4, r4_0, r4_1, r4_2, w4_0, w4_1, w4_2⟩ := opl_t37 g4
  simp only [List.cons.injEq, and_true] at E4
  obtain ⟨rfl, rfl, rfl⟩ := E4
  exact ⟨z0_0, _, z1_0, _, z2_0, _, z3_0, _, z4_0, _, z4_1, _, z4_2, _, rfl, r0_0, r1_0, r2_0, r3_0, r4_0, r4_1, r4_2, w0_0, w1_0, w2_0, w3_0, w4_0, w4_1, w4_2⟩
theorem opr_t50 {W : World} : OpR Try.prog W (.cons (.int .i64) (.cons (.int .i64) (.cons (.int .i64) (.cons (.int .i64) (.cons (.int .i64) (.cons (.int .i64) (.one (.int .i64)))))))) 50 (fun y : Int × Int × Int × Int × Int × Int × Int => ((Lit.int .i64 y.1).wf = true ∧ (Lit.int .i64 y.2.1).wf = true ∧ (Lit.int .i64 y.2.2.1).wf = true ∧ (Lit.int .i64 y.2.2.2.1).wf = true ∧ (Lit.int .i64 y.2.2.2.2.1).wf = true ∧ (Lit.int .i64 y.2.2.2.2.2.1).wf = true ∧ (Lit.int .i64 y.2.2.2.2.2.2).wf = true)) := by
  intro H enc spare held fuel cs x h
  obtain ⟨x0, v0, x1, v1, x2, v2, x3, v3, x4, v4, x5, v5, x6, v6, rfl, r0, r1, r2, r3, r4, r5, r6, w0, w1, w2, w3, w4, w5, w6⟩ := opl_t50 h
  exact ⟨(x0, x1, x2, x3, x4, x5, x6), ⟨v0, _, rfl, r0, v1, _, rfl, r1, v2, _, rfl, r2, v3, _, rfl, r3, v4, _, rfl, r4, v5, _, rfl, r5, v6, rfl, r6⟩, ⟨w0, w1, w2, w3, w4, w5, w6⟩⟩
theorem opl_t48 {W : World} {H : Type} {enc : TypeId × Value → H} {spare : Nat → Bool} {held : Bool} {fuel : Nat} {cs : List Value} {x : DataW H × List MemPlace} (h : DataW.trod enc Try.prog W 0 spare held fuel 48 cs = some x) :
    ∃ (x0 : List (Int × Int × Int × Int × Int × Int × Int)) (v0 : Value), cs = [v0] ∧ CTy.rep W (gd W) (.slice (.cons (.int .i64) (.cons (.int .i64) (.cons (.int .i64) (.cons (.int .i64) (.cons (.int .i64) (.cons (.int .i64) (.one (.int .i64))))))))) x0 v0 ∧ (List.length (α := Int × Int × Int × Int × Int × Int × Int) x0 ≤ 9223372036854775807 ∧ ∀ y : Int × Int × Int × Int × Int × Int × Int, List.Mem y x0 → ((Lit.int .i64 y.1).wf = true ∧ (Lit.int .i64 y.2.1).wf = true ∧ (Lit.int .i64 y.2.2.1).wf = true ∧ (Lit.int .i64 y.2.2.2.1).wf = true ∧ (Lit.int .i64 y.2.2.2.2.1).wf = true ∧ (Lit.int .i64 y.2.2.2.2.2.1).wf = true ∧ (Lit.int .i64 y.2.2.2.2.2.2).wf = true)) := by
  obtain ⟨a, v, h1, h2, h3⟩ := OpC.slice Try.underlying48 (by decide) (show Try.prog.cellsOf 50 = Row.size (.cons (.int .i64) (.cons (.int .i64) (.cons (.int .i64) (.cons (.int .i64) (.cons (.int .i64) (.cons (.int .i64) (.one (.int .i64)))))))) by kernel_rfl) opr_t50 h
  exact ⟨a, v, h1, h2, h3⟩
set_option maxRecDepth 100000 in
theorem lifted (os : Os) (started : os.Started) (H : Type) (enc : TypeId × Value → H) :
    ReturnsInHanded {} Try.checked os 6 .any (Rows.editPlaysSpec.pre6 enc Try.prog Try.f6 Rows.editPlaysRow.domain false) (Rows.editPlaysSpec.post enc Try.prog Try.f6 false true false false) := by
  refine returnsInHanded_of_change_sized (C := Try.checked) own started (by kernel_rfl) Try.func6
    (ChangeSpec.witness6 (enc := enc) (C := Try.checked) false ⟨#[], #[.agg #[.int .i64 0, .int .i64 0, .slice none 0 0, .slice none 0 0], .slice none 0 0], []⟩ 8 (by kernel_rfl) (by kernel_rfl) (by kernel_rfl) (by kernel_rfl)) ?_
  intro W base args ds gs before hval0 hW hcnd hsz0 _
  have hsz : (DataW.weightsEach Try.prog (Try.f6.params.toList ++ Rows.editPlaysSpec.plain.varTypes Try.prog) (ds ++ gs)).all (· ≤ reachBytes) = true := hsz0
  have hval : ∀ (j : Nat) t v, Try.f6.params[j]? = some t → args[j]? = some v → Value.okWide Try.prog W .any base t v := hval0
  have hW' := hW
  obtain ⟨p, q, hA0, hV, rfl, hfz, hnd⟩ := hW
  have hA : DataW.TrodAll enc Try.prog W 0 (fun _ => true) true Try.f6.params.toList args.toList ds p := hA0
  rw [Try.params6] at hA hval hsz
  obtain ⟨v0, vs0, d0, ds0, p0, q0, hargs, rfl, rfl, h0, r0⟩ := trodAll_cons hA
  obtain ⟨v1, vs1, d1, ds1, p1, q1, rfl, rfl, rfl, h1, r1⟩ := trodAll_cons r0
  obtain ⟨rfl, rfl, rfl⟩ := trodAll_nil r1
  obtain rfl : args = #[v0, v1] := by cases args; simp_all
  obtain ⟨rfl, rfl⟩ := trodVars_none hV
  have k0 := h0
  have lt0 : ∀ x ∈ p0, x.block < W.heap.size := by obtain ⟨m, hm⟩ := k0; exact DataW.trod_lt m _ _ _ hm
  obtain ⟨⟨cs0⟩, rfl, _⟩ := okWide_struct Try.underlying36 (hval 0 36 v0 rfl rfl)
  obtain ⟨fuel0, hf0⟩ := h0
  obtain ⟨a0_0, u0_0, a0_1, u0_1, a0_2, u0_2, a0_3, u0_3, E0, q0_0, q0_1, q0_2, q0_3, w0_0, w0_1, w0_2, w0_3⟩ := opl_t36 (cs := cs0) hf0
  obtain rfl := E0
  have k1 := h1
  have lt1 : ∀ x ∈ p1, x.block < W.heap.size := by obtain ⟨m, hm⟩ := k1; exact DataW.trod_lt m _ _ _ hm
  obtain ⟨n1, nl1, nc1, rfl⟩ := okWide_slice Try.underlying48 (hval 1 48 v1 rfl rfl)
  obtain ⟨fuel1, hf1⟩ := h1
  obtain ⟨a1_0, u1_0, E1, q1_0, w1_0⟩ := opl_t48 (cs := [_]) hf1
  simp only [List.cons.injEq, and_true] at E1
  obtain rfl := E1
  clear hA0 hval0 hsz0 hsz
  refine (law_res (us := [.agg #[u0_0, u0_1, u0_2, u0_3], .slice n1 nl1 nc1]) (envL_ok linguistlaw8_EditPlays_su_ok linguistlaw8_EditPlays_ll4_ok linguistlaw8_EditPlays_cs2_ok) (editPlays_run a0_0 a0_1 a0_2 a0_3 a1_0 w0_0 w0_1 w0_2 w0_3 w1_0) W ⟨_, _, rfl, ⟨[u0_0, u0_1, u0_2, u0_3], rfl, _, _, rfl, q0_0, (fun _ => CTy.rep_oneCell (.int .i64) _ _ q0_0), _, _, rfl, q0_1, (fun _ => CTy.rep_oneCell (.int .i64) _ _ q0_1), _, _, rfl, ⟨q0_2, (fun k => by cases k)⟩, (fun _ => CTy.rep_oneCell (.slice (.one (.int .i64))) _ _ q0_2), _, _, rfl, ⟨q0_3, (fun k => by cases k)⟩, (fun _ => CTy.rep_oneCell (.slice (.one (.int .i64))) _ _ q0_3), rfl⟩, (fun k => by cases k), _, _, rfl, ⟨q1_0, (fun k => by cases k)⟩, (fun k => by cases k), rfl⟩).mono fun e W' ⟨he, bel⟩ => ?_
  subst he
  exact ⟨_, rfl, _, _, _, [], _, [], hW', trodAll_mk1 (shut_bool Try.underlying4 _), (trodAll_cons_mk (Below.trod laidOut (by kernel_rfl) (of_decide_eq_true (by kernel_rfl)) k0 bel lt0) (trodAll_cons_mk (Below.trod laidOut (by kernel_rfl) (of_decide_eq_true (by kernel_rfl)) k1 bel lt1) trodAll_mk0)), rfl, bel.frame _, fun h => by cases h⟩
theorem over : Rows.editPlaysRow.holds Try.pinned (OpenSpec.ofChange Rows.editPlaysSpec) :=
  OpenClaim.holds_of_wide 6 Try.f6 rfl rfl rfl rfl rfl rfl rfl ⟨rfl, rfl, rfl, rfl, rfl⟩ rfl rfl rfl rfl rfl (by kernel_rfl) Try.func6 (by kernel_rfl)
    (of_decide_eq_true (by kernel_rfl)) (by unfold Func.isWrapper; first | (rw [if_pos (by decide +kernel)]; kernel_rfl) | (rw [if_neg (by decide +kernel)]; exact ⟨rfl, rfl⟩))
    (fun os started H enc _ => lifted os started H enc)
theorem proved : Rows.EditPlaysSaid := over
#print axioms proved
end Go.Proofs.Ytpneolkfeihkhaa.editPlays
namespace Go.Proofs.Ytpneolkfeihkhaa
/-- The row, under a short name, for the claim. -/
theorem editPlays_holds : Rows.EditPlaysSaid := editPlays.proved
end Go.Proofs.Ytpneolkfeihkhaa
