-- Written by a program of this session (own2.py); Lean checks it.
import Derived.Test.YtckloabcmnmmdaaRows
import Derived.WalkKit
import Derived.ProofKit
import Derived.OpenShut
import Derived.ShutString
import Derived.ChangeOld
import Derived.Below
import Derived.SizedLaws
import Derived.Test.YtckloabcmnmmdaaBunC6
namespace Go.Proofs.Ytckloabcmnmmdaa.cursorTells
open Go.ChangeShapes Go.WideShapes Go.ChangeAt Go.RowKit Go.Proofs.YtckloabcmnmmdaaAbs
set_option linter.unusedVariables false
set_option maxRecDepth 100000
theorem own : ownKnob Try.prog.godebug = none := by kernel_rfl
theorem laidOut : laidOutB Try.prog = true := by kernel_rfl
theorem opl_t3 {W : World} {H : Type} {enc : TypeId × Value → H} {spare : Nat → Bool} {held : Bool} {fuel : Nat} {cs : List Value} {x : DataW H × List MemPlace} (h : DataW.trod enc Try.prog W 0 spare held fuel 3 cs = some x) :
    ∃ (x0 : Int) (v0 : Value), cs = [v0] ∧ CTy.rep W (gd W) (.int .i64) x0 v0 ∧ (Lit.int .i64 x0).wf = true := by
  obtain ⟨a, v, h1, h2, h3⟩ := OpC.int Try.underlying3 h
  exact ⟨a, v, h1, h2, h3⟩
theorem opr_t3 {W : World} : OpR Try.prog W (.one (.int .i64)) 3 (fun y : Int => ((Lit.int .i64 y).wf = true)) := by
  intro H enc spare held fuel cs x h
  obtain ⟨x0, v0, rfl, r0, w0⟩ := opl_t3 h
  exact ⟨x0, ⟨v0, rfl, r0⟩, w0⟩
theorem opl_t38 {W : World} {H : Type} {enc : TypeId × Value → H} {spare : Nat → Bool} {held : Bool} {fuel : Nat} {cs : List Value} {x : DataW H × List MemPlace} (h : DataW.trod enc Try.prog W 0 spare held fuel 38 cs = some x) :
    ∃ (x0 : List (Int)) (v0 : Value), cs = [v0] ∧ CTy.rep W (gd W) (.slice (.one (.int .i64))) x0 v0 ∧ (List.length (α := Int) x0 ≤ 9223372036854775807 ∧ ∀ y : Int, List.Mem y x0 → ((Lit.int .i64 y).wf = true)) := by
  obtain ⟨a, v, h1, h2, h3⟩ := OpC.slice Try.underlying38 (by decide) (show Try.prog.cellsOf 3 = Row.size (.one (.int .i64)) by kernel_rfl) opr_t3 h
  exact ⟨a, v, h1, h2, h3⟩
theorem list_n4 {cs : List Value} (h : cs.length = 4) : ∃ c0 c1 c2 c3, cs = [c0, c1, c2, c3] := by
  match cs, h with
  | [c0, c1, c2, c3], _ => exact ⟨c0, c1, c2, c3, rfl⟩
theorem opl_t40 {W : World} {H : Type} {enc : TypeId × Value → H} {spare : Nat → Bool} {held : Bool} {fuel : Nat} {cs : List Value} {x : DataW H × List MemPlace} (h : DataW.trod enc Try.prog W 0 spare held fuel 40 cs = some x) :
    ∃ (x0 : Int) (v0 : Value) (x1 : Int) (v1 : Value) (x2 : List (Int)) (v2 : Value) (x3 : List (Int)) (v3 : Value), cs = [v0, v1, v2, v3] ∧ CTy.rep W (gd W) (.int .i64) x0 v0 ∧ CTy.rep W (gd W) (.int .i64) x1 v1 ∧ CTy.rep W (gd W) (.slice (.one (.int .i64))) x2 v2 ∧ CTy.rep W (gd W) (.slice (.one (.int .i64))) x3 v3 ∧ (Lit.int .i64 x0).wf = true ∧ (Lit.int .i64 x1).wf = true ∧ (List.length (α := Int) x2 ≤ 9223372036854775807 ∧ ∀ y : Int, List.Mem y x2 → ((Lit.int .i64 y).wf = true)) ∧ (List.length (α := Int) x3 ≤ 9223372036854775807 ∧ ∀ y : Int, List.Mem y x3 → ((Lit.int .i64 y).wf = true)) := by
  obtain ⟨hl, n_, hf_⟩ := trod_field Try.underlying40 h
  obtain ⟨c0, c1, c2, c3, rfl⟩ := list_n4 (hl.trans (show Try.prog.cellsOf 40 = 4 by kernel_rfl))
  obtain ⟨y0, e0⟩ := hf_ 0 _ rfl
  have g0 : DataW.trod enc Try.prog W 0 spare held n_ 3 [c0] = some y0 := e0
  obtain ⟨z0_0, u0_0, E0, r0_0, w0_0⟩ := opl_t3 g0
  simp only [List.cons.injEq, and_true] at E0
  obtain rfl := E0
  obtain ⟨y1, e1⟩ := hf_ 1 _ rfl
  have g1 : DataW.trod enc Try.prog W 0 spare held n_ 3 [c1] = some y1 := e1
  obtain ⟨z1_0, u1_0, E1, r1_0, w1_0⟩ := opl_t3 g1
  simp only [List.cons.injEq, and_true] at E1
  obtain rfl := E1
  obtain ⟨y2, e2⟩ := hf_ 2 _ rfl
  have g2 : DataW.trod enc Try.prog W 0 spare held n_ 38 [c2] = some y2 := e2
  obtain ⟨z2_0, u2_0, E2, r2_0, w2_0⟩ := opl_t38 g2
  simp only [List.cons.injEq, and_true] at E2
  obtain rfl := E2
  obtain ⟨y3, e3⟩ := hf_ 3 _ rfl
  have g3 : DataW.trod enc Try.prog W 0 spare held n_ 38 [c3] = some y3 := e3
  obtain ⟨z3_0, u3_0, E3, r3_0, w3_0⟩ := opl_t38 g3
  simp only [List.cons.injEq, and_true] at E3
  obtain rfl := E3
  exact ⟨z0_0, _, z1_0, _, z2_0, _, z3_0, _, rfl, r0_0, r1_0, r2_0, r3_0, w0_0, w1_0, w2_0, w3_0⟩
theorem list_n3 {cs : List Value} (h : cs.length = 3) : ∃ c0 c1 c2, cs = [c0, c1, c2] := by
  match cs, h with
  | [c0, c1, c2], _ => exact ⟨c0, c1, c2, rfl⟩
theorem opl_t41 {W : World} {H : Type} {enc : TypeId × Value → H} {spare : Nat → Bool} {held : Bool} {fuel : Nat} {cs : List Value} {x : DataW H × List MemPlace} (h : DataW.trod enc Try.prog W 0 spare held fuel 41 cs = some x) :
    ∃ (x0 : Int) (v0 : Value) (x1 : Int) (v1 : Value) (x2 : Int) (v2 : Value), cs = [v0, v1, v2] ∧ CTy.rep W (gd W) (.int .i64) x0 v0 ∧ CTy.rep W (gd W) (.int .i64) x1 v1 ∧ CTy.rep W (gd W) (.int .i64) x2 v2 ∧ (Lit.int .i64 x0).wf = true ∧ (Lit.int .i64 x1).wf = true ∧ (Lit.int .i64 x2).wf = true := by
  obtain ⟨hl, n_, hf_⟩ := trod_field Try.underlying41 h
  obtain ⟨c0, c1, c2, rfl⟩ := list_n3 (hl.trans (show Try.prog.cellsOf 41 = 3 by kernel_rfl))
  obtain ⟨y0, e0⟩ := hf_ 0 _ rfl
  have g0 : DataW.trod enc Try.prog W 0 spare held n_ 3 [c0] = some y0 := e0
  obtain ⟨z0_0, u0_0, E0, r0_0, w0_0⟩ := opl_t3 g0
  simp only [List.cons.injEq, and_true] at E0
  obtain rfl := E0
  obtain ⟨y1, e1⟩ := hf_ 1 _ rfl
  have g1 : DataW.trod enc Try.prog W 0 spare held n_ 3 [c1] = some y1 := e1
  obtain ⟨z1_0, u1_0, E1, r1_0, w1_0⟩ := opl_t3 g1
  simp only [List.cons.injEq, and_true] at E1
  obtain rfl := E1
  obtain ⟨y2, e2⟩ := hf_ 2 _ rfl
  have g2 : DataW.trod enc Try.prog W 0 spare held n_ 3 [c2] = some y2 := e2
  obtain ⟨z2_0, u2_0, E2, r2_0, w2_0⟩ := opl_t3 g2
  simp only [List.cons.injEq, and_true] at E2
  obtain rfl := E2
  exact ⟨z0_0, _, z1_0, _, z2_0, _, rfl, r0_0, r1_0, r2_0, w0_0, w1_0, w2_0⟩
theorem opl_t27 {W : World} {H : Type} {enc : TypeId × Value → H} {spare : Nat → Bool} {held : Bool} {fuel : Nat} {cs : List Value} {x : DataW H × List MemPlace} (h : DataW.trod enc Try.prog W 0 spare held fuel 27 cs = some x) :
    ∃ (x0 : Int) (v0 : Value), cs = [v0] ∧ CTy.rep W (gd W) (.int .u64) x0 v0 ∧ (Lit.int .u64 x0).wf = true := by
  obtain ⟨a, v, h1, h2, h3⟩ := OpC.int Try.underlying27 h
  exact ⟨a, v, h1, h2, h3⟩
theorem list_n13 {cs : List Value} (h : cs.length = 13) : ∃ c0 c1 c2 c3 c4 c5 c6 c7 c8 c9 c10 c11 c12, cs = [c0, c1, c2, c3, c4, c5, c6, c7, c8, c9, c10, c11, c12] := by
  match cs, h with
  | [c0, c1, c2, c3, c4, c5, c6, c7, c8, c9, c10, c11, c12], _ => exact ⟨c0, c1, c2, c3, c4, c5, c6, c7, c8, c9, c10, c11, c12, rfl⟩
theorem opl_t43 {W : World} {H : Type} {enc : TypeId × Value → H} {spare : Nat → Bool} {held : Bool} {fuel : Nat} {cs : List Value} {x : DataW H × List MemPlace} (h : DataW.trod enc Try.prog W 0 spare held fuel 43 cs = some x) :
    ∃ (x0 : Int) (v0 : Value) (x1 : Int) (v1 : Value) (x2 : List (Int)) (v2 : Value) (x3 : List (Int)) (v3 : Value) (x4 : Int) (v4 : Value) (x5 : Int) (v5 : Value) (x6 : Int) (v6 : Value) (x7 : Int) (v7 : Value) (x8 : Int) (v8 : Value) (x9 : Int) (v9 : Value) (x10 : Int) (v10 : Value) (x11 : Int) (v11 : Value) (x12 : Int) (v12 : Value), cs = [v0, v1, v2, v3, v4, v5, v6, v7, v8, v9, v10, v11, v12] ∧ CTy.rep W (gd W) (.int .i64) x0 v0 ∧ CTy.rep W (gd W) (.int .i64) x1 v1 ∧ CTy.rep W (gd W) (.slice (.one (.int .i64))) x2 v2 ∧ CTy.rep W (gd W) (.slice (.one (.int .i64))) x3 v3 ∧ CTy.rep W (gd W) (.int .i64) x4 v4 ∧ CTy.rep W (gd W) (.int .i64) x5 v5 ∧ CTy.rep W (gd W) (.int .i64) x6 v6 ∧ CTy.rep W (gd W) (.int .i64) x7 v7 ∧ CTy.rep W (gd W) (.int .i64) x8 v8 ∧ CTy.rep W (gd W) (.int .i64) x9 v9 ∧ CTy.rep W (gd W) (.int .i64) x10 v10 ∧ CTy.rep W (gd W) (.int .i64) x11 v11 ∧ CTy.rep W (gd W) (.int .u64) x12 v12 ∧ (Lit.int .i64 x0).wf = true ∧ (Lit.int .i64 x1).wf = true ∧ (List.length (α := Int) x2 ≤ 9223372036854775807 ∧ ∀ y : Int, List.Mem y x2 → ((Lit.int .i64 y).wf = true)) ∧ (List.length (α := Int) x3 ≤ 9223372036854775807 ∧ ∀ y : Int, List.Mem y x3 → ((Lit.int .i64 y).wf = true)) ∧ (Lit.int .i64 x4).wf = true ∧ (Lit.int .i64 x5).wf = true ∧ (Lit.int .i64 x6).wf = true ∧ (Lit.int .i64 x7).wf = true ∧ (Lit.int .i64 x8).wf = true ∧ (Lit.int .i64 x9).wf = true ∧ (Lit.int .i64 x10).wf = true ∧ (Lit.int .i64 x11).wf = true ∧ (Lit.int .u64 x12).wf = true := by
  obtain ⟨hl, n_, hf_⟩ := trod_field Try.underlying43 h
  obtain ⟨c0, c1, c2, c3, c4, c5, c6, c7, c8, c9, c10, c11, c12, rfl⟩ := list_n13 (hl.trans (show Try.prog.cellsOf 43 = 13 by kernel_rfl))
  obtain ⟨y0, e0⟩ := hf_ 0 _ rfl
  have g0 : DataW.trod enc Try.prog W 0 spare held n_ 40 [c0, c1, c2, c3] = some y0 := e0
  obtain ⟨z0_0, u0_0, z0_1, u0_1, z0_2, u0_2, z0_3, u0_3, E0, r0_0, r0_1, r0_2, r0_3, w0_0, w0_1, w0_2, w0_3⟩ := opl_t40 g0
  simp only [List.cons.injEq, and_true] at E0
  obtain ⟨rfl, rfl, rfl, rfl⟩ := E0
  obtain ⟨y1, e1⟩ := hf_ 1 _ rfl
  have g1 : DataW.trod enc Try.prog W 0 spare held n_ 3 [c4] = some y1 := e1
  obtain ⟨z1_0, u1_0, E1, r1_0, w1_0⟩ := opl_t3 g1
  simp only [List.cons.injEq, and_true] at E1
  obtain rfl := E1
  obtain ⟨y2, e2⟩ := hf_ 2 _ rfl
  have g2 : DataW.trod enc Try.prog W 0 spare held n_ 3 [c5] = some y2 := e2
  obtain ⟨z2_0, u2_0, E2, r2_0, w2_0⟩ := opl_t3 g2
  simp only [List.cons.injEq, and_true] at E2
  obtain rfl := E2
  obtain ⟨y3, e3⟩ := hf_ 3 _ rfl
  have g3 : DataW.trod enc Try.prog W 0 spare held n_ 3 [c6] = some y3 := e3
  obtain ⟨z3_0, u3_0, E3, r3_0, w3_0⟩ := opl_t3 g3
  simp only [List.cons.injEq, and_true] at E3
  obtain rfl := E3
  obtain ⟨y4, e4⟩ := hf_ 4 _ rfl
  have g4 : DataW.trod enc Try.prog W 0 spare held n_ 3 [c7] = some y4 := e4
  obtain ⟨z4_0, u4_0, E4, r4_0, w4_0⟩ := opl_t3 g4
  simp only [List.cons.injEq, and_true] at E4
  obtain rfl := E4
  obtain ⟨y5, e5⟩ := hf_ 5 _ rfl
  have g5 : DataW.trod enc Try.prog W 0 spare held n_ 3 [c8] = some y5 := e5
  obtain ⟨z5_0, u5_0, E5, r5_0, w5_0⟩ := opl_t3 g5
  simp only [List.cons.injEq, and_true] at E5
  obtain rfl := E5
  obtain ⟨y6, e6⟩ := hf_ 6 _ rfl
  have g6 : DataW.trod enc Try.prog W 0 spare held n_ 41 [c9, c10, c11] = some y6 := e6
  obtain ⟨z6_0, u6_0, z6_1, u6_1, z6_2, u6_2, E6, r6_0, r6_1, r6_2, w6_0, w6_1, w6_2⟩ := opl_t41 g6
  simp only [List.cons.injEq, and_true] at E6
  obtain ⟨rfl, rfl, rfl⟩ := E6
  obtain ⟨y7, e7⟩ := hf_ 7 _ rfl
  have g7 : DataW.trod enc Try.prog W 0 spare held n_ 27 [c12] = some y7 := e7
  obtain ⟨z7_0, u7_0, E7, r7_0, w7_0⟩ := opl_t27 g7
  simp only [List.cons.injEq, and_true] at E7
  obtain rfl := E7
  exact ⟨z0_0, _, z0_1, _, z0_2, _, z0_3, _, z1_0, _, z2_0, _, z3_0, _, z4_0, _, z5_0, _, z6_0, _, z6_1, _, z6_2, _, z7_0, _, rfl, r0_0, r0_1, r0_2, r0_3, r1_0, r2_0, r3_0, r4_0, r5_0, r6_0, r6_1, r6_2, r7_0, w0_0, w0_1, w0_2, w0_3, w1_0, w2_0, w3_0, w4_0, w5_0, w6_0, w6_1, w6_2, w7_0⟩
set_option maxRecDepth 100000 in
theorem lifted (os : Os) (started : os.Started) (H : Type) (enc : TypeId × Value → H) :
    ReturnsInHanded {} Try.checked os 7 .any (Rows.cursorTellsSpec.pre6 enc Try.prog Try.f7 Rows.cursorTellsRow.domain false) (Rows.cursorTellsSpec.post enc Try.prog Try.f7 false true false false) := by
  refine returnsInHanded_of_change_sized (C := Try.checked) own started (by kernel_rfl) Try.func7
    (ChangeSpec.witness6 (enc := enc) (C := Try.checked) false ⟨#[], #[.agg #[.int .i64 0, .int .i64 0, .slice none 0 0, .slice none 0 0, .int .i64 0, .int .i64 0, .int .i64 0, .int .i64 0, .int .i64 0, .int .i64 0, .int .i64 0, .int .i64 0, .int .u64 0], .int .i64 0, .int .i64 0, .int .i64 0, .int .i64 0], []⟩ 8 (by kernel_rfl) (by kernel_rfl) (by kernel_rfl) (by kernel_rfl)) ?_
  intro W base args ds gs before hval0 hW hcnd hsz0 _
  have hsz : (DataW.weightsEach Try.prog (Try.f7.params.toList ++ Rows.cursorTellsSpec.plain.varTypes Try.prog) (ds ++ gs)).all (· ≤ reachBytes) = true := hsz0
  have hval : ∀ (j : Nat) t v, Try.f7.params[j]? = some t → args[j]? = some v → Value.okWide Try.prog W .any base t v := hval0
  have hW' := hW
  obtain ⟨p, q, hA0, hV, rfl, hfz, hnd⟩ := hW
  have hA : DataW.TrodAll enc Try.prog W 0 (fun _ => true) true Try.f7.params.toList args.toList ds p := hA0
  rw [Try.params7] at hA hval hsz
  obtain ⟨v0, vs0, d0, ds0, p0, q0, hargs, rfl, rfl, h0, r0⟩ := trodAll_cons hA
  obtain ⟨v1, vs1, d1, ds1, p1, q1, rfl, rfl, rfl, h1, r1⟩ := trodAll_cons r0
  obtain ⟨v2, vs2, d2, ds2, p2, q2, rfl, rfl, rfl, h2, r2⟩ := trodAll_cons r1
  obtain ⟨v3, vs3, d3, ds3, p3, q3, rfl, rfl, rfl, h3, r3⟩ := trodAll_cons r2
  obtain ⟨v4, vs4, d4, ds4, p4, q4, rfl, rfl, rfl, h4, r4⟩ := trodAll_cons r3
  obtain ⟨rfl, rfl, rfl⟩ := trodAll_nil r4
  obtain rfl : args = #[v0, v1, v2, v3, v4] := by cases args; simp_all
  obtain ⟨rfl, rfl⟩ := trodVars_none hV
  have k0 := h0
  have lt0 : ∀ x ∈ p0, x.block < W.heap.size := by obtain ⟨m, hm⟩ := k0; exact DataW.trod_lt m _ _ _ hm
  obtain ⟨⟨cs0⟩, rfl, _⟩ := okWide_struct Try.underlying43 (hval 0 43 v0 rfl rfl)
  obtain ⟨fuel0, hf0⟩ := h0
  obtain ⟨a0_0, u0_0, a0_1, u0_1, a0_2, u0_2, a0_3, u0_3, a0_4, u0_4, a0_5, u0_5, a0_6, u0_6, a0_7, u0_7, a0_8, u0_8, a0_9, u0_9, a0_10, u0_10, a0_11, u0_11, a0_12, u0_12, E0, q0_0, q0_1, q0_2, q0_3, q0_4, q0_5, q0_6, q0_7, q0_8, q0_9, q0_10, q0_11, q0_12, w0_0, w0_1, w0_2, w0_3, w0_4, w0_5, w0_6, w0_7, w0_8, w0_9, w0_10, w0_11, w0_12⟩ := opl_t43 (cs := cs0) hf0
  obtain rfl := E0
  have k1 := h1
  have lt1 : ∀ x ∈ p1, x.block < W.heap.size := by obtain ⟨m, hm⟩ := k1; exact DataW.trod_lt m _ _ _ hm
  obtain ⟨n1, rfl⟩ := okWide_int Try.underlying3 (hval 1 3 v1 rfl rfl)
  obtain ⟨fuel1, hf1⟩ := h1
  obtain ⟨a1_0, u1_0, E1, q1_0, w1_0⟩ := opl_t3 (cs := [_]) hf1
  simp only [List.cons.injEq, and_true] at E1
  obtain rfl := E1
  have k2 := h2
  have lt2 : ∀ x ∈ p2, x.block < W.heap.size := by obtain ⟨m, hm⟩ := k2; exact DataW.trod_lt m _ _ _ hm
  obtain ⟨n2, rfl⟩ := okWide_int Try.underlying3 (hval 2 3 v2 rfl rfl)
  obtain ⟨fuel2, hf2⟩ := h2
  obtain ⟨a2_0, u2_0, E2, q2_0, w2_0⟩ := opl_t3 (cs := [_]) hf2
  simp only [List.cons.injEq, and_true] at E2
  obtain rfl := E2
  have k3 := h3
  have lt3 : ∀ x ∈ p3, x.block < W.heap.size := by obtain ⟨m, hm⟩ := k3; exact DataW.trod_lt m _ _ _ hm
  obtain ⟨n3, rfl⟩ := okWide_int Try.underlying3 (hval 3 3 v3 rfl rfl)
  obtain ⟨fuel3, hf3⟩ := h3
  obtain ⟨a3_0, u3_0, E3, q3_0, w3_0⟩ := opl_t3 (cs := [_]) hf3
  simp only [List.cons.injEq, and_true] at E3
  obtain rfl := E3
  have k4 := h4
  have lt4 : ∀ x ∈ p4, x.block < W.heap.size := by obtain ⟨m, hm⟩ := k4; exact DataW.trod_lt m _ _ _ hm
  obtain ⟨n4, rfl⟩ := okWide_int Try.underlying3 (hval 4 3 v4 rfl rfl)
  obtain ⟨fuel4, hf4⟩ := h4
  obtain ⟨a4_0, u4_0, E4, q4_0, w4_0⟩ := opl_t3 (cs := [_]) hf4
  simp only [List.cons.injEq, and_true] at E4
  obtain rfl := E4
  clear hA0 hval0 hsz0 hsz
  refine (law_res (us := [.agg #[u0_0, u0_1, u0_2, u0_3, u0_4, u0_5, u0_6, u0_7, u0_8, u0_9, u0_10, u0_11, u0_12], .int _ n1, .int _ n2, .int _ n3, .int _ n4]) (envL_ok linguistlaw12_CursorTells_su_ok ll0_ok linguistlaw12_CursorTells_cs1_ok) (cursorTells_run a0_0 a0_1 a0_2 a0_3 a0_4 a0_5 a0_6 a0_7 a0_8 a0_9 a0_10 a0_11 a0_12 a1_0 a2_0 a3_0 a4_0 w0_0 w0_1 w0_2 w0_3 w0_4 w0_5 w0_6 w0_7 w0_8 w0_9 w0_10 w0_11 w0_12 w1_0 w2_0 w3_0 w4_0) W ⟨_, _, rfl, ⟨[u0_0, u0_1, u0_2, u0_3, u0_4, u0_5, u0_6, u0_7, u0_8, u0_9, u0_10, u0_11, u0_12], rfl, _, _, rfl, q0_0, (fun _ => CTy.rep_oneCell (.int .i64) _ _ q0_0), _, _, rfl, q0_1, (fun _ => CTy.rep_oneCell (.int .i64) _ _ q0_1), _, _, rfl, ⟨q0_2, (fun k => by cases k)⟩, (fun _ => CTy.rep_oneCell (.slice (.one (.int .i64))) _ _ q0_2), _, _, rfl, ⟨q0_3, (fun k => by cases k)⟩, (fun _ => CTy.rep_oneCell (.slice (.one (.int .i64))) _ _ q0_3), _, _, rfl, q0_4, (fun _ => CTy.rep_oneCell (.int .i64) _ _ q0_4), _, _, rfl, q0_5, (fun _ => CTy.rep_oneCell (.int .i64) _ _ q0_5), _, _, rfl, q0_6, (fun _ => CTy.rep_oneCell (.int .i64) _ _ q0_6), _, _, rfl, q0_7, (fun _ => CTy.rep_oneCell (.int .i64) _ _ q0_7), _, _, rfl, q0_8, (fun _ => CTy.rep_oneCell (.int .i64) _ _ q0_8), _, _, rfl, q0_9, (fun _ => CTy.rep_oneCell (.int .i64) _ _ q0_9), _, _, rfl, q0_10, (fun _ => CTy.rep_oneCell (.int .i64) _ _ q0_10), _, _, rfl, q0_11, (fun _ => CTy.rep_oneCell (.int .i64) _ _ q0_11), _, _, rfl, q0_12, (fun _ => CTy.rep_oneCell (.int .u64) _ _ q0_12), rfl⟩, (fun k => by cases k), _, _, rfl, q1_0, (fun k => by cases k), _, _, rfl, q2_0, (fun k => by cases k), _, _, rfl, q3_0, (fun k => by cases k), _, _, rfl, q4_0, (fun k => by cases k), rfl⟩).mono fun e W' ⟨he, bel⟩ => ?_
  subst he
  exact ⟨_, rfl, _, _, _, [], _, [], hW', trodAll_mk1 (shut_bool Try.underlying4 _), (trodAll_cons_mk (Below.trod laidOut (by kernel_rfl) (of_decide_eq_true (by kernel_rfl)) k0 bel lt0) (trodAll_cons_mk (Below.trod laidOut (by kernel_rfl) (of_decide_eq_true (by kernel_rfl)) k1 bel lt1) (trodAll_cons_mk (Below.trod laidOut (by kernel_rfl) (of_decide_eq_true (by kernel_rfl)) k2 bel lt2) (trodAll_cons_mk (Below.trod laidOut (by kernel_rfl) (of_decide_eq_true (by kernel_rfl)) k3 bel lt3) (trodAll_cons_mk (Below.trod laidOut (by kernel_rfl) (of_decide_eq_true (by kernel_rfl)) k4 bel lt4) trodAll_mk0))))), rfl, bel.frame _, fun h => by cases h⟩
theorem over : Rows.cursorTellsRow.holds Try.pinned (OpenSpec.ofChange Rows.cursorTellsSpec) :=
  OpenClaim.holds_of_wide 7 Try.f7 rfl rfl rfl rfl rfl rfl rfl ⟨rfl, rfl, rfl, rfl, rfl⟩ rfl rfl rfl rfl rfl (by kernel_rfl) Try.func7 (by kernel_rfl)
    (of_decide_eq_true (by kernel_rfl)) (by unfold Func.isWrapper; first | (rw [if_pos (by decide +kernel)]; kernel_rfl) | (rw [if_neg (by decide +kernel)]; exact ⟨rfl, rfl⟩))
    (fun os started H enc _ => lifted os started H enc)
theorem proved : Rows.CursorTellsSaid := over
#print axioms proved
end Go.Proofs.Ytckloabcmnmmdaa.cursorTells
namespace Go.Proofs.Ytckloabcmnmmdaa
/-- The row, under a short name, for the claim. -/
theorem cursorTells_holds : Rows.CursorTellsSaid := cursorTells.proved
end Go.Proofs.Ytckloabcmnmmdaa
