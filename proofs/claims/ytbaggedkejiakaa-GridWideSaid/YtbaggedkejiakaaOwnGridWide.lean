-- Written by a program of this session (own1.py); Lean checks it.
import Derived.Test.YtbaggedkejiakaaRows
import Derived.WalkKit
import Derived.ProofKit
import Derived.OpenShut
import Derived.ShutString
import Derived.ChangeOld
import Derived.Below
import Derived.SizedLaws
import Derived.Test.YtbaggedkejiakaaBunA5
namespace Go.Proofs.Ytbaggedkejiakaa.gridWide
open Go.ChangeShapes Go.WideShapes Go.ChangeAt Go.RowKit Go.Proofs.YtbaggedkejiakaaAbs
set_option linter.unusedVariables false
theorem own : ownKnob Try.prog.godebug = none := by kernel_rfl
theorem laidOut : laidOutB Try.prog = true := by kernel_rfl
theorem array_n3 {cs : Array Value} (h : cs.size = 3) : ∃ c0 c1 c2, cs = #[c0, c1, c2] := by
  obtain ⟨l⟩ := cs
  match l, h with
  | [c0, c1, c2], _ => exact ⟨c0, c1, c2, rfl⟩
theorem open_t46 {H : Type} {enc : TypeId × Value → H} {W : World} {r : Reach} {b0 : Nat} {spare : Nat → Bool} {held : Bool} {v : Value} {d : DataW H} {p : List MemPlace} (hv : Value.okWide Try.prog W r b0 46 v) (h : DataW.Trod enc Try.prog W 0 spare held 46 v d p) :
    ∃ (a_0 : Int) (a_1 : Int) (a_2 : Int), v = .agg #[.int .i64 a_0, .int .i64 a_1, .int .i64 a_2] ∧ (Lit.int .i64 a_0).wf = true ∧ (Lit.int .i64 a_1).wf = true ∧ (Lit.int .i64 a_2).wf = true := by
  obtain ⟨cs, rfl, hsz⟩ := okWide_struct Try.underlying46 hv
  obtain ⟨c0, c1, c2, rfl⟩ := array_n3 (hsz.trans (show Try.prog.cellsOf 46 = 3 by kernel_rfl))
  obtain ⟨fuel, hf⟩ := h
  have h0 : DataW.trod enc Try.prog W 0 spare held fuel 46 [c0, c1, c2] = some (d, p) := hf
  obtain ⟨n_, hf_⟩ := trod_fields Try.underlying46 h0
  obtain ⟨y__0, e__0⟩ := hf_ 0 _ rfl
  have g__0 : DataW.trod enc Try.prog W 0 spare held n_ 3 [c0] = some y__0 := e__0
  obtain ⟨a__0, hk__0, _, hw__0⟩ := DataW.trod_int Try.underlying3 g__0
  obtain rfl : c0 = .int .i64 a__0 := by simpa using hk__0
  obtain ⟨y__1, e__1⟩ := hf_ 1 _ rfl
  have g__1 : DataW.trod enc Try.prog W 0 spare held n_ 3 [c1] = some y__1 := e__1
  obtain ⟨a__1, hk__1, _, hw__1⟩ := DataW.trod_int Try.underlying3 g__1
  obtain rfl : c1 = .int .i64 a__1 := by simpa using hk__1
  obtain ⟨y__2, e__2⟩ := hf_ 2 _ rfl
  have g__2 : DataW.trod enc Try.prog W 0 spare held n_ 3 [c2] = some y__2 := e__2
  obtain ⟨a__2, hk__2, _, hw__2⟩ := DataW.trod_int Try.underlying3 g__2
  obtain rfl : c2 = .int .i64 a__2 := by simpa using hk__2
  exact ⟨a__0, a__1, a__2, rfl, hw__0, hw__1, hw__2⟩
set_option maxRecDepth 100000 in
theorem lifted (os : Os) (started : os.Started) (H : Type) (enc : TypeId × Value → H) :
    ReturnsInHanded {} Try.checked os 7 .any (Rows.gridWideSpec.pre6 enc Try.prog Try.f7 Rows.gridWideRow.domain false) (Rows.gridWideSpec.post enc Try.prog Try.f7 false true false false) := by
  refine returnsInHanded_of_change_sized (C := Try.checked) own started (by kernel_rfl) Try.func7
    (ChangeSpec.witness6 (enc := enc) (C := Try.checked) false ⟨#[], #[.int .i64 0, .int .i64 0, .agg #[.int .i64 0, .int .i64 0, .int .i64 0], .agg #[.int .i64 0, .int .i64 0, .int .i64 0]], []⟩ 8 (by kernel_rfl) (by kernel_rfl) (by kernel_rfl) (by kernel_rfl)) ?_
  intro W base args ds gs before hval0 hW hcnd hsz0 _
  have hsz : (DataW.weightsEach Try.prog (Try.f7.params.toList ++ Rows.gridWideSpec.plain.varTypes Try.prog) (ds ++ gs)).all (· ≤ reachBytes) = true := hsz0
  have hval : ∀ (j : Nat) t v, Try.f7.params[j]? = some t → args[j]? = some v → Value.okWide Try.prog W .any base t v := hval0
  have hW' := hW
  obtain ⟨p, q, hA0, hV, rfl, hfz, hnd⟩ := hW
  have hA : DataW.TrodAll enc Try.prog W 0 (fun _ => true) true Try.f7.params.toList args.toList ds p := hA0
  rw [Try.params7] at hA hval hsz
  obtain ⟨v0, vs0, d0, ds0, p0, q0, hargs, rfl, rfl, h0, r0⟩ := trodAll_cons hA
  obtain ⟨v1, vs1, d1, ds1, p1, q1, rfl, rfl, rfl, h1, r1⟩ := trodAll_cons r0
  obtain ⟨v2, vs2, d2, ds2, p2, q2, rfl, rfl, rfl, h2, r2⟩ := trodAll_cons r1
  obtain ⟨v3, vs3, d3, ds3, p3, q3, rfl, rfl, rfl, h3, r3⟩ := trodAll_cons r2
  obtain ⟨rfl, rfl, rfl⟩ := trodAll_nil r3
  obtain rfl : args = #[v0, v1, v2, v3] := by cases args; simp_all
  obtain ⟨rfl, rfl⟩ := trodVars_none hV
  obtain ⟨a0, rfl, rfl, rfl, w0⟩ := open_int Try.underlying3 (hval 0 3 v0 rfl rfl) h0
  obtain ⟨a1, rfl, rfl, rfl, w1⟩ := open_int Try.underlying3 (hval 1 3 v1 rfl rfl) h1
  have k2 := h2
  have lt2 : ∀ x ∈ p2, x.block < W.heap.size := by obtain ⟨m, hm⟩ := k2; exact DataW.trod_lt m _ _ _ hm
  obtain ⟨a2_0, a2_1, a2_2, rfl, w2_0, w2_1, w2_2⟩ := open_t46 (hval 2 46 v2 rfl rfl) h2
  have k3 := h3
  have lt3 : ∀ x ∈ p3, x.block < W.heap.size := by obtain ⟨m, hm⟩ := k3; exact DataW.trod_lt m _ _ _ hm
  obtain ⟨a3_0, a3_1, a3_2, rfl, w3_0, w3_1, w3_2⟩ := open_t46 (hval 3 46 v3 rfl rfl) h3
  clear hA0 hval0 hsz0 hsz
  refine (gridWide_call a0 w0 a1 w1 a2_0 a2_1 a2_2 w2_0 w2_1 w2_2 a3_0 a3_1 a3_2 w3_0 w3_1 w3_2 W).mono fun e W' ⟨he, bel⟩ => ?_
  subst he
  exact ⟨_, rfl, _, _, _, [], _, [], hW', trodAll_mk1 (shut_bool Try.underlying4 _), (trodAll_cons_mk (shut_int Try.underlying3 w0) (trodAll_cons_mk (shut_int Try.underlying3 w1) (trodAll_cons_mk (Below.trod laidOut (by kernel_rfl) (of_decide_eq_true (by kernel_rfl)) k2 bel lt2) (trodAll_cons_mk (Below.trod laidOut (by kernel_rfl) (of_decide_eq_true (by kernel_rfl)) k3 bel lt3) trodAll_mk0)))), rfl, bel.frame _, fun h => by cases h⟩
theorem over : Rows.gridWideRow.holds Try.pinned (OpenSpec.ofChange Rows.gridWideSpec) :=
  OpenClaim.holds_of_wide 7 Try.f7 rfl rfl rfl rfl rfl rfl rfl ⟨rfl, rfl, rfl, rfl, rfl⟩ rfl rfl rfl rfl rfl (by kernel_rfl) Try.func7 (by kernel_rfl)
    (of_decide_eq_true (by kernel_rfl)) (by unfold Func.isWrapper; first | (rw [if_pos (by decide +kernel)]; kernel_rfl) | (rw [if_neg (by decide +kernel)]; exact ⟨rfl, rfl⟩))
    (fun os started H enc _ => lifted os started H enc)
theorem proved : Rows.GridWideSaid := over
#print axioms proved
end Go.Proofs.Ytbaggedkejiakaa.gridWide
namespace Go.Proofs.Ytbaggedkejiakaa
/-- The row, under a short name, for the claim. -/
theorem gridWide_holds : Rows.GridWideSaid := gridWide.proved
end Go.Proofs.Ytbaggedkejiakaa
