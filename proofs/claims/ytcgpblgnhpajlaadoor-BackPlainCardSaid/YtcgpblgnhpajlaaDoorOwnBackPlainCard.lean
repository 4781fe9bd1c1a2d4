-- Written by a program of this session (own2.py); Lean checks it.
import Derived.Test.YtcgpblgnhpajlaaDoorRows
import Derived.WalkKit
import Derived.ProofKit
import Derived.OpenShut
import Derived.ShutString
import Derived.ChangeOld
import Derived.Below
import Derived.SizedLaws
import Derived.Test.YtcgpblgnhpajlaaDoorCards
import Derived.Test.YtcgpblgnhpajlaaDoorTie
import Derived.LaidMore
import Derived.Lay
import Derived.SevenTiedAt
import Derived.Stop.Joined
import Derived.Test.YtcgpblgnhpajlaaDoorBunC4
namespace Go.Proofs.YtcgpblgnhpajlaaDoor.backPlain
open Go.ChangeShapes Go.WideShapes Go.ChangeAt Go.RowKit Go.Proofs.YtcgpblgnhpajlaaDoorAbs
set_option linter.unusedVariables false
set_option maxRecDepth 100000
theorem own : ownKnob Tryd.prog.godebug = none := by kernel_rfl
theorem laidOut : laidOutB Tryd.prog = true := by kernel_rfl
theorem opl_t3 {W : World} {H : Type} {enc : TypeId × Value → H} {spare : Nat → Bool} {held : Bool} {fuel : Nat} {cs : List Value} {x : DataW H × List MemPlace} (h : DataW.trod enc Tryd.prog W 0 spare held fuel 3 cs = some x) :
    ∃ (x0 : Int) (v0 : Value), cs = [v0] ∧ CTy.rep W (gd W) (.int .i64) x0 v0 ∧ (Lit.int .i64 x0).wf = true := by
  obtain ⟨a, v, h1, h2, h3⟩ := OpC.int Tryd.underlying3 h
  exact ⟨a, v, h1, h2, h3⟩
theorem opl_t5 {W : World} {H : Type} {enc : TypeId × Value → H} {spare : Nat → Bool} {held : Bool} {fuel : Nat} {cs : List Value} {x : DataW H × List MemPlace} (h : DataW.trod enc Tryd.prog W 0 spare held fuel 5 cs = some x) :
    ∃ (x0 : Int) (v0 : Value), cs = [v0] ∧ CTy.rep W (gd W) (.int .u8) x0 v0 ∧ (Lit.int .u8 x0).wf = true := by
  obtain ⟨a, v, h1, h2, h3⟩ := OpC.int Tryd.underlying5 h
  exact ⟨a, v, h1, h2, h3⟩
theorem opr_t5 {W : World} : OpR Tryd.prog W (.one (.int .u8)) 5 (fun y : Int => ((Lit.int .u8 y).wf = true)) := by
  intro H enc spare held fuel cs x h
  obtain ⟨x0, v0, rfl, r0, w0⟩ := opl_t5 h
  exact ⟨x0, ⟨v0, rfl, r0⟩, w0⟩
theorem opl_t24 {W : World} {H : Type} {enc : TypeId × Value → H} {spare : Nat → Bool} {held : Bool} {fuel : Nat} {cs : List Value} {x : DataW H × List MemPlace} (h : DataW.trod enc Tryd.prog W 0 spare held fuel 24 cs = some x) :
    ∃ (x0 : List (Int)) (v0 : Value), cs = [v0] ∧ CTy.rep W (gd W) (.slice (.one (.int .u8))) x0 v0 ∧ (List.length (α := Int) x0 ≤ 9223372036854775807 ∧ ∀ y : Int, List.Mem y x0 → ((Lit.int .u8 y).wf = true)) := by
  obtain ⟨a, v, h1, h2, h3⟩ := OpC.slice Tryd.underlying24 (by decide) (show Tryd.prog.cellsOf 5 = Row.size (.one (.int .u8)) by kernel_rfl) opr_t5 h
  exact ⟨a, v, h1, h2, h3⟩
set_option maxRecDepth 100000 in
theorem lifted (os : Os) (started : os.Started) (H : Type) (enc : TypeId × Value → H) :
    ReturnsInHanded {} Tryd.checked os 6 .any (fun w args => (Rows.backPlainSpec.pre enc Tryd.prog Tryd.f6 Rows.backPlainRow.domain false w args ∧ laidMetH Tryd.prog Rows.backPlainRow.laid w) ∧ sizedMet enc Tryd.prog Tryd.f6 (OpenSpec.ofChange Rows.backPlainSpec) false w args) (Rows.backPlainSpec.post enc Tryd.prog Tryd.f6 false true false false) := by
  refine returnsInHanded_of_change_and (C := Tryd.checked) (X := fun w _ => laidMetH Tryd.prog Rows.backPlainRow.laid w) (fun _ _ _ hh h => h.of_heap hh) own started (by kernel_rfl) Tryd.func6
    (ChangeSpec.witness_shaped (enc := enc) (C := Tryd.checked) (os := os) (X := fun w _ => laidMetH Tryd.prog Rows.backPlainRow.laid w) false (World.laidAll Tryd.prog os Rows.backPlainRow.laid) #[.int .i64 0, .slice none 0 0, .int .u8 0] 8 (World.laidAll_os _ _ _)
      (World.shaped_of_ZipB (by kernel_rfl) (by kernel_rfl)) (by kernel_rfl) (by kernel_rfl) (by kernel_rfl)
      (by rw [MakeChecks.laidMetH_plain _ _ _ (by kernel_rfl)]; exact laidMet_laidAll _ (by kernel_rfl) (by kernel_rfl))) ?_
  intro W base args ds gs before hval0 hW hcnd hsz0 _ _
  have hsz : (DataW.weightsEach Tryd.prog (Tryd.f6.params.toList ++ Rows.backPlainSpec.plain.varTypes Tryd.prog) (ds ++ gs)).all (· ≤ reachBytes) = true := hsz0
  have hval : ∀ (j : Nat) t v, Tryd.f6.params[j]? = some t → args[j]? = some v → Value.okWide Tryd.prog W .any base t v := hval0
  have hW' := hW
  obtain ⟨p, q, hA0, hV, rfl, hfz, hnd⟩ := hW
  have hA : DataW.TrodAll enc Tryd.prog W 0 (fun _ => true) true Tryd.f6.params.toList args.toList ds p := hA0
  rw [Tryd.params6] at hA hval hsz
  obtain ⟨v0, vs0, d0, ds0, p0, q0, hargs, rfl, rfl, h0, r0⟩ := trodAll_cons hA
  obtain ⟨v1, vs1, d1, ds1, p1, q1, rfl, rfl, rfl, h1, r1⟩ := trodAll_cons r0
  obtain ⟨v2, vs2, d2, ds2, p2, q2, rfl, rfl, rfl, h2, r2⟩ := trodAll_cons r1
  obtain ⟨rfl, rfl, rfl⟩ := trodAll_nil r2
  obtain rfl : args = #[v0, v1, v2] := by cases args; simp_all
  obtain ⟨rfl, rfl⟩ := trodVars_none hV
  have k0 := h0
  have lt0 : ∀ x ∈ p0, x.block < W.heap.size := by obtain ⟨m, hm⟩ := k0; exact DataW.trod_lt m _ _ _ hm
  obtain ⟨n0, rfl⟩ := okWide_int Tryd.underlying3 (hval 0 3 v0 rfl rfl)
  obtain ⟨fuel0, hf0⟩ := h0
  obtain ⟨a0_0, u0_0, E0, q0_0, w0_0⟩ := opl_t3 (cs := [_]) hf0
  simp only [List.cons.injEq, and_true] at E0
  obtain rfl := E0
  have k1 := h1
  have lt1 : ∀ x ∈ p1, x.block < W.heap.size := by obtain ⟨m, hm⟩ := k1; exact DataW.trod_lt m _ _ _ hm
  obtain ⟨n1, nl1, nc1, rfl⟩ := okWide_slice Tryd.underlying24 (hval 1 24 v1 rfl rfl)
  obtain ⟨fuel1, hf1⟩ := h1
  obtain ⟨a1_0, u1_0, E1, q1_0, w1_0⟩ := opl_t24 (cs := [_]) hf1
  simp only [List.cons.injEq, and_true] at E1
  obtain rfl := E1
  have k2 := h2
  have lt2 : ∀ x ∈ p2, x.block < W.heap.size := by obtain ⟨m, hm⟩ := k2; exact DataW.trod_lt m _ _ _ hm
  obtain ⟨n2, rfl⟩ := okWide_int Tryd.underlying5 (hval 2 5 v2 rfl rfl)
  obtain ⟨fuel2, hf2⟩ := h2
  obtain ⟨a2_0, u2_0, E2, q2_0, w2_0⟩ := opl_t5 (cs := [_]) hf2
  simp only [List.cons.injEq, and_true] at E2
  obtain rfl := E2
  clear hA0 hval0 hsz0 hsz
  refine (law_res (us := [.int _ n0, .slice n1 nl1 nc1, .int _ n2]) (envC_ok linguistlaw24_BackPlain_pp_ok linguistlaw24_BackPlain_su_ok linguistlaw24_BackPlain_ll1_ok cs0_ok) (backPlain_run a0_0 a1_0 a2_0 w0_0 w1_0 w2_0) W ⟨_, _, rfl, q0_0, (fun k => by cases k), _, _, rfl, ⟨q1_0, (fun k => by cases k)⟩, (fun k => by cases k), _, _, rfl, q2_0, (fun k => by cases k), rfl⟩).mono fun e W' ⟨he, bel⟩ => ?_
  subst he
  exact ⟨_, rfl, _, _, _, [], _, [], hW', trodAll_mk1 (shut_bool Tryd.underlying4 _), (trodAll_cons_mk (Below.trod laidOut (by kernel_rfl) (of_decide_eq_true (by kernel_rfl)) k0 bel lt0) (trodAll_cons_mk (Below.trod laidOut (by kernel_rfl) (of_decide_eq_true (by kernel_rfl)) k1 bel lt1) (trodAll_cons_mk (Below.trod laidOut (by kernel_rfl) (of_decide_eq_true (by kernel_rfl)) k2 bel lt2) trodAll_mk0))), rfl, bel.frame _, fun h => by cases h⟩
theorem over : Rows.backPlainRow.holds Tryd.pinned (OpenSpec.ofChange Rows.backPlainSpec) :=
  OpenClaim.holds_of_wide 6 Tryd.f6 rfl rfl rfl rfl rfl rfl rfl ⟨rfl, rfl, rfl, rfl, rfl⟩ rfl rfl rfl rfl rfl (by kernel_rfl) Tryd.func6 (by kernel_rfl)
    (of_decide_eq_true (by kernel_rfl)) (by unfold Func.isWrapper; first | (rw [if_pos (by decide +kernel)]; kernel_rfl) | (rw [if_neg (by decide +kernel)]; exact ⟨rfl, rfl⟩))
    (fun os started H enc _ => lifted os started H enc)
theorem card : Rows.BackPlainCardSaid :=
  Claim7.holds_tied_plain_at .later [] [.data, .pinned] true (true, "d03ebaf974a0a9a1c75c31a2013765bd132ead85414932e93a9ef7b30897e374") false over (fun _ h => by cases h) (by kernel_rfl) (fun _ h => by cases h) backPlain_row_tie rfl ⟨rfl, rfl⟩ (by kernel_rfl) rfl
    (fun f fn hf hfn => by
      obtain rfl : f = 6 := Option.some.inj ((show Tryd.prog.funcNamed "linguist/linguistlaw24.BackPlain" = some 6 by kernel_rfl).symm.trans hf) |>.symm
      obtain rfl : fn = Tryd.f6 := (Option.some.inj (Tryd.func6.symm.trans hfn)).symm
      exact ⟨by kernel_rfl, fun j t ht => by
        rw [Tryd.params6] at ht
        have hm : t ∈ [3, 24, 5] := by simpa using Array.mem_of_getElem? ht
        have hall : ([3, 24, 5].all fun u => !Tryd.prog.wantsStandIn u) = true := by kernel_rfl
        exact (show Tryd.prog.wantsStandIn t = false by simpa using List.all_eq_true.1 hall t hm)⟩)
    (by kernel_rfl)
theorem proved : Rows.BackPlainCardSaid := card
#print axioms proved
end Go.Proofs.YtcgpblgnhpajlaaDoor.backPlain
namespace Go.Proofs.YtcgpblgnhpajlaaDoor
/-- The row, under a short name, for the claim. -/
theorem backPlainCard_holds : Rows.BackPlainCardSaid := backPlain.proved
end Go.Proofs.YtcgpblgnhpajlaaDoor

