/- A law without arguments: what a true abstract run says of the model. -/
import Derived.Test.YtklfdmnmiadgpaaAbsCore22
import Derived.Below
namespace Go.Proofs.YtklfdmnmiadgpaaAbs
set_option linter.unusedVariables false
open Go Go.RowKit

def isTrue : AV → Heap → Option Bool := fun v _ => match v with
  | .bool b => some b
  | _ => none

theorem ext_below {m m' : Mem} {h' : Heap} (E : Ext m [] m' h') : Below m.w.heap.size m.w m'.w :=
  ⟨E.os, E.tape, E.output, E.size, fun B hB => (E.keep B hB (fun ⟨i, b, o, e, _⟩ => by simp [hget] at e)).1⟩

theorem closed_ok {P : Program} {E : Env} (hE : EnvOk P E) {n : Nat} {f : FuncId} (e : acall (R := Bool) E n f [] [] isTrue = some true) (W : World) :
    Calls P f #[] W fun e W' => e = .returned (.bool true) ∧ Below W.heap.size W W' := by
  obtain ⟨v, h', e, _, k⟩ := acall_ok hE n f [] [] isTrue true e
  have hv : v = .bool true := by
    unfold isTrue at e
    split at e
    · injection e with e; rw [e]
    · cases e
  subst hv
  have := k ⟨W, fun _ => none, fun _ => False⟩ [] ⟨fun id b e => by simp [hget] at e, fun i j b b' B o o' e => by simp [hget] at e, fun i b B o e => by simp [hget] at e, fun B k => k.elim⟩ rfl
  refine Calls.mono this fun e W' ⟨m', cv, h1, h2, h3, h4, h5⟩ => ?_
  subst h1
  have h5' : cv = .bool true := h5
  subst h5'
  exact ⟨h2, ext_below h3⟩

/-- The functions' table. -/
def AllFn (P : Program) : List (FuncId × Func) → Prop
  | [] => True
  | p :: l => (P.funcs[p.1]? = some p.2 ∧ (p.2.name == "runtime.NumGoroutine") = false) ∧ AllFn P l
def fnFind : List (FuncId × Func) → FuncId → Option Func
  | [], _ => none
  | (g, x) :: l, f => bif Nat.beq g f then some x else fnFind l f
theorem fnFind_ok {P : Program} {l : List (FuncId × Func)} (h : AllFn P l) {f : FuncId} {fn : Func} (e : fnFind l f = some fn) : P.funcs[f]? = some fn ∧ (fn.name == "runtime.NumGoroutine") = false := by
  induction l with
  | nil => cases e
  | cons p l ih =>
    obtain ⟨g, x⟩ := p
    simp only [fnFind] at e
    cases hb : Nat.beq g f with
    | true =>
      rw [hb] at e; simp only [cond_true] at e; injection e with e; subst e
      have : g = f := Nat.eq_of_beq_eq_true hb
      subst this
      exact h.1
    | false => rw [hb] at e; simp only [cond_false] at e; exact ih h.2 e

end Go.Proofs.YtklfdmnmiadgpaaAbs
