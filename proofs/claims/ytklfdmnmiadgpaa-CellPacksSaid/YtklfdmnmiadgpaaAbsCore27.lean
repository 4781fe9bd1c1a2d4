/- A call on an empty heap, seen on any heap; summaries of functions. -/
import Derived.Test.YtklfdmnmiadgpaaAbsCore20
namespace Go.Proofs.YtklfdmnmiadgpaaAbs
set_option linter.unusedVariables false
open Go Go.RowKit
variable {R : Type}

theorem carry_nil (m m' : Mem) (h h' : Heap) (hf : ∀ B, m.good B → m'.good B ∧ m'.w.heap[B]? = m.w.heap[B]?) : Carry m h m' h' (fun _ => False) :=
  ⟨hf, fun _ k => k.elim, fun _ _ k => k.elim⟩

/-- What a call does that neither takes nor gives any place of the heap, it does on any heap. -/
theorem frame_nil {P : Program} {f : FuncId} {args : List AV} {v : AV} (hr : refsL args = []) (hv : v.refs = []) (k : CallRuns P f args [] v []) (h : Heap) : CallRuns P f args h v h := by
  intro m us S q
  have S0 : Sim m [] := ⟨fun id b e => by simp [hget] at e, fun i j b b' B o o' e => by simp [hget] at e, fun i b B o e => by simp [hget] at e, S.lt⟩
  have q0 : RelL m [] false args us := RelL.carry (carry_nil m m h [] fun B k => ⟨k, rfl⟩) false args us (by rw [hr]; simp) q
  refine (k m us S0 q0).mono fun e w' ⟨m', cv, hw, he, E, S', r⟩ => ?_
  have hno : ∀ B, ¬ Owned m [] B := fun B ⟨id, b, o, e, _⟩ => by simp [hget] at e
  have hsame : ∀ B, B < m.w.heap.size → m'.w.heap[B]? = m.w.heap[B]? := fun B hB => (E.keep B hB (hno B)).1
  let m2 : Mem := ⟨m'.w, m.loc, m'.good⟩
  have E2 : Ext m h m2 h := by
    refine ⟨E.os, E.tape, E.output, E.size, fun B hB hn => ⟨hsame B hB, hn⟩, E.good, fun B k => ?_, Nat.le_refl _, fun _ _ e => e, fun id b b' e e' => ?_⟩
    · rcases E.back B k with k | k | k
      · exact .inl k
      · exact absurd k (hno B)
      · exact .inr (.inr k)
    · rw [e] at e'; injection e' with e'; subst e'
      exact ⟨rfl, Blk.like_refl _, fun B o l => shape_of_heap (hsame B ((S.blk id b e).lt l))⟩
  have S2 : Sim m2 h := by
    refine S.of_ext E2 (fun id b e => .inl ⟨e, fun B o l => hsame B ((S.blk id b e).lt l)⟩) S.inj (fun i b B o e l kg => ?_) S'.lt
    rcases E.back B kg with k | k | k
    · exact S.sep i b B o e l k
    · exact hno B k
    · have := (S.blk i b e).lt l; omega
  exact ⟨m2, cv, hw, he, E2, S2, Rel.carry (carry_nil m' m2 [] h fun B k => ⟨k, rfl⟩) v cv (by rw [hv]; simp) r⟩

/-- What comes of a run. -/
def out : AV → Heap → Option (AV × Heap) := fun v h => some (v, h)
theorem runs_of {P : Program} {E : Env} (hE : EnvOk P E) {n : Nat} {f : FuncId} {args : List AV} {h h' : Heap} {v : AV} (e : acall (R := AV × Heap) E n f args h out = some (v, h')) : FnOk P f ∧ CallRuns P f args h v h' := by
  obtain ⟨v', h1, e1, hf, k⟩ := acall_ok hE n f args h out (v, h') e
  unfold out at e1
  injection e1 with e1; injection e1 with e1 e2; subst e1; subst e2
  exact ⟨hf, k⟩

/-- What comes of a run that leaves nothing behind. -/
def outN : AV → Heap → Option AV := fun v h => match h with
  | [] => some v
  | _ :: _ => none
theorem runs_ofN {P : Program} {E : Env} (hE : EnvOk P E) {n : Nat} {f : FuncId} {args : List AV} {v : AV} (e : acall (R := AV) E n f args [] outN = some v) : FnOk P f ∧ CallRuns P f args [] v [] := by
  obtain ⟨v', h1, e1, hf, k⟩ := acall_ok hE n f args [] outN v e
  unfold outN at e1
  split at e1
  · injection e1 with e1; subst e1; exact ⟨hf, k⟩
  · cases e1
theorem push_int (c : Bool) (k : IntKind) (a b : Int) : (bif c then some (AV.int k a) else some (AV.int k b)) = some (AV.int k (bif c then a else b)) := by cases c <;> rfl

/-- A summary: what a function gives for values that lead to no place. -/
def sumOf (F : List AV → Option AV) : List AV → Heap → Option (AV × List Blk) := fun args _ => match F args with
  | some v => some (v, [])
  | none => none
theorem sumOf_ok {P : Program} {f : FuncId} {F : List AV → Option AV} (k : ∀ args v, F args = some v → refsL args = [] ∧ v.refs = [] ∧ FnOk P f ∧ CallRuns P f args [] v []) {args : List AV} {h : Heap} {v : AV} {nb : List Blk} (e : sumOf F args h = some (v, nb)) :
    FnOk P f ∧ CallRuns P f args h v (h ++ nb.map some) := by
  unfold sumOf at e
  split at e
  · rename_i v' hF
    injection e with e; injection e with e1 e2; subst e1; subst e2
    obtain ⟨h1, h2, h3, h4⟩ := k args v' hF
    simpa using (⟨h3, frame_nil h1 h2 h4 h⟩ : FnOk P f ∧ CallRuns P f args h v' h)
  · cases e

/-- The table of summaries. -/
def pureFind : List (FuncId × (List AV → Option AV)) → FuncId → Option (List AV → Heap → Option (AV × List Blk))
  | [], _ => none
  | (g, F) :: l, f => bif Nat.beq g f then some (sumOf F) else pureFind l f
def SumOk (P : Program) (f : FuncId) (F : List AV → Option AV) : Prop := ∀ args v, F args = some v → refsL args = [] ∧ v.refs = [] ∧ FnOk P f ∧ CallRuns P f args [] v []
def AllSum (P : Program) : List (FuncId × (List AV → Option AV)) → Prop
  | [] => True
  | p :: l => SumOk P p.1 p.2 ∧ AllSum P l
theorem pureFind_ok {P : Program} {E : Env} {l : List (FuncId × (List AV → Option AV))} (h : AllSum P l) (he : ExtOk P E) (hp : E.pure = pureFind l) : PureOk P E := by
  refine ⟨he, fun f H args h' v nb e e2 => ?_⟩
  rw [hp] at e
  clear hp
  induction l with
  | nil => cases e
  | cons p l ih =>
    obtain ⟨g, F⟩ := p
    simp only [pureFind] at e
    cases hb : Nat.beq g f with
    | true =>
      rw [hb] at e; simp only [cond_true] at e; injection e with e; subst e
      have : g = f := Nat.eq_of_beq_eq_true hb
      subst this
      exact sumOf_ok h.1 e2
    | false => rw [hb] at e; simp only [cond_false] at e; exact ih h.2 e

/-- A call of a law with arguments that lead to no place. -/
theorem law_ok {P : Program} {E : Env} (hE : EnvOk P E) {n : Nat} {f : FuncId} {args : List AV} {us : List Value} (e : acall (R := Bool) E n f args [] isTrue = some true) (W : World)
    (q : ∀ m, m.w = W → RelL m [] false args us) : Calls P f us.toArray W fun e W' => e = .returned (.bool true) ∧ Below W.heap.size W W' := by
  obtain ⟨v, h', e, _, k⟩ := acall_ok hE n f args [] isTrue true e
  have hv : v = .bool true := by
    unfold isTrue at e
    split at e
    · injection e with e; rw [e]
    · cases e
  subst hv
  have := k ⟨W, fun _ => none, fun _ => False⟩ us ⟨fun id b e => by simp [hget] at e, fun i j b b' B o o' e => by simp [hget] at e, fun i b B o e => by simp [hget] at e, fun B k => k.elim⟩ (q _ rfl)
  refine Calls.mono this fun e W' ⟨m', cv, h1, h2, h3, h4, h5⟩ => ?_
  subst h1
  have h5' : cv = .bool true := h5
  subst h5'
  exact ⟨h2, ext_below h3⟩

end Go.Proofs.YtklfdmnmiadgpaaAbs
