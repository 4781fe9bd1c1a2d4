/- Arguments: structs opened. -/
import Derived.Test.YtklfdmnmiadgpaaAbsCore27
import Derived.ProofKit
import Derived.WideShapes
import Derived.DataReads
import Derived.DataElems
import Derived.OpenShut
namespace Go.Proofs.YtklfdmnmiadgpaaAbs
set_option linter.unusedVariables false
open Go Go.RowKit Go.ChangeShapes Go.WideShapes
section
variable {P : Program} {w : World} {t e : TypeId}
/-- A struct's field, out of the whole's reading. -/
theorem trod_fields {H : Type} {enc : TypeId × Value → H} {spare : Nat → Bool} {held : Bool} {fuel : Nat} {cs : List Value} {x : DataW H × List MemPlace} {fs : Array Field} (ht : P.underlying t = some (.struct fs)) (h : DataW.trod enc P w 0 spare held fuel t cs = some x) :
    ∃ n, ∀ (i : Nat) (f : Field), fs[i]? = some f → ∃ y, DataW.trod enc P w 0 spare held n f.type ((cs.drop f.offset).take (P.cellsOf f.type)) = some y := by
  obtain ⟨xs, n, _, _, _, hl, hf⟩ := DataW.trod_struct ht h
  refine ⟨n, fun i f hi => ?_⟩
  have h1 := hf i f hi
  have hlt : i < xs.length := by rw [hl]; exact (Array.getElem?_eq_some_iff.1 hi).1
  rw [List.getElem?_eq_getElem hlt] at h1
  exact ⟨_, h1⟩
/-- An array's place, out of the whole's reading. -/
theorem trod_places {H : Type} {enc : TypeId × Value → H} {spare : Nat → Bool} {held : Bool} {fuel : Nat} {cs : List Value} {x : DataW H × List MemPlace} {m : Nat} (ht : P.underlying t = some (.array m e)) (h : DataW.trod enc P w 0 spare held fuel t cs = some x) :
    ∃ n, ∀ i : Nat, i < m → ∃ y, DataW.trod enc P w 0 spare held n e ((cs.drop (i * P.cellsOf e)).take (P.cellsOf e)) = some y := by
  obtain ⟨xs, n, _, _, _, hl, hf⟩ := DataW.trod_array ht h
  refine ⟨n, fun i hi => ?_⟩
  have h1 := hf i hi
  rw [List.getElem?_eq_getElem (by omega)] at h1
  exact ⟨_, h1⟩
end
end Go.Proofs.YtklfdmnmiadgpaaAbs
