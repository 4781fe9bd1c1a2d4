-- Written by a program of this session (out of the kit's printer); Lean checks it.
import Derived.Test.YthlmpppddloiaaaGColorMadex0
import Derived.Test.YthlmpppddloiaaaGColorMadex1
namespace Go.Proofs.Ythlmpppddloiaaa.GColorMade
open Go.RowKit Go.Proofs.YthlmpppddloiaaaW.PrintWords Go.Proofs.YthlmpppddloiaaaW.PrintLast Go.Proofs.YthlmpppddloiaaaW.PrintMore
attribute [local go_sem] max2_int min2_int max_two min_two max_three min_three max_four min_four   -- for this text's walks alone
set_option linter.unusedVariables false
set_option linter.unusedSimpArgs false

/-! ### linguistlaw3_ColorMade: function 6 -/
def linguistlaw3_ColorMade.f (k : Nat) (a0 : Int) (a1 : Int) (a2 : Int) (a3 : Int) : Option (Bool) := (linguistbook_Within.f a0 0 255).bind fun t136 => ((linguistbook_Within.f a1 0 255).bind fun t137 => ((linguistbook_Within.f a2 0 255).bind fun t138 => ((color_Of.f t136 t137 t138).bind fun t139 => ((color_RGB.f k t139).bind fun bt140 => ((linguistbook_Within.f a3 232 254).bind fun t144 => ((color_RGB.f k t144).bind fun bt145 => ((color_RGB.f k (wrap64 (t144 + 1))).bind fun bt149 => ((color_RGB.f k (wrap64 ((wrap64 ((wrap64 (16 + (wrap64 (36 * (Int.tmod t136 6))))) + (wrap64 (6 * (Int.tmod t137 6))))) + (Int.tmod t138 6)))).bind fun bt153 => ((some (([0, 95, 135, 175, 215, 255] : List Int) : List Int)).bind fun y157 => (if bt140.2.2.2 = true then (if bt140.1 = t136 then (if bt140.2.1 = t137 then (if bt140.2.2.1 = t138 then (if bt149.1 = (wrap64 (bt145.1 + 10)) then (if bt153.2.2.2 = true then (if 0 ≤ (Int.tmod t136 6) then (if (Int.tmod t136 6) < (y157.length : Int) then (if bt153.1 = (rd y157 (Int.tmod t136 6)) then (if 0 ≤ (Int.tmod t137 6) then (if (Int.tmod t137 6) < (y157.length : Int) then (if bt153.2.1 = (rd y157 (Int.tmod t137 6)) then (if 0 ≤ (Int.tmod t138 6) then (if (Int.tmod t138 6) < (y157.length : Int) then (if bt153.2.2.1 = (rd y157 (Int.tmod t138 6)) then ((color_Of.f (-5) 300 7).bind fun t163 => ((color_Of.f 0 255 7).bind fun t164 => (if t163 = t164 then ((linguistlaw3_ColorRuns.f k).bind fun t165 => (some t165)) else (none)))) else (none)) else (none)) else (none)) else (none)) else (none)) else (none)) else (none)) else (none)) else (none)) else (none)) else (none)) else (none)) else (none)) else (none)) else (none)))))))))))
theorem linguistlaw3_ColorMade.mono : ∀ a0 a1 a2 a3 k, LeO (linguistlaw3_ColorMade.f k a0 a1 a2 a3) (linguistlaw3_ColorMade.f (k + 1) a0 a1 a2 a3) := by
  intro a0 a1 a2 a3 k
  unfold linguistlaw3_ColorMade.f
  repeat' first
      | (with_reducible exact color_RGB.mono _ _)
      | (with_reducible exact linguistlaw3_ColorRuns.mono _)
      | (with_reducible exact LeO.refl _)
      | (with_reducible exact LeO.none _)
      | (with_reducible refine LeO.ite ?_ ?_)
      | (with_reducible refine LeO.bind ?_ (fun _ => ?_))
      | exact color_RGB.mono _ _
      | exact linguistlaw3_ColorRuns.mono _
      | exact LeO.none _
      | refine LeO.ite ?_ ?_
      | refine LeO.bind ?_ (fun _ => ?_)
set_option maxHeartbeats 8000000 in
set_option maxRecDepth 100000 in
theorem linguistlaw3_ColorMade.calls (k : Nat) (a0 : Int) (a1 : Int) (a2 : Int) (a3 : Int) (r : Bool) (w : World) (h : linguistlaw3_ColorMade.f k a0 a1 a2 a3 = some r) :
    Calls Try.prog 6 #[.int .i64 a0, .int .i64 a1, .int .i64 a2, .int .i64 a3] w fun e w' => e = .returned (.bool r) ∧ Below w.heap.size w w' := by
  have HB := Aside0.mk (Below.refl w.heap.size w)
  have H : ((linguistbook_Within.f a0 0 255).bind fun t136 => ((linguistbook_Within.f a1 0 255).bind fun t137 => ((linguistbook_Within.f a2 0 255).bind fun t138 => ((color_Of.f t136 t137 t138).bind fun t139 => ((color_RGB.f k t139).bind fun bt140 => ((linguistbook_Within.f a3 232 254).bind fun t144 => ((color_RGB.f k t144).bind fun bt145 => ((color_RGB.f k (wrap64 (t144 + 1))).bind fun bt149 => ((color_RGB.f k (wrap64 ((wrap64 ((wrap64 (16 + (wrap64 (36 * (Int.tmod t136 6))))) + (wrap64 (6 * (Int.tmod t137 6))))) + (Int.tmod t138 6)))).bind fun bt153 => ((some (([0, 95, 135, 175, 215, 255] : List Int) : List Int)).bind fun y157 => (if bt140.2.2.2 = true then (if bt140.1 = t136 then (if bt140.2.1 = t137 then (if bt140.2.2.1 = t138 then (if bt149.1 = (wrap64 (bt145.1 + 10)) then (if bt153.2.2.2 = true then (if 0 ≤ (Int.tmod t136 6) then (if (Int.tmod t136 6) < (y157.length : Int) then (if bt153.1 = (rd y157 (Int.tmod t136 6)) then (if 0 ≤ (Int.tmod t137 6) then (if (Int.tmod t137 6) < (y157.length : Int) then (if bt153.2.1 = (rd y157 (Int.tmod t137 6)) then (if 0 ≤ (Int.tmod t138 6) then (if (Int.tmod t138 6) < (y157.length : Int) then (if bt153.2.2.1 = (rd y157 (Int.tmod t138 6)) then ((color_Of.f (-5) 300 7).bind fun t163 => ((color_Of.f 0 255 7).bind fun t164 => (if t163 = t164 then ((linguistlaw3_ColorRuns.f k).bind fun t165 => (some t165)) else (none)))) else (none)) else (none)) else (none)) else (none)) else (none)) else (none)) else (none)) else (none)) else (none)) else (none)) else (none)) else (none)) else (none)) else (none)) else (none)))))))))))) = some r := h
  clear h
  replace H := Option.bind_eq_some_iff.mp H
  obtain ⟨t136, A50, H⟩ := H
  replace H : ((linguistbook_Within.f a1 0 255).bind fun t137 => ((linguistbook_Within.f a2 0 255).bind fun t138 => ((color_Of.f t136 t137 t138).bind fun t139 => ((color_RGB.f k t139).bind fun bt140 => ((linguistbook_Within.f a3 232 254).bind fun t144 => ((color_RGB.f k t144).bind fun bt145 => ((color_RGB.f k (wrap64 (t144 + 1))).bind fun bt149 => ((color_RGB.f k (wrap64 ((wrap64 ((wrap64 (16 + (wrap64 (36 * (Int.tmod t136 6))))) + (wrap64 (6 * (Int.tmod t137 6))))) + (Int.tmod t138 6)))).bind fun bt153 => ((some (([0, 95, 135, 175, 215, 255] : List Int) : List Int)).bind fun y157 => (if bt140.2.2.2 = true then (if bt140.1 = t136 then (if bt140.2.1 = t137 then (if bt140.2.2.1 = t138 then (if bt149.1 = (wrap64 (bt145.1 + 10)) then (if bt153.2.2.2 = true then (if 0 ≤ (Int.tmod t136 6) then (if (Int.tmod t136 6) < (y157.length : Int) then (if bt153.1 = (rd y157 (Int.tmod t136 6)) then (if 0 ≤ (Int.tmod t137 6) then (if (Int.tmod t137 6) < (y157.length : Int) then (if bt153.2.1 = (rd y157 (Int.tmod t137 6)) then (if 0 ≤ (Int.tmod t138 6) then (if (Int.tmod t138 6) < (y157.length : Int) then (if bt153.2.2.1 = (rd y157 (Int.tmod t138 6)) then ((color_Of.f (-5) 300 7).bind fun t163 => ((color_Of.f 0 255 7).bind fun t164 => (if t163 = t164 then ((linguistlaw3_ColorRuns.f k).bind fun t165 => (some t165)) else (none)))) else (none)) else (none)) else (none)) else (none)) else (none)) else (none)) else (none)) else (none)) else (none)) else (none)) else (none)) else (none)) else (none)) else (none)) else (none))))))))))) = some r := H
  have A5 := Aside0.mk A50
  clear A50
  replace H := Option.bind_eq_some_iff.mp H
  obtain ⟨t137, A60, H⟩ := H
  replace H : ((linguistbook_Within.f a2 0 255).bind fun t138 => ((color_Of.f t136 t137 t138).bind fun t139 => ((color_RGB.f k t139).bind fun bt140 => ((linguistbook_Within.f a3 232 254).bind fun t144 => ((color_RGB.f k t144).bind fun bt145 => ((color_RGB.f k (wrap64 (t144 + 1))).bind fun bt149 => ((color_RGB.f k (wrap64 ((wrap64 ((wrap64 (16 + (wrap64 (36 * (Int.tmod t136 6))))) + (wrap64 (6 * (Int.tmod t137 6))))) + (Int.tmod t138 6)))).bind fun bt153 => ((some (([0, 95, 135, 175, 215, 255] : List Int) : List Int)).bind fun y157 => (if bt140.2.2.2 = true then (if bt140.1 = t136 then (if bt140.2.1 = t137 then (if bt140.2.2.1 = t138 then (if bt149.1 = (wrap64 (bt145.1 + 10)) then (if bt153.2.2.2 = true then (if 0 ≤ (Int.tmod t136 6) then (if (Int.tmod t136 6) < (y157.length : Int) then (if bt153.1 = (rd y157 (Int.tmod t136 6)) then (if 0 ≤ (Int.tmod t137 6) then (if (Int.tmod t137 6) < (y157.length : Int) then (if bt153.2.1 = (rd y157 (Int.tmod t137 6)) then (if 0 ≤ (Int.tmod t138 6) then (if (Int.tmod t138 6) < (y157.length : Int) then (if bt153.2.2.1 = (rd y157 (Int.tmod t138 6)) then ((color_Of.f (-5) 300 7).bind fun t163 => ((color_Of.f 0 255 7).bind fun t164 => (if t163 = t164 then ((linguistlaw3_ColorRuns.f k).bind fun t165 => (some t165)) else (none)))) else (none)) else (none)) else (none)) else (none)) else (none)) else (none)) else (none)) else (none)) else (none)) else (none)) else (none)) else (none)) else (none)) else (none)) else (none)))))))))) = some r := H
  have A6 := Aside0.mk A60
  clear A60
  replace H := Option.bind_eq_some_iff.mp H
  obtain ⟨t138, A70, H⟩ := H
  replace H : ((color_Of.f t136 t137 t138).bind fun t139 => ((color_RGB.f k t139).bind fun bt140 => ((linguistbook_Within.f a3 232 254).bind fun t144 => ((color_RGB.f k t144).bind fun bt145 => ((color_RGB.f k (wrap64 (t144 + 1))).bind fun bt149 => ((color_RGB.f k (wrap64 ((wrap64 ((wrap64 (16 + (wrap64 (36 * (Int.tmod t136 6))))) + (wrap64 (6 * (Int.tmod t137 6))))) + (Int.tmod t138 6)))).bind fun bt153 => ((some (([0, 95, 135, 175, 215, 255] : List Int) : List Int)).bind fun y157 => (if bt140.2.2.2 = true then (if bt140.1 = t136 then (if bt140.2.1 = t137 then (if bt140.2.2.1 = t138 then (if bt149.1 = (wrap64 (bt145.1 + 10)) then (if bt153.2.2.2 = true then (if 0 ≤ (Int.tmod t136 6) then (if (Int.tmod t136 6) < (y157.length : Int) then (if bt153.1 = (rd y157 (Int.tmod t136 6)) then (if 0 ≤ (Int.tmod t137 6) then (if (Int.tmod t137 6) < (y157.length : Int) then (if bt153.2.1 = (rd y157 (Int.tmod t137 6)) then (if 0 ≤ (Int.tmod t138 6) then (if (Int.tmod t138 6) < (y157.length : Int) then (if bt153.2.2.1 = (rd y157 (Int.tmod t138 6)) then ((color_Of.f (-5) 300 7).bind fun t163 => ((color_Of.f 0 255 7).bind fun t164 => (if t163 = t164 then ((linguistlaw3_ColorRuns.f k).bind fun t165 => (some t165)) else (none)))) else (none)) else (none)) else (none)) else (none)) else (none)) else (none)) else (none)) else (none)) else (none)) else (none)) else (none)) else (none)) else (none)) else (none)) else (none))))))))) = some r := H
  have A7 := Aside0.mk A70
  clear A70
  replace H := Option.bind_eq_some_iff.mp H
  obtain ⟨t139, A80, H⟩ := H
  replace H : ((color_RGB.f k t139).bind fun bt140 => ((linguistbook_Within.f a3 232 254).bind fun t144 => ((color_RGB.f k t144).bind fun bt145 => ((color_RGB.f k (wrap64 (t144 + 1))).bind fun bt149 => ((color_RGB.f k (wrap64 ((wrap64 ((wrap64 (16 + (wrap64 (36 * (Int.tmod t136 6))))) + (wrap64 (6 * (Int.tmod t137 6))))) + (Int.tmod t138 6)))).bind fun bt153 => ((some (([0, 95, 135, 175, 215, 255] : List Int) : List Int)).bind fun y157 => (if bt140.2.2.2 = true then (if bt140.1 = t136 then (if bt140.2.1 = t137 then (if bt140.2.2.1 = t138 then (if bt149.1 = (wrap64 (bt145.1 + 10)) then (if bt153.2.2.2 = true then (if 0 ≤ (Int.tmod t136 6) then (if (Int.tmod t136 6) < (y157.length : Int) then (if bt153.1 = (rd y157 (Int.tmod t136 6)) then (if 0 ≤ (Int.tmod t137 6) then (if (Int.tmod t137 6) < (y157.length : Int) then (if bt153.2.1 = (rd y157 (Int.tmod t137 6)) then (if 0 ≤ (Int.tmod t138 6) then (if (Int.tmod t138 6) < (y157.length : Int) then (if bt153.2.2.1 = (rd y157 (Int.tmod t138 6)) then ((color_Of.f (-5) 300 7).bind fun t163 => ((color_Of.f 0 255 7).bind fun t164 => (if t163 = t164 then ((linguistlaw3_ColorRuns.f k).bind fun t165 => (some t165)) else (none)))) else (none)) else (none)) else (none)) else (none)) else (none)) else (none)) else (none)) else (none)) else (none)) else (none)) else (none)) else (none)) else (none)) else (none)) else (none)))))))) = some r := H
  have A8 := Aside0.mk A80
  clear A80
  replace H := Option.bind_eq_some_iff.mp H
  obtain ⟨⟨t140, t141, t142, t143⟩, A90, H⟩ := H
  replace H : ((linguistbook_Within.f a3 232 254).bind fun t144 => ((color_RGB.f k t144).bind fun bt145 => ((color_RGB.f k (wrap64 (t144 + 1))).bind fun bt149 => ((color_RGB.f k (wrap64 ((wrap64 ((wrap64 (16 + (wrap64 (36 * (Int.tmod t136 6))))) + (wrap64 (6 * (Int.tmod t137 6))))) + (Int.tmod t138 6)))).bind fun bt153 => ((some (([0, 95, 135, 175, 215, 255] : List Int) : List Int)).bind fun y157 => (if t143 = true then (if t140 = t136 then (if t141 = t137 then (if t142 = t138 then (if bt149.1 = (wrap64 (bt145.1 + 10)) then (if bt153.2.2.2 = true then (if 0 ≤ (Int.tmod t136 6) then (if (Int.tmod t136 6) < (y157.length : Int) then (if bt153.1 = (rd y157 (Int.tmod t136 6)) then (if 0 ≤ (Int.tmod t137 6) then (if (Int.tmod t137 6) < (y157.length : Int) then (if bt153.2.1 = (rd y157 (Int.tmod t137 6)) then (if 0 ≤ (Int.tmod t138 6) then (if (Int.tmod t138 6) < (y157.length : Int) then (if bt153.2.2.1 = (rd y157 (Int.tmod t138 6)) then ((color_Of.f (-5) 300 7).bind fun t163 => ((color_Of.f 0 255 7).bind fun t164 => (if t163 = t164 then ((linguistlaw3_ColorRuns.f k).bind fun t165 => (some t165)) else (none)))) else (none)) else (none)) else (none)) else (none)) else (none)) else (none)) else (none)) else (none)) else (none)) else (none)) else (none)) else (none)) else (none)) else (none)) else (none))))))) = some r := H
  have A9 := Aside0.mk A90
  clear A90
  replace H := Option.bind_eq_some_iff.mp H
  obtain ⟨t144, A100, H⟩ := H
  replace H : ((color_RGB.f k t144).bind fun bt145 => ((color_RGB.f k (wrap64 (t144 + 1))).bind fun bt149 => ((color_RGB.f k (wrap64 ((wrap64 ((wrap64 (16 + (wrap64 (36 * (Int.tmod t136 6))))) + (wrap64 (6 * (Int.tmod t137 6))))) + (Int.tmod t138 6)))).bind fun bt153 => ((some (([0, 95, 135, 175, 215, 255] : List Int) : List Int)).bind fun y157 => (if t143 = true then (if t140 = t136 then (if t141 = t137 then (if t142 = t138 then (if bt149.1 = (wrap64 (bt145.1 + 10)) then (if bt153.2.2.2 = true then (if 0 ≤ (Int.tmod t136 6) then (if (Int.tmod t136 6) < (y157.length : Int) then (if bt153.1 = (rd y157 (Int.tmod t136 6)) then (if 0 ≤ (Int.tmod t137 6) then (if (Int.tmod t137 6) < (y157.length : Int) then (if bt153.2.1 = (rd y157 (Int.tmod t137 6)) then (if 0 ≤ (Int.tmod t138 6) then (if (Int.tmod t138 6) < (y157.length : Int) then (if bt153.2.2.1 = (rd y157 (Int.tmod t138 6)) then ((color_Of.f (-5) 300 7).bind fun t163 => ((color_Of.f 0 255 7).bind fun t164 => (if t163 = t164 then ((linguistlaw3_ColorRuns.f k).bind fun t165 => (some t165)) else (none)))) else (none)) else (none)) else (none)) else (none)) else (none)) else (none)) else (none)) else (none)) else (none)) else (none)) else (none)) else (none)) else (none)) else (none)) else (none)))))) = some r := H
  have A10 := Aside0.mk A100
  clear A100
  replace H := Option.bind_eq_some_iff.mp H
  obtain ⟨⟨t145, t146, t147, t148⟩, A110, H⟩ := H
  replace H : ((color_RGB.f k (wrap64 (t144 + 1))).bind fun bt149 => ((color_RGB.f k (wrap64 ((wrap64 ((wrap64 (16 + (wrap64 (36 * (Int.tmod t136 6))))) + (wrap64 (6 * (Int.tmod t137 6))))) + (Int.tmod t138 6)))).bind fun bt153 => ((some (([0, 95, 135, 175, 215, 255] : List Int) : List Int)).bind fun y157 => (if t143 = true then (if t140 = t136 then (if t141 = t137 then (if t142 = t138 then (if bt149.1 = (wrap64 (t145 + 10)) then (if bt153.2.2.2 = true then (if 0 ≤ (Int.tmod t136 6) then (if (Int.tmod t136 6) < (y157.length : Int) then (if bt153.1 = (rd y157 (Int.tmod t136 6)) then (if 0 ≤ (Int.tmod t137 6) then (if (Int.tmod t137 6) < (y157.length : Int) then (if bt153.2.1 = (rd y157 (Int.tmod t137 6)) then (if 0 ≤ (Int.tmod t138 6) then (if (Int.tmod t138 6) < (y157.length : Int) then (if bt153.2.2.1 = (rd y157 (Int.tmod t138 6)) then ((color_Of.f (-5) 300 7).bind fun t163 => ((color_Of.f 0 255 7).bind fun t164 => (if t163 = t164 then ((linguistlaw3_ColorRuns.f k).bind fun t165 => (some t165)) else (none)))) else (none)) else (none)) else (none)) else (none)) else (none)) else (none)) else (none)) else (none)) else (none)) else (none)) else (none)) else (none)) else (none)) else (none)) else (none))))) = some r := H
  have A11 := Aside0.mk A110
  clear A110
  replace H := Option.bind_eq_some_iff.mp H
  obtain ⟨⟨t149, t150, t151, t152⟩, A120, H⟩ := H
  replace H : ((color_RGB.f k (wrap64 ((wrap64 ((wrap64 (16 + (wrap64 (36 * (Int.tmod t136 6))))) + (wrap64 (6 * (Int.tmod t137 6))))) + (Int.tmod t138 6)))).bind fun bt153 => ((some (([0, 95, 135, 175, 215, 255] : List Int) : List Int)).bind fun y157 => (if t143 = true then (if t140 = t136 then (if t141 = t137 then (if t142 = t138 then (if t149 = (wrap64 (t145 + 10)) then (if bt153.2.2.2 = true then (if 0 ≤ (Int.tmod t136 6) then (if (Int.tmod t136 6) < (y157.length : Int) then (if bt153.1 = (rd y157 (Int.tmod t136 6)) then (if 0 ≤ (Int.tmod t137 6) then (if (Int.tmod t137 6) < (y157.length : Int) then (if bt153.2.1 = (rd y157 (Int.tmod t137 6)) then (if 0 ≤ (Int.tmod t138 6) then (if (Int.tmod t138 6) < (y157.length : Int) then (if bt153.2.2.1 = (rd y157 (Int.tmod t138 6)) then ((color_Of.f (-5) 300 7).bind fun t163 => ((color_Of.f 0 255 7).bind fun t164 => (if t163 = t164 then ((linguistlaw3_ColorRuns.f k).bind fun t165 => (some t165)) else (none)))) else (none)) else (none)) else (none)) else (none)) else (none)) else (none)) else (none)) else (none)) else (none)) else (none)) else (none)) else (none)) else (none)) else (none)) else (none)))) = some r := H
  have A12 := Aside0.mk A120
  clear A120
  replace H := Option.bind_eq_some_iff.mp H
  obtain ⟨⟨t153, t154, t155, t156⟩, A130, H⟩ := H
  replace H : ((some (([0, 95, 135, 175, 215, 255] : List Int) : List Int)).bind fun y157 => (if t143 = true then (if t140 = t136 then (if t141 = t137 then (if t142 = t138 then (if t149 = (wrap64 (t145 + 10)) then (if t156 = true then (if 0 ≤ (Int.tmod t136 6) then (if (Int.tmod t136 6) < (y157.length : Int) then (if t153 = (rd y157 (Int.tmod t136 6)) then (if 0 ≤ (Int.tmod t137 6) then (if (Int.tmod t137 6) < (y157.length : Int) then (if t154 = (rd y157 (Int.tmod t137 6)) then (if 0 ≤ (Int.tmod t138 6) then (if (Int.tmod t138 6) < (y157.length : Int) then (if t155 = (rd y157 (Int.tmod t138 6)) then ((color_Of.f (-5) 300 7).bind fun t163 => ((color_Of.f 0 255 7).bind fun t164 => (if t163 = t164 then ((linguistlaw3_ColorRuns.f k).bind fun t165 => (some t165)) else (none)))) else (none)) else (none)) else (none)) else (none)) else (none)) else (none)) else (none)) else (none)) else (none)) else (none)) else (none)) else (none)) else (none)) else (none)) else (none))) = some r := H
  have A13 := Aside0.mk A130
  clear A130
  obtain ⟨y157, hy157⟩ : ∃ y_ : List Int, y_ = (([0, 95, 135, 175, 215, 255] : List Int)) := ⟨_, rfl⟩
  replace H : (if t143 = true then (if t140 = t136 then (if t141 = t137 then (if t142 = t138 then (if t149 = (wrap64 (t145 + 10)) then (if t156 = true then (if 0 ≤ (Int.tmod t136 6) then (if (Int.tmod t136 6) < (y157.length : Int) then (if t153 = (rd y157 (Int.tmod t136 6)) then (if 0 ≤ (Int.tmod t137 6) then (if (Int.tmod t137 6) < (y157.length : Int) then (if t154 = (rd y157 (Int.tmod t137 6)) then (if 0 ≤ (Int.tmod t138 6) then (if (Int.tmod t138 6) < (y157.length : Int) then (if t155 = (rd y157 (Int.tmod t138 6)) then ((color_Of.f (-5) 300 7).bind fun t163 => ((color_Of.f 0 255 7).bind fun t164 => (if t163 = t164 then ((linguistlaw3_ColorRuns.f k).bind fun t165 => (some t165)) else (none)))) else (none)) else (none)) else (none)) else (none)) else (none)) else (none)) else (none)) else (none)) else (none)) else (none)) else (none)) else (none)) else (none)) else (none)) else (none)) = some r := by first | (rw [hy157]; with_reducible exact H) | (have H2_ := (Option.bind_some _ _).symm.trans H; rw [hy157]; with_reducible exact H2_) | (have H2_ := (Option.bind_some _ _).symm.trans H; with_reducible exact H2_) | with_reducible exact H | (rw [hy157]; exact H) | exact H
  have Ny157 := Aside0.mk hy157
  clear hy157
  by_cases c14 : t143 = true
  · subst c14
    have H1 : (if t140 = t136 then (if t141 = t137 then (if t142 = t138 then (if t149 = (wrap64 (t145 + 10)) then (if t156 = true then (if 0 ≤ (Int.tmod t136 6) then (if (Int.tmod t136 6) < (y157.length : Int) then (if t153 = (rd y157 (Int.tmod t136 6)) then (if 0 ≤ (Int.tmod t137 6) then (if (Int.tmod t137 6) < (y157.length : Int) then (if t154 = (rd y157 (Int.tmod t137 6)) then (if 0 ≤ (Int.tmod t138 6) then (if (Int.tmod t138 6) < (y157.length : Int) then (if t155 = (rd y157 (Int.tmod t138 6)) then ((color_Of.f (-5) 300 7).bind fun t163 => ((color_Of.f 0 255 7).bind fun t164 => (if t163 = t164 then ((linguistlaw3_ColorRuns.f k).bind fun t165 => (some t165)) else (none)))) else (none)) else (none)) else (none)) else (none)) else (none)) else (none)) else (none)) else (none)) else (none)) else (none)) else (none)) else (none)) else (none)) else (none)) = some r := by rw [if_pos rfl] at H; exact H
    clear H
    have H := H1
    clear H1
    by_cases c15 : t140 = t136
    · rw [if_pos c15] at H
      have c15b0 : (t140 == t136) = true := beq_iff_eq.mpr c15
      have c15b1 : (t140 != t136) = false := bne_eq_false_iff_eq.mpr c15
      clear c15
      by_cases c16 : t141 = t137
      · rw [if_pos c16] at H
        have c16b0 : (t141 == t137) = true := beq_iff_eq.mpr c16
        have c16b1 : (t141 != t137) = false := bne_eq_false_iff_eq.mpr c16
        clear c16
        by_cases c17 : t142 = t138
        · rw [if_pos c17] at H
          have c17b0 : (t142 == t138) = true := beq_iff_eq.mpr c17
          have c17b1 : (t142 != t138) = false := bne_eq_false_iff_eq.mpr c17
          clear c17
          by_cases c18 : t149 = (wrap64 (t145 + 10))
          · rw [if_pos c18] at H
            have c18b0 : (t149 == (wrap64 (t145 + 10))) = true := beq_iff_eq.mpr c18
            have c18b1 : (t149 != (wrap64 (t145 + 10))) = false := bne_eq_false_iff_eq.mpr c18
            clear c18
            by_cases c19 : t156 = true
            · subst c19
              have H1 : (if 0 ≤ (Int.tmod t136 6) then (if (Int.tmod t136 6) < (y157.length : Int) then (if t153 = (rd y157 (Int.tmod t136 6)) then (if 0 ≤ (Int.tmod t137 6) then (if (Int.tmod t137 6) < (y157.length : Int) then (if t154 = (rd y157 (Int.tmod t137 6)) then (if 0 ≤ (Int.tmod t138 6) then (if (Int.tmod t138 6) < (y157.length : Int) then (if t155 = (rd y157 (Int.tmod t138 6)) then ((color_Of.f (-5) 300 7).bind fun t163 => ((color_Of.f 0 255 7).bind fun t164 => (if t163 = t164 then ((linguistlaw3_ColorRuns.f k).bind fun t165 => (some t165)) else (none)))) else (none)) else (none)) else (none)) else (none)) else (none)) else (none)) else (none)) else (none)) else (none)) = some r := by rw [if_pos rfl] at H; exact H
              clear H
              have H := H1
              clear H1
              obtain ⟨ji20, hji20⟩ : ∃ j_ : Int, (Int.tmod t136 6) = j_ := ⟨_, rfl⟩
              replace H : (if 0 ≤ (ji20) then (if (ji20) < (y157.length : Int) then (if t153 = (rd y157 (ji20)) then (if 0 ≤ (Int.tmod t137 6) then (if (Int.tmod t137 6) < (y157.length : Int) then (if t154 = (rd y157 (Int.tmod t137 6)) then (if 0 ≤ (Int.tmod t138 6) then (if (Int.tmod t138 6) < (y157.length : Int) then (if t155 = (rd y157 (Int.tmod t138 6)) then ((color_Of.f (-5) 300 7).bind fun t163 => ((color_Of.f 0 255 7).bind fun t164 => (if t163 = t164 then ((linguistlaw3_ColorRuns.f k).bind fun t165 => (some t165)) else (none)))) else (none)) else (none)) else (none)) else (none)) else (none)) else (none)) else (none)) else (none)) else (none)) = some r := by first | (rw [hji20] at H; exact H) | (simp only [hji20] at H ⊢; exact H)
              (try rw [hji20] at A5)
              (try rw [hji20] at A6)
              (try rw [hji20] at A7)
              (try rw [hji20] at A8)
              (try rw [hji20] at A9)
              (try rw [hji20] at A10)
              (try rw [hji20] at A11)
              (try rw [hji20] at A12)
              (try rw [hji20] at A13)
              by_cases c21 : 0 ≤ (ji20)
              · rw [if_pos c21] at H
                have c21b0 : decide (0 ≤ (ji20)) = true := decide_eq_true c21
                clear c21
                by_cases c22 : (ji20) < (y157.length : Int)
                · rw [if_pos c22] at H
                  have c22b0 : decide ((ji20) < (y157.length : Int)) = true := decide_eq_true c22
                  clear c22
                  by_cases c23 : t153 = (rd y157 (ji20))
                  · rw [if_pos c23] at H
                    have c23b0 : (t153 == (rd y157 (ji20))) = true := beq_iff_eq.mpr c23
                    have c23b1 : (t153 != (rd y157 (ji20))) = false := bne_eq_false_iff_eq.mpr c23
                    clear c23
                    obtain ⟨ji24, hji24⟩ : ∃ j_ : Int, (Int.tmod t137 6) = j_ := ⟨_, rfl⟩
                    replace H : (if 0 ≤ (ji24) then (if (ji24) < (y157.length : Int) then (if t154 = (rd y157 (ji24)) then (if 0 ≤ (Int.tmod t138 6) then (if (Int.tmod t138 6) < (y157.length : Int) then (if t155 = (rd y157 (Int.tmod t138 6)) then ((color_Of.f (-5) 300 7).bind fun t163 => ((color_Of.f 0 255 7).bind fun t164 => (if t163 = t164 then ((linguistlaw3_ColorRuns.f k).bind fun t165 => (some t165)) else (none)))) else (none)) else (none)) else (none)) else (none)) else (none)) else (none)) = some r := by first | (rw [hji24] at H; exact H) | (simp only [hji24] at H ⊢; exact H)
                    (try rw [hji24] at A5)
                    (try rw [hji24] at A6)
                    (try rw [hji24] at A7)
                    (try rw [hji24] at A8)
                    (try rw [hji24] at A9)
                    (try rw [hji24] at A10)
                    (try rw [hji24] at A11)
                    (try rw [hji24] at A12)
                    (try rw [hji24] at A13)
                    by_cases c25 : 0 ≤ (ji24)
                    · rw [if_pos c25] at H
                      have c25b0 : decide (0 ≤ (ji24)) = true := decide_eq_true c25
                      clear c25
                      by_cases c26 : (ji24) < (y157.length : Int)
                      · rw [if_pos c26] at H
                        have c26b0 : decide ((ji24) < (y157.length : Int)) = true := decide_eq_true c26
                        clear c26
                        by_cases c27 : t154 = (rd y157 (ji24))
                        · rw [if_pos c27] at H
                          have c27b0 : (t154 == (rd y157 (ji24))) = true := beq_iff_eq.mpr c27
                          have c27b1 : (t154 != (rd y157 (ji24))) = false := bne_eq_false_iff_eq.mpr c27
                          clear c27
                          obtain ⟨ji28, hji28⟩ : ∃ j_ : Int, (Int.tmod t138 6) = j_ := ⟨_, rfl⟩
                          replace H : (if 0 ≤ (ji28) then (if (ji28) < (y157.length : Int) then (if t155 = (rd y157 (ji28)) then ((color_Of.f (-5) 300 7).bind fun t163 => ((color_Of.f 0 255 7).bind fun t164 => (if t163 = t164 then ((linguistlaw3_ColorRuns.f k).bind fun t165 => (some t165)) else (none)))) else (none)) else (none)) else (none)) = some r := by first | (rw [hji28] at H; exact H) | (simp only [hji28] at H ⊢; exact H)
                          (try rw [hji28] at A5)
                          (try rw [hji28] at A6)
                          (try rw [hji28] at A7)
                          (try rw [hji28] at A8)
                          (try rw [hji28] at A9)
                          (try rw [hji28] at A10)
                          (try rw [hji28] at A11)
                          (try rw [hji28] at A12)
                          (try rw [hji28] at A13)
                          by_cases c29 : 0 ≤ (ji28)
                          · rw [if_pos c29] at H
                            have c29b0 : decide (0 ≤ (ji28)) = true := decide_eq_true c29
                            clear c29
                            by_cases c30 : (ji28) < (y157.length : Int)
                            · rw [if_pos c30] at H
                              have c30b0 : decide ((ji28) < (y157.length : Int)) = true := decide_eq_true c30
                              clear c30
                              by_cases c31 : t155 = (rd y157 (ji28))
                              · rw [if_pos c31] at H
                                have c31b0 : (t155 == (rd y157 (ji28))) = true := beq_iff_eq.mpr c31
                                have c31b1 : (t155 != (rd y157 (ji28))) = false := bne_eq_false_iff_eq.mpr c31
                                clear c31
                                replace H := Option.bind_eq_some_iff.mp H
                                obtain ⟨t163, A320, H⟩ := H
                                replace H : ((color_Of.f 0 255 7).bind fun t164 => (if t163 = t164 then ((linguistlaw3_ColorRuns.f k).bind fun t165 => (some t165)) else (none))) = some r := H
                                have A32 := Aside0.mk A320
                                clear A320
                                replace H := Option.bind_eq_some_iff.mp H
                                obtain ⟨t164, A330, H⟩ := H
                                replace H : (if t163 = t164 then ((linguistlaw3_ColorRuns.f k).bind fun t165 => (some t165)) else (none)) = some r := H
                                have A33 := Aside0.mk A330
                                clear A330
                                by_cases c34 : t163 = t164
                                · rw [if_pos c34] at H
                                  have c34b0 : (t163 == t164) = true := beq_iff_eq.mpr c34
                                  have c34b1 : (t163 != t164) = false := bne_eq_false_iff_eq.mpr c34
                                  clear c34
                                  replace H := Option.bind_eq_some_iff.mp H
                                  obtain ⟨t165, A350, H⟩ := H
                                  replace H : (some t165) = some r := H
                                  have A35 := Aside0.mk A350
                                  clear A350
                                  obtain rfl := Option.some.inj H
                                  go_enter Try.func6, Try.ntmps6
                                  go_wp2_with (first | ((with_reducible refine gate_callee (f := 14) rfl ?_); refine goesL_ (some 32) rfl rfl Try.func14 (by kernel_rfl) rfl #[.int .i64 a0, .int .i64 0, .int .i64 255] rfl (by (try simp only [List.map_toArray, List.map_cons, List.map_nil]); first | done | rfl | (simp only [List.length_drop, List.length_take]; rfl) | (simp only [List.length_drop, List.length_take]; rw [Nat.min_eq_left (by first | assumption | omega)]; rfl)) ?_; (with_reducible refine (linguistbook_Within.calls a0 0 255 t136 _ A5.out).mono ?_); rintro e w' ⟨rfl, ⟨nd, rfl⟩⟩; refine ⟨_, rfl, ?_⟩) | ((with_reducible refine gate_callee (f := 14) rfl ?_); refine goesL_ (some 34) rfl rfl Try.func14 (by kernel_rfl) rfl #[.int .i64 a1, .int .i64 0, .int .i64 255] rfl (by (try simp only [List.map_toArray, List.map_cons, List.map_nil]); first | done | rfl | (simp only [List.length_drop, List.length_take]; rfl) | (simp only [List.length_drop, List.length_take]; rw [Nat.min_eq_left (by first | assumption | omega)]; rfl)) ?_; (with_reducible refine (linguistbook_Within.calls a1 0 255 t137 _ A6.out).mono ?_); rintro e w' ⟨rfl, ⟨nd, rfl⟩⟩; refine ⟨_, rfl, ?_⟩) | ((with_reducible refine gate_callee (f := 14) rfl ?_); refine goesL_ (some 36) rfl rfl Try.func14 (by kernel_rfl) rfl #[.int .i64 a2, .int .i64 0, .int .i64 255] rfl (by (try simp only [List.map_toArray, List.map_cons, List.map_nil]); first | done | rfl | (simp only [List.length_drop, List.length_take]; rfl) | (simp only [List.length_drop, List.length_take]; rw [Nat.min_eq_left (by first | assumption | omega)]; rfl)) ?_; (with_reducible refine (linguistbook_Within.calls a2 0 255 t138 _ A7.out).mono ?_); rintro e w' ⟨rfl, ⟨nd, rfl⟩⟩; refine ⟨_, rfl, ?_⟩) | ((with_reducible refine gate_callee (f := 9) rfl ?_); refine goesL_ (some 41) rfl rfl Try.func9 (by kernel_rfl) rfl #[.int .i64 t136, .int .i64 t137, .int .i64 t138] rfl (by (try simp only [List.map_toArray, List.map_cons, List.map_nil]); first | done | rfl | (simp only [List.length_drop, List.length_take]; rfl) | (simp only [List.length_drop, List.length_take]; rw [Nat.min_eq_left (by first | assumption | omega)]; rfl)) ?_; (with_reducible refine (color_Of.calls t136 t137 t138 t139 _ A8.out).mono ?_); rintro e w36 ⟨rfl, hb⟩; refine ⟨_, rfl, ?_⟩; have n0_ := Aside0.mk (below_step (by repeat (first | (with_reducible first | exact HB.out | apply below_alloc | apply pw_below_drewN | apply below_drew1) | exact HB.out)) hb); clear HB; have HB := n0_; clear n0_; (try clear hb); (try clear hb2); (try clear hk); (try clear hi)) | ((with_reducible refine gate_callee (f := 12) rfl ?_); refine goesL_ (some 42) rfl rfl Try.func12 (by kernel_rfl) rfl #[.int .i64 t139] rfl (by (try simp only [List.map_toArray, List.map_cons, List.map_nil]); first | done | rfl | (simp only [List.length_drop, List.length_take]; rfl) | (simp only [List.length_drop, List.length_take]; rw [Nat.min_eq_left (by first | assumption | omega)]; rfl)) ?_; (with_reducible refine (color_RGB.calls k t139 t140 t141 t142 true _ A9.out).mono ?_); rintro e w37 ⟨rfl, hb⟩; refine ⟨_, rfl, ?_⟩; have n0_ := Aside0.mk (below_step (by repeat (first | (with_reducible first | exact HB.out | apply below_alloc | apply pw_below_drewN | apply below_drew1) | exact HB.out)) hb); clear HB; have HB := n0_; clear n0_; (try clear hb); (try clear hb2); (try clear hk); (try clear hi)) | ((with_reducible refine gate_callee (f := 14) rfl ?_); refine goesL_ (some 48) rfl rfl Try.func14 (by kernel_rfl) rfl #[.int .i64 a3, .int .i64 232, .int .i64 254] rfl (by (try simp only [List.map_toArray, List.map_cons, List.map_nil]); first | done | rfl | (simp only [List.length_drop, List.length_take]; rfl) | (simp only [List.length_drop, List.length_take]; rw [Nat.min_eq_left (by first | assumption | omega)]; rfl)) ?_; (with_reducible refine (linguistbook_Within.calls a3 232 254 t144 _ A10.out).mono ?_); rintro e w' ⟨rfl, ⟨nd, rfl⟩⟩; refine ⟨_, rfl, ?_⟩) | ((with_reducible refine gate_callee (f := 12) rfl ?_); refine goesL_ (some 51) rfl rfl Try.func12 (by kernel_rfl) rfl #[.int .i64 t144] rfl (by (try simp only [List.map_toArray, List.map_cons, List.map_nil]); first | done | rfl | (simp only [List.length_drop, List.length_take]; rfl) | (simp only [List.length_drop, List.length_take]; rw [Nat.min_eq_left (by first | assumption | omega)]; rfl)) ?_; (with_reducible refine (color_RGB.calls k t144 t145 t146 t147 t148 _ A11.out).mono ?_); rintro e w38 ⟨rfl, hb⟩; refine ⟨_, rfl, ?_⟩; have n0_ := Aside0.mk (below_step (by repeat (first | (with_reducible first | exact HB.out | apply below_alloc | apply pw_below_drewN | apply below_drew1) | exact HB.out)) hb); clear HB; have HB := n0_; clear n0_; (try clear hb); (try clear hb2); (try clear hk); (try clear hi)) | ((with_reducible refine gate_callee (f := 12) rfl ?_); refine goesL_ (some 59) rfl rfl Try.func12 (by kernel_rfl) rfl #[.int .i64 (wrap64 (t144 + 1))] rfl (by (try simp only [List.map_toArray, List.map_cons, List.map_nil]); first | done | rfl | (simp only [List.length_drop, List.length_take]; rfl) | (simp only [List.length_drop, List.length_take]; rw [Nat.min_eq_left (by first | assumption | omega)]; rfl)) ?_; (with_reducible refine (color_RGB.calls k (wrap64 (t144 + 1)) t149 t150 t151 t152 _ A12.out).mono ?_); rintro e w39 ⟨rfl, hb⟩; refine ⟨_, rfl, ?_⟩; have n0_ := Aside0.mk (below_step (by repeat (first | (with_reducible first | exact HB.out | apply below_alloc | apply pw_below_drewN | apply below_drew1) | exact HB.out)) hb); clear HB; have HB := n0_; clear n0_; (try clear hb); (try clear hb2); (try clear hk); (try clear hi)) | ((with_reducible refine gate_callee (f := 12) rfl ?_); refine goesL_ (some 77) rfl rfl Try.func12 (by kernel_rfl) rfl #[.int .i64 (wrap64 ((wrap64 ((wrap64 (16 + (wrap64 (36 * (ji20))))) + (wrap64 (6 * (ji24))))) + (ji28)))] rfl (by (try simp only [List.map_toArray, List.map_cons, List.map_nil]); first | done | (simp only [hji20, hji24, hji28]; rfl) | rfl | (simp only [List.length_drop, List.length_take]; rfl) | (simp only [List.length_drop, List.length_take]; rw [Nat.min_eq_left (by first | assumption | omega)]; rfl)) ?_; (with_reducible refine (color_RGB.calls k (wrap64 ((wrap64 ((wrap64 (16 + (wrap64 (36 * (ji20))))) + (wrap64 (6 * (ji24))))) + (ji28))) t153 t154 t155 true _ A13.out).mono ?_); rintro e w40 ⟨rfl, hb⟩; refine ⟨_, rfl, ?_⟩; have n0_ := Aside0.mk (below_step (by repeat (first | (with_reducible first | exact HB.out | apply below_alloc | apply pw_below_drewN | apply below_drew1) | exact HB.out)) hb); clear HB; have HB := n0_; clear n0_; (try clear hb); (try clear hb2); (try clear hk); (try clear hi)) | ((with_reducible refine gate_dst (N := 82) rfl ?_); refine Kd.R_lit (Kd.int .i64) _ 3 ?hg (N := 82) ?hd (xs := ([0, 95, 135, 175, 215, 255] : List Int)) (inner := [.int .i64 0, .int .i64 95, .int .i64 135, .int .i64 175, .int .i64 215, .int .i64 255]) (ok := fun _ => True) (okp := fun _ => True) ?hr ?hp (fun _ hk => hk) trivial (Below.refl _ _) (Nat.le_refl _) (by simp) ?_; (case hd => rfl); (case hg => rfl); (case hr => first | (go_simp; done) | (go_simp; rfl)); (case hp => exact (Reps.one (show Kd.M (Kd.int .i64) _ _ _ 0 [.int .i64 0] from rfl) (Reps.one (show Kd.M (Kd.int .i64) _ _ _ 95 [.int .i64 95] from rfl) (Reps.one (show Kd.M (Kd.int .i64) _ _ _ 135 [.int .i64 135] from rfl) (Reps.one (show Kd.M (Kd.int .i64) _ _ _ 175 [.int .i64 175] from rfl) (Reps.one (show Kd.M (Kd.int .i64) _ _ _ 215 [.int .i64 215] from rfl) (Reps.one (show Kd.M (Kd.int .i64) _ _ _ 255 [.int .i64 255] from rfl) (Reps.none _ _)))))))); intro v158 w41 ho42 hb hg_ hnew_; clear hg_ hnew_; (first | rw [← Ny157.out] at ho42 | (simp only [Int.reduceToNat] at ho42; rw [← Ny157.out] at ho42)); have n0_ := Aside0.mk (Kd.R_lower ho42 (below_size (by repeat (first | (with_reducible first | exact HB.out | apply below_alloc | apply pw_below_drewN | apply below_drew1) | exact HB.out)))); have n1_ := Aside0.mk (below_step (by repeat (first | (with_reducible first | exact HB.out | apply below_alloc | apply pw_below_drewN | apply below_drew1) | exact HB.out)) hb); clear HB; have HO159 := n0_; have HB := n1_; clear n0_ n1_; clear hb ho42; obtain ⟨Ao43, co43, eo43⟩ := Kd.R_slice HO159.out; subst eo43; have p160 : 0 ≤ ((ji20) : Int) := of_decide_eq_true (by first | (with_reducible assumption) | assumption); have q160 : (ji20) < (y157.length : Int) := of_decide_eq_true (by first | (with_reducible assumption) | assumption); obtain ⟨ad160, e160, hx160_0⟩ := Kd.at_int (Kd.R_reads' HO159.out).2.2 (ji20) p160 q160; cases e160; replace p160 := eq_true p160; replace q160 := eq_true q160; have p161 : 0 ≤ ((ji24) : Int) := of_decide_eq_true (by first | (with_reducible assumption) | assumption); have q161 : (ji24) < (y157.length : Int) := of_decide_eq_true (by first | (with_reducible assumption) | assumption); obtain ⟨ad161, e161, hx161_0⟩ := Kd.at_int (Kd.R_reads' HO159.out).2.2 (ji24) p161 q161; obtain rfl : ad160 = ad161 := (by injection e161); replace p161 := eq_true p161; replace q161 := eq_true q161; have p162 : 0 ≤ ((ji28) : Int) := of_decide_eq_true (by first | (with_reducible assumption) | assumption); have q162 : (ji28) < (y157.length : Int) := of_decide_eq_true (by first | (with_reducible assumption) | assumption); obtain ⟨ad162, e162, hx162_0⟩ := Kd.at_int (Kd.R_reads' HO159.out).2.2 (ji28) p162 q162; obtain rfl : ad160 = ad162 := (by injection e162); replace p162 := eq_true p162; replace q162 := eq_true q162) | (go_at_call 9; (with_reducible refine (color_Of.calls (-5) 300 7 t163 _ A32.out).mono ?_); rintro e w44 ⟨rfl, hb⟩; have n0_ := Aside0.mk (Kd.R_below (by (with_reducible repeat (first | apply Kd.R_alloc | apply Kd.R_drewN | apply Kd.R_drew)); exact HO159.out) hb); have n1_ := Aside0.mk (below_step (by repeat (first | (with_reducible first | exact HB.out | apply below_alloc | apply pw_below_drewN | apply below_drew1) | exact HB.out)) hb); clear HO159; clear HB; have HO159 := n0_; have HB := n1_; clear n0_ n1_; (try clear hb); (try clear hb2); (try clear hk); (try clear hi)) | (go_at_call 9; (with_reducible refine (color_Of.calls 0 255 7 t164 _ A33.out).mono ?_); rintro e w45 ⟨rfl, hb⟩; have n0_ := Aside0.mk (Kd.R_below (by (with_reducible repeat (first | apply Kd.R_alloc | apply Kd.R_drewN | apply Kd.R_drew)); exact HO159.out) hb); have n1_ := Aside0.mk (below_step (by repeat (first | (with_reducible first | exact HB.out | apply below_alloc | apply pw_below_drewN | apply below_drew1) | exact HB.out)) hb); clear HO159; clear HB; have HO159 := n0_; have HB := n1_; clear n0_ n1_; (try clear hb); (try clear hb2); (try clear hk); (try clear hi)) | (go_at_call 3; (with_reducible refine (linguistlaw3_ColorRuns.calls k  t165 _ A35.out).mono ?_); rintro e w46 ⟨rfl, hb⟩; have n0_ := Aside0.mk (Kd.R_below (by (with_reducible repeat (first | apply Kd.R_alloc | apply Kd.R_drewN | apply Kd.R_drew)); exact HO159.out) hb); have n1_ := Aside0.mk (below_step (by repeat (first | (with_reducible first | exact HB.out | apply below_alloc | apply pw_below_drewN | apply below_drew1) | exact HB.out)) hb); clear HO159; clear HB; have HO159 := n0_; have HB := n1_; clear n0_ n1_; (try clear hb); (try clear hb2); (try clear hk); (try clear hi)))
                                  go_ret
                                  exact ⟨by first | rfl | (simp [errW_none, errW_some] <;> rfl) | (simp only [← hji20, ← hji24, ← hji28]; first | rfl | (simp [errW_none, errW_some] <;> rfl)) | (simp [*, errW_none, errW_some] <;> rfl), by repeat (first | (with_reducible first | exact HB.out | apply below_alloc | apply pw_below_drewN | apply below_drew1) | exact HB.out)⟩
                                · rw [if_neg c34] at H
                                  exact absurd H (by simp)
                              · rw [if_neg c31] at H
                                exact absurd H (by simp)
                            · rw [if_neg c30] at H
                              exact absurd H (by simp)
                          · rw [if_neg c29] at H
                            exact absurd H (by simp)
                        · rw [if_neg c27] at H
                          exact absurd H (by simp)
                      · rw [if_neg c26] at H
                        exact absurd H (by simp)
                    · rw [if_neg c25] at H
                      exact absurd H (by simp)
                  · rw [if_neg c23] at H
                    exact absurd H (by simp)
                · rw [if_neg c22] at H
                  exact absurd H (by simp)
              · rw [if_neg c21] at H
                exact absurd H (by simp)
            · replace c19 := Bool.eq_false_iff.mpr c19
              subst c19
              have H1 : (none) = some r := by rw [if_neg (show ¬ (false = true) by decide)] at H; exact H
              clear H
              have H := H1
              clear H1
              exact absurd H (by simp)
          · rw [if_neg c18] at H
            exact absurd H (by simp)
        · rw [if_neg c17] at H
          exact absurd H (by simp)
      · rw [if_neg c16] at H
        exact absurd H (by simp)
    · rw [if_neg c15] at H
      exact absurd H (by simp)
  · replace c14 := Bool.eq_false_iff.mpr c14
    subst c14
    have H1 : (none) = some r := by rw [if_neg (show ¬ (false = true) by decide)] at H; exact H
    clear H
    have H := H1
    clear H1
    exact absurd H (by simp)

/-- THE ONE PURE STATEMENT of linguistlaw3_ColorMade. -/
def linguistlaw3_ColorMade.Pure : Prop := ∀ (a0 : Int) (a1 : Int) (a2 : Int) (a3 : Int), (Lit.int .i64 a0).wf = true → (Lit.int .i64 a1).wf = true → (Lit.int .i64 a2).wf = true → (Lit.int .i64 a3).wf = true → ∃ k, linguistlaw3_ColorMade.f k a0 a1 a2 a3 = some true
theorem linguistlaw3_ColorMade.walk (P : linguistlaw3_ColorMade.Pure) (a0 : Int) (a1 : Int) (a2 : Int) (a3 : Int) (w : World) (w0 : (Lit.int .i64 a0).wf = true) (w1 : (Lit.int .i64 a1).wf = true) (w2 : (Lit.int .i64 a2).wf = true) (w3 : (Lit.int .i64 a3).wf = true)  :
    Calls Try.prog 6 #[.int .i64 a0, .int .i64 a1, .int .i64 a2, .int .i64 a3] w fun e w' => e = .returned (.bool true) ∧ Below w.heap.size w w' := by
  obtain ⟨k, h⟩ := P a0 a1 a2 a3 w0 w1 w2 w3
  refine (linguistlaw3_ColorMade.calls k a0 a1 a2 a3 true w  h).mono ?_
  rintro e w' ⟨rfl, hd⟩
  exact ⟨rfl, hd⟩

end Go.Proofs.Ythlmpppddloiaaa.GColorMade
