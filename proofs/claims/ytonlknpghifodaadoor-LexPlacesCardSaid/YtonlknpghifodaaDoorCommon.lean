/- What every row of this seat needs: package variables, the witness. -/
import Derived.Test.YtonlknpghifodaaDoorCards
import Derived.Test.YtonlknpghifodaaDoorTie
import Derived.Test.YtonlknpghifodaaDoorWalkBase
import Derived.WalkKit
import Derived.ProofKit
import Derived.OpenShut
import Derived.Deep.DeepHandedRow
import Derived.Deep.DeepWitnessRowRef
import Derived.Lib.LaidTab
import Derived.Lib.SmallJoins
import Derived.LaidMore
import Derived.LaidOnce
import Derived.Stop.LaidErr
namespace Go.Proofs.YtonlknpghifodaaDoor.P
open Go.ChangeShapes Go.WideShapes Go.ChangeAt Go.RowKit Go.Joins
open Go.ChangeMaps (open_string shut_string)

theorem own : ownKnob Tryd.prog.godebug = none := by kernel_rfl
theorem laidOut : laidOutB Tryd.prog = true := by kernel_rfl

theorem met_of {W : World} (h : laidMetH Tryd.prog Rows.lexPlacesRow.laid W) : laidMet Tryd.prog Rows.lexPlacesRow.laid W := (laidMetH_iff.1 h).1

theorem star : "*" ++ "errors.errorString" = "*errors.errorString" := by decide
theorem row_errorString : ∀ u, Tryd.prog.typeName? 3 u = some "*errors.errorString" → u = 67 := fun u h =>
  typeName_ptr_named (nm := "errors.errorString") (by rw [star]; kernel_rfl) (by kernel_rfl) (by decide) u (by rw [star]; exact h)

theorem glob_of {W : World} (h : laidMetH Tryd.prog Rows.lexPlacesRow.laid W) (_ : W.ShapedOpen Tryd.prog) : Glob W := by
  have h0 := met_of h
  have h4 := h0.tail.tail.tail
  have h5 := h4.tail
  refine ⟨?_, ?_⟩
  · obtain ⟨a, s, hv, _⟩ := laid_sentinel (g := 1) h5 (by kernel_rfl) (by kernel_rfl) Tryd.underlying48 row_errorString Tryd.underlying67 Tryd.underlying69 rfl rfl Tryd.underlying9 (by kernel_rfl) (by kernel_rfl)
    exact ⟨_, by have := World.var?_cell (show Tryd.prog.globalNamed "strconv.ErrSyntax" = some 1 by kernel_rfl) hv 0; simpa using this, .inr ⟨_, _, rfl⟩⟩
  · obtain ⟨a, s, hv, _⟩ := laid_sentinel (g := 2) h4 (by kernel_rfl) (by kernel_rfl) Tryd.underlying48 row_errorString Tryd.underlying67 Tryd.underlying69 rfl rfl Tryd.underlying9 (by kernel_rfl) (by kernel_rfl)
    exact ⟨_, by have := World.var?_cell (show Tryd.prog.globalNamed "strconv.ErrRange" = some 2 by kernel_rfl) hv 0; simpa using this, .inr ⟨_, _, rfl⟩⟩

/-! ### the witness -/
/-- The heap that the door's run leaves. -/
noncomputable def laidWorld (os : Os) : World := World.doorLaid Tryd.prog 200 os
theorem laid_met (os : Os) (args : Array Value) : laidMetH Tryd.prog Rows.lexPlacesRow.laid ((laidWorld os).forCall (fun _ _ => 0) ⟨#[], args, []⟩).memory :=
  laidMetH_of_parts3 (fuel := 8) (laidMet_of_run' 8 (by kernel_rfl) (by kernel_rfl)) (by kernel_rfl) (by kernel_rfl)
end Go.Proofs.YtonlknpghifodaaDoor.P
