/- What every row of this seat needs: package variables, an argument that is a value, the witness. -/
import Derived.Test.YtiackolnleeffaaDoorCards
import Derived.Test.YtiackolnleeffaaDoorTie
import Derived.Test.YtiackolnleeffaaDoorLaws
import Derived.WalkKit
import Derived.ProofKit
import Derived.OpenShut
import Derived.Deep.DeepHandedRow
import Derived.Deep.DeepWitnessRowRef
import Derived.Lib.LaidTab
import Derived.Lib.SmallJoins
import Derived.LaidMore
import Derived.LaidOnce
import Derived.Stop.LaidErr
namespace Go.Proofs.YtiackolnleeffaaDoor.P
open Go.ChangeShapes Go.WideShapes Go.ChangeAt Go.RowKit Go.Joins
open Go.ChangeMaps (open_string shut_string)

theorem own : ownKnob Tryd.prog.godebug = none := by kernel_rfl
theorem cells_value : Tryd.prog.cellsOf 23 = 3 := by kernel_rfl
theorem laidOut : laidOutB Tryd.prog = true := by kernel_rfl

theorem met_of {W : World} (h : laidMetH Tryd.prog Rows.valueChecksRow.laid W) : laidMet Tryd.prog Rows.valueChecksRow.laid W := (laidMetH_iff.1 h).1

theorem star : "*" ++ "errors.errorString" = "*errors.errorString" := by decide
theorem row_errorString : ∀ u, Tryd.prog.typeName? 3 u = some "*errors.errorString" → u = 109 := fun u h =>
  typeName_ptr_named (nm := "errors.errorString") (by rw [star]; kernel_rfl) (by kernel_rfl) (by decide) u (by rw [star]; exact h)

theorem glob_of {W : World} (h : laidMetH Tryd.prog Rows.valueChecksRow.laid W) (hs : W.ShapedOpen Tryd.prog) : Glob W := by
  have h0 := met_of h
  have h2 := h0.tail.tail
  have h4 := h2.tail.tail
  have h5 := h4.tail
  refine ⟨Go.Proofs.cell_of_shapedOpen_int (zero := #[.int .i64 0]) (t := 3) hs (of_decide_eq_true (by kernel_rfl)) (by kernel_rfl) rfl (by kernel_rfl) (by kernel_rfl) Tryd.underlying3, ?_, ?_, ?_⟩
  · obtain ⟨a, s, hv, _⟩ := laid_sentinel (g := 2) h5 (by kernel_rfl) (by kernel_rfl) Tryd.underlying52 row_errorString Tryd.underlying109 Tryd.underlying111 rfl rfl Tryd.underlying9 (by kernel_rfl) (by kernel_rfl)
    exact ⟨_, by have := World.var?_cell (show Tryd.prog.globalNamed "strconv.ErrSyntax" = some 2 by kernel_rfl) hv 0; simpa using this, .inr ⟨_, _, rfl⟩⟩
  · obtain ⟨a, s, hv, _⟩ := laid_sentinel (g := 3) h4 (by kernel_rfl) (by kernel_rfl) Tryd.underlying52 row_errorString Tryd.underlying109 Tryd.underlying111 rfl rfl Tryd.underlying9 (by kernel_rfl) (by kernel_rfl)
    exact ⟨_, by have := World.var?_cell (show Tryd.prog.globalNamed "strconv.ErrRange" = some 3 by kernel_rfl) hv 0; simpa using this, .inr ⟨_, _, rfl⟩⟩
  · exact Lib.tabIs_of_head (g := 1) (t := 89) (e := 64) (n := 20) (by kernel_rfl) (by kernel_rfl) (by kernel_rfl) (by kernel_rfl) (by kernel_rfl) (by kernel_rfl) h2

/-! ### the witness -/
def pinCells : Array Value := match Go.Pinned.utf8First with
  | .agg l => (l.map fun | .lit (.int k n) => Value.int k n | _ => .nilIface).toArray
  | _ => #[]
/-- The heap that the door's run leaves, the pinned table laid in it. -/
noncomputable def laidWorld (os : Os) : World :=
  { World.doorLaid Tryd.prog 200 os with heap := (World.doorLaid Tryd.prog 200 os).heap.modify 4 fun
      | .cells _ t frozen => .cells pinCells t frozen
      | o => o }
theorem laid_met (os : Os) (args : Array Value) : laidMetH Tryd.prog Rows.valueChecksRow.laid ((laidWorld os).forCall (fun _ _ => 0) ⟨#[], args, []⟩).memory :=
  laidMetH_of_parts3 (fuel := 8) (laidMet_of_run' 8 (by kernel_rfl) (by kernel_rfl)) (by kernel_rfl) (by kernel_rfl)

/-! ### an argument that is a value -/
set_option maxRecDepth 100000 in
theorem open_value {H : Type} {enc : TypeId × Value → H} {W : World} {base b0 : Nat} {sp : Nat → Bool} {held : Bool} {v : Value} {d : DataW H} {p : List MemPlace} (hv : Value.okWide Tryd.prog W .any b0 23 v) (h : DataW.Trod enc Tryd.prog W base sp held 23 v d p) :
    ∃ (k n : Int) (s : ByteArray), v = .agg #[.int .i64 k, .int .i64 n, .string s] ∧ d = .agg [.lit (.int .i64 k), .lit (.int .i64 n), .lit (.string s.data.toList)] ∧ p = [] ∧ (Lit.int .i64 k).wf = true ∧ (Lit.int .i64 n).wf = true ∧ s.size ≤ maxLen := by
  obtain ⟨c0, c1, c2, y0, y1, y2, m, rfl, rfl, rfl, hy0, hy1, hy2⟩ := open_agg3 Tryd.underlying23 (by kernel_rfl) cells_value hv h
  obtain ⟨a, e0, rfl, wa⟩ := DataW.trod_int Tryd.underlying3 hy0
  obtain ⟨b, e1, rfl, wb⟩ := DataW.trod_int Tryd.underlying2 hy1
  obtain ⟨s, e2, rfl, ws⟩ := DataW.trod_string Tryd.underlying9 hy2
  simp at e0 e1 e2
  subst e0 e1 e2
  exact ⟨a, b, s, rfl, rfl, rfl, wa, wb, ws⟩
theorem ok_of_wf {n : Int} (h : (Lit.int .i64 n).wf = true) : ok64 n := by
  simp only [Lit.wf, Bool.and_eq_true, decide_eq_true_eq] at h
  have hmin : IntKind.i64.min = -9223372036854775808 := rfl
  have hmax : IntKind.i64.max = 9223372036854775807 := rfl
  rw [hmin, hmax] at h
  exact h

end Go.Proofs.YtiackolnleeffaaDoor.P
