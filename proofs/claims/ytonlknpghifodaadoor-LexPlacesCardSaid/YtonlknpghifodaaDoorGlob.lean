/- What is known of the package-level variables that the library functions read. -/
import Derived.Test.YtonlknpghifodaaDoorShelf
import Derived.Below
import Derived.KernelRfl
import Derived.WalkSmall
namespace Go.Proofs.YtonlknpghifodaaDoor.P
open Go.RowKit

/-- What the calls of this program ask of package-level variables. -/
structure Glob (w : World) : Prop where
  errSyntax : ∃ ev, w.cell? ⟨1, 0, none⟩ = some ev ∧ (ev = .nilIface ∨ ∃ te pe, ev = .iface te pe)
  errRange : ∃ ev, w.cell? ⟨2, 0, none⟩ = some ev ∧ (ev = .nilIface ∨ ∃ te pe, ev = .iface te pe)

theorem Glob.lt {w : World} (h : Glob w) : 1 < w.heap.size ∧ 2 < w.heap.size := by
  obtain ⟨⟨e1, h1, k1⟩, ⟨e2, h2, k2⟩⟩ := h
  exact ⟨World.block_lt_of_cell? w _ h1, World.block_lt_of_cell? w _ h2⟩
/-- Carried on where the two blocks have not turned. -/
theorem Glob_on {w w' : World} (h : Glob w) (h1 : w'.heap[1]? = w.heap[1]?) (h2 : w'.heap[2]? = w.heap[2]?) : Glob w' := by
  obtain ⟨⟨e1, c1, k1⟩, ⟨e2, c2, k2⟩⟩ := h
  refine ⟨⟨e1, ?_, k1⟩, ⟨e2, ?_, k2⟩⟩
  · exact (World.cell?_of_block (a := ⟨1, 0, none⟩) h1).trans c1
  · exact (World.cell?_of_block (a := ⟨2, 0, none⟩) h2).trans c2
theorem Glob_below {B : Nat} {w w' : World} (h : Glob w) (hb : Below B w w') (hB : 1 < B ∧ 2 < B) : Glob w' :=
  Glob_on h (hb.block _ hB.1) (hb.block _ hB.2)
theorem Glob_grown {w w' : World} {row : Option Nat} (h : Glob w) (hb : w.grownBy w' row) (hr : ∀ k, row = some k → 1 < k ∧ 2 < k) : Glob w' :=
  Glob_on h (hb.block _ h.lt.1 (fun e => by have := (hr _ e.symm).1; omega)) (hb.block _ h.lt.2 (fun e => by have := (hr _ e.symm).2; omega))
end Go.Proofs.YtonlknpghifodaaDoor.P
