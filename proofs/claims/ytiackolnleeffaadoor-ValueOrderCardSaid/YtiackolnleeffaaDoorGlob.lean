/- What is known of the package-level variables that the program's library functions read, and that it lives on. -/
import Derived.Test.YtiackolnleeffaaDoorShelf
import Derived.Below
import Derived.KernelRfl
import Derived.Sort.Grow
import Derived.Lib.LaidTab
import Derived.WalkSmall
namespace Go.Proofs.YtiackolnleeffaaDoor.P
open Go.RowKit

/-- What the calls of this program ask of package-level variables. -/
structure Glob (w : World) : Prop where
  maxLen : ∃ m, w.cell? ⟨0, 0, none⟩ = some (.int .i64 m)
  errSyntax : ∃ ev, w.cell? ⟨2, 0, none⟩ = some ev ∧ (ev = .nilIface ∨ ∃ te pe, ev = .iface te pe)
  errRange : ∃ ev, w.cell? ⟨3, 0, none⟩ = some ev ∧ (ev = .nilIface ∨ ∃ te pe, ev = .iface te pe)
  tab : Lib.TabIs Tryd.prog w "internal/strconv.uint64pow10" .u64 Lib.pow10Tab

theorem cell_on {w w' : World} (hb : Below w.heap.size w w') {a : Addr} {v : Value} (h : w.cell? a = some v) : w'.cell? a = some v :=
  (hb.cell (World.block_lt_of_cell? w a h)).trans h

theorem globNamed : Tryd.prog.globalNamed "internal/strconv.uint64pow10" = some 1 := by kernel_rfl

theorem Glob_below {w w' : World} (h : Glob w) (hb : Below w.heap.size w w') : Glob w' := by
  obtain ⟨⟨m, hm⟩, ⟨e1, h1, k1⟩, ⟨e2, h2, k2⟩, ht⟩ := h
  refine ⟨⟨m, cell_on hb hm⟩, ⟨e1, cell_on hb h1, k1⟩, ⟨e2, cell_on hb h2, k2⟩, ?_⟩
  exact var?_below hb globNamed (World.block_lt_of_cell? w _ (Lib.TabIs.cell ht globNamed 0 (by decide))) ht

theorem Glob_grow (w : World) (k : Nat) (os : Array Obj) : Below w.heap.size w (Go.Sort.grow (w.drewN k) os) := by
  refine ⟨rfl, rfl, rfl, ?_, fun i hi => ?_⟩
  · show w.heap.size ≤ (w.heap ++ os).size
    rw [Array.size_append]
    omega
  · show (w.heap ++ os)[i]? = w.heap[i]?
    rw [Array.getElem?_append_left hi]

end Go.Proofs.YtiackolnleeffaaDoor.P
