/- The lexer's 'word', walked. -/
import Derived.Test.YtonlknpghifodaaDoorBytes
import Derived.Test.YtonlknpghifodaaDoorWMore
import Derived.RegionTactic
import Derived.ChangeAlike
import Derived.Laws.AppendOwn
import Derived.BigRegion
namespace Go.Proofs.YtonlknpghifodaaDoor.P
set_option linter.unusedVariables false
set_option linter.unusedSimpArgs false
open Go.RowKit Go.Proofs.YtonlknpghifodaaDoorW.PrintWords Go.Proofs.YtonlknpghifodaaDoorW.PrintLast Go.Proofs.YtonlknpghifodaaDoorW.PrintMore

theorem only_refl (w : World) (row : Option Nat) : w.grownBy w row := ⟨rfl, rfl, rfl, Nat.le_refl _, fun _ _ _ => rfl⟩
theorem only_drewN {a w : World} {row : Option Nat} (h : a.grownBy w row) (n : Nat) : a.grownBy (w.drewN n) row := ⟨h.os, h.tape, h.output, h.size, h.block⟩
theorem only_drew {a w : World} {row : Option Nat} (h : a.grownBy w row) : a.grownBy w.drew row := ⟨h.os, h.tape, h.output, h.size, h.block⟩
theorem only_alloc {a w : World} {row : Option Nat} (h : a.grownBy w row) (o : Obj) : a.grownBy (w.alloc o) row :=
  ⟨h.os, h.tape, h.output, Nat.le_trans h.size (by simp), fun i hi hne => (Below.heap_alloc w o i (Nat.lt_of_lt_of_le hi h.size)).trans (h.block i hi hne)⟩
theorem only_setCell {a w : World} {g : Nat} (h : a.grownBy w (some g)) {p : Addr} (hp : p.block = g ∨ a.heap.size ≤ p.block) (u : Value) : a.grownBy (w.setCell p u) (some g) :=
  ⟨h.os, h.tape, h.output, by simpa [World.setCell] using h.size, fun i hi hne => (Below.heap_setCell w p u i (by
    rintro rfl
    rcases hp with hp | hp
    · exact hne (by rw [hp])
    · omega)).trans (h.block i hi hne)⟩
theorem only_trans {a b c : World} {row : Option Nat} (h : a.grownBy b row) (k : b.grownBy c row) : a.grownBy c row :=
  ⟨k.os.trans h.os, k.tape.trans h.tape, k.output.trans h.output, Nat.le_trans h.size k.size, fun i hi hne => (k.block i (Nat.lt_of_lt_of_le hi h.size) hne).trans (h.block i hi hne)⟩
theorem only_of_below {a w : World} (h : Below a.heap.size a w) (row : Option Nat) : a.grownBy w row := ⟨h.os, h.tape, h.output, h.size, fun i hi _ => h.block i hi⟩

set_option maxHeartbeats 1600000 in
set_option maxRecDepth 100000 in
theorem word_calls (b : Nat) (s : ByteArray) (n m : Nat) (kind me : Int) (hme : me = (m : Int)) (w : World) (hb : w.heap[b]? = some (.cells #[.string s, .int .i64 n] 37 (0, 0))) (hn : n ≤ m) (hm : m ≤ s.size) (hs : s.size ≤ 1048576) :
    Calls Tryd.prog 20 #[.pointer (some ⟨b, 0, none⟩), .int .i64 kind, .int .i64 me] w fun e w' => e = .returned (.agg #[.int .i64 kind, .int .i64 n, .string (s.extract n m), .int .i64 0]) ∧
      w'.heap[b]? = some (.cells #[.string s, .int .i64 m] 37 (0, 0)) ∧ w.grownBy w' (some b) := by
  subst hme
  have hc0 : w.cell? ⟨b, 0, none⟩ = some (.string s) := (blk_cell hb 0).trans rfl
  have hc1 : w.cell? ⟨b, 1, none⟩ = some (.int .i64 n) := (blk_cell hb 1).trans rfl
  have hf1 : w.frozen? ⟨b, 1, none⟩ = false := blk_frozen hb 1
  have hlt : b < w.heap.size := World.block_lt_of_cell? w _ hc0
  have HB := Aside0.mk hb
  clear hb
  go_enter Tryd.func20, Tryd.ntmps20
  go_wp2
  go_region
  go_wp2
  refine bodyPost_ret (v := .agg #[.int .i64 kind, .int .i64 n, .string (s.extract n m), .int .i64 0]) (by simp [results, Tryd.results20, go_sem]) rfl ⟨rfl, ?_, ?_⟩
  · exact blk_drew (blk_alloc (blk_alloc (blk_put HB.out 1 _ rfl) _) _)
  · exact only_drew (only_alloc (only_alloc (only_setCell (only_refl w (some b)) (.inl rfl) _) _) _)
/-- What stands in a block of four cells. -/
theorem vr_four {w : World} {g : Nat} {a b c d : Value} {t : TypeId} (h : w.heap[g]? = some (.cells #[a, b, c, d] t (0, 0))) : w.cell? ⟨g, 0, none⟩ = some a ∧ w.cell? ⟨g, 1, none⟩ = some b ∧ w.cell? ⟨g, 2, none⟩ = some c ∧ w.cell? ⟨g, 3, none⟩ = some d ∧
    w.frozen? ⟨g, 0, none⟩ = false ∧ w.frozen? ⟨g, 1, none⟩ = false ∧ w.frozen? ⟨g, 2, none⟩ = false ∧ w.frozen? ⟨g, 3, none⟩ = false :=
  ⟨(blk_cell h 0).trans rfl, (blk_cell h 1).trans rfl, (blk_cell h 2).trans rfl, (blk_cell h 3).trans rfl, blk_frozen h 0, blk_frozen h 1, blk_frozen h 2, blk_frozen h 3⟩
end Go.Proofs.YtonlknpghifodaaDoor.P
