/- The lexer's readers of one word, walked: a sign, a name, a number. -/
import Derived.Test.YtonlknpghifodaaDoorWhile
import Derived.Test.YtonlknpghifodaaDoorWord
import Derived.Deep.QuietTactic
import Derived.BigQuiet
import Derived.WalkSpells
namespace Go.Proofs.YtonlknpghifodaaDoor.P
set_option linter.unusedVariables false
set_option linter.unusedSimpArgs false
open Go.RowKit Go.Proofs.YtonlknpghifodaaDoorW.PrintWords Go.Proofs.YtonlknpghifodaaDoorW.PrintLast Go.Proofs.YtonlknpghifodaaDoorW.PrintMore

/-- Where it stands among the signs. -/
def signAt (c : UInt8) : Int := Lib.indexByte [40, 41, 44, 59, 61, 42] c
theorem signAt_calls (c : UInt8) (W : World) : Calls Tryd.prog 19 #[.string ⟨#[40, 41, 44, 59, 61, 42]⟩, .int .u8 (c.toNat : Int)] W fun e w' => e = .returned (.int .i64 (signAt c)) ∧ w' = W := by
  have h := Tryd.strings_IndexByte ⟨#[40, 41, 44, 59, 61, 42]⟩ (c.toNat : Int) W
  rw [show ((c.toNat : Int)).toNat.toUInt8 = c by simp] at h
  exact h
/-- Is it one of the signs? -/
def isSign (c : UInt8) : Bool := decide (0 ≤ signAt c)

set_option maxHeartbeats 1600000 in
set_option maxRecDepth 100000 in
theorem sign_ok (b : Nat) (s : ByteArray) (n : Nat) (w : World) (hb : w.heap[b]? = some (.cells #[.string s, .int .i64 n] 37 (0, 0))) (hn : n < s.size) (hs : s.size ≤ 1048576) (hc : isSign s[n] = true) :
    Calls Tryd.prog 11 #[.pointer (some ⟨b, 0, none⟩)] w fun e w' => e = .returned (.tuple #[.agg #[.int .i64 4, .int .i64 n, .string (s.extract n (n + 1)), .int .i64 0], .int .i64 0]) ∧
      w'.heap[b]? = some (.cells #[.string s, .int .i64 ((n + 1 : Nat) : Int)] 37 (0, 0)) ∧ w.grownBy w' (some b) := by
  have hc0 : w.cell? ⟨b, 0, none⟩ = some (.string s) := (blk_cell hb 0).trans rfl
  have hc1 : w.cell? ⟨b, 1, none⟩ = some (.int .i64 n) := (blk_cell hb 1).trans rfl
  have hlt : b < w.heap.size := World.block_lt_of_cell? w _ hc0
  have HB := Aside0.mk hb
  clear hb
  have hd : decide (signAt s[n] < 0) = false := by simpa [isSign] using hc
  have h7 := Aside0.mk (fun W => signAt_calls s[n] W)
  clear hc
  go_enter Tryd.func11, Tryd.ntmps11
  go_wp2
  go_quiet ((go_at_call 19; exact Calls.quiet_of_same (h7.out _)))
  go_wp2_with fail
  refine (word_calls b s n (n + 1) 4 _ (by omega) _ (blk_drewN (blk_alloc HB.out _) _) (by omega) hn hs).mono ?_
  rintro e w1 ⟨rfl, hL, hg⟩
  obtain ⟨hp0, hp1, hp2, hp3, hp4, hp5, hp6, hp7⟩ := vr_four (blk_grown (blk_drewN (blk_new w _) _) hg (by simp; omega))
  have HL := Aside0.mk hL
  have HG := Aside0.mk hg
  have hsz : (w.alloc (.cells #[.int .i64 0, .int .i64 0, .string ⟨#[]⟩, .int .i64 0] 28)).heap.size ≤ w1.heap.size := hg.size
  rw [World.size_alloc] at hsz
  have HGA := Aside0.mk (only_trans (only_drewN (only_alloc (only_refl w (some b)) _) _) hg)
  clear hL hg hc0 hc1 h7 hd HG
  go_wp2
  refine bodyPost_ret (v := .tuple #[.agg #[.int .i64 4, .int .i64 n, .string (s.extract n (n + 1)), .int .i64 0], .int .i64 0]) (by simp [results, Tryd.results11, go_sem, *]) rfl ⟨rfl, ?_, ?_⟩
  · exact blk_far (blk_far (blk_far (blk_far HL.out (by simp; omega) _) (by simp; omega) _) (by simp; omega) _) (by simp; omega) _
  · exact only_setCell (only_setCell (only_setCell (only_setCell HGA.out (.inr (Nat.le_refl _)) _) (.inr (Nat.le_refl _)) _) (.inr (Nat.le_refl _)) _) (.inr (Nat.le_refl _)) _

set_option maxHeartbeats 1600000 in
set_option maxRecDepth 100000 in
theorem sign_bad (b : Nat) (s : ByteArray) (n : Nat) (w : World) (hb : w.heap[b]? = some (.cells #[.string s, .int .i64 n] 37 (0, 0))) (hn : n < s.size) (hs : s.size ≤ 1048576) (hc : isSign s[n] = false) :
    Calls Tryd.prog 11 #[.pointer (some ⟨b, 0, none⟩)] w fun e w' => e = .returned (.tuple #[.agg #[.int .i64 0, .int .i64 n, .string ⟨#[]⟩, .int .i64 0], .int .i64 170]) ∧ w.grownBy w' (some b) := by
  have hc0 : w.cell? ⟨b, 0, none⟩ = some (.string s) := (blk_cell hb 0).trans rfl
  have hc1 : w.cell? ⟨b, 1, none⟩ = some (.int .i64 n) := (blk_cell hb 1).trans rfl
  have hlt : b < w.heap.size := World.block_lt_of_cell? w _ hc0
  have hd : decide (signAt s[n] < 0) = true := by
    unfold isSign at hc
    rw [decide_eq_false_iff_not] at hc
    exact decide_eq_true (by omega)
  have h7 := Aside0.mk (fun W => signAt_calls s[n] W)
  clear hc hb
  go_enter Tryd.func11, Tryd.ntmps11
  go_wp2
  go_quiet ((go_at_call 19; exact Calls.quiet_of_same (h7.out _)))
  clear h7 hd
  go_wp2
  refine bodyPost_ret (v := .tuple #[.agg #[.int .i64 0, .int .i64 n, .string ⟨#[]⟩, .int .i64 0], .int .i64 170]) (by simp [results, Tryd.results11, go_sem, *]) rfl ⟨rfl, ?_⟩
  repeat (first | exact only_refl w (some b) | refine only_setCell ?_ (.inr (Nat.le_refl _)) _ | apply only_drewN | apply only_drew | apply only_alloc)

/-- What stands in a block of four cells, another block having been made. -/
theorem four_alloc {w : World} {g : Nat} {a b c d : Value} {t : TypeId} (h : w.heap[g]? = some (.cells #[a, b, c, d] t (0, 0))) : (∀ o, (w.alloc o).cell? ⟨g, 0, none⟩ = some a) ∧ (∀ o, (w.alloc o).cell? ⟨g, 1, none⟩ = some b) ∧ (∀ o, (w.alloc o).cell? ⟨g, 2, none⟩ = some c) ∧ (∀ o, (w.alloc o).cell? ⟨g, 3, none⟩ = some d) ∧
    (∀ o, (w.alloc o).frozen? ⟨g, 0, none⟩ = false) ∧ (∀ o, (w.alloc o).frozen? ⟨g, 1, none⟩ = false) ∧ (∀ o, (w.alloc o).frozen? ⟨g, 2, none⟩ = false) ∧ (∀ o, (w.alloc o).frozen? ⟨g, 3, none⟩ = false) :=
  have k := fun o => vr_four (blk_alloc h o)
  ⟨fun o => (k o).1, fun o => (k o).2.1, fun o => (k o).2.2.1, fun o => (k o).2.2.2.1, fun o => (k o).2.2.2.2.1, fun o => (k o).2.2.2.2.2.1, fun o => (k o).2.2.2.2.2.2.1, fun o => (k o).2.2.2.2.2.2.2⟩

/-- The end of a name that begins at n. -/
def nameEnd (s : ByteArray) (n : Nat) : Nat := n + span isNameB (s.data.toList.drop n)
def numEnd (s : ByteArray) (n : Nat) : Nat := n + 1 + span isDigit (s.data.toList.drop (n + 1))
theorem nameEnd_le {s : ByteArray} {n : Nat} (h : n < s.size) : nameEnd s n ≤ s.size := by
  have := span_le isNameB (s.data.toList.drop n)
  rw [List.length_drop, Array.length_toList] at this
  have : s.data.size = s.size := rfl
  unfold nameEnd
  omega
theorem numEnd_le {s : ByteArray} {n : Nat} (h : n < s.size) : numEnd s n ≤ s.size := by
  have := span_le isDigit (s.data.toList.drop (n + 1))
  rw [List.length_drop, Array.length_toList] at this
  have : s.data.size = s.size := rfl
  unfold numEnd
  omega
theorem extract_size (s : ByteArray) (n m : Nat) (h : m ≤ s.size) : (s.extract n m).size = m - n := by
  rw [ByteArray.size_extract]
  omega

set_option maxHeartbeats 1600000 in
set_option maxRecDepth 100000 in
theorem name_calls (b : Nat) (s : ByteArray) (n : Nat) (w : World) (hb : w.heap[b]? = some (.cells #[.string s, .int .i64 n] 37 (0, 0))) (hn : n < s.size) (hs : s.size ≤ 1048576) (c : Bool) (hc : decide (16 < nameEnd s n - n) = c) :
    Calls Tryd.prog 13 #[.pointer (some ⟨b, 0, none⟩)] w fun e w' => e = .returned (.tuple #[.agg #[.int .i64 1, .int .i64 n, .string (s.extract n (nameEnd s n)), .int .i64 0], .int .i64 (if c = true then 21 else 0)]) ∧
      w'.heap[b]? = some (.cells #[.string s, .int .i64 (nameEnd s n)] 37 (0, 0)) ∧ w.grownBy w' (some b) := by
  have hc0 : w.cell? ⟨b, 0, none⟩ = some (.string s) := (blk_cell hb 0).trans rfl
  have hc1 : w.cell? ⟨b, 1, none⟩ = some (.int .i64 n) := (blk_cell hb 1).trans rfl
  have hlt : b < w.heap.size := World.block_lt_of_cell? w _ hc0
  have HB := Aside0.mk hb
  have HM : nameEnd s n ≤ s.size := nameEnd_le hn
  have HN : n ≤ nameEnd s n := Nat.le_add_right _ _
  have hd : decide ((16 : Int) < ((nameEnd s n - n : Nat) : Int)) = c := by
    rw [← hc]
    exact Bool.eq_iff_iff.mpr (by simp only [decide_eq_true_eq]; omega)
  have HW := Aside0.mk (fun (W : World) (h : W.cell? ⟨b, 0, none⟩ = some (.string s)) => while_calls 21 (.inr (.inr rfl)) isNameB nameB_calls b s n W h hs (nameEnd s n) rfl)
  clear hb hc
  generalize nameEnd s n = m at *
  go_enter Tryd.func13, Tryd.ntmps13
  go_wp2_with fail
  refine (HW.out _ ((blk_cell (blk_alloc HB.out _) 0).trans rfl)).mono ?_
  rintro e w1 ⟨rfl, rfl⟩
  go_wp2_with fail
  refine (word_calls b s n m 1 _ rfl _ (blk_alloc HB.out _) HN HM hs).mono ?_
  rintro e w1 ⟨rfl, hL, hg⟩
  obtain ⟨hp0, hp1, hp2, hp3, hp4, hp5, hp6, hp7⟩ := four_alloc (blk_grown (blk_new w _) hg (by simp; omega))
  have HL := Aside0.mk hL
  have hsz := hg.size
  rw [World.size_alloc] at hsz
  have HGA := Aside0.mk (only_trans (only_alloc (only_refl w (some b)) _) hg)
  clear hL hg hc0 hc1 HW
  cases c
  · go_wp2
    refine bodyPost_ret (v := .tuple #[.agg #[.int .i64 1, .int .i64 n, .string (s.extract n m), .int .i64 0], .int .i64 0]) (by simp [results, Tryd.results13, go_sem, *]) rfl ⟨rfl, ?_, ?_⟩
    · repeat (first | exact HL.out | refine blk_far ?_ (by simp; omega) _ | refine blk_alloc ?_ _)
    · repeat (first | exact HGA.out | refine only_setCell ?_ (.inr (by simp)) _ | refine only_alloc ?_ _)
  · go_wp2
    refine bodyPost_ret (v := .tuple #[.agg #[.int .i64 1, .int .i64 n, .string (s.extract n m), .int .i64 0], .int .i64 21]) (by simp [results, Tryd.results13, go_sem, *]) rfl ⟨rfl, ?_, ?_⟩
    · repeat (first | exact HL.out | refine blk_far ?_ (by simp; omega) _ | refine blk_alloc ?_ _)
    · repeat (first | exact HGA.out | refine only_setCell ?_ (.inr (by simp)) _ | refine only_alloc ?_ _)
end Go.Proofs.YtonlknpghifodaaDoor.P
