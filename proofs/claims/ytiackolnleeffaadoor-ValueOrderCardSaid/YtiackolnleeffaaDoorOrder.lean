/- lintellaw01.ValueOrder: the walk, and that the comparison is one order. -/
import Derived.Test.YtiackolnleeffaaDoorCommon
namespace Go.Proofs.YtiackolnleeffaaDoor.P
open Go.RowKit Go.Proofs.YtiackolnleeffaaDoorW.PrintWords Go.Proofs.YtiackolnleeffaaDoorW.PrintLast Go.Proofs.YtiackolnleeffaaDoorW.PrintMore
open Go.Proofs.YtiackolnleeffaaDoor.M

/-! ### the comparison is an order -/
theorem cmpB_le : ∀ (s t : List UInt8), -1 ≤ Lib.compareBytes s t ∧ Lib.compareBytes s t ≤ 1
  | [], [] => by simp [Lib.compareBytes]
  | [], _ :: _ => by simp [Lib.compareBytes]
  | _ :: _, [] => by simp [Lib.compareBytes]
  | a :: s, b :: t => by
    have := cmpB_le s t
    unfold Lib.compareBytes
    split
    · simp
    · split
      · simp
      · exact this
theorem cmpB_neg : ∀ (s t : List UInt8), Lib.compareBytes t s = - Lib.compareBytes s t
  | [], [] => by simp [Lib.compareBytes]
  | [], _ :: _ => by simp [Lib.compareBytes]
  | _ :: _, [] => by simp [Lib.compareBytes]
  | a :: s, b :: t => by
    have := cmpB_neg s t
    simp only [Lib.compareBytes, UInt8.lt_iff_toNat_lt]
    by_cases h1 : a.toNat < b.toNat
    · have h2 : ¬ b.toNat < a.toNat := by omega
      simp [h1, h2]
    · by_cases h2 : b.toNat < a.toNat
      · simp [h1, h2]
      · simp [h1, h2, this]
theorem cmpB_zero : ∀ (s t : List UInt8), Lib.compareBytes s t = 0 ↔ s = t
  | [], [] => by simp [Lib.compareBytes]
  | [], _ :: _ => by simp [Lib.compareBytes]
  | _ :: _, [] => by simp [Lib.compareBytes]
  | a :: s, b :: t => by
    have := cmpB_zero s t
    simp only [Lib.compareBytes, UInt8.lt_iff_toNat_lt]
    by_cases h1 : a.toNat < b.toNat
    · have h2 : a ≠ b := by intro e; subst e; omega
      simp [h1, h2]
    · by_cases h2 : b.toNat < a.toNat
      · have h3 : a ≠ b := by intro e; subst e; omega
        simp [h1, h2, h3]
      · have h3 : a = b := UInt8.toNat_inj.mp (by omega)
        subst h3
        simp [this]
theorem cmpB_trans : ∀ (s t u : List UInt8), Lib.compareBytes s t ≤ 0 → Lib.compareBytes t u ≤ 0 → Lib.compareBytes s u ≤ 0
  | [], _, [] => by simp [Lib.compareBytes]
  | [], _, _ :: _ => by simp [Lib.compareBytes]
  | _ :: _, [], _ => by simp [Lib.compareBytes]
  | _ :: _, _ :: _, [] => by simp [Lib.compareBytes]
  | a :: s, b :: t, c :: u => by
    have := cmpB_trans s t u
    simp only [Lib.compareBytes, UInt8.lt_iff_toNat_lt]
    intro h h'
    by_cases h1 : a.toNat < b.toNat
    · by_cases h3 : b.toNat < c.toNat
      · rw [if_pos (by omega)]; decide
      · by_cases h4 : c.toNat < b.toNat
        · rw [if_neg h3, if_pos h4] at h'; exact absurd h' (by decide)
        · rw [if_pos (by omega)]; decide
    · by_cases h2 : b.toNat < a.toNat
      · rw [if_neg h1, if_pos h2] at h; exact absurd h (by decide)
      · rw [if_neg h1, if_neg h2] at h
        by_cases h3 : b.toNat < c.toNat
        · rw [if_pos (by omega)]; decide
        · by_cases h4 : c.toNat < b.toNat
          · rw [if_neg h3, if_pos h4] at h'; exact absurd h' (by decide)
          · rw [if_neg h3, if_neg h4] at h'
            rw [if_neg (by omega), if_neg (by omega)]
            exact this h h'
theorem cmpV_eq (a b : Int) (s : List UInt8) (d e : Int) (t : List UInt8) : cmpV a b s d e t = if a < d then -1 else if d < a then 1 else if b < e then -1 else if e < b then 1 else Lib.compareBytes s t := by
  unfold cmpV cmpI
  by_cases h1 : a < d
  · simp [h1]
  · by_cases h2 : d < a
    · simp [h1, h2]
    · by_cases h3 : b < e
      · simp [h1, h2, h3]
      · by_cases h4 : e < b
        · simp [h1, h2, h3, h4]
        · simp [h1, h2, h3, h4]
theorem cmpV_le (a b : Int) (s : List UInt8) (d e : Int) (t : List UInt8) : -1 ≤ cmpV a b s d e t ∧ cmpV a b s d e t ≤ 1 := by
  have := cmpB_le s t
  rw [cmpV_eq]
  split <;> (try (split <;> (try (split <;> (try split))))) <;> omega
theorem cmpV_neg (a b : Int) (s : List UInt8) (d e : Int) (t : List UInt8) : cmpV d e t a b s = - cmpV a b s d e t := by
  have := cmpB_neg s t
  rw [cmpV_eq, cmpV_eq]
  by_cases h1 : a < d
  · rw [if_neg (by omega), if_pos h1, if_pos h1]; rfl
  · by_cases h2 : d < a
    · rw [if_pos h2, if_neg h1, if_pos h2]
    · rw [if_neg h2, if_neg h1, if_neg h1, if_neg h2]
      by_cases h3 : b < e
      · rw [if_neg (by omega), if_pos h3, if_pos h3]; rfl
      · by_cases h4 : e < b
        · rw [if_pos h4, if_neg h3, if_pos h4]
        · rw [if_neg h4, if_neg h3, if_neg h3, if_neg h4]; exact this
theorem cmpV_zero (a b : Int) (s : List UInt8) (d e : Int) (t : List UInt8) : cmpV a b s d e t = 0 ↔ (a = d ∧ b = e ∧ s = t) := by
  have := cmpB_zero s t
  rw [cmpV_eq]
  by_cases h1 : a < d
  · rw [if_pos h1]; constructor
    · intro h; exact absurd h (by decide)
    · rintro ⟨h, _⟩; omega
  · by_cases h2 : d < a
    · rw [if_neg h1, if_pos h2]; constructor
      · intro h; exact absurd h (by decide)
      · rintro ⟨h, _⟩; omega
    · rw [if_neg h1, if_neg h2]
      by_cases h3 : b < e
      · rw [if_pos h3]; constructor
        · intro h; exact absurd h (by decide)
        · rintro ⟨_, h, _⟩; omega
      · by_cases h4 : e < b
        · rw [if_neg h3, if_pos h4]; constructor
          · intro h; exact absurd h (by decide)
          · rintro ⟨_, h, _⟩; omega
        · rw [if_neg h3, if_neg h4, this]; constructor
          · intro h; exact ⟨by omega, by omega, h⟩
          · rintro ⟨_, _, h⟩; exact h
theorem cmpV_trans (a b : Int) (s : List UInt8) (d e : Int) (t : List UInt8) (x y : Int) (u : List UInt8) (h : cmpV a b s d e t ≤ 0) (h' : cmpV d e t x y u ≤ 0) : cmpV a b s x y u ≤ 0 := by
  have H := cmpB_trans s t u
  rw [cmpV_eq] at h h' ⊢
  by_cases h1 : a < x
  · rw [if_pos h1]; decide
  · have g2 : ¬ d < a := by intro g; rw [if_neg (by omega), if_pos g] at h; exact absurd h (by decide)
    have g4 : ¬ x < d := by intro g; rw [if_neg (by omega), if_pos g] at h'; exact absurd h' (by decide)
    rw [if_neg (by omega), if_neg g2] at h
    rw [if_neg (by omega), if_neg g4] at h'
    rw [if_neg h1, if_neg (by omega)]
    by_cases h3 : b < y
    · rw [if_pos h3]; decide
    · have k2 : ¬ e < b := by intro g; rw [if_neg (by omega), if_pos g] at h; exact absurd h (by decide)
      have k4 : ¬ y < e := by intro g; rw [if_neg (by omega), if_pos g] at h'; exact absurd h' (by decide)
      rw [if_neg (by omega), if_neg k2] at h
      rw [if_neg (by omega), if_neg k4] at h'
      rw [if_neg h3, if_neg (by omega)]
      exact H h h'

attribute [local go_sem] max2_int min2_int max_two min_two max_three min_three max_four min_four
attribute [local go_sem high] eqA23
set_option linter.unusedVariables false
set_option linter.unusedSimpArgs false
def lintellaw01_ValueOrder.T1 : Bool × List (List Nat × List Nat) := (true, [([], []), ([], []), ([0, 1], [0, 1]), ([], []), ([], []), ([3, 4, 2], [3, 4]), ([], []), ([], []), ([6, 7, 5], [6, 7]), ([2, 8, 0, 1, 2], [2]), ([5, 9, 0, 1, 2, 3, 4, 5, 9], [5]), ([8, 10, 0, 1, 2, 3, 4, 5, 6, 7, 8, 9, 10], [8])])
def lintellaw01_ValueOrder.B1 : List Nat := [0, 0, 3, 0, 0, 31, 0, 0, 255, 511, 1023, 2047]
theorem lintellaw01_ValueOrder.tab1 : rtab .any (opsOf Tryd.f8 1) = lintellaw01_ValueOrder.T1 := by kernel_rfl
theorem lintellaw01_ValueOrder.bits1 : waitsOk lintellaw01_ValueOrder.T1.2 lintellaw01_ValueOrder.B1 = true := by kernel_rfl
set_option maxHeartbeats 16000000 in
set_option maxRecDepth 100000 in
theorem order_walk (k : Nat) (a0_0 : Int) (a0_1 : Int) (a0_2 : ByteArray) (a1_0 : Int) (a1_1 : Int) (a1_2 : ByteArray) (a2_0 : Int) (a2_1 : Int) (a2_2 : ByteArray) (t134 t135 t136 t138 : Int) (w : World) (hG : Glob w) (A40 : value_Compare.f k a0_0 a0_1 a0_2 a1_0 a1_1 a1_2 = some t134) (A50 : value_Compare.f k a1_0 a1_1 a1_2 a2_0 a2_1 a2_2 = some t135) (A60 : value_Compare.f k a0_0 a0_1 a0_2 a2_0 a2_1 a2_2 = some t136) (A70 : lintellaw01_awake.f k = some true) (A90 : value_Compare.f k a1_0 a1_1 a1_2 a0_0 a0_1 a0_2 = some t138)
    (c10 : t138 = wrap64 (-t134)) (c11b0 : ((t134 == 0) != (a0_0 == a1_0 && (a0_1 == a1_1 && (a0_2.toList == a1_2.toList)))) = false) (c28b0 : decide (t134 < (-1)) = false) (c45b0 : decide (1 < t134) = false)
    (p1 p2 p3 p4 p5 p6 : Bool) (e1 : decide (0 < t134) = p1) (e2 : decide (0 < t135) = p2) (e3 : decide (t136 ≤ 0) = p3) (e4 : decide (t134 < 0) = p4) (e5 : decide (t135 < 0) = p5) (e6 : decide (0 ≤ t136) = p6)
    (hx : (p1, p4) = (true, false) ∨ (p1, p4) = (false, true) ∨ (p1, p4) = (false, false)) (hy : (p2, p5) = (true, false) ∨ (p2, p5) = (false, true) ∨ (p2, p5) = (false, false)) (hz : (p3, p6) = (true, false) ∨ (p3, p6) = (false, true) ∨ (p3, p6) = (true, true))
    (f1 : (p1 || p2 || p3) = true) (f2 : (p4 || p5 || p6) = true) :
    Calls Tryd.prog 8 #[.agg #[.int .i64 a0_0, .int .i64 a0_1, .string a0_2], .agg #[.int .i64 a1_0, .int .i64 a1_1, .string a1_2], .agg #[.int .i64 a2_0, .int .i64 a2_1, .string a2_2]] w fun e w' => e = .returned (.bool true) ∧ Below w.heap.size w w' := by
  have hu23 := Tryd.underlying23
  have HG := Aside0.mk hG
  clear hG
  have HB := Aside0.mk (Below.refl w.heap.size w)
  have A4 := Aside0.mk A40
  have A5 := Aside0.mk A50
  have A6 := Aside0.mk A60
  have A7 := Aside0.mk A70
  have A9 := Aside0.mk A90
  clear A40 A50 A60 A70 A90
  have c10b0 : (t138 == (wrap64 (-t134))) = true := beq_iff_eq.mpr c10
  have c10b1 : (t138 != (wrap64 (-t134))) = false := bne_eq_false_iff_eq.mpr c10
  clear c10
  have c11b1 : decide ((t134 == 0) = (a0_0 == a1_0 && (a0_1 == a1_1 && (a0_2.toList == a1_2.toList)))) = true := by simpa using c11b0
  have c11b2 : ((t134 == 0) == (a0_0 == a1_0 && (a0_1 == a1_1 && (a0_2.toList == a1_2.toList)))) = true := by simpa using c11b0
  simp only [Prod.mk.injEq] at hx hy hz
  rcases hx with ⟨rfl, rfl⟩ | ⟨rfl, rfl⟩ | ⟨rfl, rfl⟩ <;> rcases hy with ⟨rfl, rfl⟩ | ⟨rfl, rfl⟩ | ⟨rfl, rfl⟩ <;> rcases hz with ⟨rfl, rfl⟩ | ⟨rfl, rfl⟩ | ⟨rfl, rfl⟩ <;> first | (exact absurd f1 (by decide)) | (exact absurd f2 (by decide)) | skip
  all_goals clear f1 f2
  all_goals (
    go_enter Tryd.func8, Tryd.ntmps8
    try go_wp2_with (first | ((with_reducible refine gate_dst (N := 3) rfl ?_); refine box_event ?hg (N := 3) ?hd (cs := #[.int .i64 a0_0, .int .i64 a0_1, .string a0_2]) (t := 23) ?hr ?_; (case hd => rfl); (case hg => rfl); (case hr => first | (go_simp; done) | (go_simp; rfl)); intro gb131 hg w81 hbox hb; have n0_ := Aside0.mk (below_step (by repeat (first | (with_reducible first | exact HB.out | apply below_alloc | apply pw_below_drewN | apply below_drew1) | exact HB.out)) hb); have n1_ := Aside0.mk (hbox); have n2_ := Aside0.mk ((by rw [hg]; exact (below_size (by repeat (first | (with_reducible first | exact HB.out | apply below_alloc | apply pw_below_drewN | apply below_drew1) | exact HB.out))) : w.heap.size ≤ gb131)); have n3_ := Aside0.mk ((by rw [hg]; exact (below_size (by repeat (first | (with_reducible first | exact HB.out | apply below_alloc | apply pw_below_drewN | apply below_drew1) | exact HB.out))) : w.heap.size ≤ gb131)); clear HB; have HB := n0_; have BK131 := n1_; have GW131 := n2_; have GE131 := n3_; clear n0_ n1_ n2_ n3_; clear hb hbox hg) | ((with_reducible refine gate_dst (N := 4) rfl ?_); refine box_event ?hg (N := 4) ?hd (cs := #[.int .i64 a1_0, .int .i64 a1_1, .string a1_2]) (t := 23) ?hr ?_; (case hd => rfl); (case hg => rfl); (case hr => first | (go_simp; done) | (go_simp; rfl)); intro gb132 hg w82 hbox hb; have n0_ := Aside0.mk (blk_below (g := gb131) (o := .cells #[.int .i64 a0_0, .int .i64 a0_1, .string a0_2] 23 (0, 0)) (by (with_reducible repeat (first | refine blk_drewN ?_ _ | refine blk_drew ?_ | refine blk_alloc ?_ _)); exact BK131.out) hb); have n1_ := Aside0.mk (below_step (by repeat (first | (with_reducible first | exact HB.out | apply below_alloc | apply pw_below_drewN | apply below_drew1 | refine below_set ?_ GE131.out) | exact HB.out)) hb); have n2_ := Aside0.mk (hbox); have n3_ := Aside0.mk ((by rw [hg]; exact (below_size (by repeat (first | (with_reducible first | exact HB.out | apply below_alloc | apply pw_below_drewN | apply below_drew1 | refine below_set ?_ GE131.out) | exact HB.out))) : w.heap.size ≤ gb132)); have n4_ := Aside0.mk ((by rw [hg]; exact (below_size (by repeat (first | (with_reducible first | exact HB.out | apply below_alloc | apply pw_below_drewN | apply below_drew1 | refine below_set ?_ GE131.out) | exact HB.out))) : w.heap.size ≤ gb132)); have n5_ := Aside0.mk ((by rw [hg]; exact Nat.ne_of_lt (blk_lt (g := gb131) (o := .cells #[.int .i64 a0_0, .int .i64 a0_1, .string a0_2] 23 (0, 0)) (by (with_reducible repeat (first | refine blk_drewN ?_ _ | refine blk_drew ?_ | refine blk_alloc ?_ _)); exact BK131.out)) : gb131 ≠ gb132)); have n6_ := Aside0.mk ((by rw [hg]; exact Nat.ne_of_gt (blk_lt (g := gb131) (o := .cells #[.int .i64 a0_0, .int .i64 a0_1, .string a0_2] 23 (0, 0)) (by (with_reducible repeat (first | refine blk_drewN ?_ _ | refine blk_drew ?_ | refine blk_alloc ?_ _)); exact BK131.out)) : gb132 ≠ gb131)); clear BK131; clear HB; have BK131 := n0_; have HB := n1_; have BK132 := n2_; have GW132 := n3_; have GE132 := n4_; have NB131_132 := n5_; have NB132_131 := n6_; clear n0_ n1_ n2_ n3_ n4_ n5_ n6_; clear hb hbox hg) | ((with_reducible refine gate_dst (N := 5) rfl ?_); refine box_event ?hg (N := 5) ?hd (cs := #[.int .i64 a2_0, .int .i64 a2_1, .string a2_2]) (t := 23) ?hr ?_; (case hd => rfl); (case hg => rfl); (case hr => first | (go_simp; done) | (go_simp; rfl)); intro gb133 hg w83 hbox hb; have n0_ := Aside0.mk (blk_below (g := gb131) (o := .cells #[.int .i64 a0_0, .int .i64 a0_1, .string a0_2] 23 (0, 0)) (by (with_reducible repeat (first | refine blk_drewN ?_ _ | refine blk_drew ?_ | refine blk_alloc ?_ _)); exact BK131.out) hb); have n1_ := Aside0.mk (blk_below (g := gb132) (o := .cells #[.int .i64 a1_0, .int .i64 a1_1, .string a1_2] 23 (0, 0)) (by (with_reducible repeat (first | refine blk_drewN ?_ _ | refine blk_drew ?_ | refine blk_alloc ?_ _)); exact BK132.out) hb); have n2_ := Aside0.mk (below_step (by repeat (first | (with_reducible first | exact HB.out | apply below_alloc | apply pw_below_drewN | apply below_drew1 | refine below_set ?_ GE131.out | refine below_set ?_ GE132.out) | exact HB.out)) hb); have n3_ := Aside0.mk (hbox); have n4_ := Aside0.mk ((by rw [hg]; exact (below_size (by repeat (first | (with_reducible first | exact HB.out | apply below_alloc | apply pw_below_drewN | apply below_drew1 | refine below_set ?_ GE131.out | refine below_set ?_ GE132.out) | exact HB.out))) : w.heap.size ≤ gb133)); have n5_ := Aside0.mk ((by rw [hg]; exact (below_size (by repeat (first | (with_reducible first | exact HB.out | apply below_alloc | apply pw_below_drewN | apply below_drew1 | refine below_set ?_ GE131.out | refine below_set ?_ GE132.out) | exact HB.out))) : w.heap.size ≤ gb133)); have n6_ := Aside0.mk ((by rw [hg]; exact Nat.ne_of_lt (blk_lt (g := gb131) (o := .cells #[.int .i64 a0_0, .int .i64 a0_1, .string a0_2] 23 (0, 0)) (by (with_reducible repeat (first | refine blk_drewN ?_ _ | refine blk_drew ?_ | refine blk_alloc ?_ _)); exact BK131.out)) : gb131 ≠ gb133)); have n7_ := Aside0.mk ((by rw [hg]; exact Nat.ne_of_gt (blk_lt (g := gb131) (o := .cells #[.int .i64 a0_0, .int .i64 a0_1, .string a0_2] 23 (0, 0)) (by (with_reducible repeat (first | refine blk_drewN ?_ _ | refine blk_drew ?_ | refine blk_alloc ?_ _)); exact BK131.out)) : gb133 ≠ gb131)); have n8_ := Aside0.mk ((by rw [hg]; exact Nat.ne_of_lt (blk_lt (g := gb132) (o := .cells #[.int .i64 a1_0, .int .i64 a1_1, .string a1_2] 23 (0, 0)) (by (with_reducible repeat (first | refine blk_drewN ?_ _ | refine blk_drew ?_ | refine blk_alloc ?_ _)); exact BK132.out)) : gb132 ≠ gb133)); have n9_ := Aside0.mk ((by rw [hg]; exact Nat.ne_of_gt (blk_lt (g := gb132) (o := .cells #[.int .i64 a1_0, .int .i64 a1_1, .string a1_2] 23 (0, 0)) (by (with_reducible repeat (first | refine blk_drewN ?_ _ | refine blk_drew ?_ | refine blk_alloc ?_ _)); exact BK132.out)) : gb133 ≠ gb132)); clear BK131; clear BK132; clear HB; have BK131 := n0_; have BK132 := n1_; have HB := n2_; have BK133 := n3_; have GW133 := n4_; have GE133 := n5_; have NB131_133 := n6_; have NB133_131 := n7_; have NB132_133 := n8_; have NB133_132 := n9_; clear n0_ n1_ n2_ n3_ n4_ n5_ n6_ n7_ n8_ n9_; clear hb hbox hg))
    have n0_ := Aside0.mk (blk_drew BK131.out)
    have n1_ := Aside0.mk (blk_drew BK132.out)
    have n2_ := Aside0.mk (blk_drew BK133.out)
    have n3_ := Aside0.mk (below_drew1 HB.out)
    clear BK131
    clear BK132
    clear BK133
    clear HB
    have BK131 := n0_
    have BK132 := n1_
    have BK133 := n2_
    have HB := n3_
    clear n0_ n1_ n2_ n3_
    refine start_ (n := 12) (S := fun w' => w'.cell? ⟨gb131, 0, none⟩ = some (.int .i64 a0_0) ∧ w'.cell? ⟨gb131, 1, none⟩ = some (.int .i64 a0_1) ∧ w'.cell? ⟨gb131, 2, none⟩ = some (.string a0_2) ∧ w'.cell? ⟨gb132, 0, none⟩ = some (.int .i64 a1_0) ∧ w'.cell? ⟨gb132, 1, none⟩ = some (.int .i64 a1_1) ∧ w'.cell? ⟨gb132, 2, none⟩ = some (.string a1_2) ∧ w'.cell? ⟨gb133, 0, none⟩ = some (.int .i64 a2_0) ∧ w'.cell? ⟨gb133, 1, none⟩ = some (.int .i64 a2_1) ∧ w'.cell? ⟨gb133, 2, none⟩ = some (.string a2_2)) (ds := []) #[false, false, false, false, false, false, false, false, false, false, false, false] (by kernel_rfl) rfl rfl ⟨(blk_cell BK131.out 0).trans rfl, (blk_cell BK131.out 1).trans rfl, (blk_cell BK131.out 2).trans rfl, (blk_cell BK132.out 0).trans rfl, (blk_cell BK132.out 1).trans rfl, (blk_cell BK132.out 2).trans rfl, (blk_cell BK133.out 0).trans rfl, (blk_cell BK133.out 1).trans rfl, (blk_cell BK133.out 2).trans rfl⟩ (fun hHeld => ?_); refine with_tabW lintellaw01_ValueOrder.tab1 lintellaw01_ValueOrder.bits1 (fun HT_ HW_ => ?_)
    generalize w83.drew = w84 at BK131 BK132 BK133 HB hHeld ⊢
    refine take_ (i := 0) (N := some 10) (v := ?_) (a' := ?_) #[true, false, false, false, false, false, false, false, false, false, false, false] rfl rfl (take_ofW HT_.out HW_.out (by kernel_rfl)) (fun _ _ _ h => h) (Or.inl ⟨by rfl, ?_⟩) hHeld ?_ ?_
    rotate_left
    · rintro w' ⟨s0, s1, s2, s3, s4, s5, s6, s7, s8⟩
      go_simp
      with_reducible rfl
    rotate_left
    · simp only [Act.put, List.setIfInBounds_toArray, List.set_cons_zero, List.set_cons_succ, i64_w, i32_w]
      rfl
    refine take_ (i := 1) (N := some 11) (v := ?_) (a' := ?_) #[true, true, false, false, false, false, false, false, false, false, false, false] rfl rfl (take_ofW HT_.out HW_.out (by kernel_rfl)) (fun _ _ _ h => h) (Or.inl ⟨by rfl, ?_⟩) hHeld ?_ ?_
    rotate_left
    · rintro w' ⟨s0, s1, s2, s3, s4, s5, s6, s7, s8⟩
      go_simp
      with_reducible rfl
    rotate_left
    · simp only [Act.put, List.setIfInBounds_toArray, List.set_cons_zero, List.set_cons_succ, i64_w, i32_w]
      rfl
    refine take_ (i := 3) (N := some 13) (v := ?_) (a' := ?_) #[true, true, false, true, false, false, false, false, false, false, false, false] rfl rfl (take_ofW HT_.out HW_.out (by kernel_rfl)) (fun _ _ _ h => h) (Or.inl ⟨by rfl, ?_⟩) hHeld ?_ ?_
    rotate_left
    · rintro w' ⟨s0, s1, s2, s3, s4, s5, s6, s7, s8⟩
      go_simp
      with_reducible rfl
    rotate_left
    · simp only [Act.put, List.setIfInBounds_toArray, List.set_cons_zero, List.set_cons_succ, i64_w, i32_w]
      rfl
    refine take_ (i := 4) (N := some 14) (v := ?_) (a' := ?_) #[true, true, false, true, true, false, false, false, false, false, false, false] rfl rfl (take_ofW HT_.out HW_.out (by kernel_rfl)) (fun _ _ _ h => h) (Or.inl ⟨by rfl, ?_⟩) hHeld ?_ ?_
    rotate_left
    · rintro w' ⟨s0, s1, s2, s3, s4, s5, s6, s7, s8⟩
      go_simp
      with_reducible rfl
    rotate_left
    · simp only [Act.put, List.setIfInBounds_toArray, List.set_cons_zero, List.set_cons_succ, i64_w, i32_w]
      rfl
    refine take_ (i := 6) (N := some 16) (v := ?_) (a' := ?_) #[true, true, false, true, true, false, true, false, false, false, false, false] rfl rfl (take_ofW HT_.out HW_.out (by kernel_rfl)) (fun _ _ _ h => h) (Or.inl ⟨by rfl, ?_⟩) hHeld ?_ ?_
    rotate_left
    · rintro w' ⟨s0, s1, s2, s3, s4, s5, s6, s7, s8⟩
      go_simp
      with_reducible rfl
    rotate_left
    · simp only [Act.put, List.setIfInBounds_toArray, List.set_cons_zero, List.set_cons_succ, i64_w, i32_w]
      rfl
    refine take_ (i := 7) (N := some 17) (v := ?_) (a' := ?_) #[true, true, false, true, true, false, true, true, false, false, false, false] rfl rfl (take_ofW HT_.out HW_.out (by kernel_rfl)) (fun _ _ _ h => h) (Or.inl ⟨by rfl, ?_⟩) hHeld ?_ ?_
    rotate_left
    · rintro w' ⟨s0, s1, s2, s3, s4, s5, s6, s7, s8⟩
      go_simp
      with_reducible rfl
    rotate_left
    · simp only [Act.put, List.setIfInBounds_toArray, List.set_cons_zero, List.set_cons_succ, i64_w, i32_w]
      rfl
    refine one_ (i := 2) (N := some 12) #[true, true, true, true, true, false, true, true, false, false, false, false] rfl rfl (one_of HT_.out (by kernel_rfl)) (by decide) (fun K hK => ?_)
    refine goes_ Tryd.func12 (by kernel_rfl) rfl #[.agg #[.int .i64 a0_0, .int .i64 a0_1, .string a0_2], .agg #[.int .i64 a1_0, .int .i64 a1_1, .string a1_2]] (by rfl) rfl rfl (by (try simp only [List.map_toArray, List.map_cons, List.map_nil]); first | done | rfl | (simp only [List.length_drop, List.length_take]; rfl)) ?_
    with_reducible refine (value_Compare.calls k a0_0 a0_1 a0_2 a1_0 a1_1 a1_2 t134 _ A4.out).mono ?_
    rintro e w85 ⟨rfl, hb⟩
    refine ⟨_, rfl, ?_⟩
    have n0_ := Aside0.mk (blk_below (g := gb131) (o := .cells #[.int .i64 a0_0, .int .i64 a0_1, .string a0_2] 23 (0, 0)) (by (with_reducible repeat (first | refine blk_drewN ?_ _ | refine blk_drew ?_ | refine blk_alloc ?_ _)); exact BK131.out) hb)
    have n1_ := Aside0.mk (blk_below (g := gb132) (o := .cells #[.int .i64 a1_0, .int .i64 a1_1, .string a1_2] 23 (0, 0)) (by (with_reducible repeat (first | refine blk_drewN ?_ _ | refine blk_drew ?_ | refine blk_alloc ?_ _)); exact BK132.out) hb)
    have n2_ := Aside0.mk (blk_below (g := gb133) (o := .cells #[.int .i64 a2_0, .int .i64 a2_1, .string a2_2] 23 (0, 0)) (by (with_reducible repeat (first | refine blk_drewN ?_ _ | refine blk_drew ?_ | refine blk_alloc ?_ _)); exact BK133.out) hb)
    have n3_ := Aside0.mk (below_step (by repeat (first | (with_reducible first | exact HB.out | apply below_alloc | apply pw_below_drewN | apply below_drew1 | refine below_set ?_ GE131.out | refine below_set ?_ GE132.out | refine below_set ?_ GE133.out) | exact HB.out)) hb)
    clear BK131
    clear BK132
    clear BK133
    clear HB
    have BK131 := n0_
    have BK132 := n1_
    have BK133 := n2_
    have HB := n3_
    clear n0_ n1_ n2_ n3_
    (try clear hb)
    (try clear hb2)
    (try clear hk)
    (try clear hi)
    refine hK.out _ _ ⟨(blk_cell BK131.out 0).trans rfl, (blk_cell BK131.out 1).trans rfl, (blk_cell BK131.out 2).trans rfl, (blk_cell BK132.out 0).trans rfl, (blk_cell BK132.out 1).trans rfl, (blk_cell BK132.out 2).trans rfl, (blk_cell BK133.out 0).trans rfl, (blk_cell BK133.out 1).trans rfl, (blk_cell BK133.out 2).trans rfl⟩ (fun hHeld => ?_)
    clear hK K
    refine norm_ (a' := ?_) ?_ ?_
    rotate_left
    · show Act.put _ (some 12) _ = _
      simp only [Act.put, List.setIfInBounds_toArray, List.set_cons_zero, List.set_cons_succ, i64_w, i32_w]
      rfl
    refine one_ (i := 5) (N := some 15) #[true, true, true, true, true, true, true, true, false, false, false, false] rfl rfl (one_of HT_.out (by kernel_rfl)) (by decide) (fun K hK => ?_)
    refine goes_ Tryd.func12 (by kernel_rfl) rfl #[.agg #[.int .i64 a1_0, .int .i64 a1_1, .string a1_2], .agg #[.int .i64 a2_0, .int .i64 a2_1, .string a2_2]] (by rfl) rfl rfl (by (try simp only [List.map_toArray, List.map_cons, List.map_nil]); first | done | rfl | (simp only [List.length_drop, List.length_take]; rfl)) ?_
    with_reducible refine (value_Compare.calls k a1_0 a1_1 a1_2 a2_0 a2_1 a2_2 t135 _ A5.out).mono ?_
    rintro e w86 ⟨rfl, hb⟩
    refine ⟨_, rfl, ?_⟩
    have n0_ := Aside0.mk (blk_below (g := gb131) (o := .cells #[.int .i64 a0_0, .int .i64 a0_1, .string a0_2] 23 (0, 0)) (by (with_reducible repeat (first | refine blk_drewN ?_ _ | refine blk_drew ?_ | refine blk_alloc ?_ _)); exact BK131.out) hb)
    have n1_ := Aside0.mk (blk_below (g := gb132) (o := .cells #[.int .i64 a1_0, .int .i64 a1_1, .string a1_2] 23 (0, 0)) (by (with_reducible repeat (first | refine blk_drewN ?_ _ | refine blk_drew ?_ | refine blk_alloc ?_ _)); exact BK132.out) hb)
    have n2_ := Aside0.mk (blk_below (g := gb133) (o := .cells #[.int .i64 a2_0, .int .i64 a2_1, .string a2_2] 23 (0, 0)) (by (with_reducible repeat (first | refine blk_drewN ?_ _ | refine blk_drew ?_ | refine blk_alloc ?_ _)); exact BK133.out) hb)
    have n3_ := Aside0.mk (below_step (by repeat (first | (with_reducible first | exact HB.out | apply below_alloc | apply pw_below_drewN | apply below_drew1 | refine below_set ?_ GE131.out | refine below_set ?_ GE132.out | refine below_set ?_ GE133.out) | exact HB.out)) hb)
    clear BK131
    clear BK132
    clear BK133
    clear HB
    have BK131 := n0_
    have BK132 := n1_
    have BK133 := n2_
    have HB := n3_
    clear n0_ n1_ n2_ n3_
    (try clear hb)
    (try clear hb2)
    (try clear hk)
    (try clear hi)
    refine hK.out _ _ ⟨(blk_cell BK131.out 0).trans rfl, (blk_cell BK131.out 1).trans rfl, (blk_cell BK131.out 2).trans rfl, (blk_cell BK132.out 0).trans rfl, (blk_cell BK132.out 1).trans rfl, (blk_cell BK132.out 2).trans rfl, (blk_cell BK133.out 0).trans rfl, (blk_cell BK133.out 1).trans rfl, (blk_cell BK133.out 2).trans rfl⟩ (fun hHeld => ?_)
    clear hK K
    refine norm_ (a' := ?_) ?_ ?_
    rotate_left
    · show Act.put _ (some 15) _ = _
      simp only [Act.put, List.setIfInBounds_toArray, List.set_cons_zero, List.set_cons_succ, i64_w, i32_w]
      rfl
    refine one_ (i := 8) (N := some 18) #[true, true, true, true, true, true, true, true, true, false, false, false] rfl rfl (one_of HT_.out (by kernel_rfl)) (by decide) (fun K hK => ?_)
    refine goes_ Tryd.func12 (by kernel_rfl) rfl #[.agg #[.int .i64 a0_0, .int .i64 a0_1, .string a0_2], .agg #[.int .i64 a2_0, .int .i64 a2_1, .string a2_2]] (by rfl) rfl rfl (by (try simp only [List.map_toArray, List.map_cons, List.map_nil]); first | done | rfl | (simp only [List.length_drop, List.length_take]; rfl)) ?_
    with_reducible refine (value_Compare.calls k a0_0 a0_1 a0_2 a2_0 a2_1 a2_2 t136 _ A6.out).mono ?_
    rintro e w87 ⟨rfl, hb⟩
    refine ⟨_, rfl, ?_⟩
    have n0_ := Aside0.mk (blk_below (g := gb131) (o := .cells #[.int .i64 a0_0, .int .i64 a0_1, .string a0_2] 23 (0, 0)) (by (with_reducible repeat (first | refine blk_drewN ?_ _ | refine blk_drew ?_ | refine blk_alloc ?_ _)); exact BK131.out) hb)
    have n1_ := Aside0.mk (blk_below (g := gb132) (o := .cells #[.int .i64 a1_0, .int .i64 a1_1, .string a1_2] 23 (0, 0)) (by (with_reducible repeat (first | refine blk_drewN ?_ _ | refine blk_drew ?_ | refine blk_alloc ?_ _)); exact BK132.out) hb)
    have n2_ := Aside0.mk (blk_below (g := gb133) (o := .cells #[.int .i64 a2_0, .int .i64 a2_1, .string a2_2] 23 (0, 0)) (by (with_reducible repeat (first | refine blk_drewN ?_ _ | refine blk_drew ?_ | refine blk_alloc ?_ _)); exact BK133.out) hb)
    have n3_ := Aside0.mk (below_step (by repeat (first | (with_reducible first | exact HB.out | apply below_alloc | apply pw_below_drewN | apply below_drew1 | refine below_set ?_ GE131.out | refine below_set ?_ GE132.out | refine below_set ?_ GE133.out) | exact HB.out)) hb)
    clear BK131
    clear BK132
    clear BK133
    clear HB
    have BK131 := n0_
    have BK132 := n1_
    have BK133 := n2_
    have HB := n3_
    clear n0_ n1_ n2_ n3_
    (try clear hb)
    (try clear hb2)
    (try clear hk)
    (try clear hi)
    refine hK.out _ _ ⟨(blk_cell BK131.out 0).trans rfl, (blk_cell BK131.out 1).trans rfl, (blk_cell BK131.out 2).trans rfl, (blk_cell BK132.out 0).trans rfl, (blk_cell BK132.out 1).trans rfl, (blk_cell BK132.out 2).trans rfl, (blk_cell BK133.out 0).trans rfl, (blk_cell BK133.out 1).trans rfl, (blk_cell BK133.out 2).trans rfl⟩ (fun hHeld => ?_)
    clear hK K
    refine norm_ (a' := ?_) ?_ ?_
    rotate_left
    · show Act.put _ (some 18) _ = _
      simp only [Act.put, List.setIfInBounds_toArray, List.set_cons_zero, List.set_cons_succ, i64_w, i32_w]
      rfl
    refine pure_ (i := 9) (N := some 7) (v := ?_) (a' := ?_) #[true, true, true, true, true, true, true, true, true, true, false, false] rfl rfl (any_of HT_.out (by kernel_rfl)) (fun _ _ _ h => h) (Or.inl ⟨by rfl, ?_⟩) ?_ ?_
    rotate_left
    · intro w'
      go_simp
      with_reducible rfl
    rotate_left
    · simp only [Act.put, List.setIfInBounds_toArray, List.set_cons_zero, List.set_cons_succ, i64_w, i32_w]
      rfl
    refine pure_ (i := 10) (N := some 8) (v := ?_) (a' := ?_) #[true, true, true, true, true, true, true, true, true, true, true, false] rfl rfl (any_of HT_.out (by kernel_rfl)) (fun _ _ _ h => h) (Or.inl ⟨by rfl, ?_⟩) ?_ ?_
    rotate_left
    · intro w'
      go_simp
      with_reducible rfl
    rotate_left
    · simp only [Act.put, List.setIfInBounds_toArray, List.set_cons_zero, List.set_cons_succ, i64_w, i32_w]
      rfl
    refine pure_ (i := 11) (N := some 9) (v := ?_) (a' := ?_) #[true, true, true, true, true, true, true, true, true, true, true, true] rfl rfl (any_of HT_.out (by kernel_rfl)) (fun _ _ _ h => h) (Or.inl ⟨by rfl, ?_⟩) ?_ ?_
    rotate_left
    · intro w'
      go_simp
      with_reducible rfl
    rotate_left
    · simp only [Act.put, List.setIfInBounds_toArray, List.set_cons_zero, List.set_cons_succ, i64_w, i32_w]
      rfl
    refine done_ (done_of HT_.out (by kernel_rfl)) ?_
    try go_wp2_with (first | ((with_reducible refine gate_callee (f := 9) rfl ?_); refine goesL_ (some 19) rfl rfl Tryd.func9 (by kernel_rfl) rfl #[] rfl (by (try simp only [List.map_toArray, List.map_cons, List.map_nil]); first | done | rfl | (simp only [List.length_drop, List.length_take]; rfl)) ?_; (with_reducible refine (lintellaw01_awake.calls k  true _ ?side1 A7.out).mono ?_); (case side1 => exact Glob_below HG.out (by repeat (first | (with_reducible first | exact HB.out | apply below_alloc | apply pw_below_drewN | apply below_drew1 | refine below_set ?_ GE131.out | refine below_set ?_ GE132.out | refine below_set ?_ GE133.out) | exact HB.out))); rintro e w88 ⟨rfl, hb⟩; refine ⟨_, rfl, ?_⟩; have n0_ := Aside0.mk (blk_below (g := gb131) (o := .cells #[.int .i64 a0_0, .int .i64 a0_1, .string a0_2] 23 (0, 0)) (by (with_reducible repeat (first | refine blk_drewN ?_ _ | refine blk_drew ?_ | refine blk_alloc ?_ _)); exact BK131.out) hb); have n1_ := Aside0.mk (blk_below (g := gb132) (o := .cells #[.int .i64 a1_0, .int .i64 a1_1, .string a1_2] 23 (0, 0)) (by (with_reducible repeat (first | refine blk_drewN ?_ _ | refine blk_drew ?_ | refine blk_alloc ?_ _)); exact BK132.out) hb); have n2_ := Aside0.mk (blk_below (g := gb133) (o := .cells #[.int .i64 a2_0, .int .i64 a2_1, .string a2_2] 23 (0, 0)) (by (with_reducible repeat (first | refine blk_drewN ?_ _ | refine blk_drew ?_ | refine blk_alloc ?_ _)); exact BK133.out) hb); have n3_ := Aside0.mk (below_step (by repeat (first | (with_reducible first | exact HB.out | apply below_alloc | apply pw_below_drewN | apply below_drew1 | refine below_set ?_ GE131.out | refine below_set ?_ GE132.out | refine below_set ?_ GE133.out) | exact HB.out)) hb); clear BK131; clear BK132; clear BK133; clear HB; have BK131 := n0_; have BK132 := n1_; have BK133 := n2_; have HB := n3_; clear n0_ n1_ n2_ n3_; (try clear hb); (try clear hb2); (try clear hk); (try clear hi); have hnb89 := NB132_131.out; have hnc89 := NB131_132.out; have hnb90 := NB132_133.out; have hnc90 := NB133_132.out; have hcz91_0 : w88.cell? ⟨gb132, 0, none⟩ = some (.int .i64 a1_0) := (blk_cell BK132.out 0).trans rfl; have hcz91_1 : w88.cell? ⟨gb132, 1, none⟩ = some (.int .i64 a1_1) := (blk_cell BK132.out 1).trans rfl; have hcz91_2 : w88.cell? ⟨gb132, 2, none⟩ = some (.string a1_2) := (blk_cell BK132.out 2).trans rfl; have hfz91_0 := blk_frozen BK132.out 0; have hfz91_1 := blk_frozen BK132.out 1; have hfz91_2 := blk_frozen BK132.out 2; have hnb92 := NB131_133.out; have hnc92 := NB133_131.out; have hcz93_0 : w88.cell? ⟨gb131, 0, none⟩ = some (.int .i64 a0_0) := (blk_cell BK131.out 0).trans rfl; have hcz93_1 : w88.cell? ⟨gb131, 1, none⟩ = some (.int .i64 a0_1) := (blk_cell BK131.out 1).trans rfl; have hcz93_2 : w88.cell? ⟨gb131, 2, none⟩ = some (.string a0_2) := (blk_cell BK131.out 2).trans rfl; have hfz93_0 := blk_frozen BK131.out 0; have hfz93_1 := blk_frozen BK131.out 1; have hfz93_2 := blk_frozen BK131.out 2) | (go_at_call 12; (with_reducible refine (value_Compare.calls k a1_0 a1_1 a1_2 a0_0 a0_1 a0_2 t138 _ A9.out).mono ?_); rintro e w94 ⟨rfl, hb⟩; have n0_ := Aside0.mk (blk_below (g := gb131) (o := .cells #[.int .i64 a0_0, .int .i64 a0_1, .string a0_2] 23 (0, 0)) (by (with_reducible repeat (first | refine blk_drewN ?_ _ | refine blk_drew ?_ | refine blk_alloc ?_ _)); exact BK131.out) hb); have n1_ := Aside0.mk (blk_below (g := gb132) (o := .cells #[.int .i64 a1_0, .int .i64 a1_1, .string a1_2] 23 (0, 0)) (by (with_reducible repeat (first | refine blk_drewN ?_ _ | refine blk_drew ?_ | refine blk_alloc ?_ _)); exact BK132.out) hb); have n2_ := Aside0.mk (blk_below (g := gb133) (o := .cells #[.int .i64 a2_0, .int .i64 a2_1, .string a2_2] 23 (0, 0)) (by (with_reducible repeat (first | refine blk_drewN ?_ _ | refine blk_drew ?_ | refine blk_alloc ?_ _)); exact BK133.out) hb); have n3_ := Aside0.mk (below_step (by repeat (first | (with_reducible first | exact HB.out | apply below_alloc | apply pw_below_drewN | apply below_drew1 | refine below_set ?_ GE131.out | refine below_set ?_ GE132.out | refine below_set ?_ GE133.out) | exact HB.out)) hb); clear BK131; clear BK132; clear BK133; clear HB; have BK131 := n0_; have BK132 := n1_; have BK133 := n2_; have HB := n3_; clear n0_ n1_ n2_ n3_; (try clear hb); (try clear hb2); (try clear hk); (try clear hi); have hcz95_0 : w94.cell? ⟨gb131, 0, none⟩ = some (.int .i64 a0_0) := (blk_cell BK131.out 0).trans rfl; have hcz95_1 : w94.cell? ⟨gb131, 1, none⟩ = some (.int .i64 a0_1) := (blk_cell BK131.out 1).trans rfl; have hcz95_2 : w94.cell? ⟨gb131, 2, none⟩ = some (.string a0_2) := (blk_cell BK131.out 2).trans rfl; have hfz95_0 := blk_frozen BK131.out 0; have hfz95_1 := blk_frozen BK131.out 1; have hfz95_2 := blk_frozen BK131.out 2; have hcz96_0 : w94.cell? ⟨gb132, 0, none⟩ = some (.int .i64 a1_0) := (blk_cell BK132.out 0).trans rfl; have hcz96_1 : w94.cell? ⟨gb132, 1, none⟩ = some (.int .i64 a1_1) := (blk_cell BK132.out 1).trans rfl; have hcz96_2 : w94.cell? ⟨gb132, 2, none⟩ = some (.string a1_2) := (blk_cell BK132.out 2).trans rfl; have hfz96_0 := blk_frozen BK132.out 0; have hfz96_1 := blk_frozen BK132.out 1; have hfz96_2 := blk_frozen BK132.out 2))
    go_ret
    exact ⟨by first | rfl | (simp [errW_none, errW_some] <;> rfl) | (simp [*, errW_none, errW_some] <;> rfl), by repeat (first | (with_reducible first | exact HB.out | apply below_alloc | apply pw_below_drewN | apply below_drew1 | refine below_set ?_ GE131.out | refine below_set ?_ GE132.out | refine below_set ?_ GE133.out) | exact HB.out)⟩)

theorem order_calls (a b : Int) (s : ByteArray) (d e : Int) (t : ByteArray) (x y : Int) (u : ByteArray) (w : World) (hG : Glob w) :
    Calls Tryd.prog 8 #[.agg #[.int .i64 a, .int .i64 b, .string s], .agg #[.int .i64 d, .int .i64 e, .string t], .agg #[.int .i64 x, .int .i64 y, .string u]] w fun r w' => r = .returned (.bool true) ∧ Below w.heap.size w w' := by
  obtain ⟨K0, h0⟩ := awake_ev
  obtain ⟨K1, h1⟩ := Compare_ev a b s d e t
  obtain ⟨K2, h2⟩ := Compare_ev d e t x y u
  obtain ⟨K3, h3⟩ := Compare_ev a b s x y u
  obtain ⟨K4, h4⟩ := Compare_ev d e t a b s
  have l1 := cmpV_le a b s.data.toList d e t.data.toList
  have z1 := cmpV_zero a b s.data.toList d e t.data.toList
  have n1 := cmpV_neg a b s.data.toList d e t.data.toList
  have n2 := cmpV_neg d e t.data.toList x y u.data.toList
  have n3 := cmpV_neg a b s.data.toList x y u.data.toList
  have t1 := cmpV_trans a b s.data.toList d e t.data.toList x y u.data.toList
  have t2 := cmpV_trans x y u.data.toList d e t.data.toList a b s.data.toList
  rw [n1, n2, n3] at t2
  rw [n1] at h4
  generalize cmpV a b s.data.toList d e t.data.toList = X at *
  generalize cmpV d e t.data.toList x y u.data.toList = Y at *
  generalize cmpV a b s.data.toList x y u.data.toList = Z at *
  have hst : (s.toList == t.toList) = decide (s.data.toList = t.data.toList) := by simp only [ByteArray.toList_eq]; exact Bool.eq_iff_iff.mpr (by simp)
  refine order_walk (K0 + K1 + K2 + K3 + K4) a b s d e t x y u X Y Z (-X) w hG (h1 _ (by omega)) (h2 _ (by omega)) (h3 _ (by omega)) (h0 _ (by omega)) (h4 _ (by omega)) ?_ ?_ ?_ ?_ (decide (0 < X)) (decide (0 < Y)) (decide (Z ≤ 0)) (decide (X < 0)) (decide (Y < 0)) (decide (0 ≤ Z)) rfl rfl rfl rfl rfl rfl ?_ ?_ ?_ ?_ ?_
  · unfold wrap64; omega
  · rw [hst]
    by_cases hX : X = 0
    · obtain ⟨q1, q2, q3⟩ := z1.mp hX
      simp [hX, q1, q2, q3]
    · have hq : ¬ (a = d ∧ b = e ∧ s.data.toList = t.data.toList) := fun q => hX (z1.mpr q)
      rw [show (X == 0) = false by simpa using hX]
      by_cases q1 : a = d
      · by_cases q2 : b = e
        · have q3 : ¬ s.data.toList = t.data.toList := fun q3 => hq ⟨q1, q2, q3⟩
          simp [q3]
        · simp [q2]
      · simp [q1]
  · exact decide_eq_false (by omega)
  · exact decide_eq_false (by omega)
  · simp only [Prod.mk.injEq, decide_eq_true_eq, decide_eq_false_iff_not]; omega
  · simp only [Prod.mk.injEq, decide_eq_true_eq, decide_eq_false_iff_not]; omega
  · simp only [Prod.mk.injEq, decide_eq_true_eq, decide_eq_false_iff_not]; omega
  · simp only [Bool.or_eq_true, decide_eq_true_eq]
    by_cases g : 0 < X
    · exact .inl (.inl g)
    · by_cases g' : 0 < Y
      · exact .inl (.inr g')
      · exact .inr (t1 (by omega) (by omega))
  · simp only [Bool.or_eq_true, decide_eq_true_eq]
    by_cases g : X < 0
    · exact .inl (.inl g)
    · by_cases g' : Y < 0
      · exact .inl (.inr g')
      · exact .inr (by have := t2 (by omega) (by omega); omega)
end Go.Proofs.YtiackolnleeffaaDoor.P
