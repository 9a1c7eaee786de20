-- written by a program of this session (patchprint.py over the kit's print)
import Derived.Test.YtiackolnleeffaaDoorPx0
namespace Go.Proofs.YtiackolnleeffaaDoor.P
open Go.RowKit Go.Proofs.YtiackolnleeffaaDoorW.PrintWords Go.Proofs.YtiackolnleeffaaDoorW.PrintLast Go.Proofs.YtiackolnleeffaaDoorW.PrintMore
attribute [local go_sem] max2_int min2_int max_two min_two max_three min_three max_four min_four   -- for this text's walks alone
set_option linter.unusedVariables false
set_option linter.unusedSimpArgs false

/-! ### value_Check: function 10 -/
def value_Check.f (a0_0 : Int) (a0_1 : Int) (a0_2 : ByteArray) : Option (Int) := if a0_0 = 0 then (if a0_1 = 0 then (if (a0_2.toList = ([] : List UInt8)) then (some 0) else (some 10)) else (some 10)) else (if a0_0 = 1 then (if (a0_2.toList = ([] : List UInt8)) then (some 0) else (some 10)) else (if a0_0 = 2 then (if a0_1 = 0 then (if ((a0_2.size : Int) ≤ 64) then (some 0) else (some 10)) else (some 10)) else (some 10)))
set_option maxHeartbeats 8000000 in
set_option maxRecDepth 100000 in
theorem value_Check.calls (a0_0 : Int) (a0_1 : Int) (a0_2 : ByteArray) (r : Int) (w : World) (h : value_Check.f a0_0 a0_1 a0_2 = some r) :
    Calls Tryd.prog 10 #[.agg #[.int .i64 a0_0, .int .i64 a0_1, .string a0_2]] w fun e w' => e = .returned (.int .i64 r) ∧ Below w.heap.size w w' := by
  have hu23 := Tryd.underlying23
  have HB := Aside0.mk (Below.refl w.heap.size w)
  have H : (if a0_0 = 0 then (if a0_1 = 0 then (if (a0_2.toList = ([] : List UInt8)) then (some 0) else (some 10)) else (some 10)) else (if a0_0 = 1 then (if (a0_2.toList = ([] : List UInt8)) then (some 0) else (some 10)) else (if a0_0 = 2 then (if a0_1 = 0 then (if ((a0_2.size : Int) ≤ 64) then (some 0) else (some 10)) else (some 10)) else (some 10)))) = some r := h
  clear h
  by_cases c2 : a0_0 = 0
  · rw [if_pos c2] at H
    have c2b0 : (a0_0 == 0) = true := beq_iff_eq.mpr c2
    have c2b1 : (a0_0 != 0) = false := bne_eq_false_iff_eq.mpr c2
    clear c2
    by_cases c3 : a0_1 = 0
    · rw [if_pos c3] at H
      have c3b0 : (a0_1 == 0) = true := beq_iff_eq.mpr c3
      have c3b1 : (a0_1 != 0) = false := bne_eq_false_iff_eq.mpr c3
      clear c3
      by_cases c4 : (a0_2.toList = ([] : List UInt8))
      · rw [if_pos c4] at H
        have c4b0 : (a0_2.toList == ([] : List UInt8)) = true := beq_iff_eq.mpr c4
        have c4b1 : (a0_2.toList != ([] : List UInt8)) = false := bne_eq_false_iff_eq.mpr c4
        clear c4
        obtain rfl := Option.some.inj H
        go_enter Tryd.func10, Tryd.ntmps10
        go_wp2_with (first | ((with_reducible refine gate_dst (N := 1) rfl ?_); (try (refine gate_guard (by rfl) ?_; dsimp only)); refine box_event ?hg (N := 1) ?hd (cs := #[.int .i64 a0_0, .int .i64 a0_1, .string a0_2]) (t := 23) ?hr ?_; (case hd => rfl); (case hg => rfl); (case hr => first | (go_simp; done) | (go_simp; rfl)); intro gb101 hg w5 hbox hb; have n0_ := Aside0.mk (below_step (by repeat (first | (with_reducible first | exact HB.out | apply below_alloc | apply pw_below_drewN | apply below_drew1) | exact HB.out)) hb); have n1_ := Aside0.mk (hbox); have n2_ := Aside0.mk ((by rw [hg]; exact (below_size (by repeat (first | (with_reducible first | exact HB.out | apply below_alloc | apply pw_below_drewN | apply below_drew1) | exact HB.out))) : w.heap.size ≤ gb101)); have n3_ := Aside0.mk ((by rw [hg]; exact (below_size (by repeat (first | (with_reducible first | exact HB.out | apply below_alloc | apply pw_below_drewN | apply below_drew1) | exact HB.out))) : w.heap.size ≤ gb101)); clear HB; have HB := n0_; have BK101 := n1_; have GW101 := n2_; have GE101 := n3_; clear n0_ n1_ n2_ n3_; clear hb hbox hg; have hcz6_0 : w5.cell? ⟨gb101, 0, none⟩ = some (.int .i64 a0_0) := (blk_cell BK101.out 0).trans rfl; have hcz6_1 : w5.cell? ⟨gb101, 1, none⟩ = some (.int .i64 a0_1) := (blk_cell BK101.out 1).trans rfl; have hcz6_2 : w5.cell? ⟨gb101, 2, none⟩ = some (.string a0_2) := (blk_cell BK101.out 2).trans rfl; have hfz6_0 := blk_frozen BK101.out 0; have hfz6_1 := blk_frozen BK101.out 1; have hfz6_2 := blk_frozen BK101.out 2))
        go_ret
        exact ⟨by first | rfl | (simp [errW_none, errW_some] <;> rfl) | (simp [*, errW_none, errW_some] <;> rfl), by repeat (first | (with_reducible first | exact HB.out | apply below_alloc | apply pw_below_drewN | apply below_drew1 | refine below_set ?_ GE101.out) | exact HB.out)⟩
      · rw [if_neg c4] at H
        have c4b0 : (a0_2.toList == ([] : List UInt8)) = false := beq_eq_false_iff_ne.mpr c4
        have c4b1 : (a0_2.toList != ([] : List UInt8)) = true := bne_iff_ne.mpr c4
        obtain rfl := Option.some.inj H
        go_enter Tryd.func10, Tryd.ntmps10
        go_wp2_with (first | ((with_reducible refine gate_dst (N := 1) rfl ?_); (try (refine gate_guard (by rfl) ?_; dsimp only)); refine box_event ?hg (N := 1) ?hd (cs := #[.int .i64 a0_0, .int .i64 a0_1, .string a0_2]) (t := 23) ?hr ?_; (case hd => rfl); (case hg => rfl); (case hr => first | (go_simp; done) | (go_simp; rfl)); intro gb101 hg w7 hbox hb; have n0_ := Aside0.mk (below_step (by repeat (first | (with_reducible first | exact HB.out | apply below_alloc | apply pw_below_drewN | apply below_drew1) | exact HB.out)) hb); have n1_ := Aside0.mk (hbox); have n2_ := Aside0.mk ((by rw [hg]; exact (below_size (by repeat (first | (with_reducible first | exact HB.out | apply below_alloc | apply pw_below_drewN | apply below_drew1) | exact HB.out))) : w.heap.size ≤ gb101)); have n3_ := Aside0.mk ((by rw [hg]; exact (below_size (by repeat (first | (with_reducible first | exact HB.out | apply below_alloc | apply pw_below_drewN | apply below_drew1) | exact HB.out))) : w.heap.size ≤ gb101)); clear HB; have HB := n0_; have BK101 := n1_; have GW101 := n2_; have GE101 := n3_; clear n0_ n1_ n2_ n3_; clear hb hbox hg; have hcz8_0 : w7.cell? ⟨gb101, 0, none⟩ = some (.int .i64 a0_0) := (blk_cell BK101.out 0).trans rfl; have hcz8_1 : w7.cell? ⟨gb101, 1, none⟩ = some (.int .i64 a0_1) := (blk_cell BK101.out 1).trans rfl; have hcz8_2 : w7.cell? ⟨gb101, 2, none⟩ = some (.string a0_2) := (blk_cell BK101.out 2).trans rfl; have hfz8_0 := blk_frozen BK101.out 0; have hfz8_1 := blk_frozen BK101.out 1; have hfz8_2 := blk_frozen BK101.out 2))
        go_ret
        exact ⟨by first | rfl | (simp [errW_none, errW_some] <;> rfl) | (simp [*, errW_none, errW_some] <;> rfl), by repeat (first | (with_reducible first | exact HB.out | apply below_alloc | apply pw_below_drewN | apply below_drew1 | refine below_set ?_ GE101.out) | exact HB.out)⟩
    · rw [if_neg c3] at H
      have c3b0 : (a0_1 == 0) = false := beq_eq_false_iff_ne.mpr c3
      have c3b1 : (a0_1 != 0) = true := bne_iff_ne.mpr c3
      obtain rfl := Option.some.inj H
      go_enter Tryd.func10, Tryd.ntmps10
      go_wp2_with (first | ((with_reducible refine gate_dst (N := 1) rfl ?_); (try (refine gate_guard (by rfl) ?_; dsimp only)); refine box_event ?hg (N := 1) ?hd (cs := #[.int .i64 a0_0, .int .i64 a0_1, .string a0_2]) (t := 23) ?hr ?_; (case hd => rfl); (case hg => rfl); (case hr => first | (go_simp; done) | (go_simp; rfl)); intro gb101 hg w9 hbox hb; have n0_ := Aside0.mk (below_step (by repeat (first | (with_reducible first | exact HB.out | apply below_alloc | apply pw_below_drewN | apply below_drew1) | exact HB.out)) hb); have n1_ := Aside0.mk (hbox); have n2_ := Aside0.mk ((by rw [hg]; exact (below_size (by repeat (first | (with_reducible first | exact HB.out | apply below_alloc | apply pw_below_drewN | apply below_drew1) | exact HB.out))) : w.heap.size ≤ gb101)); have n3_ := Aside0.mk ((by rw [hg]; exact (below_size (by repeat (first | (with_reducible first | exact HB.out | apply below_alloc | apply pw_below_drewN | apply below_drew1) | exact HB.out))) : w.heap.size ≤ gb101)); clear HB; have HB := n0_; have BK101 := n1_; have GW101 := n2_; have GE101 := n3_; clear n0_ n1_ n2_ n3_; clear hb hbox hg; have hcz10_0 : w9.cell? ⟨gb101, 0, none⟩ = some (.int .i64 a0_0) := (blk_cell BK101.out 0).trans rfl; have hcz10_1 : w9.cell? ⟨gb101, 1, none⟩ = some (.int .i64 a0_1) := (blk_cell BK101.out 1).trans rfl; have hcz10_2 : w9.cell? ⟨gb101, 2, none⟩ = some (.string a0_2) := (blk_cell BK101.out 2).trans rfl; have hfz10_0 := blk_frozen BK101.out 0; have hfz10_1 := blk_frozen BK101.out 1; have hfz10_2 := blk_frozen BK101.out 2))
      go_ret
      exact ⟨by first | rfl | (simp [errW_none, errW_some] <;> rfl) | (simp [*, errW_none, errW_some] <;> rfl), by repeat (first | (with_reducible first | exact HB.out | apply below_alloc | apply pw_below_drewN | apply below_drew1 | refine below_set ?_ GE101.out) | exact HB.out)⟩
  · rw [if_neg c2] at H
    have c2b0 : (a0_0 == 0) = false := beq_eq_false_iff_ne.mpr c2
    have c2b1 : (a0_0 != 0) = true := bne_iff_ne.mpr c2
    by_cases c11 : a0_0 = 1
    · rw [if_pos c11] at H
      have c11b0 : (a0_0 == 1) = true := beq_iff_eq.mpr c11
      have c11b1 : (a0_0 != 1) = false := bne_eq_false_iff_eq.mpr c11
      clear c11
      by_cases c12 : (a0_2.toList = ([] : List UInt8))
      · rw [if_pos c12] at H
        have c12b0 : (a0_2.toList == ([] : List UInt8)) = true := beq_iff_eq.mpr c12
        have c12b1 : (a0_2.toList != ([] : List UInt8)) = false := bne_eq_false_iff_eq.mpr c12
        clear c12
        obtain rfl := Option.some.inj H
        go_enter Tryd.func10, Tryd.ntmps10
        go_wp2_with (first | ((with_reducible refine gate_dst (N := 1) rfl ?_); (try (refine gate_guard (by rfl) ?_; dsimp only)); refine box_event ?hg (N := 1) ?hd (cs := #[.int .i64 a0_0, .int .i64 a0_1, .string a0_2]) (t := 23) ?hr ?_; (case hd => rfl); (case hg => rfl); (case hr => first | (go_simp; done) | (go_simp; rfl)); intro gb101 hg w13 hbox hb; have n0_ := Aside0.mk (below_step (by repeat (first | (with_reducible first | exact HB.out | apply below_alloc | apply pw_below_drewN | apply below_drew1) | exact HB.out)) hb); have n1_ := Aside0.mk (hbox); have n2_ := Aside0.mk ((by rw [hg]; exact (below_size (by repeat (first | (with_reducible first | exact HB.out | apply below_alloc | apply pw_below_drewN | apply below_drew1) | exact HB.out))) : w.heap.size ≤ gb101)); have n3_ := Aside0.mk ((by rw [hg]; exact (below_size (by repeat (first | (with_reducible first | exact HB.out | apply below_alloc | apply pw_below_drewN | apply below_drew1) | exact HB.out))) : w.heap.size ≤ gb101)); clear HB; have HB := n0_; have BK101 := n1_; have GW101 := n2_; have GE101 := n3_; clear n0_ n1_ n2_ n3_; clear hb hbox hg; have hcz14_0 : w13.cell? ⟨gb101, 0, none⟩ = some (.int .i64 a0_0) := (blk_cell BK101.out 0).trans rfl; have hcz14_1 : w13.cell? ⟨gb101, 1, none⟩ = some (.int .i64 a0_1) := (blk_cell BK101.out 1).trans rfl; have hcz14_2 : w13.cell? ⟨gb101, 2, none⟩ = some (.string a0_2) := (blk_cell BK101.out 2).trans rfl; have hfz14_0 := blk_frozen BK101.out 0; have hfz14_1 := blk_frozen BK101.out 1; have hfz14_2 := blk_frozen BK101.out 2))
        go_ret
        exact ⟨by first | rfl | (simp [errW_none, errW_some] <;> rfl) | (simp [*, errW_none, errW_some] <;> rfl), by repeat (first | (with_reducible first | exact HB.out | apply below_alloc | apply pw_below_drewN | apply below_drew1 | refine below_set ?_ GE101.out) | exact HB.out)⟩
      · rw [if_neg c12] at H
        have c12b0 : (a0_2.toList == ([] : List UInt8)) = false := beq_eq_false_iff_ne.mpr c12
        have c12b1 : (a0_2.toList != ([] : List UInt8)) = true := bne_iff_ne.mpr c12
        obtain rfl := Option.some.inj H
        go_enter Tryd.func10, Tryd.ntmps10
        go_wp2_with (first | ((with_reducible refine gate_dst (N := 1) rfl ?_); (try (refine gate_guard (by rfl) ?_; dsimp only)); refine box_event ?hg (N := 1) ?hd (cs := #[.int .i64 a0_0, .int .i64 a0_1, .string a0_2]) (t := 23) ?hr ?_; (case hd => rfl); (case hg => rfl); (case hr => first | (go_simp; done) | (go_simp; rfl)); intro gb101 hg w15 hbox hb; have n0_ := Aside0.mk (below_step (by repeat (first | (with_reducible first | exact HB.out | apply below_alloc | apply pw_below_drewN | apply below_drew1) | exact HB.out)) hb); have n1_ := Aside0.mk (hbox); have n2_ := Aside0.mk ((by rw [hg]; exact (below_size (by repeat (first | (with_reducible first | exact HB.out | apply below_alloc | apply pw_below_drewN | apply below_drew1) | exact HB.out))) : w.heap.size ≤ gb101)); have n3_ := Aside0.mk ((by rw [hg]; exact (below_size (by repeat (first | (with_reducible first | exact HB.out | apply below_alloc | apply pw_below_drewN | apply below_drew1) | exact HB.out))) : w.heap.size ≤ gb101)); clear HB; have HB := n0_; have BK101 := n1_; have GW101 := n2_; have GE101 := n3_; clear n0_ n1_ n2_ n3_; clear hb hbox hg; have hcz16_0 : w15.cell? ⟨gb101, 0, none⟩ = some (.int .i64 a0_0) := (blk_cell BK101.out 0).trans rfl; have hcz16_1 : w15.cell? ⟨gb101, 1, none⟩ = some (.int .i64 a0_1) := (blk_cell BK101.out 1).trans rfl; have hcz16_2 : w15.cell? ⟨gb101, 2, none⟩ = some (.string a0_2) := (blk_cell BK101.out 2).trans rfl; have hfz16_0 := blk_frozen BK101.out 0; have hfz16_1 := blk_frozen BK101.out 1; have hfz16_2 := blk_frozen BK101.out 2))
        go_ret
        exact ⟨by first | rfl | (simp [errW_none, errW_some] <;> rfl) | (simp [*, errW_none, errW_some] <;> rfl), by repeat (first | (with_reducible first | exact HB.out | apply below_alloc | apply pw_below_drewN | apply below_drew1 | refine below_set ?_ GE101.out) | exact HB.out)⟩
    · rw [if_neg c11] at H
      have c11b0 : (a0_0 == 1) = false := beq_eq_false_iff_ne.mpr c11
      have c11b1 : (a0_0 != 1) = true := bne_iff_ne.mpr c11
      by_cases c17 : a0_0 = 2
      · rw [if_pos c17] at H
        have c17b0 : (a0_0 == 2) = true := beq_iff_eq.mpr c17
        have c17b1 : (a0_0 != 2) = false := bne_eq_false_iff_eq.mpr c17
        clear c17
        by_cases c18 : a0_1 = 0
        · rw [if_pos c18] at H
          have c18b0 : (a0_1 == 0) = true := beq_iff_eq.mpr c18
          have c18b1 : (a0_1 != 0) = false := bne_eq_false_iff_eq.mpr c18
          clear c18
          by_cases c19 : ((a0_2.size : Int) ≤ 64)
          · rw [if_pos c19] at H
            have c19b0 : decide ((a0_2.size : Int) ≤ 64) = true := decide_eq_true c19
            have c19b1 : decide (a0_2.size ≤ 64) = true := decide_eq_true (by omega)
            clear c19
            obtain rfl := Option.some.inj H
            go_enter Tryd.func10, Tryd.ntmps10
            go_wp2_with (first | ((with_reducible refine gate_dst (N := 1) rfl ?_); (try (refine gate_guard (by rfl) ?_; dsimp only)); refine box_event ?hg (N := 1) ?hd (cs := #[.int .i64 a0_0, .int .i64 a0_1, .string a0_2]) (t := 23) ?hr ?_; (case hd => rfl); (case hg => rfl); (case hr => first | (go_simp; done) | (go_simp; rfl)); intro gb101 hg w20 hbox hb; have n0_ := Aside0.mk (below_step (by repeat (first | (with_reducible first | exact HB.out | apply below_alloc | apply pw_below_drewN | apply below_drew1) | exact HB.out)) hb); have n1_ := Aside0.mk (hbox); have n2_ := Aside0.mk ((by rw [hg]; exact (below_size (by repeat (first | (with_reducible first | exact HB.out | apply below_alloc | apply pw_below_drewN | apply below_drew1) | exact HB.out))) : w.heap.size ≤ gb101)); have n3_ := Aside0.mk ((by rw [hg]; exact (below_size (by repeat (first | (with_reducible first | exact HB.out | apply below_alloc | apply pw_below_drewN | apply below_drew1) | exact HB.out))) : w.heap.size ≤ gb101)); clear HB; have HB := n0_; have BK101 := n1_; have GW101 := n2_; have GE101 := n3_; clear n0_ n1_ n2_ n3_; clear hb hbox hg; have hcz21_0 : w20.cell? ⟨gb101, 0, none⟩ = some (.int .i64 a0_0) := (blk_cell BK101.out 0).trans rfl; have hcz21_1 : w20.cell? ⟨gb101, 1, none⟩ = some (.int .i64 a0_1) := (blk_cell BK101.out 1).trans rfl; have hcz21_2 : w20.cell? ⟨gb101, 2, none⟩ = some (.string a0_2) := (blk_cell BK101.out 2).trans rfl; have hfz21_0 := blk_frozen BK101.out 0; have hfz21_1 := blk_frozen BK101.out 1; have hfz21_2 := blk_frozen BK101.out 2))
            go_ret
            exact ⟨by first | rfl | (simp [errW_none, errW_some] <;> rfl) | (simp [*, errW_none, errW_some] <;> rfl), by repeat (first | (with_reducible first | exact HB.out | apply below_alloc | apply pw_below_drewN | apply below_drew1 | refine below_set ?_ GE101.out) | exact HB.out)⟩
          · rw [if_neg c19] at H
            have c19b0 : decide ((a0_2.size : Int) ≤ 64) = false := decide_eq_false c19
            have c19b1 : decide (a0_2.size ≤ 64) = false := decide_eq_false (by omega)
            clear c19
            obtain rfl := Option.some.inj H
            go_enter Tryd.func10, Tryd.ntmps10
            go_wp2_with (first | ((with_reducible refine gate_dst (N := 1) rfl ?_); (try (refine gate_guard (by rfl) ?_; dsimp only)); refine box_event ?hg (N := 1) ?hd (cs := #[.int .i64 a0_0, .int .i64 a0_1, .string a0_2]) (t := 23) ?hr ?_; (case hd => rfl); (case hg => rfl); (case hr => first | (go_simp; done) | (go_simp; rfl)); intro gb101 hg w22 hbox hb; have n0_ := Aside0.mk (below_step (by repeat (first | (with_reducible first | exact HB.out | apply below_alloc | apply pw_below_drewN | apply below_drew1) | exact HB.out)) hb); have n1_ := Aside0.mk (hbox); have n2_ := Aside0.mk ((by rw [hg]; exact (below_size (by repeat (first | (with_reducible first | exact HB.out | apply below_alloc | apply pw_below_drewN | apply below_drew1) | exact HB.out))) : w.heap.size ≤ gb101)); have n3_ := Aside0.mk ((by rw [hg]; exact (below_size (by repeat (first | (with_reducible first | exact HB.out | apply below_alloc | apply pw_below_drewN | apply below_drew1) | exact HB.out))) : w.heap.size ≤ gb101)); clear HB; have HB := n0_; have BK101 := n1_; have GW101 := n2_; have GE101 := n3_; clear n0_ n1_ n2_ n3_; clear hb hbox hg; have hcz23_0 : w22.cell? ⟨gb101, 0, none⟩ = some (.int .i64 a0_0) := (blk_cell BK101.out 0).trans rfl; have hcz23_1 : w22.cell? ⟨gb101, 1, none⟩ = some (.int .i64 a0_1) := (blk_cell BK101.out 1).trans rfl; have hcz23_2 : w22.cell? ⟨gb101, 2, none⟩ = some (.string a0_2) := (blk_cell BK101.out 2).trans rfl; have hfz23_0 := blk_frozen BK101.out 0; have hfz23_1 := blk_frozen BK101.out 1; have hfz23_2 := blk_frozen BK101.out 2))
            go_ret
            exact ⟨by first | rfl | (simp [errW_none, errW_some] <;> rfl) | (simp [*, errW_none, errW_some] <;> rfl), by repeat (first | (with_reducible first | exact HB.out | apply below_alloc | apply pw_below_drewN | apply below_drew1 | refine below_set ?_ GE101.out) | exact HB.out)⟩
        · rw [if_neg c18] at H
          have c18b0 : (a0_1 == 0) = false := beq_eq_false_iff_ne.mpr c18
          have c18b1 : (a0_1 != 0) = true := bne_iff_ne.mpr c18
          obtain rfl := Option.some.inj H
          go_enter Tryd.func10, Tryd.ntmps10
          go_wp2_with (first | ((with_reducible refine gate_dst (N := 1) rfl ?_); (try (refine gate_guard (by rfl) ?_; dsimp only)); refine box_event ?hg (N := 1) ?hd (cs := #[.int .i64 a0_0, .int .i64 a0_1, .string a0_2]) (t := 23) ?hr ?_; (case hd => rfl); (case hg => rfl); (case hr => first | (go_simp; done) | (go_simp; rfl)); intro gb101 hg w24 hbox hb; have n0_ := Aside0.mk (below_step (by repeat (first | (with_reducible first | exact HB.out | apply below_alloc | apply pw_below_drewN | apply below_drew1) | exact HB.out)) hb); have n1_ := Aside0.mk (hbox); have n2_ := Aside0.mk ((by rw [hg]; exact (below_size (by repeat (first | (with_reducible first | exact HB.out | apply below_alloc | apply pw_below_drewN | apply below_drew1) | exact HB.out))) : w.heap.size ≤ gb101)); have n3_ := Aside0.mk ((by rw [hg]; exact (below_size (by repeat (first | (with_reducible first | exact HB.out | apply below_alloc | apply pw_below_drewN | apply below_drew1) | exact HB.out))) : w.heap.size ≤ gb101)); clear HB; have HB := n0_; have BK101 := n1_; have GW101 := n2_; have GE101 := n3_; clear n0_ n1_ n2_ n3_; clear hb hbox hg; have hcz25_0 : w24.cell? ⟨gb101, 0, none⟩ = some (.int .i64 a0_0) := (blk_cell BK101.out 0).trans rfl; have hcz25_1 : w24.cell? ⟨gb101, 1, none⟩ = some (.int .i64 a0_1) := (blk_cell BK101.out 1).trans rfl; have hcz25_2 : w24.cell? ⟨gb101, 2, none⟩ = some (.string a0_2) := (blk_cell BK101.out 2).trans rfl; have hfz25_0 := blk_frozen BK101.out 0; have hfz25_1 := blk_frozen BK101.out 1; have hfz25_2 := blk_frozen BK101.out 2))
          go_ret
          exact ⟨by first | rfl | (simp [errW_none, errW_some] <;> rfl) | (simp [*, errW_none, errW_some] <;> rfl), by repeat (first | (with_reducible first | exact HB.out | apply below_alloc | apply pw_below_drewN | apply below_drew1 | refine below_set ?_ GE101.out) | exact HB.out)⟩
      · rw [if_neg c17] at H
        have c17b0 : (a0_0 == 2) = false := beq_eq_false_iff_ne.mpr c17
        have c17b1 : (a0_0 != 2) = true := bne_iff_ne.mpr c17
        obtain rfl := Option.some.inj H
        go_enter Tryd.func10, Tryd.ntmps10
        go_wp2_with (first | ((with_reducible refine gate_dst (N := 1) rfl ?_); (try (refine gate_guard (by rfl) ?_; dsimp only)); refine box_event ?hg (N := 1) ?hd (cs := #[.int .i64 a0_0, .int .i64 a0_1, .string a0_2]) (t := 23) ?hr ?_; (case hd => rfl); (case hg => rfl); (case hr => first | (go_simp; done) | (go_simp; rfl)); intro gb101 hg w26 hbox hb; have n0_ := Aside0.mk (below_step (by repeat (first | (with_reducible first | exact HB.out | apply below_alloc | apply pw_below_drewN | apply below_drew1) | exact HB.out)) hb); have n1_ := Aside0.mk (hbox); have n2_ := Aside0.mk ((by rw [hg]; exact (below_size (by repeat (first | (with_reducible first | exact HB.out | apply below_alloc | apply pw_below_drewN | apply below_drew1) | exact HB.out))) : w.heap.size ≤ gb101)); have n3_ := Aside0.mk ((by rw [hg]; exact (below_size (by repeat (first | (with_reducible first | exact HB.out | apply below_alloc | apply pw_below_drewN | apply below_drew1) | exact HB.out))) : w.heap.size ≤ gb101)); clear HB; have HB := n0_; have BK101 := n1_; have GW101 := n2_; have GE101 := n3_; clear n0_ n1_ n2_ n3_; clear hb hbox hg; have hcz27_0 : w26.cell? ⟨gb101, 0, none⟩ = some (.int .i64 a0_0) := (blk_cell BK101.out 0).trans rfl; have hcz27_1 : w26.cell? ⟨gb101, 1, none⟩ = some (.int .i64 a0_1) := (blk_cell BK101.out 1).trans rfl; have hcz27_2 : w26.cell? ⟨gb101, 2, none⟩ = some (.string a0_2) := (blk_cell BK101.out 2).trans rfl; have hfz27_0 := blk_frozen BK101.out 0; have hfz27_1 := blk_frozen BK101.out 1; have hfz27_2 := blk_frozen BK101.out 2))
        go_ret
        exact ⟨by first | rfl | (simp [errW_none, errW_some] <;> rfl) | (simp [*, errW_none, errW_some] <;> rfl), by repeat (first | (with_reducible first | exact HB.out | apply below_alloc | apply pw_below_drewN | apply below_drew1 | refine below_set ?_ GE101.out) | exact HB.out)⟩

/-! ### strconv_FormatInt: function 23 -/
def strconv_FormatInt.f (a0 : Int) (a1 : Int) : Option (ByteArray) := if a1 = 10 then (if -9223372036854775808 ≤ a0 then (if a0 ≤ 9223372036854775807 then some (⟨(Lib.itoa a0).toArray⟩ : ByteArray) else none) else none) else none
theorem strconv_FormatInt.calls (a0 : Int) (a1 : Int) (r : ByteArray) (w : World) (hG : Glob w) (h : strconv_FormatInt.f a0 a1 = some r) :
    Calls Tryd.prog 23 #[.int .i64 a0, .int .i64 a1] w fun e w' => e = .returned (.string r) ∧ Below w.heap.size w w' := by
  unfold strconv_FormatInt.f at h
  by_cases h1 : a1 = 10
  · rw [if_pos h1] at h
    by_cases h2 : -9223372036854775808 ≤ a0
    · rw [if_pos h2] at h
      by_cases h3 : a0 ≤ 9223372036854775807
      · rw [if_pos h3] at h
        obtain rfl := Option.some.inj h
        subst h1
        refine (Tryd.strconv_FormatInt_10 a0 h2 h3 w hG.tab).mono fun e w' hq => ?_
        obtain ⟨rfl, k, os, rfl⟩ := hq
        exact ⟨rfl, Glob_grow w k os⟩
      · rw [if_neg h3] at h
        exact absurd h (by simp)
    · rw [if_neg h2] at h
      exact absurd h (by simp)
  · rw [if_neg h1] at h
    exact absurd h (by simp)


/-! ### value_Print: function 14 -/
def value_Print.l0 : Nat → List Int → Int → Int → Int → Int → ByteArray → Option (ByteArray × Int)
  | 0, _, _, _, _, _, _ => none
  | k + 1, x5, x24, x25, x103000, x103001, x103002 => if x25 < x24 then (if 0 ≤ x25 then (if x25 < (x103002.size : Int) then (if x5.length < 140737488355328 then ((some (x5 ++ [bt x103002 x25] : List Int)).bind fun y108 => (if (bt x103002 x25) = 39 then (if y108.length < 140737488355328 then (value_Print.l0 k (y108 ++ [39]) x24 (wrap64 (x25 + 1)) x103000 x103001 x103002) else (none)) else (value_Print.l0 k y108 x24 (wrap64 (x25 + 1)) x103000 x103001 x103002))) else (none)) else (none)) else (none)) else (if x5.length < 140737488355328 then (some (strOfNums (x5 ++ [39]), 0)) else (none))
def value_Print.f (k : Nat) (a0_0 : Int) (a0_1 : Int) (a0_2 : ByteArray) : Option (ByteArray × Int) := (value_Check.f a0_0 a0_1 a0_2).bind fun t103 => (if t103 = 0 then (if a0_0 = 0 then (some ((⟨#[110, 117, 108, 108]⟩ : ByteArray), 0)) else (if a0_0 = 1 then ((strconv_FormatInt.f a0_1 10).bind fun t104 => (some (t104, 0))) else (value_Print.l0 k (([39] : List Int)) (a0_2.size : Int) 0 a0_0 a0_1 a0_2))) else (some ((⟨#[]⟩ : ByteArray), t103)))
theorem value_Print.mono_l : ∀ k, (∀ y0 y1 y2 y3 y4 y5, LeO (value_Print.l0 k y0 y1 y2 y3 y4 y5) (value_Print.l0 (k + 1) y0 y1 y2 y3 y4 y5))
  | 0 => fun _ _ _ _ _ _ r h => by simp [value_Print.l0] at h
  | k + 1 => by
    have ih0 := value_Print.mono_l k
    · intro y0 y1 y2 y3 y4 y5
      unfold value_Print.l0
      repeat' first
      | (with_reducible exact ih0 _ _ _ _ _ _)
      | (with_reducible exact LeO.refl _)
      | (with_reducible exact LeO.none _)
      | (with_reducible refine LeO.ite ?_ ?_)
      | (with_reducible refine LeO.bind ?_ (fun _ => ?_))
      | exact ih0 _ _ _ _ _ _
      | exact LeO.none _
      | refine LeO.ite ?_ ?_
      | refine LeO.bind ?_ (fun _ => ?_)
theorem value_Print.mono : ∀ a0 a1 a2 k, LeO (value_Print.f k a0 a1 a2) (value_Print.f (k + 1) a0 a1 a2) := by
  intro a0 a1 a2 k
  have ih0 := value_Print.mono_l k
  unfold value_Print.f
  repeat' first
      | (with_reducible exact ih0 _ _ _ _ _ _)
      | (with_reducible exact LeO.refl _)
      | (with_reducible exact LeO.none _)
      | (with_reducible refine LeO.ite ?_ ?_)
      | (with_reducible refine LeO.bind ?_ (fun _ => ?_))
      | exact ih0 _ _ _ _ _ _
      | exact LeO.none _
      | refine LeO.ite ?_ ?_
      | refine LeO.bind ?_ (fun _ => ?_)
set_option maxHeartbeats 8000000 in
set_option maxRecDepth 100000 in
theorem value_Print.calls (k : Nat) (a0_0 : Int) (a0_1 : Int) (a0_2 : ByteArray) (r1 : ByteArray) (r2 : Int) (w : World) (hG : Glob w) (h : value_Print.f k a0_0 a0_1 a0_2 = some (r1, r2)) :
    Calls Tryd.prog 14 #[.agg #[.int .i64 a0_0, .int .i64 a0_1, .string a0_2]] w fun e w' => e = .returned (.tuple #[.string r1, .int .i64 r2]) ∧ Below w.heap.size w w' := by
  have hu23 := Tryd.underlying23
  have HG := Aside0.mk hG
  clear hG
  have HB := Aside0.mk (Below.refl w.heap.size w)
  have H : ((value_Check.f a0_0 a0_1 a0_2).bind fun t103 => (if t103 = 0 then (if a0_0 = 0 then (some ((⟨#[110, 117, 108, 108]⟩ : ByteArray), 0)) else (if a0_0 = 1 then ((strconv_FormatInt.f a0_1 10).bind fun t104 => (some (t104, 0))) else (value_Print.l0 k (([39] : List Int)) (a0_2.size : Int) 0 a0_0 a0_1 a0_2))) else (some ((⟨#[]⟩ : ByteArray), t103)))) = some (r1, r2) := h
  clear h
  replace H := Option.bind_eq_some_iff.mp H
  obtain ⟨t103, A20, H⟩ := H
  replace H : (if t103 = 0 then (if a0_0 = 0 then (some ((⟨#[110, 117, 108, 108]⟩ : ByteArray), 0)) else (if a0_0 = 1 then ((strconv_FormatInt.f a0_1 10).bind fun t104 => (some (t104, 0))) else (value_Print.l0 k (([39] : List Int)) (a0_2.size : Int) 0 a0_0 a0_1 a0_2))) else (some ((⟨#[]⟩ : ByteArray), t103))) = some (r1, r2) := H
  have A2 := Aside0.mk A20
  clear A20
  by_cases c3 : t103 = 0
  · rw [if_pos c3] at H
    have c3b0 : (t103 == 0) = true := beq_iff_eq.mpr c3
    have c3b1 : (t103 != 0) = false := bne_eq_false_iff_eq.mpr c3
    clear c3
    by_cases c4 : a0_0 = 0
    · rw [if_pos c4] at H
      have c4b0 : (a0_0 == 0) = true := beq_iff_eq.mpr c4
      have c4b1 : (a0_0 != 0) = false := bne_eq_false_iff_eq.mpr c4
      clear c4
      simp only [Option.some.injEq, Prod.mk.injEq] at H
      obtain ⟨rfl, rfl⟩ := H
      go_enter Tryd.func14, Tryd.ntmps14
      go_wp2_with (first | ((with_reducible refine gate_dst (N := 1) rfl ?_); refine box_event ?hg (N := 1) ?hd (cs := #[.int .i64 a0_0, .int .i64 a0_1, .string a0_2]) (t := 23) ?hr ?_; (case hd => rfl); (case hg => rfl); (case hr => first | (go_simp; done) | (go_simp; rfl)); intro gb102 hg w5 hbox hb; have n0_ := Aside0.mk (below_step (by repeat (first | (with_reducible first | exact HB.out | apply below_alloc | apply pw_below_drewN | apply below_drew1) | exact HB.out)) hb); have n1_ := Aside0.mk (hbox); have n2_ := Aside0.mk ((by rw [hg]; exact (below_size (by repeat (first | (with_reducible first | exact HB.out | apply below_alloc | apply pw_below_drewN | apply below_drew1) | exact HB.out))) : w.heap.size ≤ gb102)); have n3_ := Aside0.mk ((by rw [hg]; exact (below_size (by repeat (first | (with_reducible first | exact HB.out | apply below_alloc | apply pw_below_drewN | apply below_drew1) | exact HB.out))) : w.heap.size ≤ gb102)); clear HB; have HB := n0_; have BK102 := n1_; have GW102 := n2_; have GE102 := n3_; clear n0_ n1_ n2_ n3_; clear hb hbox hg; have hcz6_0 : w5.cell? ⟨gb102, 0, none⟩ = some (.int .i64 a0_0) := (blk_cell BK102.out 0).trans rfl; have hcz6_1 : w5.cell? ⟨gb102, 1, none⟩ = some (.int .i64 a0_1) := (blk_cell BK102.out 1).trans rfl; have hcz6_2 : w5.cell? ⟨gb102, 2, none⟩ = some (.string a0_2) := (blk_cell BK102.out 2).trans rfl; have hfz6_0 := blk_frozen BK102.out 0; have hfz6_1 := blk_frozen BK102.out 1; have hfz6_2 := blk_frozen BK102.out 2) | ((with_reducible refine gate_callee (f := 10) rfl ?_); refine goesL_ (some 8) rfl rfl Tryd.func10 (by kernel_rfl) rfl #[.agg #[.int .i64 a0_0, .int .i64 a0_1, .string a0_2]] rfl (by (try simp only [List.map_toArray, List.map_cons, List.map_nil]); first | done | rfl | (simp only [List.length_drop, List.length_take]; rfl)) ?_; (with_reducible refine (value_Check.calls a0_0 a0_1 a0_2 t103 _ A2.out).mono ?_); rintro e w7 ⟨rfl, hb⟩; refine ⟨_, rfl, ?_⟩; have n0_ := Aside0.mk (blk_below (g := gb102) (o := .cells #[.int .i64 a0_0, .int .i64 a0_1, .string a0_2] 23 (0, 0)) (by (with_reducible repeat (first | refine blk_drewN ?_ _ | refine blk_drew ?_ | refine blk_alloc ?_ _)); exact BK102.out) hb); have n1_ := Aside0.mk (below_step (by repeat (first | (with_reducible first | exact HB.out | apply below_alloc | apply pw_below_drewN | apply below_drew1 | refine below_set ?_ GE102.out) | exact HB.out)) hb); clear BK102; clear HB; have BK102 := n0_; have HB := n1_; clear n0_ n1_; (try clear hb); (try clear hb2); (try clear hk); (try clear hi); have hcz8_0 : w7.cell? ⟨gb102, 0, none⟩ = some (.int .i64 a0_0) := (blk_cell BK102.out 0).trans rfl; have hcz8_1 : w7.cell? ⟨gb102, 1, none⟩ = some (.int .i64 a0_1) := (blk_cell BK102.out 1).trans rfl; have hcz8_2 : w7.cell? ⟨gb102, 2, none⟩ = some (.string a0_2) := (blk_cell BK102.out 2).trans rfl; have hfz8_0 := blk_frozen BK102.out 0; have hfz8_1 := blk_frozen BK102.out 1; have hfz8_2 := blk_frozen BK102.out 2))
      go_ret2
      exact ⟨by first | rfl | (simp [errW_none, errW_some] <;> rfl) | (simp [*, errW_none, errW_some] <;> rfl), by repeat (first | (with_reducible first | exact HB.out | apply below_alloc | apply pw_below_drewN | apply below_drew1 | refine below_set ?_ GE102.out) | exact HB.out)⟩
    · rw [if_neg c4] at H
      have c4b0 : (a0_0 == 0) = false := beq_eq_false_iff_ne.mpr c4
      have c4b1 : (a0_0 != 0) = true := bne_iff_ne.mpr c4
      by_cases c9 : a0_0 = 1
      · rw [if_pos c9] at H
        have c9b0 : (a0_0 == 1) = true := beq_iff_eq.mpr c9
        have c9b1 : (a0_0 != 1) = false := bne_eq_false_iff_eq.mpr c9
        clear c9
        replace H := Option.bind_eq_some_iff.mp H
        obtain ⟨t104, A100, H⟩ := H
        replace H : (some (t104, 0)) = some (r1, r2) := H
        have A10 := Aside0.mk A100
        clear A100
        simp only [Option.some.injEq, Prod.mk.injEq] at H
        obtain ⟨rfl, rfl⟩ := H
        go_enter Tryd.func14, Tryd.ntmps14
        go_wp2_with (first | ((with_reducible refine gate_dst (N := 1) rfl ?_); refine box_event ?hg (N := 1) ?hd (cs := #[.int .i64 a0_0, .int .i64 a0_1, .string a0_2]) (t := 23) ?hr ?_; (case hd => rfl); (case hg => rfl); (case hr => first | (go_simp; done) | (go_simp; rfl)); intro gb102 hg w11 hbox hb; have n0_ := Aside0.mk (below_step (by repeat (first | (with_reducible first | exact HB.out | apply below_alloc | apply pw_below_drewN | apply below_drew1) | exact HB.out)) hb); have n1_ := Aside0.mk (hbox); have n2_ := Aside0.mk ((by rw [hg]; exact (below_size (by repeat (first | (with_reducible first | exact HB.out | apply below_alloc | apply pw_below_drewN | apply below_drew1) | exact HB.out))) : w.heap.size ≤ gb102)); have n3_ := Aside0.mk ((by rw [hg]; exact (below_size (by repeat (first | (with_reducible first | exact HB.out | apply below_alloc | apply pw_below_drewN | apply below_drew1) | exact HB.out))) : w.heap.size ≤ gb102)); clear HB; have HB := n0_; have BK102 := n1_; have GW102 := n2_; have GE102 := n3_; clear n0_ n1_ n2_ n3_; clear hb hbox hg; have hcz12_0 : w11.cell? ⟨gb102, 0, none⟩ = some (.int .i64 a0_0) := (blk_cell BK102.out 0).trans rfl; have hcz12_1 : w11.cell? ⟨gb102, 1, none⟩ = some (.int .i64 a0_1) := (blk_cell BK102.out 1).trans rfl; have hcz12_2 : w11.cell? ⟨gb102, 2, none⟩ = some (.string a0_2) := (blk_cell BK102.out 2).trans rfl; have hfz12_0 := blk_frozen BK102.out 0; have hfz12_1 := blk_frozen BK102.out 1; have hfz12_2 := blk_frozen BK102.out 2) | ((with_reducible refine gate_callee (f := 10) rfl ?_); refine goesL_ (some 8) rfl rfl Tryd.func10 (by kernel_rfl) rfl #[.agg #[.int .i64 a0_0, .int .i64 a0_1, .string a0_2]] rfl (by (try simp only [List.map_toArray, List.map_cons, List.map_nil]); first | done | rfl | (simp only [List.length_drop, List.length_take]; rfl)) ?_; (with_reducible refine (value_Check.calls a0_0 a0_1 a0_2 t103 _ A2.out).mono ?_); rintro e w13 ⟨rfl, hb⟩; refine ⟨_, rfl, ?_⟩; have n0_ := Aside0.mk (blk_below (g := gb102) (o := .cells #[.int .i64 a0_0, .int .i64 a0_1, .string a0_2] 23 (0, 0)) (by (with_reducible repeat (first | refine blk_drewN ?_ _ | refine blk_drew ?_ | refine blk_alloc ?_ _)); exact BK102.out) hb); have n1_ := Aside0.mk (below_step (by repeat (first | (with_reducible first | exact HB.out | apply below_alloc | apply pw_below_drewN | apply below_drew1 | refine below_set ?_ GE102.out) | exact HB.out)) hb); clear BK102; clear HB; have BK102 := n0_; have HB := n1_; clear n0_ n1_; (try clear hb); (try clear hb2); (try clear hk); (try clear hi); have hcz14_0 : w13.cell? ⟨gb102, 0, none⟩ = some (.int .i64 a0_0) := (blk_cell BK102.out 0).trans rfl; have hcz14_1 : w13.cell? ⟨gb102, 1, none⟩ = some (.int .i64 a0_1) := (blk_cell BK102.out 1).trans rfl; have hcz14_2 : w13.cell? ⟨gb102, 2, none⟩ = some (.string a0_2) := (blk_cell BK102.out 2).trans rfl; have hfz14_0 := blk_frozen BK102.out 0; have hfz14_1 := blk_frozen BK102.out 1; have hfz14_2 := blk_frozen BK102.out 2) | ((with_reducible refine gate_callee (f := 23) rfl ?_); refine goesL_ (some 20) rfl rfl Tryd.func23 (by kernel_rfl) rfl #[.int .i64 a0_1, .int .i64 10] rfl (by (try simp only [List.map_toArray, List.map_cons, List.map_nil]); first | done | rfl | (simp only [List.length_drop, List.length_take]; rfl)) ?_; (with_reducible refine (strconv_FormatInt.calls a0_1 10 t104 _ ?side1 A10.out).mono ?_); (case side1 => exact Glob_below HG.out (by repeat (first | (with_reducible first | exact HB.out | apply below_alloc | apply pw_below_drewN | apply below_drew1 | refine below_set ?_ GE102.out) | exact HB.out))); rintro e w15 ⟨rfl, hb⟩; refine ⟨_, rfl, ?_⟩; have n0_ := Aside0.mk (blk_below (g := gb102) (o := .cells #[.int .i64 a0_0, .int .i64 a0_1, .string a0_2] 23 (0, 0)) (by (with_reducible repeat (first | refine blk_drewN ?_ _ | refine blk_drew ?_ | refine blk_alloc ?_ _)); exact BK102.out) hb); have n1_ := Aside0.mk (below_step (by repeat (first | (with_reducible first | exact HB.out | apply below_alloc | apply pw_below_drewN | apply below_drew1 | refine below_set ?_ GE102.out) | exact HB.out)) hb); clear BK102; clear HB; have BK102 := n0_; have HB := n1_; clear n0_ n1_; (try clear hb); (try clear hb2); (try clear hk); (try clear hi)))
        go_ret2
        exact ⟨by first | rfl | (simp [errW_none, errW_some] <;> rfl) | (simp [*, errW_none, errW_some] <;> rfl), by repeat (first | (with_reducible first | exact HB.out | apply below_alloc | apply pw_below_drewN | apply below_drew1 | refine below_set ?_ GE102.out) | exact HB.out)⟩
      · rw [if_neg c9] at H
        have c9b0 : (a0_0 == 1) = false := beq_eq_false_iff_ne.mpr c9
        have c9b1 : (a0_0 != 1) = true := bne_iff_ne.mpr c9
        obtain ⟨y105, hy105⟩ : ∃ y_ : List Int, y_ = (([39] : List Int)) := ⟨_, rfl⟩
        replace H : (value_Print.l0 k y105 (a0_2.size : Int) 0 a0_0 a0_1 a0_2) = some (r1, r2) := by first | (rw [hy105]; with_reducible exact H) | (have H2_ := (Option.bind_some _ _).symm.trans H; rw [hy105]; with_reducible exact H2_) | (have H2_ := (Option.bind_some _ _).symm.trans H; with_reducible exact H2_) | with_reducible exact H | (rw [hy105]; exact H) | exact H
        have Ny105 := Aside0.mk hy105
        clear hy105
        have H' := Aside0.mk H
        clear H
        go_enter Tryd.func14, Tryd.ntmps14
        go_wp2_with (first | ((with_reducible refine gate_dst (N := 1) rfl ?_); refine box_event ?hg (N := 1) ?hd (cs := #[.int .i64 a0_0, .int .i64 a0_1, .string a0_2]) (t := 23) ?hr ?_; (case hd => rfl); (case hg => rfl); (case hr => first | (go_simp; done) | (go_simp; rfl)); intro gb102 hg w16 hbox hb; have n0_ := Aside0.mk (below_step (by repeat (first | (with_reducible first | exact HB.out | apply below_alloc | apply pw_below_drewN | apply below_drew1) | exact HB.out)) hb); have n1_ := Aside0.mk (hbox); have n2_ := Aside0.mk ((by rw [hg]; exact (below_size (by repeat (first | (with_reducible first | exact HB.out | apply below_alloc | apply pw_below_drewN | apply below_drew1) | exact HB.out))) : w.heap.size ≤ gb102)); have n3_ := Aside0.mk ((by rw [hg]; exact (below_size (by repeat (first | (with_reducible first | exact HB.out | apply below_alloc | apply pw_below_drewN | apply below_drew1) | exact HB.out))) : w.heap.size ≤ gb102)); clear HB; have HB := n0_; have BK102 := n1_; have GW102 := n2_; have GE102 := n3_; clear n0_ n1_ n2_ n3_; clear hb hbox hg; have hcz17_0 : w16.cell? ⟨gb102, 0, none⟩ = some (.int .i64 a0_0) := (blk_cell BK102.out 0).trans rfl; have hcz17_1 : w16.cell? ⟨gb102, 1, none⟩ = some (.int .i64 a0_1) := (blk_cell BK102.out 1).trans rfl; have hcz17_2 : w16.cell? ⟨gb102, 2, none⟩ = some (.string a0_2) := (blk_cell BK102.out 2).trans rfl; have hfz17_0 := blk_frozen BK102.out 0; have hfz17_1 := blk_frozen BK102.out 1; have hfz17_2 := blk_frozen BK102.out 2) | ((with_reducible refine gate_callee (f := 10) rfl ?_); refine goesL_ (some 8) rfl rfl Tryd.func10 (by kernel_rfl) rfl #[.agg #[.int .i64 a0_0, .int .i64 a0_1, .string a0_2]] rfl (by (try simp only [List.map_toArray, List.map_cons, List.map_nil]); first | done | rfl | (simp only [List.length_drop, List.length_take]; rfl)) ?_; (with_reducible refine (value_Check.calls a0_0 a0_1 a0_2 t103 _ A2.out).mono ?_); rintro e w18 ⟨rfl, hb⟩; refine ⟨_, rfl, ?_⟩; have n0_ := Aside0.mk (blk_below (g := gb102) (o := .cells #[.int .i64 a0_0, .int .i64 a0_1, .string a0_2] 23 (0, 0)) (by (with_reducible repeat (first | refine blk_drewN ?_ _ | refine blk_drew ?_ | refine blk_alloc ?_ _)); exact BK102.out) hb); have n1_ := Aside0.mk (below_step (by repeat (first | (with_reducible first | exact HB.out | apply below_alloc | apply pw_below_drewN | apply below_drew1 | refine below_set ?_ GE102.out) | exact HB.out)) hb); clear BK102; clear HB; have BK102 := n0_; have HB := n1_; clear n0_ n1_; (try clear hb); (try clear hb2); (try clear hk); (try clear hi); have hcz19_0 : w18.cell? ⟨gb102, 0, none⟩ = some (.int .i64 a0_0) := (blk_cell BK102.out 0).trans rfl; have hcz19_1 : w18.cell? ⟨gb102, 1, none⟩ = some (.int .i64 a0_1) := (blk_cell BK102.out 1).trans rfl; have hcz19_2 : w18.cell? ⟨gb102, 2, none⟩ = some (.string a0_2) := (blk_cell BK102.out 2).trans rfl; have hfz19_0 := blk_frozen BK102.out 0; have hfz19_1 := blk_frozen BK102.out 1; have hfz19_2 := blk_frozen BK102.out 2) | ((with_reducible refine gate_dst (N := 21) rfl ?_); refine Kd.R_lit (Kd.int .u8) _ 5 ?hg (N := 21) ?hd (xs := ([39] : List Int)) (inner := [.int .u8 39]) (ok := fun _ => True) (okp := fun _ => True) ?hr ?hp (fun _ hk => hk) trivial (Below.refl _ _) (Nat.le_refl _) (by simp) ?_; (case hd => rfl); (case hg => rfl); (case hr => first | (go_simp; done) | (go_simp; rfl)); (case hp => exact (Reps.one (show Kd.M (Kd.int .u8) _ _ _ 39 [.int .u8 39] from rfl) (Reps.none _ _))); intro v106 w20 ho21 hb hg_ hnew_; clear hg_ hnew_; (first | rw [← Ny105.out] at ho21 | (simp only [Int.reduceToNat] at ho21; rw [← Ny105.out] at ho21)); have n0_ := Aside0.mk (Kd.R_lower ho21 (below_size (by repeat (first | (with_reducible first | exact HB.out | apply below_alloc | apply pw_below_drewN | apply below_drew1 | refine below_set ?_ GE102.out) | exact HB.out)))); have n1_ := Aside0.mk (blk_below (g := gb102) (o := .cells #[.int .i64 a0_0, .int .i64 a0_1, .string a0_2] 23 (0, 0)) (by (with_reducible repeat (first | refine blk_drewN ?_ _ | refine blk_drew ?_ | refine blk_alloc ?_ _)); exact BK102.out) hb); have n2_ := Aside0.mk (below_step (by repeat (first | (with_reducible first | exact HB.out | apply below_alloc | apply pw_below_drewN | apply below_drew1 | refine below_set ?_ GE102.out) | exact HB.out)) hb); clear BK102; clear HB; have HO107 := n0_; have BK102 := n1_; have HB := n2_; clear n0_ n1_ n2_; clear hb ho21; have hcz22_0 : w20.cell? ⟨gb102, 0, none⟩ = some (.int .i64 a0_0) := (blk_cell BK102.out 0).trans rfl; have hcz22_1 : w20.cell? ⟨gb102, 1, none⟩ = some (.int .i64 a0_1) := (blk_cell BK102.out 1).trans rfl; have hcz22_2 : w20.cell? ⟨gb102, 2, none⟩ = some (.string a0_2) := (blk_cell BK102.out 2).trans rfl; have hfz22_0 := blk_frozen BK102.out 0; have hfz22_1 := blk_frozen BK102.out 1; have hfz22_2 := blk_frozen BK102.out 2))
        go_loopg [5, 25] k (fun kq v5 v25 w' => ∃ (x5_1 : List Int) (x25_1 : Int), v25 = .int .i64 x25_1 ∧ Aside0 (value_Print.l0 kq x5_1 (a0_2.size : Int) x25_1 a0_0 a0_1 a0_2 = some (r1, r2)) ∧ Aside0 (kq ≤ k) ∧ Aside0 (Kd.R (Kd.int .u8) 5 w' w.heap.size (fun _ => True) v5 x5_1) ∧ Aside0 (w'.heap[gb102]? = some (.cells #[.int .i64 a0_0, .int .i64 a0_1, .string a0_2] 23 (0, 0))) ∧ Aside0 (Below w.heap.size w w'))
        case atStart => exact ⟨(y105), (0), (by first | rfl | (simp; done) | (simp [*]; done)), H', ⟨Nat.le_refl _⟩, ⟨by (with_reducible repeat (first | apply Kd.R_alloc | apply Kd.R_drewN | apply Kd.R_drew)); exact HO107.out⟩, ⟨by (with_reducible repeat (first | refine blk_drewN ?_ _ | refine blk_drew ?_ | refine blk_alloc ?_ _)); exact BK102.out⟩, ⟨by repeat (first | (with_reducible first | exact HB.out | apply below_alloc | apply pw_below_drewN | apply below_drew1 | refine below_set ?_ GE102.out) | exact HB.out)⟩⟩
        case round =>
          clear H'
          try clear c1
          try clear c2
          try clear p2
          try clear c3
          try clear c3b0
          try clear c3b1
          try clear c4
          try clear c4b0
          try clear c4b1
          try clear c9
          try clear c9b0
          try clear c9b1
          try clear c10
          try clear c14
          try clear hcz12_0
          try clear hcz12_1
          try clear hcz12_2
          try clear hcz14_0
          try clear hcz14_1
          try clear hcz14_2
          try clear hcz17_0
          try clear hcz17_1
          try clear hcz17_2
          try clear hcz19_0
          try clear hcz19_1
          try clear hcz19_2
          try clear hcz22_0
          try clear hcz22_1
          try clear hcz22_2
          try clear hcz6_0
          try clear hcz6_1
          try clear hcz6_2
          try clear hcz8_0
          try clear hcz8_1
          try clear hcz8_2
          try clear hfz12_0
          try clear hfz12_1
          try clear hfz12_2
          try clear hfz14_0
          try clear hfz14_1
          try clear hfz14_2
          try clear hfz17_0
          try clear hfz17_1
          try clear hfz17_2
          try clear hfz19_0
          try clear hfz19_1
          try clear hfz19_2
          try clear hfz22_0
          try clear hfz22_1
          try clear hfz22_2
          try clear hfz6_0
          try clear hfz6_1
          try clear hfz6_2
          try clear hfz8_0
          try clear hfz8_1
          try clear hfz8_2
          obtain ⟨x5_1, x25_1, rfl, HA, HK1, HO_5, BK102, HB⟩ := hrel
          cases gk with
          | zero => exact absurd HA.out (by simp [value_Print.l0])
          | succ k1 =>
            have H := HA.out
            clear HA
            simp only [value_Print.l0] at H
            by_cases c23 : x25_1 < (a0_2.size : Int)
            · rw [if_pos c23] at H
              have c23b0 : decide (x25_1 < (a0_2.size : Int)) = true := decide_eq_true c23
              clear c23
              by_cases c24 : 0 ≤ x25_1
              · rw [if_pos c24] at H
                have c24b0 : decide (0 ≤ x25_1) = true := decide_eq_true c24
                clear c24
                by_cases c25 : x25_1 < (a0_2.size : Int)
                · rw [if_pos c25] at H
                  have c25b0 : decide (x25_1 < (a0_2.size : Int)) = true := decide_eq_true c25
                  clear c25
                  by_cases c27 : x5_1.length < 140737488355328
                  · rw [if_pos c27] at H
                    have LMc27 := Aside0.mk c27
                    clear c27
                    obtain ⟨y108, hy108⟩ : ∃ y_ : List Int, y_ = (x5_1 ++ [bt a0_2 x25_1]) := ⟨_, rfl⟩
                    replace H : (if (bt a0_2 x25_1) = 39 then (if y108.length < 140737488355328 then (value_Print.l0 k1 (y108 ++ [39]) (a0_2.size : Int) (wrap64 (x25_1 + 1)) a0_0 a0_1 a0_2) else (none)) else (value_Print.l0 k1 y108 (a0_2.size : Int) (wrap64 (x25_1 + 1)) a0_0 a0_1 a0_2)) = some (r1, r2) := by first | (rw [hy108]; with_reducible exact H) | (have H2_ := (Option.bind_some _ _).symm.trans H; rw [hy108]; with_reducible exact H2_) | (have H2_ := (Option.bind_some _ _).symm.trans H; with_reducible exact H2_) | with_reducible exact H | (rw [hy108]; exact H) | exact H
                    have Ny108 := Aside0.mk hy108
                    clear hy108
                    by_cases c29 : (bt a0_2 x25_1) = 39
                    · rw [if_pos c29] at H
                      have c29b0 : ((bt a0_2 x25_1) == 39) = true := beq_iff_eq.mpr c29
                      have c29b1 : ((bt a0_2 x25_1) != 39) = false := bne_eq_false_iff_eq.mpr c29
                      clear c29
                      by_cases c30 : y108.length < 140737488355328
                      · rw [if_pos c30] at H
                        have LMc30 := Aside0.mk c30
                        clear c30
                        obtain ⟨y111, hy111⟩ : ∃ y_ : List Int, y_ = (y108 ++ [39]) := ⟨_, rfl⟩
                        replace H : (value_Print.l0 k1 y111 (a0_2.size : Int) (wrap64 (x25_1 + 1)) a0_0 a0_1 a0_2) = some (r1, r2) := by first | (rw [hy111]; with_reducible exact H) | (have H2_ := (Option.bind_some _ _).symm.trans H; rw [hy111]; with_reducible exact H2_) | (have H2_ := (Option.bind_some _ _).symm.trans H; with_reducible exact H2_) | with_reducible exact H | (rw [hy111]; exact H) | exact H
                        have Ny111 := Aside0.mk hy111
                        clear hy111
                        have H' := Aside0.mk H
                        clear H
                        have hcz31_0 : wr.cell? ⟨gb102, 0, none⟩ = some (.int .i64 a0_0) := (blk_cell BK102.out 0).trans rfl
                        have hcz31_1 : wr.cell? ⟨gb102, 1, none⟩ = some (.int .i64 a0_1) := (blk_cell BK102.out 1).trans rfl
                        have hcz31_2 : wr.cell? ⟨gb102, 2, none⟩ = some (.string a0_2) := (blk_cell BK102.out 2).trans rfl
                        have hfz31_0 := blk_frozen BK102.out 0
                        have hfz31_1 := blk_frozen BK102.out 1
                        have hfz31_2 := blk_frozen BK102.out 2
                        have p26 : 0 ≤ (x25_1 : Int) := of_decide_eq_true (by first | (with_reducible assumption) | assumption)
                        have q26 : x25_1 < (a0_2.size : Int) := of_decide_eq_true (by first | (with_reducible assumption) | assumption)
                        have hx26 := bt_at a0_2 x25_1
                        replace p26 := eq_true p26
                        replace q26 := eq_true q26
                        go_wp2_with (first | ((with_reducible refine gate_builtin (b := .append) (xs := #[.tmp 28, .tmp 33]) rfl ?_); at_builtin; refine Kd.R_append (Kd.int .u8) (w0 := w) w.heap.size rfl (.tmp 28) (.tmp 33) 46 5 (.int .u8 0) 1 rfl Tryd.underlying46 info5 rfl (by decide) (by omega) u5 x5_1 (bt a0_2 x25_1) [.int .u8 (bt a0_2 x25_1)] (fun _ => True) (fun _ => False) rfl rfl ?aP (fun _ hk => hk.elim) ?aF ?aO ?aB ?aS ?aL ?_; (case aP => exact rfl); (case aB => exact (by repeat (first | (with_reducible first | exact HB.out | apply below_alloc | apply pw_below_drewN | apply below_drew1 | refine below_set ?_ GE102.out) | exact HB.out))); (case aF => exact (fun _ _ => trivial)); (case aO => exact (by (with_reducible repeat (first | apply Kd.R_alloc | apply Kd.R_drewN | apply Kd.R_drew)); exact HO_5.out)); (case aS => exact (below_size (by repeat (first | (with_reducible first | exact HB.out | apply below_alloc | apply pw_below_drewN | apply below_drew1 | refine below_set ?_ GE102.out) | exact HB.out)))); (case aL => have := LMc27.out; omega); intro v109 w32 ho hb hg hat; rw [← Ny108.out] at ho; have n0_ := Aside0.mk (blk_grown (g := gb102) (o := .cells #[.int .i64 a0_0, .int .i64 a0_1, .string a0_2] 23 (0, 0)) (by (with_reducible repeat (first | refine blk_drewN ?_ _ | refine blk_drew ?_ | refine blk_alloc ?_ _)); exact BK102.out) hg (Kd.R_ne HO_5.out BK102.out (by decide))); have n1_ := Aside0.mk (hb); have n2_ := Aside0.mk (ho); clear BK102; clear HB; clear HO_5; have BK102 := n0_; have HB := n1_; have HO110 := n2_; clear n0_ n1_ n2_; clear ho hb hg hat; have hcz33_0 : w32.cell? ⟨gb102, 0, none⟩ = some (.int .i64 a0_0) := (blk_cell BK102.out 0).trans rfl; have hcz33_1 : w32.cell? ⟨gb102, 1, none⟩ = some (.int .i64 a0_1) := (blk_cell BK102.out 1).trans rfl; have hcz33_2 : w32.cell? ⟨gb102, 2, none⟩ = some (.string a0_2) := (blk_cell BK102.out 2).trans rfl; have hfz33_0 := blk_frozen BK102.out 0; have hfz33_1 := blk_frozen BK102.out 1; have hfz33_2 := blk_frozen BK102.out 2; have p28 : 0 ≤ (x25_1 : Int) := of_decide_eq_true (by first | (with_reducible assumption) | assumption); have q28 : x25_1 < (a0_2.size : Int) := of_decide_eq_true (by first | (with_reducible assumption) | assumption); have hx28 := bt_at a0_2 x25_1; replace p28 := eq_true p28; replace q28 := eq_true q28) | ((with_reducible refine gate_builtin (b := .append) (xs := #[.tmp 40, .tmp 41]) rfl ?_); at_builtin; refine Kd.R_append (Kd.int .u8) (w0 := w) w.heap.size rfl (.tmp 40) (.tmp 41) 46 5 (.int .u8 0) 1 rfl Tryd.underlying46 info5 rfl (by decide) (by omega) v109 y108 39 [.int .u8 39] (fun _ => True) (fun _ => False) rfl rfl ?aP (fun _ hk => hk.elim) ?aF ?aO ?aB ?aS ?aL ?_; (case aP => exact rfl); (case aB => exact (by repeat (first | (with_reducible first | exact HB.out | apply below_alloc | apply pw_below_drewN | apply below_drew1 | refine below_set ?_ GE102.out) | exact HB.out))); (case aF => exact (fun _ _ => trivial)); (case aO => exact (by (with_reducible repeat (first | apply Kd.R_alloc | apply Kd.R_drewN | apply Kd.R_drew)); exact HO110.out)); (case aS => exact (below_size (by repeat (first | (with_reducible first | exact HB.out | apply below_alloc | apply pw_below_drewN | apply below_drew1 | refine below_set ?_ GE102.out) | exact HB.out)))); (case aL => have := LMc30.out; omega); intro v112 w34 ho hb hg hat; rw [← Ny111.out] at ho; have n0_ := Aside0.mk (blk_grown (g := gb102) (o := .cells #[.int .i64 a0_0, .int .i64 a0_1, .string a0_2] 23 (0, 0)) (by (with_reducible repeat (first | refine blk_drewN ?_ _ | refine blk_drew ?_ | refine blk_alloc ?_ _)); exact BK102.out) hg (Kd.R_ne HO110.out BK102.out (by decide))); have n1_ := Aside0.mk (hb); have n2_ := Aside0.mk (ho); clear BK102; clear HB; clear HO110; have BK102 := n0_; have HB := n1_; have HO113 := n2_; clear n0_ n1_ n2_; clear ho hb hg hat))
                        go_roundg k1
                        case measure => have := HK1.out; omega
                        case rel => exact ⟨(y111), (wrap64 (x25_1 + 1)), (by first | rfl | (simp; done) | (simp [*]; done)), H', ⟨by have := HK1.out; omega⟩, ⟨by (with_reducible repeat (first | apply Kd.R_alloc | apply Kd.R_drewN | apply Kd.R_drew)); exact HO113.out⟩, ⟨by (with_reducible repeat (first | refine blk_drewN ?_ _ | refine blk_drew ?_ | refine blk_alloc ?_ _)); exact BK102.out⟩, ⟨by repeat (first | (with_reducible first | exact HB.out | apply below_alloc | apply pw_below_drewN | apply below_drew1 | refine below_set ?_ GE102.out) | exact HB.out)⟩⟩
                      · rw [if_neg c30] at H
                        exact absurd H (by simp)
                    · rw [if_neg c29] at H
                      have c29b0 : ((bt a0_2 x25_1) == 39) = false := beq_eq_false_iff_ne.mpr c29
                      have c29b1 : ((bt a0_2 x25_1) != 39) = true := bne_iff_ne.mpr c29
                      have H' := Aside0.mk H
                      clear H
                      have hcz35_0 : wr.cell? ⟨gb102, 0, none⟩ = some (.int .i64 a0_0) := (blk_cell BK102.out 0).trans rfl
                      have hcz35_1 : wr.cell? ⟨gb102, 1, none⟩ = some (.int .i64 a0_1) := (blk_cell BK102.out 1).trans rfl
                      have hcz35_2 : wr.cell? ⟨gb102, 2, none⟩ = some (.string a0_2) := (blk_cell BK102.out 2).trans rfl
                      have hfz35_0 := blk_frozen BK102.out 0
                      have hfz35_1 := blk_frozen BK102.out 1
                      have hfz35_2 := blk_frozen BK102.out 2
                      have p26 : 0 ≤ (x25_1 : Int) := of_decide_eq_true (by first | (with_reducible assumption) | assumption)
                      have q26 : x25_1 < (a0_2.size : Int) := of_decide_eq_true (by first | (with_reducible assumption) | assumption)
                      have hx26 := bt_at a0_2 x25_1
                      replace p26 := eq_true p26
                      replace q26 := eq_true q26
                      go_wp2_with (first | ((with_reducible refine gate_builtin (b := .append) (xs := #[.tmp 28, .tmp 33]) rfl ?_); at_builtin; refine Kd.R_append (Kd.int .u8) (w0 := w) w.heap.size rfl (.tmp 28) (.tmp 33) 46 5 (.int .u8 0) 1 rfl Tryd.underlying46 info5 rfl (by decide) (by omega) u5 x5_1 (bt a0_2 x25_1) [.int .u8 (bt a0_2 x25_1)] (fun _ => True) (fun _ => False) rfl rfl ?aP (fun _ hk => hk.elim) ?aF ?aO ?aB ?aS ?aL ?_; (case aP => exact rfl); (case aB => exact (by repeat (first | (with_reducible first | exact HB.out | apply below_alloc | apply pw_below_drewN | apply below_drew1 | refine below_set ?_ GE102.out) | exact HB.out))); (case aF => exact (fun _ _ => trivial)); (case aO => exact (by (with_reducible repeat (first | apply Kd.R_alloc | apply Kd.R_drewN | apply Kd.R_drew)); exact HO_5.out)); (case aS => exact (below_size (by repeat (first | (with_reducible first | exact HB.out | apply below_alloc | apply pw_below_drewN | apply below_drew1 | refine below_set ?_ GE102.out) | exact HB.out)))); (case aL => have := LMc27.out; omega); intro v109 w36 ho hb hg hat; rw [← Ny108.out] at ho; have n0_ := Aside0.mk (blk_grown (g := gb102) (o := .cells #[.int .i64 a0_0, .int .i64 a0_1, .string a0_2] 23 (0, 0)) (by (with_reducible repeat (first | refine blk_drewN ?_ _ | refine blk_drew ?_ | refine blk_alloc ?_ _)); exact BK102.out) hg (Kd.R_ne HO_5.out BK102.out (by decide))); have n1_ := Aside0.mk (hb); have n2_ := Aside0.mk (ho); clear BK102; clear HB; clear HO_5; have BK102 := n0_; have HB := n1_; have HO110 := n2_; clear n0_ n1_ n2_; clear ho hb hg hat; have hcz37_0 : w36.cell? ⟨gb102, 0, none⟩ = some (.int .i64 a0_0) := (blk_cell BK102.out 0).trans rfl; have hcz37_1 : w36.cell? ⟨gb102, 1, none⟩ = some (.int .i64 a0_1) := (blk_cell BK102.out 1).trans rfl; have hcz37_2 : w36.cell? ⟨gb102, 2, none⟩ = some (.string a0_2) := (blk_cell BK102.out 2).trans rfl; have hfz37_0 := blk_frozen BK102.out 0; have hfz37_1 := blk_frozen BK102.out 1; have hfz37_2 := blk_frozen BK102.out 2; have p28 : 0 ≤ (x25_1 : Int) := of_decide_eq_true (by first | (with_reducible assumption) | assumption); have q28 : x25_1 < (a0_2.size : Int) := of_decide_eq_true (by first | (with_reducible assumption) | assumption); have hx28 := bt_at a0_2 x25_1; replace p28 := eq_true p28; replace q28 := eq_true q28))
                      go_roundg k1
                      case measure => have := HK1.out; omega
                      case rel => exact ⟨(y108), (wrap64 (x25_1 + 1)), (by first | rfl | (simp; done) | (simp [*]; done)), H', ⟨by have := HK1.out; omega⟩, ⟨by (with_reducible repeat (first | apply Kd.R_alloc | apply Kd.R_drewN | apply Kd.R_drew)); exact HO110.out⟩, ⟨by (with_reducible repeat (first | refine blk_drewN ?_ _ | refine blk_drew ?_ | refine blk_alloc ?_ _)); exact BK102.out⟩, ⟨by repeat (first | (with_reducible first | exact HB.out | apply below_alloc | apply pw_below_drewN | apply below_drew1 | refine below_set ?_ GE102.out) | exact HB.out)⟩⟩
                  · rw [if_neg c27] at H
                    exact absurd H (by simp)
                · rw [if_neg c25] at H
                  exact absurd H (by simp)
              · rw [if_neg c24] at H
                exact absurd H (by simp)
            · rw [if_neg c23] at H
              have c23b0 : decide (x25_1 < (a0_2.size : Int)) = false := decide_eq_false c23
              clear c23
              by_cases c38 : x5_1.length < 140737488355328
              · rw [if_pos c38] at H
                have LMc38 := Aside0.mk c38
                clear c38
                obtain ⟨y114, hy114⟩ : ∃ y_ : List Int, y_ = (x5_1 ++ [39]) := ⟨_, rfl⟩
                replace H : (some (strOfNums y114, 0)) = some (r1, r2) := by first | (rw [hy114]; with_reducible exact H) | (have H2_ := (Option.bind_some _ _).symm.trans H; rw [hy114]; with_reducible exact H2_) | (have H2_ := (Option.bind_some _ _).symm.trans H; with_reducible exact H2_) | with_reducible exact H | (rw [hy114]; exact H) | exact H
                have Ny114 := Aside0.mk hy114
                clear hy114
                simp only [Option.some.injEq, Prod.mk.injEq] at H
                obtain ⟨rfl, rfl⟩ := H
                go_wp2_with (first | ((with_reducible refine gate_builtin (b := .append) (xs := #[.tmp 44, .tmp 45]) rfl ?_); at_builtin; refine Kd.R_append (Kd.int .u8) (w0 := w) w.heap.size rfl (.tmp 44) (.tmp 45) 46 5 (.int .u8 0) 1 rfl Tryd.underlying46 info5 rfl (by decide) (by omega) u5 x5_1 39 [.int .u8 39] (fun _ => True) (fun _ => False) rfl rfl ?aP (fun _ hk => hk.elim) ?aF ?aO ?aB ?aS ?aL ?_; (case aP => exact rfl); (case aB => exact (by repeat (first | (with_reducible first | exact HB.out | apply below_alloc | apply pw_below_drewN | apply below_drew1 | refine below_set ?_ GE102.out) | exact HB.out))); (case aF => exact (fun _ _ => trivial)); (case aO => exact (by (with_reducible repeat (first | apply Kd.R_alloc | apply Kd.R_drewN | apply Kd.R_drew)); exact HO_5.out)); (case aS => exact (below_size (by repeat (first | (with_reducible first | exact HB.out | apply below_alloc | apply pw_below_drewN | apply below_drew1 | refine below_set ?_ GE102.out) | exact HB.out)))); (case aL => have := LMc38.out; omega); intro v115 w39 ho hb hg hat; rw [← Ny114.out] at ho; have n0_ := Aside0.mk (blk_grown (g := gb102) (o := .cells #[.int .i64 a0_0, .int .i64 a0_1, .string a0_2] 23 (0, 0)) (by (with_reducible repeat (first | refine blk_drewN ?_ _ | refine blk_drew ?_ | refine blk_alloc ?_ _)); exact BK102.out) hg (Kd.R_ne HO_5.out BK102.out (by decide))); have n1_ := Aside0.mk (hb); have n2_ := Aside0.mk (ho); clear BK102; clear HB; clear HO_5; have BK102 := n0_; have HB := n1_; have HO116 := n2_; clear n0_ n1_ n2_; clear ho hb hg hat; have hcv40 := own_string (P := Tryd.prog) Tryd.underlying46 Tryd.underlying5 Tryd.underlying9 (Kd.own_of_R HO116.out)))
                go_ret2
                exact ⟨by first | rfl | (simp [errW_none, errW_some] <;> rfl) | (simp [*, errW_none, errW_some] <;> rfl), by repeat (first | (with_reducible first | exact HB.out | apply below_alloc | apply pw_below_drewN | apply below_drew1 | refine below_set ?_ GE102.out) | exact HB.out)⟩
              · rw [if_neg c38] at H
                exact absurd H (by simp)
  · rw [if_neg c3] at H
    have c3b0 : (t103 == 0) = false := beq_eq_false_iff_ne.mpr c3
    have c3b1 : (t103 != 0) = true := bne_iff_ne.mpr c3
    simp only [Option.some.injEq, Prod.mk.injEq] at H
    obtain ⟨rfl, rfl⟩ := H
    go_enter Tryd.func14, Tryd.ntmps14
    go_wp2_with (first | ((with_reducible refine gate_dst (N := 1) rfl ?_); refine box_event ?hg (N := 1) ?hd (cs := #[.int .i64 a0_0, .int .i64 a0_1, .string a0_2]) (t := 23) ?hr ?_; (case hd => rfl); (case hg => rfl); (case hr => first | (go_simp; done) | (go_simp; rfl)); intro gb102 hg w41 hbox hb; have n0_ := Aside0.mk (below_step (by repeat (first | (with_reducible first | exact HB.out | apply below_alloc | apply pw_below_drewN | apply below_drew1) | exact HB.out)) hb); have n1_ := Aside0.mk (hbox); have n2_ := Aside0.mk ((by rw [hg]; exact (below_size (by repeat (first | (with_reducible first | exact HB.out | apply below_alloc | apply pw_below_drewN | apply below_drew1) | exact HB.out))) : w.heap.size ≤ gb102)); have n3_ := Aside0.mk ((by rw [hg]; exact (below_size (by repeat (first | (with_reducible first | exact HB.out | apply below_alloc | apply pw_below_drewN | apply below_drew1) | exact HB.out))) : w.heap.size ≤ gb102)); clear HB; have HB := n0_; have BK102 := n1_; have GW102 := n2_; have GE102 := n3_; clear n0_ n1_ n2_ n3_; clear hb hbox hg; have hcz42_0 : w41.cell? ⟨gb102, 0, none⟩ = some (.int .i64 a0_0) := (blk_cell BK102.out 0).trans rfl; have hcz42_1 : w41.cell? ⟨gb102, 1, none⟩ = some (.int .i64 a0_1) := (blk_cell BK102.out 1).trans rfl; have hcz42_2 : w41.cell? ⟨gb102, 2, none⟩ = some (.string a0_2) := (blk_cell BK102.out 2).trans rfl; have hfz42_0 := blk_frozen BK102.out 0; have hfz42_1 := blk_frozen BK102.out 1; have hfz42_2 := blk_frozen BK102.out 2) | ((with_reducible refine gate_callee (f := 10) rfl ?_); refine goesL_ (some 8) rfl rfl Tryd.func10 (by kernel_rfl) rfl #[.agg #[.int .i64 a0_0, .int .i64 a0_1, .string a0_2]] rfl (by (try simp only [List.map_toArray, List.map_cons, List.map_nil]); first | done | rfl | (simp only [List.length_drop, List.length_take]; rfl)) ?_; (with_reducible refine (value_Check.calls a0_0 a0_1 a0_2 t103 _ A2.out).mono ?_); rintro e w43 ⟨rfl, hb⟩; refine ⟨_, rfl, ?_⟩; have n0_ := Aside0.mk (blk_below (g := gb102) (o := .cells #[.int .i64 a0_0, .int .i64 a0_1, .string a0_2] 23 (0, 0)) (by (with_reducible repeat (first | refine blk_drewN ?_ _ | refine blk_drew ?_ | refine blk_alloc ?_ _)); exact BK102.out) hb); have n1_ := Aside0.mk (below_step (by repeat (first | (with_reducible first | exact HB.out | apply below_alloc | apply pw_below_drewN | apply below_drew1 | refine below_set ?_ GE102.out) | exact HB.out)) hb); clear BK102; clear HB; have BK102 := n0_; have HB := n1_; clear n0_ n1_; (try clear hb); (try clear hb2); (try clear hk); (try clear hi)))
    go_ret2
    exact ⟨by first | rfl | (simp [errW_none, errW_some] <;> rfl) | (simp [*, errW_none, errW_some] <;> rfl), by repeat (first | (with_reducible first | exact HB.out | apply below_alloc | apply pw_below_drewN | apply below_drew1 | refine below_set ?_ GE102.out) | exact HB.out)⟩

/-! ### value_Read: function 16 -/
def vUnq (s : ByteArray) : ByteArray := ⟨(Lib.trimSuffix (s.extract 1 s.size).data.toList (⟨#[39]⟩ : ByteArray).data.toList).toArray⟩
def vTxt (s : ByteArray) : ByteArray := ⟨(Lib.replaceAll (vUnq s).data.toList (⟨#[39, 39]⟩ : ByteArray).data.toList (⟨#[39]⟩ : ByteArray).data.toList).toArray⟩
def vTail (k : Nat) (s : ByteArray) (x n : Int) (z : ByteArray) : Option (Int × Int × ByteArray × Int) :=
  (value_Print.f k x n z).bind fun b => if b.2 = 0 then (if b.1.toList = s.toList then some (x, n, z, 0) else some (0, 0, (⟨#[]⟩ : ByteArray), 10)) else some (0, 0, (⟨#[]⟩ : ByteArray), 10)
def vNum (k : Nat) (s : ByteArray) : Lib.NumEnd Int → Option (Int × Int × ByteArray × Int)
  | .ok v => vTail k s 1 v (⟨#[]⟩ : ByteArray)
  | _ => some (0, 0, (⟨#[]⟩ : ByteArray), 10)
def value_Read.f (k : Nat) (a0 : ByteArray) : Option (Int × Int × ByteArray × Int) :=
  if a0.toList = ([110, 117, 108, 108] : List UInt8) then vTail k a0 0 0 (⟨#[]⟩ : ByteArray)
  else if a0.size ≤ 4294967280 then (if Lib.hasPrefix a0.data.toList (⟨#[39]⟩ : ByteArray).data.toList = true then
    (if (vUnq a0).size < 4294967281 then (if (vUnq a0).size + Lib.countB (vUnq a0) (⟨#[39, 39]⟩ : ByteArray) * (⟨#[39]⟩ : ByteArray).size ≤ 140737488355328 then vTail k a0 2 0 (vTxt a0) else none) else none)
  else vNum k a0 (Lib.parseIntB 64 a0.data.toList)) else none
theorem vTail.mono (k : Nat) (s : ByteArray) (x n : Int) (z : ByteArray) : LeO (vTail k s x n z) (vTail (k + 1) s x n z) := LeO.bind (value_Print.mono x n z k) (fun _ => LeO.refl _)
theorem vNum.mono (k : Nat) (s : ByteArray) (q : Lib.NumEnd Int) : LeO (vNum k s q) (vNum (k + 1) s q) := by
  rcases q with v | _ | _
  · exact vTail.mono k s 1 v _
  · exact LeO.refl _
  · exact LeO.refl _
theorem value_Read.mono : ∀ a0 k, LeO (value_Read.f k a0) (value_Read.f (k + 1) a0) := by
  intro a0 k
  unfold value_Read.f
  exact LeO.ite (vTail.mono _ _ _ _ _) (LeO.ite (LeO.ite (LeO.ite (LeO.ite (vTail.mono _ _ _ _ _) (LeO.refl _)) (LeO.refl _)) (vNum.mono _ _ _)) (LeO.refl _))
theorem vr_pos {s : ByteArray} (h : Lib.hasPrefix s.data.toList (⟨#[39]⟩ : ByteArray).data.toList = true) : 1 ≤ s.size := by
  rw [Lib.size_eq]
  cases hl : s.data.toList with
  | nil => rw [hl] at h; exact absurd h (by decide)
  | cons a l => simp
theorem vr_ext (s : ByteArray) (h : s.size ≤ 4294967280) : (s.extract 1 s.size).size ≤ 9223372036854775807 := by
  rw [Lib.size_eq, Lib.extract_data, List.length_take, List.length_drop, ← Lib.size_eq]
  omega
theorem vr_trim (s : ByteArray) (W : World) (h : s.size ≤ 4294967280) :
    Calls Tryd.prog 27 #[.string (s.extract 1 s.size), .string ⟨#[39]⟩] W fun e w' => e = .returned (.string (vUnq s)) ∧ w' = W := Tryd.strings_TrimSuffix (s.extract 1 s.size) ⟨#[39]⟩ W (vr_ext s h)
theorem vr_repl (s : ByteArray) (W : World) (h2 : (vUnq s).size < 4294967281) (h3 : (vUnq s).size + Lib.countB (vUnq s) (⟨#[39, 39]⟩ : ByteArray) * (⟨#[39]⟩ : ByteArray).size ≤ 140737488355328) (hG : Glob W) :
    Calls Tryd.prog 26 #[.string (vUnq s), .string ⟨#[39, 39]⟩, .string ⟨#[39]⟩] W fun e w' => e = .returned (.string (vTxt s)) ∧ Below W.heap.size W w' := by
  obtain ⟨m, hm⟩ := hG.maxLen
  exact Tryd.strings_ReplaceAll (vUnq s) ⟨#[39, 39]⟩ ⟨#[39]⟩ m W h2 hm (by decide) h3
/-- What stands in a block of three cells. -/
theorem vr_three {w : World} {g : Nat} {a b c : Value} {t : TypeId} (h : w.heap[g]? = some (.cells #[a, b, c] t (0, 0))) : w.cell? ⟨g, 0, none⟩ = some a ∧ w.cell? ⟨g, 1, none⟩ = some b ∧ w.cell? ⟨g, 2, none⟩ = some c ∧ w.frozen? ⟨g, 0, none⟩ = false ∧ w.frozen? ⟨g, 1, none⟩ = false ∧ w.frozen? ⟨g, 2, none⟩ = false :=
  ⟨(blk_cell h 0).trans rfl, (blk_cell h 1).trans rfl, (blk_cell h 2).trans rfl, blk_frozen h 0, blk_frozen h 1, blk_frozen h 2⟩
theorem vr_either {w w' : World} {e : TypeId} (h : w' = w ∨ ∃ t, w' = Lib.bytesWorld w e t) : Below w.heap.size w w' := by
  rcases h with rfl | ⟨t, rfl⟩
  · exact Below.refl _ _
  · exact bytes_below (Below.refl _ _) (Nat.le_refl _) _ _
theorem vr_base {w W : World} (h : Below w.heap.size w W) {p : Addr} (hp : w.heap.size ≤ p.block) (u : Value) : Below w.heap.size w (W.setCell p u) := h.setCell hp u

set_option maxHeartbeats 1600000 in
set_option maxRecDepth 100000 in
theorem vr_null_bad (k : Nat) (s : ByteArray) (t : ByteArray) (x : Int) (w : World) (hG : Glob w) (hs : s.toList = [110, 117, 108, 108]) (hP : value_Print.f k 0 0 ⟨#[]⟩ = some (t, x)) (hx : ¬ x = 0) :
    Calls Tryd.prog 16 #[.string s] w fun e w' => e = .returned (.tuple #[.agg #[.int .i64 0, .int .i64 0, .string ⟨#[]⟩], .int .i64 10]) ∧ Below w.heap.size w w' := by
  have HG := Aside0.mk hG
  have HP := Aside0.mk hP
  clear hG hP
  have HB := Aside0.mk (Below.refl w.heap.size w)
  have hu := Tryd.underlying23
  have hxb : (x != 0) = true := by simp [hx]
  clear hx
  have hs1 : (s.toList == [110, 117, 108, 108]) = true := by simp [hs]
  clear hs
  go_enter Tryd.func16, Tryd.ntmps16
  go_wp2_with (first | (go_at_call 14; refine (value_Print.calls k 0 0 ⟨#[]⟩ t x _ (Glob_below HG.out (by repeat (first | assumption | exact HB.out | exact Below.refl _ _ | apply below_alloc | refine vr_base ?_ (by simp) _))) HP.out).mono ?_; rintro e w1 ⟨rfl, hb⟩; have HB1 := Aside0.mk (show Below w.heap.size w w1 from below_step (w := w) (by repeat (first | assumption | exact HB.out | exact Below.refl _ _ | apply below_alloc | refine vr_base ?_ (by simp) _)) hb); obtain ⟨hr0, hr1, hr2, hr3, hr4, hr5⟩ := vr_three (blk_below (blk_alloc (blk_new w _) _) hb); have HV := blk_below (blk_new (w.alloc _) _) hb; rw [World.size_alloc] at HV; obtain ⟨hv0, hv1, hv2, hv3, hv4, hv5⟩ := vr_three HV; clear HV hb; replace HB := HB1; clear HB1))
  refine bodyPost_ret (v := .tuple #[.agg #[.int .i64 0, .int .i64 0, .string ⟨#[]⟩], .int .i64 10]) (by simp [results, Tryd.results16, go_sem, *]) rfl ⟨rfl, (by repeat (first | assumption | exact HB.out | exact Below.refl _ _ | apply below_alloc | refine vr_base ?_ (by simp) _))⟩
set_option maxHeartbeats 1600000 in
set_option maxRecDepth 100000 in
theorem vr_null_other (k : Nat) (s : ByteArray) (t : ByteArray) (x : Int) (w : World) (hG : Glob w) (hs : s.toList = [110, 117, 108, 108]) (hP : value_Print.f k 0 0 ⟨#[]⟩ = some (t, x)) (hx : x = 0) (ht : ¬ t.toList = s.toList) :
    Calls Tryd.prog 16 #[.string s] w fun e w' => e = .returned (.tuple #[.agg #[.int .i64 0, .int .i64 0, .string ⟨#[]⟩], .int .i64 10]) ∧ Below w.heap.size w w' := by
  have HG := Aside0.mk hG
  have HP := Aside0.mk hP
  clear hG hP
  have HB := Aside0.mk (Below.refl w.heap.size w)
  have hu := Tryd.underlying23
  have hxb : (x != 0) = false := by simp [hx]
  have htb : (t.toList == s.toList) = false := by simp [ht]
  clear hx ht
  have hs1 : (s.toList == [110, 117, 108, 108]) = true := by simp [hs]
  clear hs
  go_enter Tryd.func16, Tryd.ntmps16
  go_wp2_with (first | (go_at_call 14; refine (value_Print.calls k 0 0 ⟨#[]⟩ t x _ (Glob_below HG.out (by repeat (first | assumption | exact HB.out | exact Below.refl _ _ | apply below_alloc | refine vr_base ?_ (by simp) _))) HP.out).mono ?_; rintro e w1 ⟨rfl, hb⟩; have HB1 := Aside0.mk (show Below w.heap.size w w1 from below_step (w := w) (by repeat (first | assumption | exact HB.out | exact Below.refl _ _ | apply below_alloc | refine vr_base ?_ (by simp) _)) hb); obtain ⟨hr0, hr1, hr2, hr3, hr4, hr5⟩ := vr_three (blk_below (blk_alloc (blk_new w _) _) hb); have HV := blk_below (blk_new (w.alloc _) _) hb; rw [World.size_alloc] at HV; obtain ⟨hv0, hv1, hv2, hv3, hv4, hv5⟩ := vr_three HV; clear HV hb; replace HB := HB1; clear HB1))
  refine bodyPost_ret (v := .tuple #[.agg #[.int .i64 0, .int .i64 0, .string ⟨#[]⟩], .int .i64 10]) (by simp [results, Tryd.results16, go_sem, *]) rfl ⟨rfl, (by repeat (first | assumption | exact HB.out | exact Below.refl _ _ | apply below_alloc | refine vr_base ?_ (by simp) _))⟩
set_option maxHeartbeats 1600000 in
set_option maxRecDepth 100000 in
theorem vr_null_same (k : Nat) (s : ByteArray) (t : ByteArray) (x : Int) (w : World) (hG : Glob w) (hs : s.toList = [110, 117, 108, 108]) (hP : value_Print.f k 0 0 ⟨#[]⟩ = some (t, x)) (hx : x = 0) (ht : t.toList = s.toList) :
    Calls Tryd.prog 16 #[.string s] w fun e w' => e = .returned (.tuple #[.agg #[.int .i64 0, .int .i64 0, .string ⟨#[]⟩], .int .i64 0]) ∧ Below w.heap.size w w' := by
  have HG := Aside0.mk hG
  have HP := Aside0.mk hP
  clear hG hP
  have HB := Aside0.mk (Below.refl w.heap.size w)
  have hu := Tryd.underlying23
  have hxb : (x != 0) = false := by simp [hx]
  have htb : (t.toList == s.toList) = true := by simp [ht]
  clear hx ht
  have hs1 : (s.toList == [110, 117, 108, 108]) = true := by simp [hs]
  clear hs
  go_enter Tryd.func16, Tryd.ntmps16
  go_wp2_with (first | (go_at_call 14; refine (value_Print.calls k 0 0 ⟨#[]⟩ t x _ (Glob_below HG.out (by repeat (first | assumption | exact HB.out | exact Below.refl _ _ | apply below_alloc | refine vr_base ?_ (by simp) _))) HP.out).mono ?_; rintro e w1 ⟨rfl, hb⟩; have HB1 := Aside0.mk (show Below w.heap.size w w1 from below_step (w := w) (by repeat (first | assumption | exact HB.out | exact Below.refl _ _ | apply below_alloc | refine vr_base ?_ (by simp) _)) hb); obtain ⟨hr0, hr1, hr2, hr3, hr4, hr5⟩ := vr_three (blk_below (blk_alloc (blk_new w _) _) hb); have HV := blk_below (blk_new (w.alloc _) _) hb; rw [World.size_alloc] at HV; obtain ⟨hv0, hv1, hv2, hv3, hv4, hv5⟩ := vr_three HV; clear HV hb; replace HB := HB1; clear HB1))
  refine bodyPost_ret (v := .tuple #[.agg #[.int .i64 0, .int .i64 0, .string ⟨#[]⟩], .int .i64 0]) (by simp [results, Tryd.results16, go_sem, *]) rfl ⟨rfl, (by repeat (first | assumption | exact HB.out | exact Below.refl _ _ | apply below_alloc | refine vr_base ?_ (by simp) _))⟩
set_option maxHeartbeats 1600000 in
set_option maxRecDepth 100000 in
theorem vr_text_bad (k : Nat) (s : ByteArray) (t : ByteArray) (x : Int) (w : World) (hG : Glob w) (hs : ¬ s.toList = [110, 117, 108, 108]) (hp : Lib.hasPrefix s.data.toList (⟨#[39]⟩ : ByteArray).data.toList = true) (h1 : s.size ≤ 4294967280) (h2 : (vUnq s).size < 4294967281) (h3 : (vUnq s).size + Lib.countB (vUnq s) (⟨#[39, 39]⟩ : ByteArray) * (⟨#[39]⟩ : ByteArray).size ≤ 140737488355328) (hP : value_Print.f k 2 0 (vTxt s) = some (t, x)) (hx : ¬ x = 0) :
    Calls Tryd.prog 16 #[.string s] w fun e w' => e = .returned (.tuple #[.agg #[.int .i64 0, .int .i64 0, .string ⟨#[]⟩], .int .i64 10]) ∧ Below w.heap.size w w' := by
  have HG := Aside0.mk hG
  have HP := Aside0.mk hP
  clear hG hP
  have HB := Aside0.mk (Below.refl w.heap.size w)
  have hu := Tryd.underlying23
  have hxb : (x != 0) = true := by simp [hx]
  clear hx
  have hs1 : (s.toList == [110, 117, 108, 108]) = false := by simp [hs]
  have hsz : 1 ≤ s.size := vr_pos hp
  have hszi : (1 : Int) ≤ (s.size : Int) := by omega
  have H25 := Aside0.mk (fun W => Tryd.strings_HasPrefix s ⟨#[39]⟩ W)
  have HPF := Aside0.mk hp
  have H27 := Aside0.mk (fun W => vr_trim s W h1)
  have HM := Aside0.mk (fun W hGW => vr_repl s W h2 h3 hGW)
  clear hs hp h2 h3
  go_enter Tryd.func16, Tryd.ntmps16
  go_wp2_with (first | (go_at_call 25; refine (H25.out _).mono ?_; rintro e wq ⟨rfl, hwq⟩; rw [HPF.out]; subst hwq) | (go_at_call 27; refine (H27.out _).mono ?_; rintro e wq ⟨rfl, hwq⟩; subst hwq) | (go_at_call 26; refine (HM.out _ (Glob_below HG.out (by repeat (first | assumption | exact HB.out | exact Below.refl _ _ | apply below_alloc | refine vr_base ?_ (by simp) _)))).mono ?_; rintro e w5 ⟨rfl, hb5⟩; have HB5 := Aside0.mk (show Below w.heap.size w w5 from below_step (w := w) (by repeat (first | assumption | exact HB.out | exact Below.refl _ _ | apply below_alloc | refine vr_base ?_ (by simp) _)) hb5); have HR5 := Aside0.mk (blk_below (blk_alloc (blk_new w _) _) hb5); have HV50 := blk_below (blk_new (w.alloc _) _) hb5; rw [World.size_alloc] at HV50; have HV5 := Aside0.mk HV50; clear HV50 hb5; obtain ⟨hp0, hp1, hp2, hp3, hp4, hp5⟩ := vr_three HR5.out; obtain ⟨hq0, hq1, hq2, hq3, hq4, hq5⟩ := vr_three HV5.out; replace HB := HB5; clear HB5) | (go_at_call 14; refine (value_Print.calls k 2 0 (vTxt s) t x _ (Glob_below HG.out (by repeat (first | assumption | exact HB.out | exact Below.refl _ _ | apply below_alloc | refine vr_base ?_ (by simp) _))) HP.out).mono ?_; rintro e w1 ⟨rfl, hb⟩; have HB1 := Aside0.mk (show Below w.heap.size w w1 from below_step (w := w) (by repeat (first | assumption | exact HB.out | exact Below.refl _ _ | apply below_alloc | refine vr_base ?_ (by simp) _)) hb); obtain ⟨hr0, hr1, hr2, hr3, hr4, hr5⟩ := vr_three (blk_below (blk_far (p := ⟨w.heap.size + 1, 2, none⟩) HR5.out (by simp) (.string (vTxt s))) hb); have HV : w1.heap[w.heap.size + 1]? = some (.cells #[.int .i64 2, .int .i64 0, .string (vTxt s)] 23 (0, 0)) := blk_below (blk_set HV5.out 2 (.string (vTxt s))) hb; obtain ⟨hv0, hv1, hv2, hv3, hv4, hv5⟩ := vr_three HV; clear HV hb; replace HB := HB1; clear HB1 hp0 hp1 hp2 hp3 hp4 hp5 hq0 hq1 hq2 hq3 hq4 hq5))
  refine bodyPost_ret (v := .tuple #[.agg #[.int .i64 0, .int .i64 0, .string ⟨#[]⟩], .int .i64 10]) (by simp [results, Tryd.results16, go_sem, *]) rfl ⟨rfl, (by repeat (first | assumption | exact HB.out | exact Below.refl _ _ | apply below_alloc | refine vr_base ?_ (by simp) _))⟩
set_option maxHeartbeats 1600000 in
set_option maxRecDepth 100000 in
theorem vr_text_other (k : Nat) (s : ByteArray) (t : ByteArray) (x : Int) (w : World) (hG : Glob w) (hs : ¬ s.toList = [110, 117, 108, 108]) (hp : Lib.hasPrefix s.data.toList (⟨#[39]⟩ : ByteArray).data.toList = true) (h1 : s.size ≤ 4294967280) (h2 : (vUnq s).size < 4294967281) (h3 : (vUnq s).size + Lib.countB (vUnq s) (⟨#[39, 39]⟩ : ByteArray) * (⟨#[39]⟩ : ByteArray).size ≤ 140737488355328) (hP : value_Print.f k 2 0 (vTxt s) = some (t, x)) (hx : x = 0) (ht : ¬ t.toList = s.toList) :
    Calls Tryd.prog 16 #[.string s] w fun e w' => e = .returned (.tuple #[.agg #[.int .i64 0, .int .i64 0, .string ⟨#[]⟩], .int .i64 10]) ∧ Below w.heap.size w w' := by
  have HG := Aside0.mk hG
  have HP := Aside0.mk hP
  clear hG hP
  have HB := Aside0.mk (Below.refl w.heap.size w)
  have hu := Tryd.underlying23
  have hxb : (x != 0) = false := by simp [hx]
  have htb : (t.toList == s.toList) = false := by simp [ht]
  clear hx ht
  have hs1 : (s.toList == [110, 117, 108, 108]) = false := by simp [hs]
  have hsz : 1 ≤ s.size := vr_pos hp
  have hszi : (1 : Int) ≤ (s.size : Int) := by omega
  have H25 := Aside0.mk (fun W => Tryd.strings_HasPrefix s ⟨#[39]⟩ W)
  have HPF := Aside0.mk hp
  have H27 := Aside0.mk (fun W => vr_trim s W h1)
  have HM := Aside0.mk (fun W hGW => vr_repl s W h2 h3 hGW)
  clear hs hp h2 h3
  go_enter Tryd.func16, Tryd.ntmps16
  go_wp2_with (first | (go_at_call 25; refine (H25.out _).mono ?_; rintro e wq ⟨rfl, hwq⟩; rw [HPF.out]; subst hwq) | (go_at_call 27; refine (H27.out _).mono ?_; rintro e wq ⟨rfl, hwq⟩; subst hwq) | (go_at_call 26; refine (HM.out _ (Glob_below HG.out (by repeat (first | assumption | exact HB.out | exact Below.refl _ _ | apply below_alloc | refine vr_base ?_ (by simp) _)))).mono ?_; rintro e w5 ⟨rfl, hb5⟩; have HB5 := Aside0.mk (show Below w.heap.size w w5 from below_step (w := w) (by repeat (first | assumption | exact HB.out | exact Below.refl _ _ | apply below_alloc | refine vr_base ?_ (by simp) _)) hb5); have HR5 := Aside0.mk (blk_below (blk_alloc (blk_new w _) _) hb5); have HV50 := blk_below (blk_new (w.alloc _) _) hb5; rw [World.size_alloc] at HV50; have HV5 := Aside0.mk HV50; clear HV50 hb5; obtain ⟨hp0, hp1, hp2, hp3, hp4, hp5⟩ := vr_three HR5.out; obtain ⟨hq0, hq1, hq2, hq3, hq4, hq5⟩ := vr_three HV5.out; replace HB := HB5; clear HB5) | (go_at_call 14; refine (value_Print.calls k 2 0 (vTxt s) t x _ (Glob_below HG.out (by repeat (first | assumption | exact HB.out | exact Below.refl _ _ | apply below_alloc | refine vr_base ?_ (by simp) _))) HP.out).mono ?_; rintro e w1 ⟨rfl, hb⟩; have HB1 := Aside0.mk (show Below w.heap.size w w1 from below_step (w := w) (by repeat (first | assumption | exact HB.out | exact Below.refl _ _ | apply below_alloc | refine vr_base ?_ (by simp) _)) hb); obtain ⟨hr0, hr1, hr2, hr3, hr4, hr5⟩ := vr_three (blk_below (blk_far (p := ⟨w.heap.size + 1, 2, none⟩) HR5.out (by simp) (.string (vTxt s))) hb); have HV : w1.heap[w.heap.size + 1]? = some (.cells #[.int .i64 2, .int .i64 0, .string (vTxt s)] 23 (0, 0)) := blk_below (blk_set HV5.out 2 (.string (vTxt s))) hb; obtain ⟨hv0, hv1, hv2, hv3, hv4, hv5⟩ := vr_three HV; clear HV hb; replace HB := HB1; clear HB1 hp0 hp1 hp2 hp3 hp4 hp5 hq0 hq1 hq2 hq3 hq4 hq5))
  refine bodyPost_ret (v := .tuple #[.agg #[.int .i64 0, .int .i64 0, .string ⟨#[]⟩], .int .i64 10]) (by simp [results, Tryd.results16, go_sem, *]) rfl ⟨rfl, (by repeat (first | assumption | exact HB.out | exact Below.refl _ _ | apply below_alloc | refine vr_base ?_ (by simp) _))⟩
set_option maxHeartbeats 1600000 in
set_option maxRecDepth 100000 in
theorem vr_text_same (k : Nat) (s : ByteArray) (t : ByteArray) (x : Int) (w : World) (hG : Glob w) (hs : ¬ s.toList = [110, 117, 108, 108]) (hp : Lib.hasPrefix s.data.toList (⟨#[39]⟩ : ByteArray).data.toList = true) (h1 : s.size ≤ 4294967280) (h2 : (vUnq s).size < 4294967281) (h3 : (vUnq s).size + Lib.countB (vUnq s) (⟨#[39, 39]⟩ : ByteArray) * (⟨#[39]⟩ : ByteArray).size ≤ 140737488355328) (hP : value_Print.f k 2 0 (vTxt s) = some (t, x)) (hx : x = 0) (ht : t.toList = s.toList) :
    Calls Tryd.prog 16 #[.string s] w fun e w' => e = .returned (.tuple #[.agg #[.int .i64 2, .int .i64 0, .string (vTxt s)], .int .i64 0]) ∧ Below w.heap.size w w' := by
  have HG := Aside0.mk hG
  have HP := Aside0.mk hP
  clear hG hP
  have HB := Aside0.mk (Below.refl w.heap.size w)
  have hu := Tryd.underlying23
  have hxb : (x != 0) = false := by simp [hx]
  have htb : (t.toList == s.toList) = true := by simp [ht]
  clear hx ht
  have hs1 : (s.toList == [110, 117, 108, 108]) = false := by simp [hs]
  have hsz : 1 ≤ s.size := vr_pos hp
  have hszi : (1 : Int) ≤ (s.size : Int) := by omega
  have H25 := Aside0.mk (fun W => Tryd.strings_HasPrefix s ⟨#[39]⟩ W)
  have HPF := Aside0.mk hp
  have H27 := Aside0.mk (fun W => vr_trim s W h1)
  have HM := Aside0.mk (fun W hGW => vr_repl s W h2 h3 hGW)
  clear hs hp h2 h3
  go_enter Tryd.func16, Tryd.ntmps16
  go_wp2_with (first | (go_at_call 25; refine (H25.out _).mono ?_; rintro e wq ⟨rfl, hwq⟩; rw [HPF.out]; subst hwq) | (go_at_call 27; refine (H27.out _).mono ?_; rintro e wq ⟨rfl, hwq⟩; subst hwq) | (go_at_call 26; refine (HM.out _ (Glob_below HG.out (by repeat (first | assumption | exact HB.out | exact Below.refl _ _ | apply below_alloc | refine vr_base ?_ (by simp) _)))).mono ?_; rintro e w5 ⟨rfl, hb5⟩; have HB5 := Aside0.mk (show Below w.heap.size w w5 from below_step (w := w) (by repeat (first | assumption | exact HB.out | exact Below.refl _ _ | apply below_alloc | refine vr_base ?_ (by simp) _)) hb5); have HR5 := Aside0.mk (blk_below (blk_alloc (blk_new w _) _) hb5); have HV50 := blk_below (blk_new (w.alloc _) _) hb5; rw [World.size_alloc] at HV50; have HV5 := Aside0.mk HV50; clear HV50 hb5; obtain ⟨hp0, hp1, hp2, hp3, hp4, hp5⟩ := vr_three HR5.out; obtain ⟨hq0, hq1, hq2, hq3, hq4, hq5⟩ := vr_three HV5.out; replace HB := HB5; clear HB5) | (go_at_call 14; refine (value_Print.calls k 2 0 (vTxt s) t x _ (Glob_below HG.out (by repeat (first | assumption | exact HB.out | exact Below.refl _ _ | apply below_alloc | refine vr_base ?_ (by simp) _))) HP.out).mono ?_; rintro e w1 ⟨rfl, hb⟩; have HB1 := Aside0.mk (show Below w.heap.size w w1 from below_step (w := w) (by repeat (first | assumption | exact HB.out | exact Below.refl _ _ | apply below_alloc | refine vr_base ?_ (by simp) _)) hb); obtain ⟨hr0, hr1, hr2, hr3, hr4, hr5⟩ := vr_three (blk_below (blk_far (p := ⟨w.heap.size + 1, 2, none⟩) HR5.out (by simp) (.string (vTxt s))) hb); have HV : w1.heap[w.heap.size + 1]? = some (.cells #[.int .i64 2, .int .i64 0, .string (vTxt s)] 23 (0, 0)) := blk_below (blk_set HV5.out 2 (.string (vTxt s))) hb; obtain ⟨hv0, hv1, hv2, hv3, hv4, hv5⟩ := vr_three HV; clear HV hb; replace HB := HB1; clear HB1 hp0 hp1 hp2 hp3 hp4 hp5 hq0 hq1 hq2 hq3 hq4 hq5))
  refine bodyPost_ret (v := .tuple #[.agg #[.int .i64 2, .int .i64 0, .string (vTxt s)], .int .i64 0]) (by simp [results, Tryd.results16, go_sem, *]) rfl ⟨rfl, (by repeat (first | assumption | exact HB.out | exact Below.refl _ _ | apply below_alloc | refine vr_base ?_ (by simp) _))⟩
set_option maxHeartbeats 1600000 in
set_option maxRecDepth 100000 in
theorem vr_num_bad (k : Nat) (s : ByteArray) (t : ByteArray) (x : Int) (w : World) (hG : Glob w) (hs : ¬ s.toList = [110, 117, 108, 108]) (hp : Lib.hasPrefix s.data.toList (⟨#[39]⟩ : ByteArray).data.toList = false) (h1 : s.size ≤ 4294967280) (v : Int) (hv : Lib.parseIntB 64 s.data.toList = .ok v) (hP : value_Print.f k 1 v ⟨#[]⟩ = some (t, x)) (hx : ¬ x = 0) :
    Calls Tryd.prog 16 #[.string s] w fun e w' => e = .returned (.tuple #[.agg #[.int .i64 0, .int .i64 0, .string ⟨#[]⟩], .int .i64 10]) ∧ Below w.heap.size w w' := by
  have HG := Aside0.mk hG
  have HP := Aside0.mk hP
  clear hG hP
  have HB := Aside0.mk (Below.refl w.heap.size w)
  have hu := Tryd.underlying23
  have hxb : (x != 0) = true := by simp [hx]
  clear hx
  have hs1 : (s.toList == [110, 117, 108, 108]) = false := by simp [hs]
  have H25 := Aside0.mk (fun W => Tryd.strings_HasPrefix s ⟨#[39]⟩ W)
  have HPF := Aside0.mk hp
  have H28 := Aside0.mk (fun W => Tryd.strconv_ParseInt_10_at64_ok s (by omega) v hv W)
  clear hs hp hv
  go_enter Tryd.func16, Tryd.ntmps16
  go_wp2_with (first | (go_at_call 25; refine (H25.out _).mono ?_; rintro e wq ⟨rfl, hwq⟩; rw [HPF.out]; subst hwq) | (go_at_call 28; refine (H28.out _).mono ?_; rintro e w5 ⟨rfl, hw5⟩; have hb5 := vr_either hw5; clear hw5; have HB5 := Aside0.mk (show Below w.heap.size w w5 from below_step (w := w) (by repeat (first | assumption | exact HB.out | exact Below.refl _ _ | apply below_alloc | refine vr_base ?_ (by simp) _)) hb5); have HR5 := Aside0.mk (blk_below (blk_alloc (blk_new w _) _) hb5); have HV50 := blk_below (blk_new (w.alloc _) _) hb5; rw [World.size_alloc] at HV50; have HV5 := Aside0.mk HV50; clear HV50 hb5; obtain ⟨hp0, hp1, hp2, hp3, hp4, hp5⟩ := vr_three HR5.out; obtain ⟨hq0, hq1, hq2, hq3, hq4, hq5⟩ := vr_three HV5.out; replace HB := HB5; clear HB5) | (go_at_call 14; refine (value_Print.calls k 1 v ⟨#[]⟩ t x _ (Glob_below HG.out (by repeat (first | assumption | exact HB.out | exact Below.refl _ _ | apply below_alloc | refine vr_base ?_ (by simp) _))) HP.out).mono ?_; rintro e w1 ⟨rfl, hb⟩; have HB1 := Aside0.mk (show Below w.heap.size w w1 from below_step (w := w) (by repeat (first | assumption | exact HB.out | exact Below.refl _ _ | apply below_alloc | refine vr_base ?_ (by simp) _)) hb); obtain ⟨hr0, hr1, hr2, hr3, hr4, hr5⟩ := vr_three (blk_below (blk_far (p := ⟨w.heap.size + 1, 1, none⟩) (blk_far (p := ⟨w.heap.size + 1, 0, none⟩) HR5.out (by simp) (.int .i64 1)) (by simp) (.int .i64 v)) hb); have HV : w1.heap[w.heap.size + 1]? = some (.cells #[.int .i64 1, .int .i64 v, .string ⟨#[]⟩] 23 (0, 0)) := blk_below (blk_set (blk_set HV5.out 0 (.int .i64 1)) 1 (.int .i64 v)) hb; obtain ⟨hv0, hv1, hv2, hv3, hv4, hv5⟩ := vr_three HV; clear HV hb; replace HB := HB1; clear HB1 hp0 hp1 hp2 hp3 hp4 hp5 hq0 hq1 hq2 hq3 hq4 hq5))
  refine bodyPost_ret (v := .tuple #[.agg #[.int .i64 0, .int .i64 0, .string ⟨#[]⟩], .int .i64 10]) (by simp [results, Tryd.results16, go_sem, *]) rfl ⟨rfl, (by repeat (first | assumption | exact HB.out | exact Below.refl _ _ | apply below_alloc | refine vr_base ?_ (by simp) _))⟩
set_option maxHeartbeats 1600000 in
set_option maxRecDepth 100000 in
theorem vr_num_other (k : Nat) (s : ByteArray) (t : ByteArray) (x : Int) (w : World) (hG : Glob w) (hs : ¬ s.toList = [110, 117, 108, 108]) (hp : Lib.hasPrefix s.data.toList (⟨#[39]⟩ : ByteArray).data.toList = false) (h1 : s.size ≤ 4294967280) (v : Int) (hv : Lib.parseIntB 64 s.data.toList = .ok v) (hP : value_Print.f k 1 v ⟨#[]⟩ = some (t, x)) (hx : x = 0) (ht : ¬ t.toList = s.toList) :
    Calls Tryd.prog 16 #[.string s] w fun e w' => e = .returned (.tuple #[.agg #[.int .i64 0, .int .i64 0, .string ⟨#[]⟩], .int .i64 10]) ∧ Below w.heap.size w w' := by
  have HG := Aside0.mk hG
  have HP := Aside0.mk hP
  clear hG hP
  have HB := Aside0.mk (Below.refl w.heap.size w)
  have hu := Tryd.underlying23
  have hxb : (x != 0) = false := by simp [hx]
  have htb : (t.toList == s.toList) = false := by simp [ht]
  clear hx ht
  have hs1 : (s.toList == [110, 117, 108, 108]) = false := by simp [hs]
  have H25 := Aside0.mk (fun W => Tryd.strings_HasPrefix s ⟨#[39]⟩ W)
  have HPF := Aside0.mk hp
  have H28 := Aside0.mk (fun W => Tryd.strconv_ParseInt_10_at64_ok s (by omega) v hv W)
  clear hs hp hv
  go_enter Tryd.func16, Tryd.ntmps16
  go_wp2_with (first | (go_at_call 25; refine (H25.out _).mono ?_; rintro e wq ⟨rfl, hwq⟩; rw [HPF.out]; subst hwq) | (go_at_call 28; refine (H28.out _).mono ?_; rintro e w5 ⟨rfl, hw5⟩; have hb5 := vr_either hw5; clear hw5; have HB5 := Aside0.mk (show Below w.heap.size w w5 from below_step (w := w) (by repeat (first | assumption | exact HB.out | exact Below.refl _ _ | apply below_alloc | refine vr_base ?_ (by simp) _)) hb5); have HR5 := Aside0.mk (blk_below (blk_alloc (blk_new w _) _) hb5); have HV50 := blk_below (blk_new (w.alloc _) _) hb5; rw [World.size_alloc] at HV50; have HV5 := Aside0.mk HV50; clear HV50 hb5; obtain ⟨hp0, hp1, hp2, hp3, hp4, hp5⟩ := vr_three HR5.out; obtain ⟨hq0, hq1, hq2, hq3, hq4, hq5⟩ := vr_three HV5.out; replace HB := HB5; clear HB5) | (go_at_call 14; refine (value_Print.calls k 1 v ⟨#[]⟩ t x _ (Glob_below HG.out (by repeat (first | assumption | exact HB.out | exact Below.refl _ _ | apply below_alloc | refine vr_base ?_ (by simp) _))) HP.out).mono ?_; rintro e w1 ⟨rfl, hb⟩; have HB1 := Aside0.mk (show Below w.heap.size w w1 from below_step (w := w) (by repeat (first | assumption | exact HB.out | exact Below.refl _ _ | apply below_alloc | refine vr_base ?_ (by simp) _)) hb); obtain ⟨hr0, hr1, hr2, hr3, hr4, hr5⟩ := vr_three (blk_below (blk_far (p := ⟨w.heap.size + 1, 1, none⟩) (blk_far (p := ⟨w.heap.size + 1, 0, none⟩) HR5.out (by simp) (.int .i64 1)) (by simp) (.int .i64 v)) hb); have HV : w1.heap[w.heap.size + 1]? = some (.cells #[.int .i64 1, .int .i64 v, .string ⟨#[]⟩] 23 (0, 0)) := blk_below (blk_set (blk_set HV5.out 0 (.int .i64 1)) 1 (.int .i64 v)) hb; obtain ⟨hv0, hv1, hv2, hv3, hv4, hv5⟩ := vr_three HV; clear HV hb; replace HB := HB1; clear HB1 hp0 hp1 hp2 hp3 hp4 hp5 hq0 hq1 hq2 hq3 hq4 hq5))
  refine bodyPost_ret (v := .tuple #[.agg #[.int .i64 0, .int .i64 0, .string ⟨#[]⟩], .int .i64 10]) (by simp [results, Tryd.results16, go_sem, *]) rfl ⟨rfl, (by repeat (first | assumption | exact HB.out | exact Below.refl _ _ | apply below_alloc | refine vr_base ?_ (by simp) _))⟩
set_option maxHeartbeats 1600000 in
set_option maxRecDepth 100000 in
theorem vr_num_same (k : Nat) (s : ByteArray) (t : ByteArray) (x : Int) (w : World) (hG : Glob w) (hs : ¬ s.toList = [110, 117, 108, 108]) (hp : Lib.hasPrefix s.data.toList (⟨#[39]⟩ : ByteArray).data.toList = false) (h1 : s.size ≤ 4294967280) (v : Int) (hv : Lib.parseIntB 64 s.data.toList = .ok v) (hP : value_Print.f k 1 v ⟨#[]⟩ = some (t, x)) (hx : x = 0) (ht : t.toList = s.toList) :
    Calls Tryd.prog 16 #[.string s] w fun e w' => e = .returned (.tuple #[.agg #[.int .i64 1, .int .i64 v, .string ⟨#[]⟩], .int .i64 0]) ∧ Below w.heap.size w w' := by
  have HG := Aside0.mk hG
  have HP := Aside0.mk hP
  clear hG hP
  have HB := Aside0.mk (Below.refl w.heap.size w)
  have hu := Tryd.underlying23
  have hxb : (x != 0) = false := by simp [hx]
  have htb : (t.toList == s.toList) = true := by simp [ht]
  clear hx ht
  have hs1 : (s.toList == [110, 117, 108, 108]) = false := by simp [hs]
  have H25 := Aside0.mk (fun W => Tryd.strings_HasPrefix s ⟨#[39]⟩ W)
  have HPF := Aside0.mk hp
  have H28 := Aside0.mk (fun W => Tryd.strconv_ParseInt_10_at64_ok s (by omega) v hv W)
  clear hs hp hv
  go_enter Tryd.func16, Tryd.ntmps16
  go_wp2_with (first | (go_at_call 25; refine (H25.out _).mono ?_; rintro e wq ⟨rfl, hwq⟩; rw [HPF.out]; subst hwq) | (go_at_call 28; refine (H28.out _).mono ?_; rintro e w5 ⟨rfl, hw5⟩; have hb5 := vr_either hw5; clear hw5; have HB5 := Aside0.mk (show Below w.heap.size w w5 from below_step (w := w) (by repeat (first | assumption | exact HB.out | exact Below.refl _ _ | apply below_alloc | refine vr_base ?_ (by simp) _)) hb5); have HR5 := Aside0.mk (blk_below (blk_alloc (blk_new w _) _) hb5); have HV50 := blk_below (blk_new (w.alloc _) _) hb5; rw [World.size_alloc] at HV50; have HV5 := Aside0.mk HV50; clear HV50 hb5; obtain ⟨hp0, hp1, hp2, hp3, hp4, hp5⟩ := vr_three HR5.out; obtain ⟨hq0, hq1, hq2, hq3, hq4, hq5⟩ := vr_three HV5.out; replace HB := HB5; clear HB5) | (go_at_call 14; refine (value_Print.calls k 1 v ⟨#[]⟩ t x _ (Glob_below HG.out (by repeat (first | assumption | exact HB.out | exact Below.refl _ _ | apply below_alloc | refine vr_base ?_ (by simp) _))) HP.out).mono ?_; rintro e w1 ⟨rfl, hb⟩; have HB1 := Aside0.mk (show Below w.heap.size w w1 from below_step (w := w) (by repeat (first | assumption | exact HB.out | exact Below.refl _ _ | apply below_alloc | refine vr_base ?_ (by simp) _)) hb); obtain ⟨hr0, hr1, hr2, hr3, hr4, hr5⟩ := vr_three (blk_below (blk_far (p := ⟨w.heap.size + 1, 1, none⟩) (blk_far (p := ⟨w.heap.size + 1, 0, none⟩) HR5.out (by simp) (.int .i64 1)) (by simp) (.int .i64 v)) hb); have HV : w1.heap[w.heap.size + 1]? = some (.cells #[.int .i64 1, .int .i64 v, .string ⟨#[]⟩] 23 (0, 0)) := blk_below (blk_set (blk_set HV5.out 0 (.int .i64 1)) 1 (.int .i64 v)) hb; obtain ⟨hv0, hv1, hv2, hv3, hv4, hv5⟩ := vr_three HV; clear HV hb; replace HB := HB1; clear HB1 hp0 hp1 hp2 hp3 hp4 hp5 hq0 hq1 hq2 hq3 hq4 hq5))
  refine bodyPost_ret (v := .tuple #[.agg #[.int .i64 1, .int .i64 v, .string ⟨#[]⟩], .int .i64 0]) (by simp [results, Tryd.results16, go_sem, *]) rfl ⟨rfl, (by repeat (first | assumption | exact HB.out | exact Below.refl _ _ | apply below_alloc | refine vr_base ?_ (by simp) _))⟩
set_option maxHeartbeats 1600000 in
set_option maxRecDepth 100000 in
theorem vr_num_err (s : ByteArray) (w : World) (hG : Glob w) (hs : ¬ s.toList = [110, 117, 108, 108]) (hp : Lib.hasPrefix s.data.toList (⟨#[39]⟩ : ByteArray).data.toList = false) (H : ∀ W, Glob W → Calls Tryd.prog 28 #[.string s, .int .i64 10, .int .i64 64] W fun e w' => ∃ (N : Nat) (x : Int), e = .returned (.tuple #[.int .i64 x, .iface 84 (.pointer (some ⟨N, 0, none⟩))]) ∧ Below W.heap.size W w') :
    Calls Tryd.prog 16 #[.string s] w fun e w' => e = .returned (.tuple #[.agg #[.int .i64 0, .int .i64 0, .string ⟨#[]⟩], .int .i64 10]) ∧ Below w.heap.size w w' := by
  have HG := Aside0.mk hG
  clear hG
  have HB := Aside0.mk (Below.refl w.heap.size w)
  have hu := Tryd.underlying23
  have hs1 : (s.toList == [110, 117, 108, 108]) = false := by simp [hs]
  have H25 := Aside0.mk (fun W => Tryd.strings_HasPrefix s ⟨#[39]⟩ W)
  have HPF := Aside0.mk hp
  have H28 := Aside0.mk H
  clear hs hp H
  go_enter Tryd.func16, Tryd.ntmps16
  go_wp2_with (first | (go_at_call 25; refine (H25.out _).mono ?_; rintro e wq ⟨rfl, hwq⟩; rw [HPF.out]; subst hwq) | (go_at_call 28; refine (H28.out _ (Glob_below HG.out (by repeat (first | assumption | exact HB.out | exact Below.refl _ _ | apply below_alloc | refine vr_base ?_ (by simp) _)))).mono ?_; rintro e w5 ⟨N, x, rfl, hb5⟩; have HB5 := Aside0.mk (show Below w.heap.size w w5 from below_step (w := w) (by repeat (first | assumption | exact HB.out | exact Below.refl _ _ | apply below_alloc | refine vr_base ?_ (by simp) _)) hb5); have HR5 := Aside0.mk (blk_below (blk_alloc (blk_new w _) _) hb5); have HV50 := blk_below (blk_new (w.alloc _) _) hb5; rw [World.size_alloc] at HV50; have HV5 := Aside0.mk HV50; clear HV50 hb5; obtain ⟨hp0, hp1, hp2, hp3, hp4, hp5⟩ := vr_three HR5.out; obtain ⟨hq0, hq1, hq2, hq3, hq4, hq5⟩ := vr_three HV5.out; replace HB := HB5; clear HB5))
  refine bodyPost_ret (v := .tuple #[.agg #[.int .i64 0, .int .i64 0, .string ⟨#[]⟩], .int .i64 10]) (by simp [results, Tryd.results16, go_sem, *]) rfl ⟨rfl, (by repeat (first | assumption | exact HB.out | exact Below.refl _ _ | apply below_alloc | refine vr_base ?_ (by simp) _))⟩
theorem value_Read.calls (k : Nat) (a0 : ByteArray) (r1 : Int) (r2 : Int) (r3 : ByteArray) (r4 : Int) (w : World) (hG : Glob w) (h : value_Read.f k a0 = some (r1, r2, r3, r4)) :
    Calls Tryd.prog 16 #[.string a0] w fun e w' => e = .returned (.tuple #[.agg #[.int .i64 r1, .int .i64 r2, .string r3], .int .i64 r4]) ∧ Below w.heap.size w w' := by
  unfold value_Read.f at h
  generalize a0 = s at h ⊢
  by_cases hs : s.toList = ([110, 117, 108, 108] : List UInt8)
  · rw [if_pos hs] at h
    unfold vTail at h
    obtain ⟨⟨t, x⟩, hP, h⟩ := Option.bind_eq_some_iff.mp h
    by_cases hx : x = 0
    · rw [if_pos hx] at h
      by_cases ht : t.toList = s.toList
      · rw [if_pos ht] at h
        simp only [Option.some.injEq, Prod.mk.injEq] at h
        obtain ⟨rfl, rfl, rfl, rfl⟩ := h
        exact vr_null_same k s t x w hG hs hP hx ht
      · rw [if_neg ht] at h
        simp only [Option.some.injEq, Prod.mk.injEq] at h
        obtain ⟨rfl, rfl, rfl, rfl⟩ := h
        exact vr_null_other k s t x w hG hs hP hx ht
    · rw [if_neg hx] at h
      simp only [Option.some.injEq, Prod.mk.injEq] at h
      obtain ⟨rfl, rfl, rfl, rfl⟩ := h
      exact vr_null_bad k s t x w hG hs hP hx
  rw [if_neg hs] at h
  by_cases h1 : ¬ (s.size ≤ 4294967280)
  · rw [if_neg h1] at h
    exact absurd h (by simp)
  replace h1 := Decidable.not_not.mp h1
  rw [if_pos h1] at h
  by_cases hp : Lib.hasPrefix s.data.toList (⟨#[39]⟩ : ByteArray).data.toList = true
  · rw [if_pos hp] at h
    by_cases h2 : ¬ ((vUnq s).size < 4294967281)
    · rw [if_neg h2] at h
      exact absurd h (by simp)
    replace h2 := Decidable.not_not.mp h2
    rw [if_pos h2] at h
    by_cases h3 : ¬ ((vUnq s).size + Lib.countB (vUnq s) (⟨#[39, 39]⟩ : ByteArray) * (⟨#[39]⟩ : ByteArray).size ≤ 140737488355328)
    · rw [if_neg h3] at h
      exact absurd h (by simp)
    replace h3 := Decidable.not_not.mp h3
    rw [if_pos h3] at h
    unfold vTail at h
    obtain ⟨⟨t, x⟩, hP, h⟩ := Option.bind_eq_some_iff.mp h
    by_cases hx : x = 0
    · rw [if_pos hx] at h
      by_cases ht : t.toList = s.toList
      · rw [if_pos ht] at h
        simp only [Option.some.injEq, Prod.mk.injEq] at h
        obtain ⟨rfl, rfl, rfl, rfl⟩ := h
        exact vr_text_same k s t x w hG hs hp h1 h2 h3 hP hx ht
      · rw [if_neg ht] at h
        simp only [Option.some.injEq, Prod.mk.injEq] at h
        obtain ⟨rfl, rfl, rfl, rfl⟩ := h
        exact vr_text_other k s t x w hG hs hp h1 h2 h3 hP hx ht
    · rw [if_neg hx] at h
      simp only [Option.some.injEq, Prod.mk.injEq] at h
      obtain ⟨rfl, rfl, rfl, rfl⟩ := h
      exact vr_text_bad k s t x w hG hs hp h1 h2 h3 hP hx
  rw [if_neg hp] at h
  replace hp : Lib.hasPrefix s.data.toList (⟨#[39]⟩ : ByteArray).data.toList = false := Bool.eq_false_iff.mpr hp
  rcases hv : Lib.parseIntB 64 s.data.toList with v | _ | _
  · rw [hv] at h
    unfold vNum at h
    unfold vTail at h
    obtain ⟨⟨t, x⟩, hP, h⟩ := Option.bind_eq_some_iff.mp h
    by_cases hx : x = 0
    · rw [if_pos hx] at h
      by_cases ht : t.toList = s.toList
      · rw [if_pos ht] at h
        simp only [Option.some.injEq, Prod.mk.injEq] at h
        obtain ⟨rfl, rfl, rfl, rfl⟩ := h
        exact vr_num_same k s t x w hG hs hp h1 v hv hP hx ht
      · rw [if_neg ht] at h
        simp only [Option.some.injEq, Prod.mk.injEq] at h
        obtain ⟨rfl, rfl, rfl, rfl⟩ := h
        exact vr_num_other k s t x w hG hs hp h1 v hv hP hx ht
    · rw [if_neg hx] at h
      simp only [Option.some.injEq, Prod.mk.injEq] at h
      obtain ⟨rfl, rfl, rfl, rfl⟩ := h
      exact vr_num_bad k s t x w hG hs hp h1 v hv hP hx
  · rw [hv] at h
    simp only [vNum, Option.some.injEq, Prod.mk.injEq] at h
    obtain ⟨rfl, rfl, rfl, rfl⟩ := h
    refine vr_num_err s w hG hs hp fun W hGW => ?_
    obtain ⟨ev, h, hk⟩ := hGW.errSyntax
    refine (Any.strconv_ParseInt_10_at64_syntax Tryd.laysC174 s (by omega) hv ev W h hk).mono fun e w' hq => ?_
    obtain ⟨N, he, _, _, hb⟩ := hq
    exact ⟨N, _, he, hb⟩
  · rw [hv] at h
    simp only [vNum, Option.some.injEq, Prod.mk.injEq] at h
    obtain ⟨rfl, rfl, rfl, rfl⟩ := h
    refine vr_num_err s w hG hs hp fun W hGW => ?_
    obtain ⟨ev, h, hk⟩ := hGW.errRange
    refine (Any.strconv_ParseInt_10_at64_range Tryd.laysC174 s (by omega) hv ev W h hk).mono fun e w' hq => ?_
    obtain ⟨N, he, _, _, hb⟩ := hq
    exact ⟨N, _, he, hb⟩


/-! ### cmp_Or_int: function 18 -/
def cmp_Or_int.l0 : Nat → Int → List Int → Int → Int → Option (Int)
  | 0, _, _, _, _ => none
  | k + 1, x3, x6, x7, x8 => if x8 < x7 then (if 0 ≤ x8 then (if x8 < (x6.length : Int) then (if (rd x6 x8) = x3 then (cmp_Or_int.l0 k x3 x6 x7 (wrap64 (x8 + 1))) else (some (rd x6 x8))) else (none)) else (none)) else (some x3)
def cmp_Or_int.f (k : Nat) (l0 : List Int) : Option (Int) := cmp_Or_int.l0 k 0 l0 (l0.length : Int) 0
theorem cmp_Or_int.mono_l : ∀ k, (∀ y0 y1 y2 y3, LeO (cmp_Or_int.l0 k y0 y1 y2 y3) (cmp_Or_int.l0 (k + 1) y0 y1 y2 y3))
  | 0 => fun _ _ _ _ r h => by simp [cmp_Or_int.l0] at h
  | k + 1 => by
    have ih0 := cmp_Or_int.mono_l k
    · intro y0 y1 y2 y3
      unfold cmp_Or_int.l0
      repeat' first
      | (with_reducible exact ih0 _ _ _ _)
      | (with_reducible exact LeO.refl _)
      | (with_reducible exact LeO.none _)
      | (with_reducible refine LeO.ite ?_ ?_)
      | (with_reducible refine LeO.bind ?_ (fun _ => ?_))
      | exact ih0 _ _ _ _
      | exact LeO.none _
      | refine LeO.ite ?_ ?_
      | refine LeO.bind ?_ (fun _ => ?_)
theorem cmp_Or_int.mono : ∀ a0 k, LeO (cmp_Or_int.f k a0) (cmp_Or_int.f (k + 1) a0) := by
  intro a0 k
  have ih0 := cmp_Or_int.mono_l k
  unfold cmp_Or_int.f
  repeat' first
      | (with_reducible exact ih0 _ _ _ _)
      | (with_reducible exact LeO.refl _)
      | (with_reducible exact LeO.none _)
      | (with_reducible refine LeO.ite ?_ ?_)
      | (with_reducible refine LeO.bind ?_ (fun _ => ?_))
      | exact ih0 _ _ _ _
      | exact LeO.none _
      | refine LeO.ite ?_ ?_
      | refine LeO.bind ?_ (fun _ => ?_)
set_option maxHeartbeats 8000000 in
set_option maxRecDepth 100000 in
theorem cmp_Or_int.calls (k : Nat) (A0 : Option Addr) (c0 : Nat) (l0 : List Int) (r : Int) (w : World) (hr0 : Kd.C (Kd.int .i64) w A0 l0.length l0) (hc0 : l0.length ≤ c0) (h : cmp_Or_int.f k l0 = some r) :
    Calls Tryd.prog 18 #[.slice A0 l0.length c0] w fun e w' => e = .returned (.int .i64 r) ∧ Drawn0 w w' := by
  have HR0 := Aside0.mk hr0
  have HC0 := Aside0.mk hc0
  clear hr0 hc0
  have H : (cmp_Or_int.l0 k 0 l0 (l0.length : Int) 0) = some r := h
  clear h
  have H' := Aside0.mk H
  clear H
  go_enter Tryd.func18, Tryd.ntmps18
  go_wp2
  go_loopg [8] k (fun kq v8 w' => ∃ (x8_1 : Int), v8 = .int .i64 x8_1 ∧ Aside0 (cmp_Or_int.l0 kq 0 l0 (l0.length : Int) x8_1 = some r) ∧ Aside0 (kq ≤ k) ∧ Drawn0 w w')
  case atStart => exact ⟨(0), (by first | rfl | (simp; done) | (simp [*]; done)), H', ⟨Nat.le_refl _⟩, by repeat (first | exact Drawn0.refl _ | apply Drawn0.step)⟩
  case round =>
    clear H'
    try clear c1
    obtain ⟨x8_1, rfl, HA, HK1, ⟨m1, rfl⟩⟩ := hrel
    cases gk with
    | zero => exact absurd HA.out (by simp [cmp_Or_int.l0])
    | succ k1 =>
      have H := HA.out
      clear HA
      simp only [cmp_Or_int.l0] at H
      by_cases c2 : x8_1 < (l0.length : Int)
      · rw [if_pos c2] at H
        have c2b0 : decide (x8_1 < (l0.length : Int)) = true := decide_eq_true c2
        clear c2
        by_cases c3 : 0 ≤ x8_1
        · rw [if_pos c3] at H
          have c3b0 : decide (0 ≤ x8_1) = true := decide_eq_true c3
          clear c3
          by_cases c4 : x8_1 < (l0.length : Int)
          · rw [if_pos c4] at H
            have c4b0 : decide (x8_1 < (l0.length : Int)) = true := decide_eq_true c4
            clear c4
            by_cases c5 : (rd l0 x8_1) = 0
            · rw [if_pos c5] at H
              have c5b0 : ((rd l0 x8_1) == 0) = true := beq_iff_eq.mpr c5
              have c5b1 : ((rd l0 x8_1) != 0) = false := bne_eq_false_iff_eq.mpr c5
              clear c5
              have H' := Aside0.mk H
              clear H
              have p117 : 0 ≤ (x8_1 : Int) := of_decide_eq_true (by first | (with_reducible assumption) | assumption)
              have q117 : x8_1 < (l0.length : Int) := of_decide_eq_true (by first | (with_reducible assumption) | assumption)
              obtain ⟨ad117, e117, hx117_0⟩ := Kd.at_int HR0.out x8_1 p117 q117
              cases e117
              replace p117 := eq_true p117
              replace q117 := eq_true q117
              go_wp2
              go_roundg k1
              case measure => have := HK1.out; omega
              case rel => exact ⟨(wrap64 (x8_1 + 1)), (by first | rfl | (simp; done) | (simp [*]; done)), H', ⟨by have := HK1.out; omega⟩, by repeat (first | exact Drawn0.refl _ | apply Drawn0.step)⟩
            · rw [if_neg c5] at H
              have c5b0 : ((rd l0 x8_1) == 0) = false := beq_eq_false_iff_ne.mpr c5
              have c5b1 : ((rd l0 x8_1) != 0) = true := bne_iff_ne.mpr c5
              obtain rfl := Option.some.inj H
              have p117 : 0 ≤ (x8_1 : Int) := of_decide_eq_true (by first | (with_reducible assumption) | assumption)
              have q117 : x8_1 < (l0.length : Int) := of_decide_eq_true (by first | (with_reducible assumption) | assumption)
              obtain ⟨ad117, e117, hx117_0⟩ := Kd.at_int HR0.out x8_1 p117 q117
              cases e117
              replace p117 := eq_true p117
              replace q117 := eq_true q117
              go_wp2
              go_ret
              exact ⟨by first | rfl | (simp; done) | (simp [*]; done), by repeat (first | exact Drawn0.refl _ | apply Drawn0.step)⟩
          · rw [if_neg c4] at H
            exact absurd H (by simp)
        · rw [if_neg c3] at H
          exact absurd H (by simp)
      · rw [if_neg c2] at H
        have c2b0 : decide (x8_1 < (l0.length : Int)) = false := decide_eq_false c2
        clear c2
        obtain rfl := Option.some.inj H
        go_wp2
        go_ret
        exact ⟨by first | rfl | (simp; done) | (simp [*]; done), by repeat (first | exact Drawn0.refl _ | apply Drawn0.step)⟩

/-! ### cmp_isNaN_int: function 31 -/
def cmp_isNaN_int.f (a0 : Int) : Option (Bool) := some (a0 != a0)
set_option maxHeartbeats 8000000 in
set_option maxRecDepth 100000 in
theorem cmp_isNaN_int.calls (a0 : Int) (r : Bool) (w : World) (h : cmp_isNaN_int.f a0 = some r) :
    Calls Tryd.prog 31 #[.int .i64 a0] w fun e w' => e = .returned (.bool r) ∧ Drawn0 w w' := by
  have H : (some (a0 != a0)) = some r := h
  clear h
  obtain rfl := Option.some.inj H
  go_enter Tryd.func31, Tryd.ntmps31
  go_wp2
  go_ret
  exact ⟨by first | rfl | (simp; done) | (simp [*]; done), by repeat (first | exact Drawn0.refl _ | apply Drawn0.step)⟩

end Go.Proofs.YtiackolnleeffaaDoor.P
