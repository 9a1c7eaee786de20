/- The lexer's reader of a number, walked. -/
import Derived.Test.YtonlknpghifodaaDoorRead
import Derived.Lib.Bytes
namespace Go.Proofs.YtonlknpghifodaaDoor.P
set_option linter.unusedVariables false
set_option linter.unusedSimpArgs false
open Go.RowKit Go.Proofs.YtonlknpghifodaaDoorW.PrintWords Go.Proofs.YtonlknpghifodaaDoorW.PrintLast Go.Proofs.YtonlknpghifodaaDoorW.PrintMore

theorem four_below {w W : World} {g : Nat} {a b c d : Value} {t : TypeId} (h : w.heap[g]? = some (.cells #[a, b, c, d] t (0, 0))) (hb : Below w.heap.size w W) : W.heap[g]? = some (.cells #[a, b, c, d] t (0, 0)) := blk_below h hb

theorem parse_either {w w' : World} {e : TypeId} (h : w' = w ∨ ∃ t, w' = Lib.bytesWorld w e t) : Below w.heap.size w w' := by
  rcases h with rfl | ⟨t, rfl⟩
  · exact Below.refl _ _
  · exact bytes_below (Below.refl _ _) (Nat.le_refl _) _ _

set_option maxHeartbeats 3200000 in
set_option maxRecDepth 100000 in
theorem num_minus (b : Nat) (s : ByteArray) (n : Nat) (w : World) (hb : w.heap[b]? = some (.cells #[.string s, .int .i64 n] 37 (0, 0))) (hn : n < s.size) (hs : s.size ≤ 1048576)
    (hc : (s.extract n (numEnd s n)).toList = [45]) :
    Calls Tryd.prog 15 #[.pointer (some ⟨b, 0, none⟩)] w fun e w' => e = .returned (.tuple #[.agg #[.int .i64 2, .int .i64 n, .string (s.extract n (numEnd s n)), .int .i64 0], .int .i64 170]) ∧ w.grownBy w' (some b) := by
  have hc0 : w.cell? ⟨b, 0, none⟩ = some (.string s) := (blk_cell hb 0).trans rfl
  have hc1 : w.cell? ⟨b, 1, none⟩ = some (.int .i64 n) := (blk_cell hb 1).trans rfl
  have hlt : b < w.heap.size := World.block_lt_of_cell? w _ hc0
  have HB := Aside0.mk hb
  have HM : numEnd s n ≤ s.size := numEnd_le hn
  have HN : n ≤ numEnd s n := by unfold numEnd; omega
  have hd : ((s.extract n (numEnd s n)).toList == [45]) = true := by rw [hc]; decide
  have HW := Aside0.mk (fun (W : World) (h : W.cell? ⟨b, 0, none⟩ = some (.string s)) => while_calls 14 (.inr (.inl rfl)) isDigit digit_calls b s (n + 1) W h hs (numEnd s n) rfl)
  clear hb hc
  generalize numEnd s n = m at *
  go_enter Tryd.func15, Tryd.ntmps15
  go_wp2_with fail
  refine (HW.out _ ((blk_cell (blk_alloc HB.out _) 0).trans rfl)).mono ?_
  rintro e w1 ⟨rfl, rfl⟩
  go_wp2_with fail
  refine (word_calls b s n m 2 _ rfl _ (blk_alloc HB.out _) HN HM hs).mono ?_
  rintro e w1 ⟨rfl, hL, hg⟩
  obtain ⟨hp0, hp1, hp2, hp3, hp4, hp5, hp6, hp7⟩ := four_alloc (blk_grown (blk_new w _) hg (by simp; omega))
  have HGA := Aside0.mk (only_trans (only_alloc (only_refl w (some b)) _) hg)
  have hsz := hg.size
  rw [World.size_alloc] at hsz
  clear hL hg hc0 hc1 HW
  go_wp2
  refine bodyPost_ret (v := .tuple #[.agg #[.int .i64 2, .int .i64 n, .string (s.extract n m), .int .i64 0], .int .i64 170]) (by simp [results, Tryd.results15, go_sem, *]) rfl ⟨rfl, ?_⟩
  repeat (first | exact HGA.out | refine only_setCell ?_ (.inr (by simp)) _ | refine only_alloc ?_ _)

set_option maxHeartbeats 3200000 in
set_option maxRecDepth 100000 in
theorem num_ok (b : Nat) (s : ByteArray) (n : Nat) (w : World) (hb : w.heap[b]? = some (.cells #[.string s, .int .i64 n] 37 (0, 0))) (hn : n < s.size) (hs : s.size ≤ 1048576)
    (hc : ¬ (s.extract n (numEnd s n)).toList = [45]) (v : Int) (hv : Lib.parseIntB 64 (s.extract n (numEnd s n)).data.toList = .ok v) :
    Calls Tryd.prog 15 #[.pointer (some ⟨b, 0, none⟩)] w fun e w' => e = .returned (.tuple #[.agg #[.int .i64 2, .int .i64 n, .string (s.extract n (numEnd s n)), .int .i64 v], .int .i64 0]) ∧
      w'.heap[b]? = some (.cells #[.string s, .int .i64 (numEnd s n)] 37 (0, 0)) ∧ w.grownBy w' (some b) := by
  have hc0 : w.cell? ⟨b, 0, none⟩ = some (.string s) := (blk_cell hb 0).trans rfl
  have hc1 : w.cell? ⟨b, 1, none⟩ = some (.int .i64 n) := (blk_cell hb 1).trans rfl
  have hlt : b < w.heap.size := World.block_lt_of_cell? w _ hc0
  have HB := Aside0.mk hb
  have HM : numEnd s n ≤ s.size := numEnd_le hn
  have HN : n ≤ numEnd s n := by unfold numEnd; omega
  have hd : ((s.extract n (numEnd s n)).toList == [45]) = false := by simp [hc]
  have HW := Aside0.mk (fun (W : World) (h : W.cell? ⟨b, 0, none⟩ = some (.string s)) => while_calls 14 (.inr (.inl rfl)) isDigit digit_calls b s (n + 1) W h hs (numEnd s n) rfl)
  have HP := Aside0.mk (fun W => Tryd.strconv_ParseInt_10_at64_ok (s.extract n (numEnd s n)) (by rw [extract_size _ _ _ HM]; omega) v hv W)
  clear hb hc hv
  generalize numEnd s n = m at *
  go_enter Tryd.func15, Tryd.ntmps15
  go_wp2_with fail
  refine (HW.out _ ((blk_cell (blk_alloc HB.out _) 0).trans rfl)).mono ?_
  rintro e w1 ⟨rfl, rfl⟩
  go_wp2_with fail
  refine (word_calls b s n m 2 _ rfl _ (blk_alloc HB.out _) HN HM hs).mono ?_
  rintro e w1 ⟨rfl, hL, hg⟩
  have HG2 := Aside0.mk (blk_grown (blk_new w (.cells #[.int .i64 0, .int .i64 0, .string ⟨#[]⟩, .int .i64 0] 28)) hg (by simp; omega))
  have HL := Aside0.mk hL
  have HGA := Aside0.mk (only_trans (only_alloc (only_refl w (some b)) _) hg)
  have hsz := hg.size
  rw [World.size_alloc] at hsz
  clear hL hg hc0 hc1 HW
  go_wp2_with fail
  refine (HP.out _).mono ?_
  rintro e w2 ⟨rfl, hw2⟩
  have hb2 := parse_either hw2
  have hsz2 := hb2.size
  rw [World.size_alloc] at hsz2
  obtain ⟨hp0, hp1, hp2, hp3, hp4, hp5, hp6, hp7⟩ := vr_four (blk_below (blk_alloc HG2.out _) hb2)
  obtain ⟨hq0, hq1, hq2, hq3, hq4, hq5, hq6, hq7⟩ := vr_four (blk_below (blk_new w1 _) hb2)
  have HL2 := Aside0.mk (blk_below (blk_alloc HL.out _) hb2)
  have HGA2 := Aside0.mk (only_trans (only_alloc HGA.out _) (only_of_below hb2 _))
  clear hw2 hb2 HL HGA HG2 HB HP hd
  go_wp2
  refine bodyPost_ret (v := .tuple #[.agg #[.int .i64 2, .int .i64 n, .string (s.extract n m), .int .i64 v], .int .i64 0]) (by simp [results, Tryd.results15, go_sem, *]) rfl ⟨rfl, ?_, ?_⟩
  · repeat (first | exact HL2.out | refine blk_far ?_ (by simp; omega) _ | refine blk_alloc ?_ _)
  · repeat (first | exact HGA2.out | refine only_setCell ?_ (.inr (by simp; try omega)) _ | refine only_alloc ?_ _)

set_option maxHeartbeats 3200000 in
set_option maxRecDepth 100000 in
theorem num_bad (b : Nat) (s : ByteArray) (n : Nat) (w : World) (hb : w.heap[b]? = some (.cells #[.string s, .int .i64 n] 37 (0, 0))) (hn : n < s.size) (hs : s.size ≤ 1048576)
    (hc : ¬ (s.extract n (numEnd s n)).toList = [45]) (hv : ∀ v : Int, ¬ Lib.parseIntB 64 (s.extract n (numEnd s n)).data.toList = .ok v) (hG : Glob w) (hbG : 1 < b ∧ 2 < b) :
    Calls Tryd.prog 15 #[.pointer (some ⟨b, 0, none⟩)] w fun e w' => e = .returned (.tuple #[.agg #[.int .i64 2, .int .i64 n, .string (s.extract n (numEnd s n)), .int .i64 0], .int .i64 172]) ∧ w.grownBy w' (some b) := by
  have hc0 : w.cell? ⟨b, 0, none⟩ = some (.string s) := (blk_cell hb 0).trans rfl
  have hc1 : w.cell? ⟨b, 1, none⟩ = some (.int .i64 n) := (blk_cell hb 1).trans rfl
  have hlt : b < w.heap.size := World.block_lt_of_cell? w _ hc0
  have HB := Aside0.mk hb
  have HM : numEnd s n ≤ s.size := numEnd_le hn
  have HN : n ≤ numEnd s n := by unfold numEnd; omega
  have hd : ((s.extract n (numEnd s n)).toList == [45]) = false := by simp [hc]
  have HW := Aside0.mk (fun (W : World) (h : W.cell? ⟨b, 0, none⟩ = some (.string s)) => while_calls 14 (.inr (.inl rfl)) isDigit digit_calls b s (n + 1) W h hs (numEnd s n) rfl)
  have HP : Aside0 (∀ W, Glob W → Calls Tryd.prog 22 #[.string (s.extract n (numEnd s n)), .int .i64 10, .int .i64 64] W fun e w' => ∃ (N : Nat) (v : Int), e = .returned (.tuple #[.int .i64 v, .iface 57 (.pointer (some ⟨N, 0, none⟩))]) ∧ Below W.heap.size W w') := by
    refine ⟨fun W hGW => ?_⟩
    have hsz : (s.extract n (numEnd s n)).size ≤ 281474976710656 := by rw [extract_size _ _ _ HM]; omega
    cases hr : Lib.parseIntB 64 (s.extract n (numEnd s n)).data.toList with
    | ok v => exact absurd hr (hv v)
    | _ =>
      first
      | (obtain ⟨ev, h, hk⟩ := hGW.errSyntax
         refine (Any.strconv_ParseInt_10_at64_syntax Tryd.laysC174 _ hsz hr ev W h hk).mono fun e w' hq => ?_
         obtain ⟨N, he, _, _, hb⟩ := hq
         exact ⟨N, _, he, hb⟩)
      | (obtain ⟨ev, h, hk⟩ := hGW.errRange
         refine (Any.strconv_ParseInt_10_at64_range Tryd.laysC174 _ hsz hr ev W h hk).mono fun e w' hq => ?_
         obtain ⟨N, he, _, _, hb⟩ := hq
         exact ⟨N, _, he, hb⟩)
  have HGl := Aside0.mk hG
  have HbG := Aside0.mk hbG
  clear hG hbG
  clear hb hc hv
  generalize numEnd s n = m at *
  go_enter Tryd.func15, Tryd.ntmps15
  go_wp2_with fail
  refine (HW.out _ ((blk_cell (blk_alloc HB.out _) 0).trans rfl)).mono ?_
  rintro e w1 ⟨rfl, rfl⟩
  go_wp2_with fail
  refine (word_calls b s n m 2 _ rfl _ (blk_alloc HB.out _) HN HM hs).mono ?_
  rintro e w1 ⟨rfl, hL, hg⟩
  have HG2 := Aside0.mk (blk_grown (blk_new w (.cells #[.int .i64 0, .int .i64 0, .string ⟨#[]⟩, .int .i64 0] 28)) hg (by simp; omega))
  have HL := Aside0.mk hL
  have HGA := Aside0.mk (only_trans (only_alloc (only_refl w (some b)) _) hg)
  have hsz := hg.size
  rw [World.size_alloc] at hsz
  clear hL hg hc0 hc1 HW
  go_wp2_with fail
  refine (HP.out _ (Glob_grown HGl.out (only_alloc HGA.out _) (fun k hk => by injection hk with hk; subst hk; exact HbG.out))).mono ?_
  rintro e w2 ⟨N2, v2, rfl, hb2⟩
  have hsz2 := hb2.size
  rw [World.size_alloc] at hsz2
  obtain ⟨hp0, hp1, hp2, hp3, hp4, hp5, hp6, hp7⟩ := vr_four (blk_below (blk_alloc HG2.out _) hb2)
  obtain ⟨hq0, hq1, hq2, hq3, hq4, hq5, hq6, hq7⟩ := vr_four (blk_below (blk_new w1 _) hb2)
  have HL2 := Aside0.mk (blk_below (blk_alloc HL.out _) hb2)
  have HGA2 := Aside0.mk (only_trans (only_alloc HGA.out _) (only_of_below hb2 _))
  clear hb2 HL HGA HG2 HB HP hd
  go_wp2
  refine bodyPost_ret (v := .tuple #[.agg #[.int .i64 2, .int .i64 n, .string (s.extract n m), .int .i64 0], .int .i64 172]) (by simp [results, Tryd.results15, go_sem, *]) rfl ⟨rfl, ?_⟩
  repeat (first | exact HGA2.out | refine only_setCell ?_ (.inr (by simp; try omega)) _ | refine only_alloc ?_ _)
end Go.Proofs.YtonlknpghifodaaDoor.P
