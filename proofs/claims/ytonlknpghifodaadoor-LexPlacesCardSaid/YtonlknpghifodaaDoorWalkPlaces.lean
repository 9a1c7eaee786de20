/- lintellaw17.LexPlaces, walked. -/
import Derived.Test.YtonlknpghifodaaDoorWalkBase
namespace Go.Proofs.YtonlknpghifodaaDoor.P
set_option linter.unusedVariables false
set_option linter.unusedSimpArgs false
open Go.RowKit Go.Proofs.YtonlknpghifodaaDoorW.PrintWords Go.Proofs.YtonlknpghifodaaDoorW.PrintLast Go.Proofs.YtonlknpghifodaaDoorW.PrintMore
attribute [local go_sem] max2_int min2_int max_two min_two max_three min_three max_four min_four   -- for this text's walks alone

set_option maxHeartbeats 1600000 in
set_option maxRecDepth 100000 in
theorem places_none (s : ByteArray) (w : World) (hG : Glob w) (a : Nat) (x : Int) (hx : x ≠ 0) (ha : a ≤ s.size)
    (hW : Calls Tryd.prog 6 #[.string s] w fun e w' => e = .returned (.tuple #[.slice none 0 0, .int .i64 a, .int .i64 x]) ∧ Below w.heap.size w w') :
    Calls Tryd.prog 3 #[.string s] w fun e w' => e = .returned (.bool true) ∧ Below w.heap.size w w' := by
  have hx0 : (x == 0) = false := by simpa using hx
  have hx1 : (x != 0) = true := by simpa using hx
  have HG := Aside0.mk hG
  have HW := Aside0.mk hW
  clear hG hW hx
  go_enter Tryd.func3, Tryd.ntmps3
  go_wp2_with fail
  refine HW.out.mono ?_
  rintro e w1 ⟨rfl, hb1⟩
  have HB1 := Aside0.mk hb1
  clear hb1
  go_wp2_with fail
  refine (awake_calls w1 (Glob_below HG.out HB1.out HG.out.lt)).mono ?_
  rintro e w2 ⟨rfl, hb2⟩
  have HB2 := Aside0.mk (below_step HB1.out hb2)
  clear hb2
  go_wp2_with fail
  refine (awake_calls w2 (Glob_below HG.out HB2.out HG.out.lt)).mono ?_
  rintro e w3 ⟨rfl, hb3⟩
  have HB3 := Aside0.mk (below_step HB2.out hb3)
  clear hb3
  go_wp2
  go_ret
  exact ⟨rfl, HB3.out⟩

set_option maxHeartbeats 12800000 in
set_option maxRecDepth 100000 in
theorem places_some (s : ByteArray) (w : World) (hG : Glob w) (l : List Tok) (hs : s.size ≤ 1024) (hl : lexF s (s.size + 1) 0 = .ok l) (hlen : l.length ≤ 1025) :
    Calls Tryd.prog 3 #[.string s] w fun e w' => e = .returned (.bool true) ∧ Below w.heap.size w w' := by
  obtain ⟨hpos, hat⟩ := places_at (lexF_places s _ 0 l (Nat.zero_le _) (by omega) hl)
  have HG := Aside0.mk hG
  have HW := Aside0.mk (words_calls s w hs hG _ hl.symm)
  have HA := Aside0.mk hat
  clear hG hl hat
  go_enter Tryd.func3, Tryd.ntmps3
  go_wp2_with fail
  refine HW.out.mono ?_
  rintro e w1 ⟨hb1, v, rfl, hown⟩
  rcases hown.2 with ⟨_, h0⟩ | ⟨g, cap, cur, rfl, hg, _⟩
  · omega
  have HB1 := Aside0.mk hb1
  have HO := Aside0.mk hown
  clear hb1 hown HW
  go_wp2_with fail
  refine (awake_calls w1 (Glob_below HG.out HB1.out HG.out.lt)).mono ?_
  rintro e w2 ⟨rfl, hb2⟩
  have HB2 := Aside0.mk (below_step HB1.out hb2)
  have HO2 := Aside0.mk (HO.out.kept (only_of_below hb2 none) (.inr (by simp [Value.ownBlock])))
  clear hb2 HO HB1
  go_wp2
  go_loopw [38] (fun i wr => ∃ k : Nat, i = .int .i64 k ∧ k ≤ l.length ∧ Below w.heap.size w wr ∧ wr.ownsRow w.heap.size 28 4 (.slice (some ⟨g, 0, none⟩) l.length cap) l.length (cellsOf l))
    (fun i _ => l.length - (intOf i).toNat)
  case atStart => exact ⟨0, rfl, Nat.zero_le _, HB2.out, HO2.out⟩
  case round =>
    obtain ⟨k, rfl, hk, hbr, hor⟩ := hrel
    have HBr := Aside0.mk hbr
    have HOr := Aside0.mk hor
    clear hbr hor
    by_cases hlt : k < l.length
    · obtain ⟨c0, c1, c2, c3⟩ := own_word HOr.out k hlt
      obtain ⟨a1, a2, a3, a4, a5, a6, a7⟩ := HA.out k hlt
      have hsz : (l[k]).kind ≠ 3 → (l[k]).at' + (l[k]).text.size ≤ s.size := by
        intro h
        have e := congrArg ByteArray.size (a4 h)
        rw [ByteArray.size_extract] at e
        omega
      have hprev : ∀ (hj : 0 < k), ∃ p : Nat, wr.cell? ⟨g, (k - 1) * 4 + 1, none⟩ = some (.int .i64 p) ∧ ((l[k]).kind ≠ 5 → p < (l[k]).at') := by
        intro hj
        have hk1 : k - 1 < l.length := by omega
        refine ⟨_, (own_word HOr.out (k - 1) hk1).2.1, fun h5 => ?_⟩
        have := (HA.out (k - 1) hk1).2.2.2.2.2.2 (by omega)
        simp only [show k - 1 + 1 = k by omega] at this
        exact this.resolve_right h5
      unfold Says at a4
      have HA5 := Aside0.mk a5
      clear a5 a7 a1
      generalize (l[k]).kind = kd at *
      generalize (l[k]).at' = at' at *
      generalize (l[k]).text = tx at *
      generalize (l[k]).n = nn at *
      have d1 : decide ((at' : Int) < 0) = false := decide_eq_false (by omega)
      have d2 : decide ((s.size : Int) < (at' : Int)) = false := decide_eq_false (by omega)
      have HS := Aside0.mk (And.intro hsz (And.intro hprev a4))
      clear hsz hprev a4
      by_cases h5 : kd = 5
      · subst h5
        have hk5 : k + 1 = l.length := a3.mp rfl
        have H3 : ¬ (5 : Int) = 3 := by decide
        have hL5 : l.length ≤ k + 1 := by omega
        have hat5 : at' = s.size := HA5.out hk5
        have htx5 : tx = ⟨#[]⟩ := by
          have h0 := HS.out.1 H3
          apply ByteArray.ext
          exact Array.eq_empty_of_size_eq_zero (show tx.size = 0 by omega)
        clear a3 hk5 HA5 d1 d2 a2 a6
        subst hat5 htx5
        have d1 : decide ((s.size : Int) < 0) = false := decide_eq_false (by omega)
        have d2 : decide ((s.size : Int) < (s.size : Int)) = false := decide_eq_false (by omega)
        have hx5 : s.extract s.size s.size = ⟨#[]⟩ := by
          apply ByteArray.ext
          exact Array.eq_empty_of_size_eq_zero (show (s.extract s.size s.size).size = 0 by rw [ByteArray.size_extract]; omega)
        by_cases hk0 : 0 < k
        · obtain ⟨p, hp, hpl⟩ := HS.out.2.1 hk0
          obtain ⟨j, rfl⟩ : ∃ j, k = j + 1 := ⟨k - 1, by omega⟩
          have hglt : g < wr.heap.size := (HOr.out.lt g rfl).2
          replace hp : ∀ o, (wr.alloc o).cell? ⟨g, j * 4 + 1, none⟩ = some (.int .i64 p) := fun o => (World.cell?_alloc_past _ _ _ hglt).trans hp
          have hw : IntKind.i64.wrap (j : Int) = (j : Int) := by rw [IntKind.wrap_i64]; omega
          have i1 : (j : Int) < (l.length : Int) := by omega
          have g8 : decide ((0 : Int) < (j : Int) + 1) = true := decide_eq_true (by omega)
          have hw2 : IntKind.i64.wrap ((l.length : Int) - 1) = (j : Int) + 1 := by rw [IntKind.wrap_i64]; omega
          clear hpl
          by_cases hle : s.size ≤ p
          · clear HS
            have g7 : decide ((s.size : Int) ≤ (p : Int)) = true := decide_eq_true (by omega)
            have g7' : decide (s.size ≤ p) = true := decide_eq_true hle
            go_wp2
            clear c0 c1 c2 c3
            go_quiet (fail)
            go_wp2
            go_quiet (fail)
            go_wp2
            go_roundw
            case rel => exact ⟨j + 2, by go_num, by omega, bel_drewN (HBr.out.alloc HBr.out.size _) _, own_drewN (HOr.out.alloc _) _⟩
            case measure => simp [intOf]; omega
          · clear HS
            have g7 : decide ((s.size : Int) ≤ (p : Int)) = false := decide_eq_false (by omega)
            have g7' : decide (s.size ≤ p) = false := decide_eq_false hle
            go_wp2
            clear c0 c1 c2 c3
            go_quiet (fail)
            go_wp2
            go_quiet (fail)
            go_wp2
            go_roundw
            case rel => exact ⟨j + 2, by go_num, by omega, bel_drewN (HBr.out.alloc HBr.out.size _) _, own_drewN (HOr.out.alloc _) _⟩
            case measure => simp [intOf]; omega
        · have g8 : decide ((0 : Int) < (k : Int)) = false := decide_eq_false (by omega)
          have g8' : decide (0 < k) = false := decide_eq_false hk0
          have hw2 : IntKind.i64.wrap ((l.length : Int) - 1) = (k : Int) := by rw [IntKind.wrap_i64]; omega
          clear HS
          go_wp2
          clear c0 c1 c2 c3
          go_quiet (fail)
          go_wp2
          go_quiet (fail)
          go_wp2
          go_roundw
          case rel => exact ⟨k + 1, by go_num, by omega, bel_drewN (HBr.out.alloc HBr.out.size _) _, own_drewN (HOr.out.alloc _) _⟩
          case measure => simp [intOf]; omega
      · have hk5 : ¬ k + 1 = l.length := fun e => h5 (a3.mpr e)
        have g6 : ((k : Int) == (l.length : Int) - 1) = false := by simp; omega
        clear a3
        by_cases h3 : kd = 3
        · subst h3
          have H5 : ¬ (3 : Int) = 5 := by decide
          clear h5
          by_cases hk0 : 0 < k
          · obtain ⟨p, hp, hpl⟩ := HS.out.2.1 hk0
            obtain ⟨j, rfl⟩ : ∃ j, k = j + 1 := ⟨k - 1, by omega⟩
            have hglt : g < wr.heap.size := (HOr.out.lt g rfl).2
            replace hp : ∀ o, (wr.alloc o).cell? ⟨g, j * 4 + 1, none⟩ = some (.int .i64 p) := fun o => (World.cell?_alloc_past _ _ _ hglt).trans hp
            have hw : IntKind.i64.wrap (j : Int) = (j : Int) := by rw [IntKind.wrap_i64]; omega
            have i1 : (j : Int) < (l.length : Int) := by omega
            have g8 : decide ((0 : Int) < (j : Int) + 1) = true := decide_eq_true (by omega)
            have hw2 : IntKind.i64.wrap ((l.length : Int) - 1) = (l.length : Int) - 1 := by rw [IntKind.wrap_i64]; omega
            have d2' : decide (s.size < at') = false := decide_eq_false (by omega)
            replace hpl := hpl H5
            have g7 : decide ((at' : Int) ≤ (p : Int)) = false := decide_eq_false (by omega)
            have g7' : decide (at' ≤ p) = false := decide_eq_false (by omega)
            go_wp2
            clear c0 c1 c2 c3
            go_quiet (fail)
            go_wp2
            go_quiet (fail)
            go_wp2
            go_roundw
            case rel => exact ⟨j + 2, by go_num, by omega, bel_drewN (HBr.out.alloc HBr.out.size _) _, own_drewN (HOr.out.alloc _) _⟩
            case measure => simp [intOf]; omega
          · have g8 : decide ((0 : Int) < (k : Int)) = false := decide_eq_false (by omega)
            have g8' : decide (0 < k) = false := decide_eq_false hk0
            have hw2 : IntKind.i64.wrap ((l.length : Int) - 1) = (l.length : Int) - 1 := by rw [IntKind.wrap_i64]; omega
            have d2' : decide (s.size < at') = false := decide_eq_false (by omega)
            go_wp2
            clear c0 c1 c2 c3
            go_quiet (fail)
            go_wp2
            go_quiet (fail)
            go_wp2
            go_roundw
            case rel => exact ⟨k + 1, by go_num, by omega, bel_drewN (HBr.out.alloc HBr.out.size _) _, own_drewN (HOr.out.alloc _) _⟩
            case measure => simp [intOf]; omega
        · have g5 : (kd == 5) = false := by simpa using h5
          have g5' : (kd != 5) = true := by simpa using h5
          have g3 : (kd != 3) = true := by simpa using h3
          have H5 := h5
          have H3 := h3
          by_cases hk0 : 0 < k
          · obtain ⟨p, hp, hpl⟩ := HS.out.2.1 hk0
            obtain ⟨j, rfl⟩ : ∃ j, k = j + 1 := ⟨k - 1, by omega⟩
            have hglt : g < wr.heap.size := (HOr.out.lt g rfl).2
            replace hp : ∀ o, (wr.alloc o).cell? ⟨g, j * 4 + 1, none⟩ = some (.int .i64 p) := fun o => (World.cell?_alloc_past _ _ _ hglt).trans hp
            have hw : IntKind.i64.wrap (j : Int) = (j : Int) := by rw [IntKind.wrap_i64]; omega
            have i1 : (j : Int) < (l.length : Int) := by omega
            have g8 : decide ((0 : Int) < (j : Int) + 1) = true := decide_eq_true (by omega)
            have hw2 : IntKind.i64.wrap ((l.length : Int) - 1) = (l.length : Int) - 1 := by rw [IntKind.wrap_i64]; omega
            have d2' : decide (s.size < at') = false := decide_eq_false (by omega)
            replace hpl := hpl H5
            have g7 : decide ((at' : Int) ≤ (p : Int)) = false := decide_eq_false (by omega)
            have g7' : decide (at' ≤ p) = false := decide_eq_false (by omega)
            have hS := HS.out.1 H3
            have hT := HS.out.2.2 H3
            have hw3 : IntKind.i64.wrap ((at' : Int) + (tx.size : Int)) = ((at' + tx.size : Nat) : Int) := by rw [IntKind.wrap_i64]; omega
            have i2 : (at' : Int) ≤ (at' : Int) + (tx.size : Int) := by omega
            have hx1 : s.extract at' ((at' : Int) + (tx.size : Int)).toNat = tx := by
              rw [show ((at' : Int) + (tx.size : Int)).toNat = at' + tx.size by omega]
              exact hT.symm
            have hx3 : s.extract at' (at' + tx.size) = tx := hT.symm
            have hx2 : ¬ ((at' : Int) + (tx.size : Int) < (s.size : Int)) → s.extract at' s.size = tx := by
              intro h
              have e : at' + tx.size = s.size := by omega
              rw [← e]
              exact hT.symm
            clear hT
            have hmm : ((at' : Int) + (tx.size : Int) < (s.size : Int)) ∨ ¬ ((at' : Int) + (tx.size : Int) < (s.size : Int)) := by omega
            rcases hmm with hmm | hmm
            all_goals
              go_wp2
              clear c0 c1 c2 c3
              go_quiet (fail)
              go_wp2
              go_quiet (fail)
              go_wp2
              go_roundw
              case rel => exact ⟨j + 2, by go_num, by omega, bel_drewN (HBr.out.alloc HBr.out.size _) _, own_drewN (HOr.out.alloc _) _⟩
              case measure => simp [intOf]; omega
          · have g8 : decide ((0 : Int) < (k : Int)) = false := decide_eq_false (by omega)
            have g8' : decide (0 < k) = false := decide_eq_false hk0
            have hw2 : IntKind.i64.wrap ((l.length : Int) - 1) = (l.length : Int) - 1 := by rw [IntKind.wrap_i64]; omega
            have d2' : decide (s.size < at') = false := decide_eq_false (by omega)
            have hS := HS.out.1 H3
            have hT := HS.out.2.2 H3
            have hw3 : IntKind.i64.wrap ((at' : Int) + (tx.size : Int)) = ((at' + tx.size : Nat) : Int) := by rw [IntKind.wrap_i64]; omega
            have i2 : (at' : Int) ≤ (at' : Int) + (tx.size : Int) := by omega
            have hx1 : s.extract at' ((at' : Int) + (tx.size : Int)).toNat = tx := by
              rw [show ((at' : Int) + (tx.size : Int)).toNat = at' + tx.size by omega]
              exact hT.symm
            have hx3 : s.extract at' (at' + tx.size) = tx := hT.symm
            have hx2 : ¬ ((at' : Int) + (tx.size : Int) < (s.size : Int)) → s.extract at' s.size = tx := by
              intro h
              have e : at' + tx.size = s.size := by omega
              rw [← e]
              exact hT.symm
            clear hT
            have hmm : ((at' : Int) + (tx.size : Int) < (s.size : Int)) ∨ ¬ ((at' : Int) + (tx.size : Int) < (s.size : Int)) := by omega
            rcases hmm with hmm | hmm
            all_goals
              go_wp2
              clear c0 c1 c2 c3
              go_quiet (fail)
              go_wp2
              go_quiet (fail)
              go_wp2
              go_roundw
              case rel => exact ⟨k + 1, by go_num, by omega, bel_drewN (HBr.out.alloc HBr.out.size _) _, own_drewN (HOr.out.alloc _) _⟩
              case measure => simp [intOf]; omega
    · obtain rfl : k = l.length := by omega
      have hl1 : l.length - 1 < l.length := by omega
      obtain ⟨c0, c1, c2, c3⟩ := own_word HOr.out (l.length - 1) hl1
      have hat := (HA.out (l.length - 1) hl1).2.2.2.2.1 (by omega)
      rw [hat] at c1
      go_wp2
      go_ret
      exact ⟨rfl, HBr.out⟩

/-- lintellaw17.LexPlaces answers true at every input. -/
theorem places_calls (s : ByteArray) (w : World) (hG : Glob w) :
    Calls Tryd.prog 3 #[.string s] w fun e w' => e = .returned (.bool true) ∧ Below w.heap.size w w' := by
  by_cases hs : s.size ≤ 1024
  · cases hl : lexF s (s.size + 1) 0 with
    | err a x =>
      have hx : x ≠ 0 := lexF_err_ne s _ 0 a x (by omega) (by omega) hl
      have ha : a ≤ s.size := lexF_err_le s _ 0 a x (by omega) (by omega) hl
      exact places_none s w hG a x hx ha ((words_calls s w hs hG _ hl.symm).mono fun e w' ⟨hb, he, _⟩ => ⟨he, hb⟩)
    | ok l =>
      have hlen := lexF_length s _ 0 l (Nat.zero_le _) (by omega) hl
      exact places_some s w hG l hs hl (by omega)
  · exact places_none s w hG 0 30 (by decide) (Nat.zero_le _) ((words_big s w (by omega)).mono fun e w' ⟨he, hw⟩ => ⟨he, hw ▸ Below.refl _ _⟩)
end Go.Proofs.YtonlknpghifodaaDoor.P
