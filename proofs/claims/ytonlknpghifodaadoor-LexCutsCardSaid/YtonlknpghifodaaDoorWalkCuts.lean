/- lintellaw17.LexCuts, walked. -/
import Derived.Test.YtonlknpghifodaaDoorWalkBase
import Derived.Test.YtonlknpghifodaaDoorCuts
namespace Go.Proofs.YtonlknpghifodaaDoor.P
set_option linter.unusedVariables false
set_option linter.unusedSimpArgs false
open Go.RowKit Go.Proofs.YtonlknpghifodaaDoorW.PrintWords Go.Proofs.YtonlknpghifodaaDoorW.PrintLast Go.Proofs.YtonlknpghifodaaDoorW.PrintMore

set_option maxHeartbeats 1600000 in
set_option maxRecDepth 100000 in
theorem cuts_none (s : ByteArray) (cut : Int) (w : World) (hG : Glob w) (a : Nat) (x : Int) (hx : x ≠ 0)
    (hW : Calls Tryd.prog 6 #[.string s] w fun e w' => e = .returned (.tuple #[.slice none 0 0, .int .i64 a, .int .i64 x]) ∧ Below w.heap.size w w') :
    Calls Tryd.prog 5 #[.string s, .int .i64 cut] w fun e w' => e = .returned (.bool true) ∧ Below w.heap.size w w' := by
  have hx0 : (x == 0) = false := by simpa using hx
  have hx1 : (x != 0) = true := by simpa using hx
  have HG := Aside0.mk hG
  have HW := Aside0.mk hW
  clear hG hW hx
  go_enter Tryd.func5, Tryd.ntmps5
  go_wp2_with fail
  refine HW.out.mono ?_
  rintro e w1 ⟨rfl, hb1⟩
  have HB1 := Aside0.mk hb1
  clear hb1
  go_wp2_with fail
  refine (awake_calls w1 (Glob_below HG.out HB1.out HG.out.lt)).mono ?_
  rintro e w2 ⟨rfl, hb2⟩
  have HB2 := Aside0.mk (below_step HB1.out hb2)
  clear hb2
  go_wp2_with fail
  refine (awake_calls w2 (Glob_below HG.out HB2.out HG.out.lt)).mono ?_
  rintro e w3 ⟨rfl, hb3⟩
  have HB3 := Aside0.mk (below_step HB2.out hb3)
  clear hb3
  go_wp2
  go_ret
  exact ⟨rfl, HB3.out⟩

set_option maxHeartbeats 1600000 in
set_option maxRecDepth 100000 in
theorem cuts_out (s : ByteArray) (cut : Int) (w : World) (hG : Glob w) (l : List Tok) (hs : s.size ≤ 1024) (hl : lexF s (s.size + 1) 0 = .ok l) (hc : cut < 0 ∨ (s.size : Int) < cut) :
    Calls Tryd.prog 5 #[.string s, .int .i64 cut] w fun e w' => e = .returned (.bool true) ∧ Below w.heap.size w w' := by
  have HG := Aside0.mk hG
  have HW := Aside0.mk (words_calls s w hs hG _ hl.symm)
  clear hG hl
  have hcc : decide (cut < 0) = true ∨ (decide (cut < 0) = false ∧ decide ((s.size : Int) < cut) = true) := by
    by_cases h : cut < 0
    · exact .inl (decide_eq_true h)
    · exact .inr ⟨decide_eq_false h, decide_eq_true (hc.resolve_left h)⟩
  clear hc
  rcases hcc with d1 | ⟨d1, d2⟩
  all_goals
    go_enter Tryd.func5, Tryd.ntmps5
    go_wp2_with fail
    refine HW.out.mono ?_
    rintro e w1 ⟨hb1, v, rfl, hown⟩
    have HB1 := Aside0.mk hb1
    clear hb1 hown HW
    go_wp2_with fail
    refine (awake_calls w1 (Glob_below HG.out HB1.out HG.out.lt)).mono ?_
    rintro e w2 ⟨rfl, hb2⟩
    have HB2 := Aside0.mk (below_step HB1.out hb2)
    clear hb2
    go_wp2_with fail
    refine (awake_calls w2 (Glob_below HG.out HB2.out HG.out.lt)).mono ?_
    rintro e w3 ⟨rfl, hb3⟩
    have HB3 := Aside0.mk (below_step HB2.out hb3)
    clear hb3
    go_wp2
    go_ret
    exact ⟨rfl, HB3.out⟩

set_option maxHeartbeats 1600000 in
set_option maxRecDepth 100000 in
theorem cuts_err (s : ByteArray) (c : Nat) (me : Int) (hme : me = c) (w : World) (hG : Glob w) (l : List Tok) (hs : s.size ≤ 1024) (hl : lexF s (s.size + 1) 0 = .ok l) (hc : c ≤ s.size) (a : Nat) (x : Int)
    (hm : lexF (s.extract 0 c) ((s.extract 0 c).size + 1) 0 = .err a x) (hx : x = 170 ∨ x = 171) :
    Calls Tryd.prog 5 #[.string s, .int .i64 me] w fun e w' => e = .returned (.bool true) ∧ Below w.heap.size w w' := by
  subst hme
  have HG := Aside0.mk hG
  have HW := Aside0.mk (words_calls s w hs hG _ hl.symm)
  have HM := Aside0.mk (fun W hW => words_calls (s.extract 0 c) W (by rw [cut_size s hc]; omega) hW _ hm.symm)
  clear hG hl hm
  have d1 : decide ((c : Int) < 0) = false := decide_eq_false (by omega)
  have d2 : decide ((s.size : Int) < (c : Int)) = false := decide_eq_false (by omega)
  have d2' : decide (s.size < c) = false := decide_eq_false (by omega)
  rcases hx with rfl | rfl
  all_goals
    go_enter Tryd.func5, Tryd.ntmps5
    go_wp2_with fail
    refine HW.out.mono ?_
    rintro e w1 ⟨hb1, v, rfl, hown⟩
    have HB1 := Aside0.mk hb1
    clear hb1 hown HW
    go_wp2_with fail
    refine (awake_calls w1 (Glob_below HG.out HB1.out HG.out.lt)).mono ?_
    rintro e w2 ⟨rfl, hb2⟩
    have HB2 := Aside0.mk (below_step HB1.out hb2)
    clear hb2
    go_wp2_with fail
    refine (HM.out w2 (Glob_below HG.out HB2.out HG.out.lt)).mono ?_
    rintro e w3 ⟨hb3, rfl, _⟩
    have HB3 := Aside0.mk (below_step HB2.out hb3)
    clear hb3
    go_wp2
    go_ret
    exact ⟨rfl, HB3.out⟩

set_option maxHeartbeats 3200000 in
set_option maxRecDepth 100000 in
theorem cuts_ok (s : ByteArray) (c : Nat) (me : Int) (hme : me = c) (w : World) (hG : Glob w) (l m : List Tok) (hs : s.size ≤ 1024) (hl : lexF s (s.size + 1) 0 = .ok l) (hc : c ≤ s.size)
    (hm : lexF (s.extract 0 c) ((s.extract 0 c).size + 1) 0 = .ok m) (hlen : m.length ≤ 1025) (hcut : ∀ i, i + 2 < m.length → i < l.length ∧ m[i]? = l[i]?) :
    Calls Tryd.prog 5 #[.string s, .int .i64 me] w fun e w' => e = .returned (.bool true) ∧ Below w.heap.size w w' := by
  subst hme
  obtain ⟨hpos, _⟩ := places_at (lexF_places s _ 0 l (Nat.zero_le _) (by omega) hl)
  obtain ⟨hposm, _⟩ := places_at (lexF_places _ _ 0 m (Nat.zero_le _) (by omega) hm)
  have HG := Aside0.mk hG
  have HW := Aside0.mk (words_calls s w hs hG _ hl.symm)
  have HM := Aside0.mk (fun W hW => words_calls (s.extract 0 c) W (by rw [cut_size s hc]; omega) hW _ hm.symm)
  have HC := Aside0.mk hcut
  clear hG hl hm hcut
  have d1 : decide ((c : Int) < 0) = false := decide_eq_false (by omega)
  have d2 : decide ((s.size : Int) < (c : Int)) = false := decide_eq_false (by omega)
  have d2' : decide (s.size < c) = false := decide_eq_false (by omega)
  go_enter Tryd.func5, Tryd.ntmps5
  go_wp2_with fail
  refine HW.out.mono ?_
  rintro e w1 ⟨hb1, v, rfl, hown⟩
  rcases hown.2 with ⟨_, h0⟩ | ⟨g, cap, cur, rfl, hg, _⟩
  · omega
  have HB1 := Aside0.mk hb1
  have HO := Aside0.mk hown
  clear hb1 hown HW hg
  go_wp2_with fail
  refine (awake_calls w1 (Glob_below HG.out HB1.out HG.out.lt)).mono ?_
  rintro e w2 ⟨rfl, hb2⟩
  have HB2 := Aside0.mk (below_step HB1.out hb2)
  have HO2 := Aside0.mk (HO.out.kept (only_of_below hb2 none) (.inr (by simp [Value.ownBlock])))
  clear hb2 HO HB1
  go_wp2_with fail
  refine (HM.out w2 (Glob_below HG.out HB2.out HG.out.lt)).mono ?_
  rintro e w3 ⟨hb3, v3, rfl, hown3⟩
  rcases hown3.2 with ⟨_, h0⟩ | ⟨g3, cap3, cur3, rfl, hg3, _⟩
  · omega
  have HB3 := Aside0.mk (below_step HB2.out hb3)
  have HO3 := Aside0.mk (HO2.out.kept (only_of_below hb3 none) (.inr (by simp [Value.ownBlock])))
  have HM3 := Aside0.mk hown3
  have H23 := Aside0.mk HB2.out.size
  clear hb3 HO2 HB2 HM hown3 hg3
  go_wp2
  go_loopw [11] (fun i wr => ∃ k : Nat, i = .int .i64 k ∧ k ≤ m.length ∧ Below w.heap.size w wr ∧ wr.ownsRow w.heap.size 28 4 (.slice (some ⟨g, 0, none⟩) l.length cap) l.length (cellsOf l) ∧ wr.ownsRow w.heap.size 28 4 (.slice (some ⟨g3, 0, none⟩) m.length cap3) m.length (cellsOf m))
    (fun i _ => m.length - (intOf i).toNat)
  case atStart => exact ⟨0, rfl, Nat.zero_le _, HB3.out, HO3.out, own_mono HM3.out H23.out⟩
  case round =>
    obtain ⟨k, rfl, hk, hbr, hor, hmr⟩ := hrel
    have HBr := Aside0.mk hbr
    have HOr := Aside0.mk hor
    have HMr := Aside0.mk hmr
    clear hbr hor hmr HB3 HO3 HM3
    by_cases hlt : k + 2 < m.length
    · obtain ⟨h1, h2⟩ := HC.out k hlt
      have hkm : k < m.length := by omega
      have e : m[k] = l[k] := by
        rw [List.getElem?_eq_getElem hkm, List.getElem?_eq_getElem h1] at h2
        exact Option.some.inj h2
      obtain ⟨c0, c1, c2, c3⟩ := own_word HOr.out k h1
      obtain ⟨m0, m1, m2, m3⟩ := own_word HMr.out k hkm
      rw [e] at m0 m1 m2 m3
      clear e h2 HC
      have hw2 : IntKind.i64.wrap ((k : Int) + 2) = (k : Int) + 2 := by rw [IntKind.wrap_i64]; omega
      have g1 : decide ((l.length : Int) ≤ (k : Int)) = false := decide_eq_false (by omega)
      have g1' : decide (l.length ≤ k) = false := decide_eq_false (by omega)
      have i1 : (k : Int) < (l.length : Int) := by omega
      have i2 : (k : Int) < (m.length : Int) := by omega
      generalize (l[k]).kind = kd at *
      generalize (l[k]).at' = at' at *
      generalize (l[k]).text = tx at *
      generalize (l[k]).n = nn at *
      go_wp2
      go_quiet (fail)
      go_wp2
      go_roundw
      case rel => exact ⟨k + 1, by go_num, by omega, bel_drewN HBr.out _, own_drewN HOr.out _, own_drewN HMr.out _⟩
      case measure => simp [intOf]; omega
    · have hw2 : IntKind.i64.wrap ((k : Int) + 2) = (k : Int) + 2 := by rw [IntKind.wrap_i64]; omega
      go_wp2
      go_ret
      exact ⟨rfl, HBr.out⟩
/-- lintellaw17.LexCuts answers true at every input. -/
theorem cuts_calls (s : ByteArray) (cut : Int) (w : World) (hG : Glob w) :
    Calls Tryd.prog 5 #[.string s, .int .i64 cut] w fun e w' => e = .returned (.bool true) ∧ Below w.heap.size w w' := by
  by_cases hs : s.size ≤ 1024
  · cases hl : lexF s (s.size + 1) 0 with
    | err a x =>
      have hwx := words_calls s w hs hG _ hl.symm
      obtain ⟨hx, ha⟩ : x ≠ 0 ∧ True := ⟨fun e => lexF_err_ne s _ 0 a x (by omega) (by omega) hl e, trivial⟩
      exact cuts_none s cut w hG a x hx (hwx.mono fun e w' ⟨hb, he, _⟩ => ⟨he, hb⟩)
    | ok l =>
      by_cases hc : cut < 0 ∨ (s.size : Int) < cut
      · exact cuts_out s cut w hG l hs hl hc
      · obtain ⟨c, rfl⟩ : ∃ c : Nat, cut = c := ⟨cut.toNat, by omega⟩
        have hcs : c ≤ s.size := by omega
        have hcut := lexF_cut s hcs (s.size + 1) ((s.extract 0 c).size + 1) 0 l (Nat.zero_le _) (by omega) (by rw [cut_size s hcs]; omega) hl
        cases hm : lexF (s.extract 0 c) ((s.extract 0 c).size + 1) 0 with
        | err a x =>
          rw [hm] at hcut
          exact cuts_err s c _ rfl w hG l hs hl hcs a x hm hcut
        | ok m =>
          rw [hm] at hcut
          have hlen := lexF_length (s.extract 0 c) _ 0 m (Nat.zero_le _) (by omega) hm
          rw [cut_size s hcs] at hlen
          exact cuts_ok s c _ rfl w hG l m hs hl hcs hm (by omega) hcut
  · exact cuts_none s cut w hG 0 30 (by decide) ((words_big s w (by omega)).mono fun e w' ⟨he, hw⟩ => ⟨he, hw ▸ Below.refl _ _⟩)
end Go.Proofs.YtonlknpghifodaaDoor.P
