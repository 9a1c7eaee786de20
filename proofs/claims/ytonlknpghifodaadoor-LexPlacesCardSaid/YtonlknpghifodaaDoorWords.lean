/- lex.Words, walked. -/
import Derived.Test.YtonlknpghifodaaDoorLex
import Derived.RegionTactic
import Derived.ChangeAlike
namespace Go.Proofs.YtonlknpghifodaaDoor.P
set_option linter.unusedVariables false
set_option linter.unusedSimpArgs false
open Go.RowKit Go.Proofs.YtonlknpghifodaaDoorW.PrintWords Go.Proofs.YtonlknpghifodaaDoorW.PrintLast Go.Proofs.YtonlknpghifodaaDoorW.PrintMore

theorem info_word : (Tryd.prog.info? 28).map (fun i => (i.zero, i.size, i.bytes)) = some (some (.agg #[.int .i64 0, .int .i64 0, .string ⟨#[]⟩, .int .i64 0]), 4, 40) := by kernel_rfl

def posOf (w : World) (b : Nat) : Nat := match w.cell? ⟨b, 1, none⟩ with
  | some v => (intOf v).toNat
  | none => 0

/-- What lex.Words answers, and what it leaves. -/
def wordsPost (w : World) (r : LR) (e : Ending) (w' : World) : Prop :=
  Below w.heap.size w w' ∧ match r with
  | .ok l => ∃ v, e = .returned (.tuple #[v, .int .i64 0, .int .i64 0]) ∧ w'.ownsRow w.heap.size 28 4 v l.length (cellsOf l)
  | .err a x => e = .returned (.tuple #[.slice none 0 0, .int .i64 a, .int .i64 x]) ∧ x ≠ 0

theorem words_big (s : ByteArray) (w : World) (hs : 1024 < s.size) : Calls Tryd.prog 6 #[.string s] w fun e w' => e = .returned (.tuple #[.slice none 0 0, .int .i64 0, .int .i64 30]) ∧ w' = w := by
  have h : decide ((1024 : Int) < (s.size : Int)) = true := decide_eq_true (by omega)
  go_enter Tryd.func6, Tryd.ntmps6
  go_wp2
  go_ret3
  exact ⟨rfl, rfl⟩

theorem own_mono {w : World} {B B' : Nat} {e : TypeId} {sz n : Nat} {v : Value} {xs : List Value} (h : w.ownsRow B e sz v n xs) (hB : B' ≤ B) : w.ownsRow B' e sz v n xs := by
  refine ⟨h.1, ?_⟩
  rcases h.2 with h | ⟨g, cap, cur, h1, h2, h3⟩
  · exact .inl h
  · exact .inr ⟨g, cap, cur, h1, Nat.le_trans hB h2, h3⟩
theorem skip_le (s : ByteArray) {k : Nat} (h : k ≤ s.size) : skip s k ≤ s.size ∧ k ≤ skip s k := by
  have := span_le isBlank (s.data.toList.drop k)
  rw [List.length_drop, Array.length_toList] at this
  have : s.data.size = s.size := rfl
  unfold skip
  omega
theorem pre_pre (a b : List Tok) (r : LR) : (r.pre b).pre a = r.pre (a ++ b) := by
  cases r <;> simp [LR.pre]
theorem lexF_ok {s : ByteArray} {f k : Nat} {t : Tok} {m : Nat} (h : skip s k < s.size) (hr : read1 s (skip s k) s[skip s k] = .ok t m) : lexF s (f + 1) k = (lexF s f m).pre [t] := by
  conv => lhs; unfold lexF
  rw [dif_pos h]
  simp only [hr]
theorem lexF_err {s : ByteArray} {f k : Nat} {x : Int} (h : skip s k < s.size) (hr : read1 s (skip s k) s[skip s k] = .err x) : lexF s (f + 1) k = .err (skip s k) x := by
  conv => lhs; unfold lexF
  rw [dif_pos h]
  simp only [hr]
theorem lexF_end {s : ByteArray} {f k : Nat} (h : ¬ skip s k < s.size) : lexF s (f + 1) k = .ok [⟨5, skip s k, ⟨#[]⟩, 0⟩] := by
  conv => lhs; unfold lexF
  rw [dif_neg h]
/-- What stands behind an append of a word. -/
theorem word_step {w w2 w3 : World} {B : Nat} {v : Value} {n : Nat} {xs : List Value} {o o' : Obj} {e : TypeId} {sz : Nat} (hO : w2.ownsRow (B + 1) e sz v n xs) (hg : ((w2.alloc o).alloc o').grownBy w3 v.ownBlock) (hb : Below B w w2) (hB : B = w.heap.size) : Below B w w3 := by
  subst hB
  have h : Below w.heap.size w ((w2.alloc o).alloc o') := (hb.alloc hb.size o).alloc (by have := hb.size; simp; omega) o'
  refine ⟨hg.os.trans h.os, hg.tape.trans h.tape, hg.output.trans h.output, Nat.le_trans h.size hg.size, fun i hi => ?_⟩
  refine (hg.block i (Nat.lt_of_lt_of_le hi h.size) fun e => ?_).trans (h.block i hi)
  have := (hO.lt i e.symm).1
  omega
theorem below_only {w W w2 : World} (h : Below w.heap.size w W) (hg : W.grownBy w2 (some w.heap.size)) : Below w.heap.size w w2 :=
  ⟨hg.os.trans h.os, hg.tape.trans h.tape, hg.output.trans h.output, Nat.le_trans h.size hg.size, fun i hi => (hg.block i (Nat.lt_of_lt_of_le hi h.size) (by intro e; injection e; omega)).trans (h.block i hi)⟩
theorem own_only {W w2 : World} {b : Nat} {e : TypeId} {sz n : Nat} {v : Value} {xs : List Value} (hO : W.ownsRow (b + 1) e sz v n xs) (hg : W.grownBy w2 (some b)) : w2.ownsRow (b + 1) e sz v n xs := by
  refine hO.kept hg ?_
  cases h : v.ownBlock with
  | none => exact .inl rfl
  | some k => exact .inr (by intro e; injection e with e; have := (hO.lt k h).1; omega)
theorem cellsOf_snoc (out : List Tok) (t : Tok) : cellsOf (out ++ [t]) = cellsOf out ++ t.cells := by simp [cellsOf]
theorem new_cells {W : World} {g : Nat} (hg : g = W.heap.size) (a b c d : Value) (t : TypeId) : ∀ j u, [a, b, c, d][j]? = some u → (W.alloc (.cells #[a, b, c, d] t)).cell? ((⟨g, 0, none⟩ : Addr).add j) = some u := by
  subst hg
  intro j u hj
  match j, hj with
  | 0, hj => simp at hj; subst hj; exact (blk_cell (blk_new W _) 0).trans rfl
  | 1, hj => simp at hj; subst hj; exact (blk_cell (blk_new W _) 1).trans rfl
  | 2, hj => simp at hj; subst hj; exact (blk_cell (blk_new W _) 2).trans rfl
  | 3, hj => simp at hj; subst hj; exact (blk_cell (blk_new W _) 3).trans rfl
theorem pos_at {w : World} {b : Nat} {s : ByteArray} {m : Nat} (h : w.heap[b]? = some (.cells #[.string s, .int .i64 m] 37 (0, 0))) : posOf w b = m := by
  have : w.cell? ⟨b, 1, none⟩ = some (.int .i64 m) := (blk_cell h 1).trans rfl
  simp [posOf, this, intOf]

set_option maxHeartbeats 6400000 in
set_option maxRecDepth 100000 in
theorem words_calls (s : ByteArray) (w : World) (hs : s.size ≤ 1024) (hG : Glob w) (R : LR) (hR : R = lexF s (s.size + 1) 0) :
    Calls Tryd.prog 6 #[.string s] w (wordsPost w R) := by
  have hmf : ∀ (fn : Fn) (first cap : Array Value) (w : World), (Instr.makeFunc fn first cap).run Tryd.prog w = .ok (.func fn first cap) w := fun _ _ _ _ => rfl
  obtain ⟨i0, hi, hz0, hz1, hz2⟩ := info_parts info_word
  have HGl := Aside0.mk hG
  have HR := Aside0.mk hR
  clear hG hR
  go_enter Tryd.func6, Tryd.ntmps6
  go_wp2
  go_loopw [6] (fun v wr => ∃ (k f : Nat) (out : List Tok), k ≤ s.size ∧ s.size - k < f ∧ out.length ≤ k ∧ wr.ownsRow (w.heap.size + 1) 28 4 v out.length (cellsOf out) ∧
      wr.heap[w.heap.size]? = some (.cells #[.string s, .int .i64 k] 37 (0, 0)) ∧ Below w.heap.size w wr ∧ R = (lexF s f k).pre out)
    (fun _ wr => s.size - posOf wr w.heap.size)
  case atStart =>
    refine ⟨0, s.size + 1, [], Nat.zero_le _, by omega, Nat.zero_le _, World.ownsRow_nil _ _ _ _, blk_new w _, (Below.refl w.heap.size w).alloc (Nat.le_refl _) _, ?_⟩
    rw [HR.out]
    cases lexF s (s.size + 1) 0 <;> rfl
  case round =>
    clear HR
    obtain ⟨k, f, out, hk, hf, hol, hown, hb, hbel, hR⟩ := hrel
    obtain ⟨f, rfl⟩ : ∃ m, f = m + 1 := ⟨f - 1, by omega⟩
    have hc0 : wr.cell? ⟨w.heap.size, 0, none⟩ = some (.string s) := (blk_cell hb 0).trans rfl
    have hc1 : wr.cell? ⟨w.heap.size, 1, none⟩ = some (.int .i64 k) := (blk_cell hb 1).trans rfl
    have hf1 : wr.frozen? ⟨w.heap.size, 1, none⟩ = false := blk_frozen hb 1
    have HL := Aside0.mk hb
    have HO := Aside0.mk hown
    have HB := Aside0.mk hbel
    have HR := Aside0.mk hR
    have HW := Aside0.mk (while_calls 10 (.inl rfl) isBlank blank_calls w.heap.size s k wr hc0 (by omega) (skip s k) rfl)
    have hpos := pos_at hb
    have hsk := skip_le s hk
    have hwr : w.heap.size + 1 ≤ wr.heap.size := blk_lt hb
    clear hb hown hbel hR
    by_cases hlt : skip s k < s.size
    · have hok : ∀ t m, read1 s (skip s k) s[skip s k] = .ok t m → R = (lexF s f m).pre (out ++ [t]) := fun t m h => by rw [HR.out, lexF_ok hlt h, pre_pre]
      have herr : ∀ x, read1 s (skip s k) s[skip s k] = .err x → R = .err (skip s k) x := fun x h => by rw [HR.out, lexF_err hlt h]; rfl
      have HK := Aside0.mk hok
      have HE := Aside0.mk herr
      clear hok herr HR
      generalize skip s k = K at *
      have e0 : ((K : Int) == (s.size : Int)) = false := by simp; omega
      have HL1 : Aside0 ((wr.setCell ⟨w.heap.size, 1, none⟩ (.int .i64 K)).heap[w.heap.size]? = some (.cells #[.string s, .int .i64 K] 37 (0, 0))) := ⟨blk_put HL.out 1 _ rfl⟩
      have HO1 := Aside0.mk (own_set HO.out (Nat.lt_succ_self _) 1 (.int .i64 K))
      have HB1 : Aside0 (Below w.heap.size w (wr.setCell ⟨w.heap.size, 1, none⟩ (.int .i64 K))) := ⟨HB.out.setCell (Nat.le_refl _) _⟩
      have HG1 := Aside0.mk (Glob_below HGl.out HB1.out HGl.out.lt)
      cases hcl : isLetter s[K]
      · cases hcn : isNum s[K]
        · have hcd : isDigit s[K] = false := by unfold isNum at hcn; rw [Bool.or_eq_false_iff] at hcn; exact hcn.1
          have hc45 : ((s[K].toNat : Int) == 45) = false := by unfold isNum at hcn; rw [Bool.or_eq_false_iff, decide_eq_false_iff_not] at hcn; simp; omega
          by_cases h39 : s[K].toNat = 39
          · have hc39 : ((s[K].toNat : Int) == 39) = true := by rw [h39]; rfl
            have H39 := Aside0.mk h39
            clear h39
            have HRd := Aside0.mk (rd_text w.heap.size s K _ HL1.out hlt (by omega))
            have hrd : read1 s K s[K] = readText s K := by unfold read1; rw [hcl, if_neg (by decide), hcn, if_neg (by decide), if_pos H39.out]
            rw [hrd] at HK HE
            generalize readText s K = r at *
            clear hrd
            cases r with
            | err x =>
              go_wp2_with (go_at_call 9; refine HW.out.mono ?_; rintro e w1 ⟨rfl, rfl⟩)
              refine (letter_calls s[K] _).mono ?_
              rintro e w1 ⟨rfl, rfl⟩
              rw [hcl]
              go_wp2_with fail
              refine (digit_calls s[K] _).mono ?_
              rintro e w1 ⟨rfl, rfl⟩
              rw [hcd]
              go_wp2_with fail
              refine HRd.out.mono ?_
              rintro e w2 ⟨hg, kd, tx, rfl, hx⟩
              have hb2 := below_only HB1.out hg
              have hR2 := HE.out x rfl
              have HQ := Aside0.mk hb2
              have HR2 := Aside0.mk hR2
              clear hg hb2 hR2 HE HK HW HL1 HO1 HB1 HG1 HRd HL HO HB hc0 hc1 hf1 hpos
              go_wp2
              go_region
              all_goals (try go_wp2)
              all_goals go_ret3
              all_goals
                rw [HR2.out]
                exact ⟨(HQ.out.alloc HQ.out.size _).drew, rfl, hx⟩
            | ok t m =>
              go_wp2_with (go_at_call 9; refine HW.out.mono ?_; rintro e w1 ⟨rfl, rfl⟩)
              refine (letter_calls s[K] _).mono ?_
              rintro e w1 ⟨rfl, rfl⟩
              rw [hcl]
              go_wp2_with fail
              refine (digit_calls s[K] _).mono ?_
              rintro e w1 ⟨rfl, rfl⟩
              rw [hcd]
              go_wp2_with fail
              refine HRd.out.mono ?_
              rintro e w2 ⟨hg, rfl, hb2, hm1, hm2⟩
              have HBl := Aside0.mk (below_only HB1.out hg)
              have HO2 := Aside0.mk (own_only HO1.out hg)
              have HL2 := Aside0.mk hb2
              have hR2 := Aside0.mk (HK.out t m rfl)
              have hsz := Aside0.mk (blk_lt hb2)
              clear hg hb2 HE HK HW HL1 HO1 HB1 HG1 HRd HL HO HB hc0 hc1 hf1 
              obtain ⟨kd, at', tx, tn⟩ := t
              simp only [Tok.agg]
              go_wp2_with (at_builtin; refine wpList_append_own _ rfl _ _ 22 rfl (w.heap.size + 1) 28 i0 (.agg #[.int .i64 0, .int .i64 0, .string ⟨#[]⟩, .int .i64 0]) 4 40 Tryd.underlying22 hi hz0 hz1 hz2 rfl (by decide) _ _ _ rfl ((HO2.out.alloc _).alloc _) ⟨w2.heap.size + 1, 0, none⟩ 1 1 [.int .i64 kd, .int .i64 at', .string tx, .int .i64 tn] rfl rfl ?c1 ?c2 ?c3 ?c4 ?c5 ?_)
              case c1 => exact new_cells (by simp [World.setCell]) _ _ _ _ _
              case c2 => intro u hu; simp at hu; rcases hu with rfl | rfl | rfl | rfl <;> rfl
              case c3 => unfold maxLen; omega
              case c4 => omega
              case c5 => have := hsz.out; simp; omega
              · intro v' w3 hown' hgrow _
                have hb3 := word_step HO2.out hgrow HBl.out rfl
                have hl3 := blk_grown (blk_alloc (blk_alloc HL2.out _) _) hgrow (fun e => by have := (HO2.out.lt _ e.symm).1; omega)
                have ho3 : w3.ownsRow (w.heap.size + 1) 28 4 v' (out ++ [(⟨kd, at', tx, tn⟩ : Tok)]).length (cellsOf (out ++ [(⟨kd, at', tx, tn⟩ : Tok)])) := by
                  rw [cellsOf_snoc, List.length_append]
                  exact hown'
                have HE := Aside0.mk (show _ ∧ _ ∧ _ from ⟨ho3, hl3, hb3⟩)
                have hp3 := pos_at hl3
                clear hown' hgrow hb3 hl3 ho3 HBl HO2 HL2 hsz
                go_wp2
                go_roundw
                case rel => exact ⟨m, f, out ++ [(⟨kd, at', tx, tn⟩ : Tok)], hm2, by omega, by simp; omega, HE.out.1, HE.out.2.1, HE.out.2.2, hR2.out⟩
                case measure => rw [hp3, hpos]; omega
          · have hc39 : ((s[K].toNat : Int) == 39) = false := by simp; omega
            have H39 := Aside0.mk h39
            clear h39
            have HRd := Aside0.mk (rd_sign w.heap.size s K _ HL1.out hlt (by omega))
            have hrd : read1 s K s[K] = readSign s K s[K] := by unfold read1; rw [hcl, if_neg (by decide), hcn, if_neg (by decide), if_neg H39.out]
            rw [hrd] at HK HE
            generalize readSign s K s[K] = r at *
            clear hrd
            cases r with
            | err x =>
              go_wp2_with (go_at_call 9; refine HW.out.mono ?_; rintro e w1 ⟨rfl, rfl⟩)
              refine (letter_calls s[K] _).mono ?_
              rintro e w1 ⟨rfl, rfl⟩
              rw [hcl]
              go_wp2_with fail
              refine (digit_calls s[K] _).mono ?_
              rintro e w1 ⟨rfl, rfl⟩
              rw [hcd]
              go_wp2_with fail
              refine HRd.out.mono ?_
              rintro e w2 ⟨hg, kd, tx, rfl, hx⟩
              have hb2 := below_only HB1.out hg
              have hR2 := HE.out x rfl
              have HQ := Aside0.mk hb2
              have HR2 := Aside0.mk hR2
              clear hg hb2 hR2 HE HK HW HL1 HO1 HB1 HG1 HRd HL HO HB hc0 hc1 hf1 hpos
              go_wp2
              go_region
              all_goals (try go_wp2)
              all_goals go_ret3
              all_goals
                rw [HR2.out]
                exact ⟨(HQ.out.alloc HQ.out.size _).drew, rfl, hx⟩
            | ok t m =>
              go_wp2_with (go_at_call 9; refine HW.out.mono ?_; rintro e w1 ⟨rfl, rfl⟩)
              refine (letter_calls s[K] _).mono ?_
              rintro e w1 ⟨rfl, rfl⟩
              rw [hcl]
              go_wp2_with fail
              refine (digit_calls s[K] _).mono ?_
              rintro e w1 ⟨rfl, rfl⟩
              rw [hcd]
              go_wp2_with fail
              refine HRd.out.mono ?_
              rintro e w2 ⟨hg, rfl, hb2, hm1, hm2⟩
              have HBl := Aside0.mk (below_only HB1.out hg)
              have HO2 := Aside0.mk (own_only HO1.out hg)
              have HL2 := Aside0.mk hb2
              have hR2 := Aside0.mk (HK.out t m rfl)
              have hsz := Aside0.mk (blk_lt hb2)
              clear hg hb2 HE HK HW HL1 HO1 HB1 HG1 HRd HL HO HB hc0 hc1 hf1 
              obtain ⟨kd, at', tx, tn⟩ := t
              simp only [Tok.agg]
              go_wp2_with (at_builtin; refine wpList_append_own _ rfl _ _ 22 rfl (w.heap.size + 1) 28 i0 (.agg #[.int .i64 0, .int .i64 0, .string ⟨#[]⟩, .int .i64 0]) 4 40 Tryd.underlying22 hi hz0 hz1 hz2 rfl (by decide) _ _ _ rfl ((HO2.out.alloc _).alloc _) ⟨w2.heap.size + 1, 0, none⟩ 1 1 [.int .i64 kd, .int .i64 at', .string tx, .int .i64 tn] rfl rfl ?c1 ?c2 ?c3 ?c4 ?c5 ?_)
              case c1 => exact new_cells (by simp [World.setCell]) _ _ _ _ _
              case c2 => intro u hu; simp at hu; rcases hu with rfl | rfl | rfl | rfl <;> rfl
              case c3 => unfold maxLen; omega
              case c4 => omega
              case c5 => have := hsz.out; simp; omega
              · intro v' w3 hown' hgrow _
                have hb3 := word_step HO2.out hgrow HBl.out rfl
                have hl3 := blk_grown (blk_alloc (blk_alloc HL2.out _) _) hgrow (fun e => by have := (HO2.out.lt _ e.symm).1; omega)
                have ho3 : w3.ownsRow (w.heap.size + 1) 28 4 v' (out ++ [(⟨kd, at', tx, tn⟩ : Tok)]).length (cellsOf (out ++ [(⟨kd, at', tx, tn⟩ : Tok)])) := by
                  rw [cellsOf_snoc, List.length_append]
                  exact hown'
                have HE := Aside0.mk (show _ ∧ _ ∧ _ from ⟨ho3, hl3, hb3⟩)
                have hp3 := pos_at hl3
                clear hown' hgrow hb3 hl3 ho3 HBl HO2 HL2 hsz
                go_wp2
                go_roundw
                case rel => exact ⟨m, f, out ++ [(⟨kd, at', tx, tn⟩ : Tok)], hm2, by omega, by simp; omega, HE.out.1, HE.out.2.1, HE.out.2.2, hR2.out⟩
                case measure => rw [hp3, hpos]; omega
        · cases hcd : isDigit s[K]
          · have hc45 : ((s[K].toNat : Int) == 45) = true := by unfold isNum at hcn; rw [hcd, Bool.false_or, decide_eq_true_eq] at hcn; rw [hcn]; rfl
            have HRd := Aside0.mk (rd_num w.heap.size s K _ HL1.out hlt (by omega) HG1.out HGl.out.lt)
            have hrd : read1 s K s[K] = readNum s K := by unfold read1; rw [hcl, if_neg (by decide), if_pos hcn]
            rw [hrd] at HK HE
            generalize readNum s K = r at *
            clear hrd
            cases r with
            | err x =>
              go_wp2_with (go_at_call 9; refine HW.out.mono ?_; rintro e w1 ⟨rfl, rfl⟩)
              refine (letter_calls s[K] _).mono ?_
              rintro e w1 ⟨rfl, rfl⟩
              rw [hcl]
              go_wp2_with fail
              refine (digit_calls s[K] _).mono ?_
              rintro e w1 ⟨rfl, rfl⟩
              rw [hcd]
              go_wp2_with fail
              refine HRd.out.mono ?_
              rintro e w2 ⟨hg, kd, tx, rfl, hx⟩
              have hb2 := below_only HB1.out hg
              have hR2 := HE.out x rfl
              have HQ := Aside0.mk hb2
              have HR2 := Aside0.mk hR2
              clear hg hb2 hR2 HE HK HW HL1 HO1 HB1 HG1 HRd HL HO HB hc0 hc1 hf1 hpos
              go_wp2
              go_region
              all_goals (try go_wp2)
              all_goals go_ret3
              all_goals
                rw [HR2.out]
                exact ⟨(HQ.out.alloc HQ.out.size _).drew, rfl, hx⟩
            | ok t m =>
              go_wp2_with (go_at_call 9; refine HW.out.mono ?_; rintro e w1 ⟨rfl, rfl⟩)
              refine (letter_calls s[K] _).mono ?_
              rintro e w1 ⟨rfl, rfl⟩
              rw [hcl]
              go_wp2_with fail
              refine (digit_calls s[K] _).mono ?_
              rintro e w1 ⟨rfl, rfl⟩
              rw [hcd]
              go_wp2_with fail
              refine HRd.out.mono ?_
              rintro e w2 ⟨hg, rfl, hb2, hm1, hm2⟩
              have HBl := Aside0.mk (below_only HB1.out hg)
              have HO2 := Aside0.mk (own_only HO1.out hg)
              have HL2 := Aside0.mk hb2
              have hR2 := Aside0.mk (HK.out t m rfl)
              have hsz := Aside0.mk (blk_lt hb2)
              clear hg hb2 HE HK HW HL1 HO1 HB1 HG1 HRd HL HO HB hc0 hc1 hf1 
              obtain ⟨kd, at', tx, tn⟩ := t
              simp only [Tok.agg]
              go_wp2_with (at_builtin; refine wpList_append_own _ rfl _ _ 22 rfl (w.heap.size + 1) 28 i0 (.agg #[.int .i64 0, .int .i64 0, .string ⟨#[]⟩, .int .i64 0]) 4 40 Tryd.underlying22 hi hz0 hz1 hz2 rfl (by decide) _ _ _ rfl ((HO2.out.alloc _).alloc _) ⟨w2.heap.size + 1, 0, none⟩ 1 1 [.int .i64 kd, .int .i64 at', .string tx, .int .i64 tn] rfl rfl ?c1 ?c2 ?c3 ?c4 ?c5 ?_)
              case c1 => exact new_cells (by simp [World.setCell]) _ _ _ _ _
              case c2 => intro u hu; simp at hu; rcases hu with rfl | rfl | rfl | rfl <;> rfl
              case c3 => unfold maxLen; omega
              case c4 => omega
              case c5 => have := hsz.out; simp; omega
              · intro v' w3 hown' hgrow _
                have hb3 := word_step HO2.out hgrow HBl.out rfl
                have hl3 := blk_grown (blk_alloc (blk_alloc HL2.out _) _) hgrow (fun e => by have := (HO2.out.lt _ e.symm).1; omega)
                have ho3 : w3.ownsRow (w.heap.size + 1) 28 4 v' (out ++ [(⟨kd, at', tx, tn⟩ : Tok)]).length (cellsOf (out ++ [(⟨kd, at', tx, tn⟩ : Tok)])) := by
                  rw [cellsOf_snoc, List.length_append]
                  exact hown'
                have HE := Aside0.mk (show _ ∧ _ ∧ _ from ⟨ho3, hl3, hb3⟩)
                have hp3 := pos_at hl3
                clear hown' hgrow hb3 hl3 ho3 HBl HO2 HL2 hsz
                go_wp2
                go_roundw
                case rel => exact ⟨m, f, out ++ [(⟨kd, at', tx, tn⟩ : Tok)], hm2, by omega, by simp; omega, HE.out.1, HE.out.2.1, HE.out.2.2, hR2.out⟩
                case measure => rw [hp3, hpos]; omega
          · skip
            have HRd := Aside0.mk (rd_num w.heap.size s K _ HL1.out hlt (by omega) HG1.out HGl.out.lt)
            have hrd : read1 s K s[K] = readNum s K := by unfold read1; rw [hcl, if_neg (by decide), if_pos hcn]
            rw [hrd] at HK HE
            generalize readNum s K = r at *
            clear hrd
            cases r with
            | err x =>
              go_wp2_with (go_at_call 9; refine HW.out.mono ?_; rintro e w1 ⟨rfl, rfl⟩)
              refine (letter_calls s[K] _).mono ?_
              rintro e w1 ⟨rfl, rfl⟩
              rw [hcl]
              go_wp2_with fail
              refine (digit_calls s[K] _).mono ?_
              rintro e w1 ⟨rfl, rfl⟩
              rw [hcd]
              go_wp2_with fail
              refine HRd.out.mono ?_
              rintro e w2 ⟨hg, kd, tx, rfl, hx⟩
              have hb2 := below_only HB1.out hg
              have hR2 := HE.out x rfl
              have HQ := Aside0.mk hb2
              have HR2 := Aside0.mk hR2
              clear hg hb2 hR2 HE HK HW HL1 HO1 HB1 HG1 HRd HL HO HB hc0 hc1 hf1 hpos
              go_wp2
              go_region
              all_goals (try go_wp2)
              all_goals go_ret3
              all_goals
                rw [HR2.out]
                exact ⟨(HQ.out.alloc HQ.out.size _).drew, rfl, hx⟩
            | ok t m =>
              go_wp2_with (go_at_call 9; refine HW.out.mono ?_; rintro e w1 ⟨rfl, rfl⟩)
              refine (letter_calls s[K] _).mono ?_
              rintro e w1 ⟨rfl, rfl⟩
              rw [hcl]
              go_wp2_with fail
              refine (digit_calls s[K] _).mono ?_
              rintro e w1 ⟨rfl, rfl⟩
              rw [hcd]
              go_wp2_with fail
              refine HRd.out.mono ?_
              rintro e w2 ⟨hg, rfl, hb2, hm1, hm2⟩
              have HBl := Aside0.mk (below_only HB1.out hg)
              have HO2 := Aside0.mk (own_only HO1.out hg)
              have HL2 := Aside0.mk hb2
              have hR2 := Aside0.mk (HK.out t m rfl)
              have hsz := Aside0.mk (blk_lt hb2)
              clear hg hb2 HE HK HW HL1 HO1 HB1 HG1 HRd HL HO HB hc0 hc1 hf1 
              obtain ⟨kd, at', tx, tn⟩ := t
              simp only [Tok.agg]
              go_wp2_with (at_builtin; refine wpList_append_own _ rfl _ _ 22 rfl (w.heap.size + 1) 28 i0 (.agg #[.int .i64 0, .int .i64 0, .string ⟨#[]⟩, .int .i64 0]) 4 40 Tryd.underlying22 hi hz0 hz1 hz2 rfl (by decide) _ _ _ rfl ((HO2.out.alloc _).alloc _) ⟨w2.heap.size + 1, 0, none⟩ 1 1 [.int .i64 kd, .int .i64 at', .string tx, .int .i64 tn] rfl rfl ?c1 ?c2 ?c3 ?c4 ?c5 ?_)
              case c1 => exact new_cells (by simp [World.setCell]) _ _ _ _ _
              case c2 => intro u hu; simp at hu; rcases hu with rfl | rfl | rfl | rfl <;> rfl
              case c3 => unfold maxLen; omega
              case c4 => omega
              case c5 => have := hsz.out; simp; omega
              · intro v' w3 hown' hgrow _
                have hb3 := word_step HO2.out hgrow HBl.out rfl
                have hl3 := blk_grown (blk_alloc (blk_alloc HL2.out _) _) hgrow (fun e => by have := (HO2.out.lt _ e.symm).1; omega)
                have ho3 : w3.ownsRow (w.heap.size + 1) 28 4 v' (out ++ [(⟨kd, at', tx, tn⟩ : Tok)]).length (cellsOf (out ++ [(⟨kd, at', tx, tn⟩ : Tok)])) := by
                  rw [cellsOf_snoc, List.length_append]
                  exact hown'
                have HE := Aside0.mk (show _ ∧ _ ∧ _ from ⟨ho3, hl3, hb3⟩)
                have hp3 := pos_at hl3
                clear hown' hgrow hb3 hl3 ho3 HBl HO2 HL2 hsz
                go_wp2
                go_roundw
                case rel => exact ⟨m, f, out ++ [(⟨kd, at', tx, tn⟩ : Tok)], hm2, by omega, by simp; omega, HE.out.1, HE.out.2.1, HE.out.2.2, hR2.out⟩
                case measure => rw [hp3, hpos]; omega
      · skip
        have HRd := Aside0.mk (rd_name w.heap.size s K _ HL1.out hlt (by omega) hcl)
        have hrd : read1 s K s[K] = readName s K := by unfold read1; rw [if_pos hcl]
        rw [hrd] at HK HE
        generalize readName s K = r at *
        clear hrd
        cases r with
        | err x =>
          go_wp2_with (go_at_call 9; refine HW.out.mono ?_; rintro e w1 ⟨rfl, rfl⟩)
          refine (letter_calls s[K] _).mono ?_
          rintro e w1 ⟨rfl, rfl⟩
          rw [hcl]
          go_wp2_with fail
          refine HRd.out.mono ?_
          rintro e w2 ⟨hg, kd, tx, rfl, hx⟩
          have hb2 := below_only HB1.out hg
          have hR2 := HE.out x rfl
          have HQ := Aside0.mk hb2
          have HR2 := Aside0.mk hR2
          clear hg hb2 hR2 HE HK HW HL1 HO1 HB1 HG1 HRd HL HO HB hc0 hc1 hf1 hpos
          go_wp2
          go_region
          all_goals (try go_wp2)
          all_goals go_ret3
          all_goals
            rw [HR2.out]
            exact ⟨(HQ.out.alloc HQ.out.size _).drew, rfl, hx⟩
        | ok t m =>
          go_wp2_with (go_at_call 9; refine HW.out.mono ?_; rintro e w1 ⟨rfl, rfl⟩)
          refine (letter_calls s[K] _).mono ?_
          rintro e w1 ⟨rfl, rfl⟩
          rw [hcl]
          go_wp2_with fail
          refine HRd.out.mono ?_
          rintro e w2 ⟨hg, rfl, hb2, hm1, hm2⟩
          have HBl := Aside0.mk (below_only HB1.out hg)
          have HO2 := Aside0.mk (own_only HO1.out hg)
          have HL2 := Aside0.mk hb2
          have hR2 := Aside0.mk (HK.out t m rfl)
          have hsz := Aside0.mk (blk_lt hb2)
          clear hg hb2 HE HK HW HL1 HO1 HB1 HG1 HRd HL HO HB hc0 hc1 hf1 
          obtain ⟨kd, at', tx, tn⟩ := t
          simp only [Tok.agg]
          go_wp2_with (at_builtin; refine wpList_append_own _ rfl _ _ 22 rfl (w.heap.size + 1) 28 i0 (.agg #[.int .i64 0, .int .i64 0, .string ⟨#[]⟩, .int .i64 0]) 4 40 Tryd.underlying22 hi hz0 hz1 hz2 rfl (by decide) _ _ _ rfl ((HO2.out.alloc _).alloc _) ⟨w2.heap.size + 1, 0, none⟩ 1 1 [.int .i64 kd, .int .i64 at', .string tx, .int .i64 tn] rfl rfl ?c1 ?c2 ?c3 ?c4 ?c5 ?_)
          case c1 => exact new_cells (by simp [World.setCell]) _ _ _ _ _
          case c2 => intro u hu; simp at hu; rcases hu with rfl | rfl | rfl | rfl <;> rfl
          case c3 => unfold maxLen; omega
          case c4 => omega
          case c5 => have := hsz.out; simp; omega
          · intro v' w3 hown' hgrow _
            have hb3 := word_step HO2.out hgrow HBl.out rfl
            have hl3 := blk_grown (blk_alloc (blk_alloc HL2.out _) _) hgrow (fun e => by have := (HO2.out.lt _ e.symm).1; omega)
            have ho3 : w3.ownsRow (w.heap.size + 1) 28 4 v' (out ++ [(⟨kd, at', tx, tn⟩ : Tok)]).length (cellsOf (out ++ [(⟨kd, at', tx, tn⟩ : Tok)])) := by
              rw [cellsOf_snoc, List.length_append]
              exact hown'
            have HE := Aside0.mk (show _ ∧ _ ∧ _ from ⟨ho3, hl3, hb3⟩)
            have hp3 := pos_at hl3
            clear hown' hgrow hb3 hl3 ho3 HBl HO2 HL2 hsz
            go_wp2
            go_roundw
            case rel => exact ⟨m, f, out ++ [(⟨kd, at', tx, tn⟩ : Tok)], hm2, by omega, by simp; omega, HE.out.1, HE.out.2.1, HE.out.2.2, hR2.out⟩
            case measure => rw [hp3, hpos]; omega
    · have hR2 := HR.out
      rw [lexF_end hlt] at hR2
      have hR2 := Aside0.mk hR2
      clear HR
      have hK : skip s k = s.size := by omega
      rw [hK] at hR2 HW
      clear hK hlt hsk
      have HO1 := Aside0.mk (own_set HO.out (Nat.lt_succ_self _) 1 (.int .i64 s.size))
      have HB1 : Aside0 (Below w.heap.size w (wr.setCell ⟨w.heap.size, 1, none⟩ (.int .i64 s.size))) := ⟨HB.out.setCell (Nat.le_refl _) _⟩
      go_wp2_with (first | (go_at_call 9; refine HW.out.mono ?_; rintro e w1 ⟨he, hw⟩; rw [he, hw]; clear he hw) | (at_builtin; refine wpList_append_own _ rfl _ _ 22 rfl (w.heap.size + 1) 28 i0 (.agg #[.int .i64 0, .int .i64 0, .string ⟨#[]⟩, .int .i64 0]) 4 40 Tryd.underlying22 hi hz0 hz1 hz2 rfl (by decide) _ _ _ rfl (HO1.out.alloc _) ⟨wr.heap.size, 0, none⟩ 1 1 [.int .i64 5, .int .i64 s.size, .string ⟨#[]⟩, .int .i64 0] rfl rfl ?c1 ?c2 ?c3 ?c4 ?c5 ?_))
      case c1 => exact new_cells (by simp [World.setCell]) _ _ _ _ _
      case c2 => intro u hu; simp at hu; rcases hu with rfl | rfl | rfl | rfl <;> rfl
      case c3 => unfold maxLen; omega
      case c4 => omega
      case c5 => simp; omega
      · intro v' w3 hown' hgrow _
        have hb3 : Below w.heap.size w w3 := by
          have h := HB1.out.alloc (by simp [World.setCell]; omega) (.cells #[.int .i64 5, .int .i64 s.size, .string ⟨#[]⟩, .int .i64 0] 28)
          refine ⟨hgrow.os.trans h.os, hgrow.tape.trans h.tape, hgrow.output.trans h.output, Nat.le_trans h.size hgrow.size, fun i hi => ?_⟩
          refine (hgrow.block i (Nat.lt_of_lt_of_le hi h.size) fun e => ?_).trans (h.block i hi)
          have := (HO1.out.lt i e.symm).1
          omega
        have ho3 : w3.ownsRow w.heap.size 28 4 v' (out ++ [(⟨5, s.size, ⟨#[]⟩, 0⟩ : Tok)]).length (cellsOf (out ++ [(⟨5, s.size, ⟨#[]⟩, 0⟩ : Tok)])) := by
          rw [cellsOf_snoc, List.length_append]
          exact own_mono hown' (Nat.le_succ _)
        have HE := Aside0.mk (And.intro hb3 ho3)
        clear hown' hgrow hb3 ho3 HO1 HB1 HO HB HL HW hc0 hc1 hf1 hpos
        go_wp2
        go_ret3
        rw [hR2.out]
        exact ⟨HE.out.1, v', rfl, HE.out.2⟩
end Go.Proofs.YtonlknpghifodaaDoor.P
