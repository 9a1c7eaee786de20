/- The lexer's reader of a text, walked. -/
import Derived.Test.YtonlknpghifodaaDoorRead
import Derived.Laws.AppendOwn
import Derived.OwnWalk
import Derived.LoopTactic
namespace Go.Proofs.YtonlknpghifodaaDoor.P
set_option linter.unusedVariables false
set_option linter.unusedSimpArgs false
open Go.RowKit Go.Proofs.YtonlknpghifodaaDoorW.PrintWords Go.Proofs.YtonlknpghifodaaDoorW.PrintLast Go.Proofs.YtonlknpghifodaaDoorW.PrintMore

/-- The bytes of a text behind its first mark, and how many bytes it takes, its last mark among them. -/
def quoted : List UInt8 → Option (List UInt8 × Nat)
  | [] => none
  | c :: l =>
    if c = 39 then
      match l with
      | [] => some ([], 1)
      | d :: r => if d = 39 then (quoted r).map fun p => (39 :: p.1, p.2 + 2) else some ([], 1)
    else (quoted l).map fun p => (c :: p.1, p.2 + 1)

def asNums (out : List UInt8) : List Int := out.map fun c => (c.toNat : Int)
theorem asNums_str (out : List UInt8) : strOfNums (asNums out) = ⟨out.toArray⟩ := by
  unfold strOfNums asNums
  congr 2
  rw [List.map_map]
  conv => rhs; rw [← List.map_id out]
  apply List.map_congr_left
  intro c _
  simp

/-- What the reader of a text answers. -/
def textVal (n : Nat) : Option (List UInt8 × Nat) → Value
  | none => .tuple #[.agg #[.int .i64 0, .int .i64 n, .string ⟨#[]⟩, .int .i64 0], .int .i64 171]
  | some (x, _) => if 64 < x.length then .tuple #[.agg #[.int .i64 0, .int .i64 n, .string ⟨#[]⟩, .int .i64 0], .int .i64 21]
    else .tuple #[.agg #[.int .i64 3, .int .i64 n, .string ⟨x.toArray⟩, .int .i64 0], .int .i64 0]

theorem info_u8 : (Tryd.prog.info? 5).map (fun i => (i.zero, i.size, i.bytes)) = some (some (.int .u8 0), 1, 1) := by kernel_rfl

theorem own_step {w wr w1 : World} {b B : Nat} {e : TypeId} {sz n : Nat} {v : Value} {xs : List Value} {o : Obj} (hO : wr.ownsRow B e sz v n xs) (hB : w.heap.size ≤ B) (hg : (wr.alloc o).grownBy w1 v.ownBlock) (hG : w.grownBy wr (some b)) : w.grownBy w1 (some b) := by
  have h := only_alloc hG o
  refine ⟨hg.os.trans h.os, hg.tape.trans h.tape, hg.output.trans h.output, Nat.le_trans h.size hg.size, fun i hi hne => ?_⟩
  refine (hg.block i (Nat.lt_of_lt_of_le hi h.size) fun e => ?_).trans (h.block i hi hne)
  have := (hO.lt i e.symm).1
  omega
theorem own_keep {wr w1 : World} {B : Nat} {e : TypeId} {sz n : Nat} {v : Value} {xs : List Value} {o : Obj} (hO : wr.ownsRow B e sz v n xs) (hg : (wr.alloc o).grownBy w1 v.ownBlock) {g : Nat} {o' : Obj} (h : wr.heap[g]? = some o') (hlt : g < B) : w1.heap[g]? = some o' :=
  blk_grown (blk_alloc h o) hg fun e => by have := (hO.lt g e.symm).1; omega
theorem own_set {wr : World} {b B : Nat} {e : TypeId} {sz n : Nat} {v : Value} {xs : List Value} (hO : wr.ownsRow B e sz v n xs) (hlt : b < B) (i : Nat) (u : Value) : (wr.setCell ⟨b, i, none⟩ u).ownsRow B e sz v n xs := by
  refine hO.kept (only_setCell (only_refl wr (some b)) (.inl rfl) u) ?_
  cases h : v.ownBlock with
  | none => exact .inl rfl
  | some k => exact .inr (by intro e; injection e with e; have := (hO.lt k h).1; omega)
theorem quoted_other {s : ByteArray} {k : Nat} (h : k < s.size) (h39 : ¬ s[k].toNat = 39) : quoted (s.data.toList.drop k) = (quoted (s.data.toList.drop (k + 1))).map fun p => (s[k] :: p.1, p.2 + 1) := by
  rw [drop_cons s k h, quoted.eq_def]
  simp only
  rw [if_neg fun e => h39 (by rw [e]; rfl)]
theorem quoted_last {s : ByteArray} {k : Nat} (h : k < s.size) (h39 : s[k].toNat = 39) (hl : k + 1 = s.size) : quoted (s.data.toList.drop k) = some ([], 1) := by
  rw [drop_cons s k h, quoted.eq_def]
  simp only
  rw [if_pos (UInt8.toNat_inj.mp h39), show s.data.toList.drop (k + 1) = [] from List.drop_eq_nil_of_le (by rw [Array.length_toList, hl]; exact Nat.le_refl _)]
theorem quoted_end {s : ByteArray} {k : Nat} (h : k + 1 < s.size) (h39 : s[k].toNat = 39) (h40 : ¬ s[k + 1].toNat = 39) : quoted (s.data.toList.drop k) = some ([], 1) := by
  rw [drop_cons s k (by omega), quoted.eq_def]
  simp only
  rw [if_pos (UInt8.toNat_inj.mp h39), drop_cons s (k + 1) h]
  simp only
  rw [if_neg fun e => h40 (by rw [e]; rfl)]
theorem quoted_two {s : ByteArray} {k : Nat} (h : k + 1 < s.size) (h39 : s[k].toNat = 39) (h40 : s[k + 1].toNat = 39) : quoted (s.data.toList.drop k) = (quoted (s.data.toList.drop (k + 2))).map fun p => (39 :: p.1, p.2 + 2) := by
  have e : s[k + 1] = 39 := UInt8.toNat_inj.mp h40
  rw [drop_cons s k (by omega), quoted.eq_def]
  simp only
  rw [if_pos (UInt8.toNat_inj.mp h39), drop_cons s (k + 1) h]
  simp only
  rw [if_pos e]

set_option maxHeartbeats 6400000 in
set_option maxRecDepth 100000 in
theorem text_calls (b : Nat) (s : ByteArray) (n : Nat) (w : World) (hb : w.heap[b]? = some (.cells #[.string s, .int .i64 n] 37 (0, 0))) (hn : n < s.size) (hs : s.size ≤ 1048576) (q : Option (List UInt8 × Nat)) (hq : q = quoted (s.data.toList.drop (n + 1))) :
    Calls Tryd.prog 16 #[.pointer (some ⟨b, 0, none⟩)] w fun e w' => e = .returned (textVal n q) ∧
      (∀ x u, q = some (x, u) → w'.heap[b]? = some (.cells #[.string s, .int .i64 ((n + 1 + u : Nat) : Int)] 37 (0, 0))) ∧ w.grownBy w' (some b) := by
  have hc0 : w.cell? ⟨b, 0, none⟩ = some (.string s) := (blk_cell hb 0).trans rfl
  have hc1 : w.cell? ⟨b, 1, none⟩ = some (.int .i64 n) := (blk_cell hb 1).trans rfl
  have hlt : b < w.heap.size := World.block_lt_of_cell? w _ hc0
  have HB := Aside0.mk hb
  have HQ := Aside0.mk hq
  clear hb hq
  obtain ⟨i0, hi, hz0, hz1, hz2⟩ := info_parts info_u8
  go_enter Tryd.func16, Tryd.ntmps16
  go_wp2
  clear hc0 hc1
  go_loopw [5, 6] (fun v i wr => ∃ (k : Nat) (out : List UInt8), i = .int .i64 k ∧ n + 1 ≤ k ∧ k ≤ s.size ∧ out.length ≤ k ∧ wr.ownsRow (w.heap.size + 1) 5 1 v out.length (nums .u8 (asNums out)) ∧
      wr.heap[b]? = some (.cells #[.string s, .int .i64 n] 37 (0, 0)) ∧ wr.heap[w.heap.size]? = some (.cells #[.int .i64 0, .int .i64 0, .string ⟨#[]⟩, .int .i64 0] 28 (0, 0)) ∧ w.grownBy wr (some b) ∧
      q = (quoted (s.data.toList.drop k)).map (fun p => (out ++ p.1, p.2 + (k - (n + 1)))))
    (fun _ i _ => s.size - (intOf i).toNat)
  case atStart =>
    refine ⟨n + 1, [], by go_num, Nat.le_refl _, hn, Nat.zero_le _, World.ownsRow_nil _ _ _ _, blk_alloc HB.out _, blk_new w _, only_alloc (only_refl w (some b)) _, ?_⟩
    rw [HQ.out]
    simp
  case round =>
    obtain ⟨k, out, rfl, hk1, hk2, hol, hown, hbr, htr, hgr, hqr⟩ := hrel
    have HL := Aside0.mk hbr
    have HT := Aside0.mk htr
    have HG := Aside0.mk hgr
    have HR := Aside0.mk hqr
    have HO := Aside0.mk hown
    have hc0 : wr.cell? ⟨b, 0, none⟩ = some (.string s) := (blk_cell hbr 0).trans rfl
    have hc1 : wr.cell? ⟨b, 1, none⟩ = some (.int .i64 n) := (blk_cell hbr 1).trans rfl
    have hf1 : wr.frozen? ⟨b, 1, none⟩ = false := blk_frozen hbr 1
    have hwr : w.heap.size + 1 ≤ wr.heap.size := blk_lt htr
    clear hbr htr hgr hqr hown
    by_cases hlt : k < s.size
    · by_cases h39 : s[k].toNat = 39
      · have e1 : ((s[k].toNat : Int) == 39) = true := by rw [h39]; rfl
        by_cases hl : k + 1 = s.size
        · have e2 : ((k : Int) + 1 == (s.size : Int)) = true := by rw [← hl]; simp
          obtain ⟨A, cp, rfl⟩ := own_slice HO.out
          have hq : q = some (out, k + 1 - (n + 1)) := by rw [HR.out, quoted_last hlt h39 hl]; simp; omega
          have hconv := own_string Tryd.underlying44 Tryd.underlying5 Tryd.underlying9 (own_set HO.out (by omega : b < w.heap.size + 1) 1 (.int .i64 ((k : Int) + 1)))
          rw [asNums_str] at hconv
          obtain ⟨hp0, hp1, hp2, hp3, hp4, hp5, hp6, hp7⟩ := vr_four HT.out
          have HCv := Aside0.mk hconv
          have key : Aside0 ((wr.setCell ⟨b, 1, none⟩ (.int .i64 ((k : Int) + 1))).heap[b]? = some (.cells #[.string s, .int .i64 ((k + 1 : Nat) : Int)] 37 (0, 0))) := ⟨by
            rw [show ((k + 1 : Nat) : Int) = (k : Int) + 1 by omega]
            exact blk_put HL.out 1 _ rfl⟩
          have hne : b ≠ w.heap.size := by omega
          clear hconv
          by_cases h64 : 64 < out.length
          · go_wp2
            refine bodyPost_ret (v := .tuple #[.agg #[.int .i64 0, .int .i64 n, .string ⟨#[]⟩, .int .i64 0], .int .i64 21]) (by simp [results, Tryd.results16, go_sem, *]) rfl ⟨?_, ?_, ?_⟩
            · rw [hq, textVal, if_pos h64]
            · intro x u e
              rw [hq] at e
              obtain ⟨rfl, rfl⟩ := Prod.mk.inj (Option.some.inj e)
              rw [show n + 1 + (k + 1 - (n + 1)) = k + 1 by omega]
              exact blk_far (blk_far (blk_far (blk_far key.out hne _) hne _) hne _) hne _
            · exact only_setCell (only_setCell (only_setCell (only_setCell (only_setCell HG.out (.inl rfl) _) (.inr (Nat.le_refl _)) _) (.inr (Nat.le_refl _)) _) (.inr (Nat.le_refl _)) _) (.inr (Nat.le_refl _)) _
          · have hcv := HCv.out
            go_wp2
            refine bodyPost_ret (v := .tuple #[.agg #[.int .i64 3, .int .i64 n, .string ⟨out.toArray⟩, .int .i64 0], .int .i64 0]) (by simp [results, Tryd.results16, go_sem, *]) rfl ⟨?_, ?_, ?_⟩
            · rw [hq, textVal, if_neg h64]
            · intro x u e
              rw [hq] at e
              obtain ⟨rfl, rfl⟩ := Prod.mk.inj (Option.some.inj e)
              rw [show n + 1 + (k + 1 - (n + 1)) = k + 1 by omega]
              exact blk_far (blk_far (blk_far (blk_far key.out hne _) hne _) hne _) hne _
            · exact only_setCell (only_setCell (only_setCell (only_setCell (only_setCell HG.out (.inl rfl) _) (.inr (Nat.le_refl _)) _) (.inr (Nat.le_refl _)) _) (.inr (Nat.le_refl _)) _) (.inr (Nat.le_refl _)) _
        · have e2 : ((k : Int) + 1 == (s.size : Int)) = false := by simp; omega
          have hl2 : k + 1 < s.size := by omega
          by_cases h40 : s[k + 1].toNat = 39
          · have e3 : ((s[k + 1].toNat : Int) != 39) = false := by rw [h40]; rfl
            go_wp2_with (at_builtin; refine wpList_append_own _ rfl _ _ 44 rfl (w.heap.size + 1) 5 i0 (.int .u8 0) 1 1 Tryd.underlying44 hi hz0 hz1 hz2 rfl (by decide) _ _ _ rfl (HO.out.alloc _) ⟨wr.heap.size, 0, none⟩ 1 1 [.int .u8 39] rfl rfl ?c1 ?c2 ?c3 ?c4 ?c5 ?_)
            case c1 =>
              intro j u hj
              match j, hj with
              | 0, hj => simp at hj; subst hj; simp [Addr.add]
            case c2 => intro u hu; simp at hu; subst hu; rfl
            case c3 => unfold maxLen; omega
            case c4 => omega
            case c5 => simp; omega
            · intro v' w1 hown' hgrow _
              have hb1 := own_keep HO.out hgrow HL.out (by omega)
              have ht1 := own_keep HO.out hgrow HT.out (by omega)
              have hg1 := own_step HO.out (by omega) hgrow HG.out
              have hq1 : q = (quoted (s.data.toList.drop (k + 2))).map (fun p => ((out ++ [39]) ++ p.1, p.2 + (k + 2 - (n + 1)))) := by
                rw [HR.out, quoted_two hl2 h39 h40, Option.map_map]
                congr 1
                funext p
                simp
                omega
              have ho1 : w1.ownsRow (w.heap.size + 1) 5 1 v' (out ++ [39]).length (nums .u8 (asNums (out ++ [39]))) := by
                have e : nums .u8 (asNums (out ++ [39])) = nums .u8 (asNums out) ++ [.int .u8 39] := by simp [nums, asNums]
                rw [e, List.length_append]
                exact hown'
              have HE := Aside0.mk (show _ ∧ _ ∧ _ ∧ _ ∧ _ from ⟨ho1, hb1, ht1, hg1, hq1⟩)
              clear hown' hgrow hb1 ht1 hg1 hq1 ho1 hc0 hc1 hf1
              go_wp2
              go_roundw
              case rel => exact ⟨k + 2, out ++ [39], by go_num, by omega, by omega, by simp; omega, HE.out.1, HE.out.2.1, HE.out.2.2.1, HE.out.2.2.2.1, HE.out.2.2.2.2⟩
              case measure => simp [intOf]; omega
          · have e3 : ((s[k + 1].toNat : Int) != 39) = true := by simp; omega
            obtain ⟨A, cp, rfl⟩ := own_slice HO.out
            have hq : q = some (out, k + 1 - (n + 1)) := by rw [HR.out, quoted_end hl2 h39 h40]; simp; omega
            have hconv := own_string Tryd.underlying44 Tryd.underlying5 Tryd.underlying9 (own_set HO.out (by omega : b < w.heap.size + 1) 1 (.int .i64 ((k : Int) + 1)))
            rw [asNums_str] at hconv
            obtain ⟨hp0, hp1, hp2, hp3, hp4, hp5, hp6, hp7⟩ := vr_four HT.out
            have HCv := Aside0.mk hconv
            have key : Aside0 ((wr.setCell ⟨b, 1, none⟩ (.int .i64 ((k : Int) + 1))).heap[b]? = some (.cells #[.string s, .int .i64 ((k + 1 : Nat) : Int)] 37 (0, 0))) := ⟨by
              rw [show ((k + 1 : Nat) : Int) = (k : Int) + 1 by omega]
              exact blk_put HL.out 1 _ rfl⟩
            have hne : b ≠ w.heap.size := by omega
            clear hconv
            by_cases h64 : 64 < out.length
            · go_wp2
              refine bodyPost_ret (v := .tuple #[.agg #[.int .i64 0, .int .i64 n, .string ⟨#[]⟩, .int .i64 0], .int .i64 21]) (by simp [results, Tryd.results16, go_sem, *]) rfl ⟨?_, ?_, ?_⟩
              · rw [hq, textVal, if_pos h64]
              · intro x u e
                rw [hq] at e
                obtain ⟨rfl, rfl⟩ := Prod.mk.inj (Option.some.inj e)
                rw [show n + 1 + (k + 1 - (n + 1)) = k + 1 by omega]
                exact blk_far (blk_far (blk_far (blk_far key.out hne _) hne _) hne _) hne _
              · exact only_setCell (only_setCell (only_setCell (only_setCell (only_setCell HG.out (.inl rfl) _) (.inr (Nat.le_refl _)) _) (.inr (Nat.le_refl _)) _) (.inr (Nat.le_refl _)) _) (.inr (Nat.le_refl _)) _
            · have hcv := HCv.out
              go_wp2
              refine bodyPost_ret (v := .tuple #[.agg #[.int .i64 3, .int .i64 n, .string ⟨out.toArray⟩, .int .i64 0], .int .i64 0]) (by simp [results, Tryd.results16, go_sem, *]) rfl ⟨?_, ?_, ?_⟩
              · rw [hq, textVal, if_neg h64]
              · intro x u e
                rw [hq] at e
                obtain ⟨rfl, rfl⟩ := Prod.mk.inj (Option.some.inj e)
                rw [show n + 1 + (k + 1 - (n + 1)) = k + 1 by omega]
                exact blk_far (blk_far (blk_far (blk_far key.out hne _) hne _) hne _) hne _
              · exact only_setCell (only_setCell (only_setCell (only_setCell (only_setCell HG.out (.inl rfl) _) (.inr (Nat.le_refl _)) _) (.inr (Nat.le_refl _)) _) (.inr (Nat.le_refl _)) _) (.inr (Nat.le_refl _)) _
      · have e1 : ((s[k].toNat : Int) == 39) = false := by simp; omega
        go_wp2_with (at_builtin; refine wpList_append_own _ rfl _ _ 44 rfl (w.heap.size + 1) 5 i0 (.int .u8 0) 1 1 Tryd.underlying44 hi hz0 hz1 hz2 rfl (by decide) _ _ _ rfl (HO.out.alloc _) ⟨wr.heap.size, 0, none⟩ 1 1 [.int .u8 (s[k].toNat : Int)] rfl rfl ?c1 ?c2 ?c3 ?c4 ?c5 ?_)
        case c1 =>
          intro j u hj
          match j, hj with
          | 0, hj => simp at hj; subst hj; simp [Addr.add]
        case c2 => intro u hu; simp at hu; subst hu; rfl
        case c3 => unfold maxLen; omega
        case c4 => omega
        case c5 => simp; omega
        · intro v' w1 hown' hgrow _
          have hb1 := own_keep HO.out hgrow HL.out (by omega)
          have ht1 := own_keep HO.out hgrow HT.out (by omega)
          have hg1 := own_step HO.out (by omega) hgrow HG.out
          have hq1 : q = (quoted (s.data.toList.drop (k + 1))).map (fun p => ((out ++ [s[k]]) ++ p.1, p.2 + (k + 1 - (n + 1)))) := by
            rw [HR.out, quoted_other hlt h39, Option.map_map]
            congr 1
            funext p
            simp
            omega
          have ho1 : w1.ownsRow (w.heap.size + 1) 5 1 v' (out ++ [s[k]]).length (nums .u8 (asNums (out ++ [s[k]]))) := by
            have e : nums .u8 (asNums (out ++ [s[k]])) = nums .u8 (asNums out) ++ [.int .u8 (s[k].toNat : Int)] := by simp [nums, asNums]
            rw [e, List.length_append]
            exact hown'
          have HE := Aside0.mk (show _ ∧ _ ∧ _ ∧ _ ∧ _ from ⟨ho1, hb1, ht1, hg1, hq1⟩)
          clear hown' hgrow hb1 ht1 hg1 hq1 ho1 hc0 hc1 hf1
          go_wp2
          go_roundw
          case rel => exact ⟨k + 1, out ++ [s[k]], by go_num, by omega, by omega, by simp; omega, HE.out.1, HE.out.2.1, HE.out.2.2.1, HE.out.2.2.2.1, HE.out.2.2.2.2⟩
          case measure => simp [intOf]; omega
    · have hq : q = none := by rw [HR.out, show s.data.toList.drop k = [] from List.drop_eq_nil_of_le (by rw [Array.length_toList]; exact Nat.le_of_not_lt hlt)]; rfl
      obtain ⟨hp0, hp1, hp2, hp3, hp4, hp5, hp6, hp7⟩ := vr_four HT.out
      go_wp2
      refine bodyPost_ret (v := .tuple #[.agg #[.int .i64 0, .int .i64 n, .string ⟨#[]⟩, .int .i64 0], .int .i64 171]) (by simp [results, Tryd.results16, go_sem, *]) rfl ⟨?_, ?_, ?_⟩
      · rw [hq, textVal]
      · intro x u e
        rw [hq] at e
        exact absurd e (by simp)
      · exact only_setCell (only_setCell (only_setCell (only_setCell HG.out (.inr (Nat.le_refl _)) _) (.inr (Nat.le_refl _)) _) (.inr (Nat.le_refl _)) _) (.inr (Nat.le_refl _)) _
end Go.Proofs.YtonlknpghifodaaDoor.P
