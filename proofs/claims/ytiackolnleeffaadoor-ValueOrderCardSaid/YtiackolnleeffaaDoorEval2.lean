/- What the printed functions of values come to: the order, reading. -/
import Derived.Test.YtiackolnleeffaaDoorEval
namespace Go.Proofs.YtiackolnleeffaaDoor.P
open Go.RowKit Go.Proofs.YtiackolnleeffaaDoorW.PrintWords Go.Proofs.YtiackolnleeffaaDoorW.PrintLast Go.Proofs.YtiackolnleeffaaDoorW.PrintMore
open Go.Proofs.YtiackolnleeffaaDoor.M

/-! ### the order -/
def cmpI (a b : Int) : Int := if a < b then -1 else if b < a then 1 else 0
def cmpV (a b : Int) (s : List UInt8) (d e : Int) (t : List UInt8) : Int := if cmpI a d ≠ 0 then cmpI a d else if cmpI b e ≠ 0 then cmpI b e else Lib.compareBytes s t
theorem CompareInt_eq (a b : Int) : cmp_Compare_int.f a b = some (cmpI a b) := by
  unfold cmp_Compare_int.f cmp_isNaN_int.f cmpI
  simp only [bne_self_eq_false, Option.bind_some, Bool.false_eq_true, if_false]
  by_cases h : a < b
  · simp [h]
  · by_cases h2 : b < a
    · simp [h, h2]
    · simp [h, h2]
theorem CompareInt64_eq (a b : Int) : cmp_Compare_int64.f a b = some (cmpI a b) := by
  unfold cmp_Compare_int64.f cmp_isNaN_int64.f cmpI
  simp only [bne_self_eq_false, Option.bind_some, Bool.false_eq_true, if_false]
  by_cases h : a < b
  · simp [h]
  · by_cases h2 : b < a
    · simp [h, h2]
    · simp [h, h2]
theorem Or3 (k : Nat) (x y z : Int) : cmp_Or_int.f (k + 4) [x, y, z] = some (if x ≠ 0 then x else if y ≠ 0 then y else z) := by
  unfold cmp_Or_int.f
  simp only [cmp_Or_int.l0]
  have w1 : wrap64 (0 + 1) = 1 := by unfold wrap64; omega
  have w2 : wrap64 (1 + 1) = 2 := by unfold wrap64; omega
  have w3 : wrap64 (2 + 1) = 3 := by unfold wrap64; omega
  simp only [w1, w2, w3, rd, List.length_cons, List.length_nil]
  by_cases hx : x = 0
  · by_cases hy : y = 0
    · by_cases hz : z = 0
      · simp [hx, hy, hz]
      · simp [hx, hy, hz]
    · simp [hx, hy]
  · simp [hx]
theorem Compare_ev (a b : Int) (s : ByteArray) (d e : Int) (t : ByteArray) : Ev (fun j => value_Compare.f j a b s d e t) (cmpV a b s.data.toList d e t.data.toList) := by
  refine ⟨4, fun j hj => ?_⟩
  obtain ⟨j, rfl⟩ : ∃ m, j = m + 4 := ⟨j - 4, by omega⟩
  show value_Compare.f (j + 4) a b s d e t = _
  unfold value_Compare.f cmpV
  simp only [CompareInt_eq, CompareInt64_eq, strings_Compare.f, Option.bind_some, Or3]
theorem stands_loop (s t : ByteArray) (hs : s.size ≤ 9223372036854775807) : ∀ (d i k : Nat), s.size - i = d → i ≤ s.size → i ≤ t.size → 2 * d + 1 < k →
    lintelref01_Stands.l0 k s t (i : Int) = some (Lib.compareBytes (s.data.toList.drop i) (t.data.toList.drop i)) := by
  intro d
  induction d with
  | zero =>
    intro i k hd hi hi2 hk
    obtain ⟨k, rfl⟩ : ∃ m, k = m + 2 := ⟨k - 2, by omega⟩
    simp only [lintelref01_Stands.l0]
    rw [if_neg (by omega)]
    simp only [lintelref01_Stands.j1]
    rw [if_neg (by decide), at_end (s := s) (by omega)]
    rcases Nat.lt_or_ge i t.size with hlt | hge
    · obtain ⟨c, r, hdr, _, _⟩ := at_drop hlt
      rw [if_pos (by omega), hdr]
      rfl
    · rw [if_neg (by omega), if_neg (by omega), at_end (s := t) (by omega)]
      rfl
  | succ d ih =>
    intro i k hd hi hi2 hk
    obtain ⟨k, rfl⟩ : ∃ m, k = m + 2 := ⟨k - 2, by omega⟩
    obtain ⟨c, r, hdr, hb, hr⟩ := at_drop (s := s) (i := i) (by omega)
    simp only [lintelref01_Stands.l0]
    rw [if_pos (by omega)]
    simp only [lintelref01_Stands.j1]
    rcases Nat.lt_or_ge i t.size with hlt | hge
    · obtain ⟨c2, r2, hdr2, hb2, hr2⟩ := at_drop hlt
      rw [if_pos (by simpa using hlt), if_pos (by omega), if_pos (by omega), if_pos (by omega), hb, hb2, hdr, hdr2, wrap_nat i (by omega)]
      unfold Lib.compareBytes
      by_cases h1 : c < c2
      · rw [if_pos (by have := UInt8.lt_iff_toNat_lt.mp h1; omega), if_pos h1]
      · by_cases h2 : c2 < c
        · rw [if_neg (by have := mt UInt8.lt_iff_toNat_lt.mpr h1; omega), if_pos (by have := UInt8.lt_iff_toNat_lt.mp h2; omega), if_neg h1, if_pos h2]
        · rw [if_neg (by have := mt UInt8.lt_iff_toNat_lt.mpr h1; omega), if_neg (by have := mt UInt8.lt_iff_toNat_lt.mpr h2; omega), if_neg h1, if_neg h2, ih (i + 1) k (by omega) (by omega) (by omega) (by omega), hr, hr2]
    · rw [if_neg (by simp; omega), if_neg (by omega), if_pos (by omega), at_end (s := t) (by omega), hdr]
      rfl
theorem RefCompare_ev (a b : Int) (s : ByteArray) (d e : Int) (t : ByteArray) (hs : s.size ≤ 9223372036854775807) : Ev (fun j => lintelref01_Compare.f j a b s d e t) (cmpV a b s.data.toList d e t.data.toList) := by
  refine ⟨2 * s.size + 3, fun j hj => ?_⟩
  obtain ⟨j, rfl⟩ : ∃ m, j = m + 1 := ⟨j - 1, by omega⟩
  show lintelref01_Compare.f (j + 1) a b s d e t = _
  have hst : lintelref01_Stands.f j s t = some (Lib.compareBytes s.data.toList t.data.toList) := stands_loop s t hs s.size 0 j (by omega) (by omega) (by omega) (by omega)
  unfold lintelref01_Compare.f cmpV cmpI
  simp only [lintelref01_Compare.j0]
  rw [hst]
  simp only [Option.bind_some]
  by_cases h1 : a < d
  · simp [h1]
  · by_cases h2 : a = d
    · subst h2
      by_cases h3 : b < e
      · simp [h3]
      · by_cases h4 : e < b
        · simp [h3, h4]
        · simp [h3, h4]
    · have h5 : d < a := by omega
      simp [h1, h2, h5]

/-! ### the reference's reading of texts -/
theorem text_loop (s : ByteArray) (hs : s.size ≤ 1048576) (h2 : 2 ≤ s.size) : ∀ (d i k : Nat) (acc : List UInt8), s.size - i ≤ d → 1 ≤ i → i ≤ s.size - 1 → d < k → acc.length ≤ i →
    lintelref01_text.l0 k s (ints acc) (i : Int) = some (match unesc ((s.data.toList.take (s.size - 1)).drop i) with | some l => (⟨(acc ++ l).toArray⟩, decide ((acc ++ l).length ≤ 64)) | none => (⟨#[]⟩, false)) := by
  have hw : wrap64 ((s.size : Int) - 1) = ((s.size - 1 : Nat) : Int) := by unfold wrap64; omega
  intro d
  induction d with
  | zero => intro i k acc hd hi hi2; omega
  | succ d ih =>
    intro i k acc hd hi hi2 hk ha
    obtain ⟨k, rfl⟩ : ∃ m, k = m + 1 := ⟨k - 1, by omega⟩
    simp only [lintelref01_text.l0]
    rw [hw]
    have hdt : ∀ j, (s.data.toList.take (s.size - 1)).drop j = (s.data.toList.drop j).take (s.size - 1 - j) := fun j => List.drop_take ..
    rw [hdt]
    rcases Nat.lt_or_ge i (s.size - 1) with hlt | hge
    · obtain ⟨c, r, hdr, hb, hr⟩ := at_drop (s := s) (i := i) (by omega)
      rw [if_pos (by omega), if_pos (by omega), if_pos (by omega), hb, wrap_nat i (by omega), hdr]
      obtain ⟨m, hm⟩ : ∃ m, s.size - 1 - i = m + 1 := ⟨s.size - 1 - i - 1, by omega⟩
      have hm2 : s.size - 1 - (i + 1) = m := by omega
      rw [hm, List.take_succ_cons]
      by_cases hc : c = 39
      · rw [if_pos (byte39.mpr hc)]
        rcases Nat.lt_or_ge (i + 1) (s.size - 1) with hlt2 | hge2
        · obtain ⟨c2, r2, hdr2, hb2, hr2⟩ := at_drop (s := s) (i := i + 1) (by omega)
          obtain ⟨m2, hm3⟩ : ∃ m2, m = m2 + 1 := ⟨m - 1, by omega⟩
          rw [if_neg (by omega), if_pos (by omega), if_pos (by omega), hb2, ← hr, hdr2, hm3, List.take_succ_cons]
          by_cases hc2 : c2 = 39
          · rw [if_pos (byte39.mpr hc2), if_pos (by rw [ints_length]; omega), wrap_nat (i + 1) (by omega)]
            rw [show ints acc ++ [(c2.toNat : Int)] = ints (acc ++ [c2]) by simp [ints], ih (i + 1 + 1) k _ (by omega) (by omega) (by omega) (by omega) (by simp; omega), hdt, hr2]
            rw [show s.size - 1 - (i + 1 + 1) = m2 by omega]
            subst hc hc2
            simp only [unesc, if_true]
            cases unesc (r2.take m2) <;> simp
          · rw [if_neg (fun h => hc2 (byte39.mp h))]
            simp [unesc, hc, hc2]
        · rw [if_pos (by omega), show m = 0 by omega, List.take_zero]
          simp [unesc, hc]
      · rw [if_neg (fun h => hc (byte39.mp h)), if_pos (by rw [ints_length]; omega)]
        rw [show ints acc ++ [(c.toNat : Int)] = ints (acc ++ [c]) by simp [ints], ih (i + 1) k _ (by omega) (by omega) (by omega) (by omega) (by simp; omega), hdt, hr, hm2]
        cases hq : r.take m with
        | nil => simp [unesc, hc]
        | cons x y =>
          simp only [unesc, if_neg hc]
          cases unesc (x :: y) <;> simp
    · rw [if_neg (by omega), show s.size - 1 - i = 0 by omega, List.take_zero]
      simp only [unesc, List.append_nil, strOfNums_ints, ints_length, Option.some.injEq, Prod.mk.injEq, true_and]
      rw [decide_eq_decide]
      omega
/-- What stands between the quotes; none: it is no text. -/
def textOf (l : List UInt8) : Option (List UInt8) := match l with
  | [] => none
  | c :: r => if c = 39 then (if r.getLast? = some 39 then unesc r.dropLast else none) else none
theorem text_ev (s : ByteArray) (hs : s.size ≤ 1048576) : Ev (fun j => lintelref01_text.f j s) (match textOf s.data.toList with | some l => (⟨l.toArray⟩, decide (l.length ≤ 64)) | none => (⟨#[]⟩, false)) := by
  refine ⟨s.size + 3, fun j hj => ?_⟩
  obtain ⟨j, rfl⟩ : ∃ m, j = m + 1 := ⟨j - 1, by omega⟩
  show lintelref01_text.f (j + 1) s = _
  have hsz := Lib.size_eq s
  unfold lintelref01_text.f
  simp only [lintelref01_text.j0, if_true]
  by_cases h2 : s.size < 2
  · rw [if_pos (by omega)]
    match hl : s.data.toList with
    | [] => simp [textOf]
    | [c] => by_cases hc : c = 39 <;> simp [textOf, hc]
    | c :: d :: r => rw [hl] at hsz; simp at hsz; omega
  · rw [if_neg (by omega), if_pos (by omega)]
    obtain ⟨c, r, hdr, hb, hr⟩ := at_drop (s := s) (i := 0) (by omega)
    rw [List.drop_zero] at hdr
    rw [show bt s 0 = (c.toNat : Int) from hb, hdr]
    have hw : wrap64 ((s.size : Int) - 1) = ((s.size - 1 : Nat) : Int) := by unfold wrap64; omega
    have hrl : r.length = s.size - 1 := by rw [hdr] at hsz; simp at hsz; omega
    obtain ⟨q, y, rfl⟩ : ∃ q y, r = q ++ [y] := ⟨r.dropLast, r.getLast (by intro h; subst h; simp at hrl; omega), (List.dropLast_concat_getLast _).symm⟩
    by_cases hc : c = 39
    · rw [if_pos (byte39.mpr hc), hw, if_pos (by omega), if_pos (by omega)]
      obtain ⟨c2, r2, hdr2, hb2, _⟩ := at_drop (s := s) (i := s.size - 1) (by omega)
      have hy : c2 = y := by
        rw [hdr, ← hrl, List.length_append, List.length_singleton, show q.length + 1 = (c :: q).length by simp, show c :: (q ++ [y]) = (c :: q) ++ [y] from rfl, List.drop_left] at hdr2
        injection hdr2 with hh _
        exact hh.symm
      rw [hb2, hy]
      simp only [textOf, if_pos hc, List.getLast?_append, List.getLast?_singleton, Option.some_or, Option.some.injEq, List.dropLast_concat]
      by_cases hy39 : y = 39
      · rw [if_neg (by subst hy39; decide), if_pos hy39]
        have := text_loop s hs (by omega) s.size 1 j [] (by omega) (by omega) (by omega) (by omega) (by simp)
        rw [show ints [] = ([] : List Int) from rfl] at this
        refine this.trans ?_
        have e : (s.data.toList.take (s.size - 1)).drop 1 = q := by
          rw [hdr, ← hrl, List.length_append, List.length_singleton, show q.length + 1 = (c :: q).length by simp, show c :: (q ++ [y]) = (c :: q) ++ [y] from rfl, List.take_left]
          rfl
        rw [e]
        cases unesc q <;> rfl
      · rw [if_pos (by
          have : ¬ ((y.toNat : Int) = 39) := fun h => hy39 (byte39.mp h)
          simpa using this), if_neg hy39]
    · rw [if_neg (fun h => hc (byte39.mp h))]
      simp [textOf, hc]
theorem textOf_quote (l : List UInt8) : textOf (39 :: esc l ++ [39]) = some l := by
  simp [textOf, unesc_esc]
theorem quote_textOf {m l : List UInt8} (h : textOf m = some l) : m = 39 :: esc l ++ [39] := by
  unfold textOf at h
  cases m with
  | nil => cases h
  | cons c r =>
    simp only at h
    by_cases hc : c = 39
    · rw [if_pos hc] at h
      by_cases hr : r.getLast? = some 39
      · rw [if_pos hr] at h
        have := esc_unesc _ _ _ (Nat.le_refl _) h
        rw [hc, ← this, List.cons_append]
        congr 1
        obtain ⟨q, rfl⟩ := List.getLast?_eq_some_iff.mp hr
        simp
      · rw [if_neg hr] at h; cases h
    · rw [if_neg hc] at h; cases h

end Go.Proofs.YtiackolnleeffaaDoor.P
