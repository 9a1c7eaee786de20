/- What the printed functions of values come to, for texts of at most 2^20 bytes. -/
import Derived.Test.YtiackolnleeffaaDoorPx
import Derived.Test.YtiackolnleeffaaDoorMath
namespace Go.Proofs.YtiackolnleeffaaDoor.P
open Go.RowKit Go.Proofs.YtiackolnleeffaaDoorW.PrintWords Go.Proofs.YtiackolnleeffaaDoorW.PrintLast Go.Proofs.YtiackolnleeffaaDoorW.PrintMore
open Go.Proofs.YtiackolnleeffaaDoor.M

def ints (l : List UInt8) : List Int := l.map fun b => (b.toNat : Int)
theorem strOfNums_ints (l : List UInt8) : strOfNums (ints l) = ⟨l.toArray⟩ := by
  unfold strOfNums ints
  congr 2
  rw [List.map_map]
  exact (List.map_congr_left (fun b _ => by simp)).trans (List.map_id _)
theorem ints_append (a b : List UInt8) : ints (a ++ b) = ints a ++ ints b := by simp [ints]
theorem ints_length (a : List UInt8) : (ints a).length = a.length := by simp [ints]
theorem mk_data (s : ByteArray) : (⟨s.data.toList.toArray⟩ : ByteArray) = s := by cases s; simp
theorem app_mk (a b : List UInt8) : (⟨a.toArray⟩ : ByteArray) ++ ⟨b.toArray⟩ = ⟨(a ++ b).toArray⟩ := by
  apply ByteArray.ext
  simp [ByteArray.data_append]
theorem wrap_nat (i : Nat) (h : i < 9223372036854775807) : wrap64 ((i : Int) + 1) = ((i + 1 : Nat) : Int) := by
  unfold wrap64
  omega
theorem at_drop {s : ByteArray} {i : Nat} (hi : i < s.size) : ∃ c r, s.data.toList.drop i = c :: r ∧ bt s (i : Int) = (c.toNat : Int) ∧ s.data.toList.drop (i + 1) = r := by
  have hl : i < s.data.toList.length := by rw [← Lib.size_eq]; exact hi
  refine ⟨s.data.toList[i], _, List.drop_eq_getElem_cons hl, ?_, rfl⟩
  rw [← rd_bytesOf]
  unfold rd bytesOf
  rw [Int.toNat_natCast, List.getD_eq_getElem?_getD, List.getElem?_map, List.getElem?_eq_getElem hl]
  rfl
theorem at_end {s : ByteArray} {i : Nat} (hi : s.size ≤ i) : s.data.toList.drop i = [] := List.drop_of_length_le (by rw [← Lib.size_eq]; exact hi)
theorem byte_eq {c : UInt8} {n : Nat} (hn : n < 256) : ((c.toNat : Int) = (n : Int)) ↔ c = UInt8.ofNat n := by
  constructor
  · intro h
    apply UInt8.toNat_inj.mp
    rw [UInt8.toNat_ofNat']
    omega
  · rintro rfl
    rw [UInt8.toNat_ofNat']
    omega
theorem byte39 {c : UInt8} : ((c.toNat : Int) = 39) ↔ c = 39 := byte_eq (n := 39) (by decide)

/-! ### is it right -/
def right (k n : Int) (s : List UInt8) : Bool := if k = 0 then decide (n = 0) && decide (s = []) else if k = 1 then decide (s = []) else decide (k = 2) && decide (n = 0) && decide (s.length ≤ 64)
theorem Check_eq (k n : Int) (s : ByteArray) : value_Check.f k n s = some (if right k n s.data.toList then 0 else 10) := by
  unfold value_Check.f right
  rw [Lib.size_eq, Lib.toList_data]
  generalize s.data.toList = L
  by_cases h0 : k = 0
  · subst h0
    by_cases hn : n = 0 <;> by_cases hs : L = [] <;> simp [hn, hs]
  · by_cases h1 : k = 1
    · subst h1
      by_cases hs : L = [] <;> simp [hs]
    · by_cases h2 : k = 2
      · subst h2
        by_cases hn : n = 0
        · by_cases hs : L.length ≤ 64
          · have : ((L.length : Int) ≤ 64) := by omega
            simp [hn, hs, this]
          · have : ¬ ((L.length : Int) ≤ 64) := by omega
            simp [hn, hs, this]
        · simp [hn]
      · simp [h0, h1, h2]
theorem Right_eq (k n : Int) (s : ByteArray) : lintelref01_Right.f k n s = some (right k n s.data.toList) := by
  unfold lintelref01_Right.f right
  rw [Lib.size_eq, Lib.toList_data]
  generalize s.data.toList = L
  by_cases h0 : k = 0
  · subst h0
    by_cases hn : n = 0
    · cases L <;> simp [hn]
    · simp [hn]
  · by_cases h1 : k = 1
    · subst h1
      cases L <;> simp
    · by_cases h2 : k = 2
      · subst h2
        by_cases hn : n = 0
        · by_cases hs : L.length ≤ 64
          · have : ((L.length : Int) ≤ 64) := by omega
            simp [hn, hs, this]
          · have : ¬ ((L.length : Int) ≤ 64) := by omega
            simp [hn, hs, this]
        · simp [hn]
      · simp [h0, h1, h2]

/-! ### what is written -/
theorem print_loop (s : ByteArray) (hs : s.size ≤ 1048576) (a b : Int) : ∀ (d i k : Nat) (acc : List Int), s.size - i = d → i ≤ s.size → d < k → acc.length ≤ 2 * i + 1 →
    value_Print.l0 k acc (s.size : Int) (i : Int) a b s = some (strOfNums (acc ++ ints (esc (s.data.toList.drop i)) ++ [39]), 0) := by
  intro d
  induction d with
  | zero =>
    intro i k acc hd hi hk ha
    obtain ⟨k, rfl⟩ : ∃ m, k = m + 1 := ⟨k - 1, by omega⟩
    simp only [value_Print.l0]
    rw [if_neg (by omega), if_pos (by omega), at_end (by omega)]
    simp [esc, ints]
  | succ d ih =>
    intro i k acc hd hi hk ha
    obtain ⟨k, rfl⟩ : ∃ m, k = m + 1 := ⟨k - 1, by omega⟩
    obtain ⟨c, r, hdr, hb, hr⟩ := at_drop (s := s) (i := i) (by omega)
    simp only [value_Print.l0]
    rw [if_pos (by omega), if_pos (by omega), if_pos (by omega), if_pos (by omega), hb]
    simp only [Option.bind_some]
    rw [wrap_nat i (by omega)]
    by_cases hc : c = 39
    · rw [if_pos (byte39.mpr hc), if_pos (by rw [List.length_append, List.length_singleton]; omega), ih (i + 1) k _ (by omega) (by omega) (by omega) (by simp; omega), hr, hdr]
      subst hc
      simp [esc, ints]
    · rw [if_neg (fun h => hc (byte39.mp h)), ih (i + 1) k _ (by omega) (by omega) (by omega) (by simp; omega), hr, hdr]
      simp [esc, ints, hc]
theorem refprint_loop (s : ByteArray) (hs : s.size ≤ 1048576) (a b : Int) : ∀ (d i k : Nat) (acc : List Int), s.size - i = d → i ≤ s.size → d < k → acc.length ≤ 2 * i + 1 →
    lintelref01_Print.l0 k acc (i : Int) a b s = some (strOfNums (acc ++ ints (esc (s.data.toList.drop i)) ++ [39]), 0) := by
  intro d
  induction d with
  | zero =>
    intro i k acc hd hi hk ha
    obtain ⟨k, rfl⟩ : ∃ m, k = m + 1 := ⟨k - 1, by omega⟩
    simp only [lintelref01_Print.l0]
    rw [if_neg (by omega), if_pos (by omega), at_end (by omega)]
    simp [esc, ints]
  | succ d ih =>
    intro i k acc hd hi hk ha
    obtain ⟨k, rfl⟩ : ∃ m, k = m + 1 := ⟨k - 1, by omega⟩
    obtain ⟨c, r, hdr, hb, hr⟩ := at_drop (s := s) (i := i) (by omega)
    simp only [lintelref01_Print.l0]
    rw [if_pos (by omega), if_pos (by omega), hb, wrap_nat i (by omega)]
    by_cases hc : c = 39
    · rw [if_pos (byte39.mpr hc), if_pos (by omega)]
      simp only [Option.bind_some]
      rw [if_pos (by rw [List.length_append, List.length_singleton]; omega), ih (i + 1) k _ (by omega) (by omega) (by omega) (by simp; omega), hr, hdr]
      subst hc
      simp [esc, ints]
    · rw [if_neg (fun h => hc (byte39.mp h)), if_pos (by omega), ih (i + 1) k _ (by omega) (by omega) (by omega) (by simp; omega), hr, hdr]
      simp [esc, ints, hc]
theorem right_size {k n : Int} {s : ByteArray} (hr : right k n s.data.toList = true) (h0 : ¬ k = 0) (h1 : ¬ k = 1) : s.size ≤ 1048576 := by
  unfold right at hr
  rw [if_neg h0, if_neg h1] at hr
  simp only [Bool.and_eq_true, decide_eq_true_eq] at hr
  rw [Lib.size_eq]
  omega
/-- A value's text, and 0; or none, and the error. -/
def printV (k n : Int) (s : List UInt8) : List UInt8 × Int :=
  if right k n s then (if k = 0 then [110, 117, 108, 108] else if k = 1 then Lib.itoa n else 39 :: esc s ++ [39], 0) else ([], 10)
def ok64 (n : Int) : Prop := -9223372036854775808 ≤ n ∧ n ≤ 9223372036854775807
theorem Print_ev (k n : Int) (s : ByteArray) (hn : ok64 n) : Ev (fun j => value_Print.f j k n s) (⟨(printV k n s.data.toList).1.toArray⟩, (printV k n s.data.toList).2) := by
  refine ⟨s.size + 1, fun j hj => ?_⟩
  unfold value_Print.f printV
  rw [Check_eq]
  simp only [Option.bind_some]
  cases hr : right k n s.data.toList with
  | false => simp
  | true =>
    simp only [if_true]
    by_cases h0 : k = 0
    · simp [h0]
    · by_cases h1 : k = 1
      · rw [if_neg h0, if_pos h1, if_neg h0, if_pos h1]
        unfold strconv_FormatInt.f
        rw [if_pos rfl, if_pos hn.1, if_pos hn.2]
        rfl
      · rw [if_neg h0, if_neg h1, if_neg h0, if_neg h1]
        have hs : s.size ≤ 1048576 := right_size hr h0 h1
        refine (print_loop s hs k n s.size 0 j [39] (by omega) (by omega) (by omega) (by simp)).trans ?_
        rw [List.drop_zero, show ([39] : List Int) = ints [39] from rfl, ← ints_append, ← ints_append, strOfNums_ints]
        rfl

/-! ### the reference's digits -/
theorem tmod_abs (x : Int) : (x.tmod 10).natAbs = x.natAbs % 10 := by
  rw [Int.natAbs_tmod]
  rfl
theorem tdiv_abs (x : Int) : (x.tdiv 10).natAbs = x.natAbs / 10 := by
  rw [Int.natAbs_tdiv]
  rfl
theorem one_digit {d : Int} {u : Nat} (h : d = ((48 + u : Nat) : Int)) (hu : u < 10) : strOfNums [d % 256] = ⟨[UInt8.ofNat (48 + u)].toArray⟩ := by
  subst h
  unfold strOfNums
  rw [List.map_cons, List.map_nil, show (((48 + u : Nat) : Int) % 256).toNat = 48 + u by omega]
theorem digits_loop (n : Int) : ∀ (m u : Nat) (x : Int) (out : List UInt8) (k : Nat), u ≤ m → x.natAbs = u → u ≤ 9223372036854775808 → out.length + (digs u).length ≤ 100 → u < k →
    lintelref01_Digits.l0 k n ⟨out.toArray⟩ x = some ⟨((if n < 0 then [45] else []) ++ digs u ++ out).toArray⟩ := by
  intro m
  induction m with
  | zero =>
    intro u x out k hm hx hu ho hk
    obtain ⟨k, rfl⟩ : ∃ m, k = m + 1 := ⟨k - 1, by omega⟩
    obtain rfl : u = 0 := by omega
    obtain rfl : x = 0 := by omega
    simp only [lintelref01_Digits.l0, if_true]
    by_cases hn : n < 0
    · rw [if_pos hn, if_pos (by rw [Lib.size_eq]; simp; omega), if_pos hn, digs_zero]
      rw [show (⟨#[45]⟩ : ByteArray) = ⟨([45] : List UInt8).toArray⟩ from rfl, app_mk]
      rfl
    · rw [if_neg hn, if_neg hn, digs_zero]
      rfl
  | succ m ih =>
    intro u x out k hm hx hu ho hk
    obtain ⟨k, rfl⟩ : ∃ m, k = m + 1 := ⟨k - 1, by omega⟩
    by_cases h0 : x = 0
    · subst h0
      obtain rfl : u = 0 := by simpa using hx.symm
      simp only [lintelref01_Digits.l0, if_true]
      by_cases hn : n < 0
      · rw [if_pos hn, if_pos (by rw [Lib.size_eq]; simp; omega), if_pos hn, digs_zero]
        rw [show (⟨#[45]⟩ : ByteArray) = ⟨([45] : List UInt8).toArray⟩ from rfl, app_mk]
        rfl
      · rw [if_neg hn, if_neg hn, digs_zero]
        rfl
    · have hu0 : u ≠ 0 := by omega
      have hta := tmod_abs x
      have hda := tdiv_abs x
      rw [hx] at hta hda
      have hlen : (digs u).length = (digs (u / 10)).length + 1 := by rw [digs_pos hu0]; simp
      have hw : wrap64 (x.tdiv 10) = x.tdiv 10 := by unfold wrap64; omega
      have hgo : ∀ d : Int, d = ((48 + u % 10 : Nat) : Int) → (if (strOfNums [d % 256]).size + (⟨out.toArray⟩ : ByteArray).size ≤ 9223372036854775807 then lintelref01_Digits.l0 k n (strOfNums [d % 256] ++ ⟨out.toArray⟩) (wrap64 (x.tdiv 10)) else none) = some ⟨((if n < 0 then [45] else []) ++ digs u ++ out).toArray⟩ := by
        intro d hd
        rw [one_digit hd (by omega), app_mk, hw, if_pos (by rw [Lib.size_eq, Lib.size_eq]; simp; omega)]
        rw [ih (u / 10) _ _ k (by omega) hda (by omega) (by simp; omega) (by omega), digs_pos hu0]
        simp
      simp only [lintelref01_Digits.l0]
      rw [if_neg h0]
      by_cases hneg : x.tmod 10 < 0
      · rw [if_pos hneg]
        simp only [Option.bind_some]
        refine hgo _ ?_
        have e1 : wrap64 (-(x.tmod 10)) = -(x.tmod 10) := by unfold wrap64; omega
        rw [e1]
        unfold wrap64
        omega
      · rw [if_neg hneg]
        simp only [Option.bind_some]
        refine hgo _ ?_
        unfold wrap64
        omega
theorem Digits_ev (n : Int) (hn : ok64 n) : Ev (fun j => lintelref01_Digits.f j n) ⟨(Lib.itoa n).toArray⟩ := by
  obtain ⟨h1, h2⟩ := hn
  refine ⟨n.natAbs + 1, fun j hj => ?_⟩
  show lintelref01_Digits.f j n = _
  unfold lintelref01_Digits.f
  by_cases h0 : n = 0
  · subst h0
    rw [if_pos rfl, show Lib.itoa 0 = [48] from by unfold Lib.itoa; rw [if_neg (by omega), Lib.decDigits_one (by decide)]; rfl]
  · have hd := decDigits_digs _ n.natAbs (Nat.le_refl _) (by omega)
    have hl := Lib.decDigits_length n.natAbs
    have h19 := nDigits_19 (u := n.natAbs) (by omega)
    rw [if_neg h0, show (⟨#[]⟩ : ByteArray) = ⟨([] : List UInt8).toArray⟩ from rfl, digits_loop n n.natAbs n.natAbs n [] j (Nat.le_refl _) rfl (by omega) (by rw [← hd]; simp; omega) (by omega)]
    rw [← hd]
    unfold Lib.itoa
    by_cases hneg : n < 0
    · rw [if_pos hneg, if_pos hneg]
      simp
    · rw [if_neg hneg, if_neg hneg, show n.natAbs = n.toNat by omega]
      simp
theorem RefPrint_ev (k n : Int) (s : ByteArray) (hn : ok64 n) : Ev (fun j => lintelref01_Print.f j k n s) (⟨(printV k n s.data.toList).1.toArray⟩, (printV k n s.data.toList).2) := by
  obtain ⟨K, hK⟩ := Digits_ev n hn
  refine ⟨s.size + 1 + K, fun j hj => ?_⟩
  show lintelref01_Print.f j k n s = _
  unfold lintelref01_Print.f printV
  rw [Right_eq]
  simp only [Option.bind_some]
  cases hr : right k n s.data.toList with
  | false => simp
  | true =>
    simp only [if_true]
    by_cases h0 : k = 0
    · simp [h0]
    · by_cases h1 : k = 1
      · rw [if_neg h0, if_pos h1, if_neg h0, if_pos h1, show lintelref01_Digits.f j n = _ from hK j (by omega)]
        rfl
      · rw [if_neg h0, if_neg h1, if_neg h0, if_neg h1]
        have hs : s.size ≤ 1048576 := right_size hr h0 h1
        refine (refprint_loop s hs k n s.size 0 j [39] (by omega) (by omega) (by omega) (by simp)).trans ?_
        rw [List.drop_zero, show ([39] : List Int) = ints [39] from rfl, ← ints_append, ← ints_append, strOfNums_ints]
        rfl

end Go.Proofs.YtiackolnleeffaaDoor.P
