/- How a text value is written by the reference: out of the printed function. -/
import Derived.Test.YtonlknpghifodaaDoorPx
import Derived.Test.YtonlknpghifodaaDoorBlanks
namespace Go.Proofs.YtonlknpghifodaaDoor.P
set_option linter.unusedVariables false
set_option linter.unusedSimpArgs false
open Go.RowKit Go.Proofs.YtonlknpghifodaaDoorW.PrintWords Go.Proofs.YtonlknpghifodaaDoorW.PrintLast Go.Proofs.YtonlknpghifodaaDoorW.PrintMore

theorem asNums_append (a b : List UInt8) : asNums (a ++ b) = asNums a ++ asNums b := by simp [asNums]
theorem wrap_nat (i : Nat) (h : i < 9223372036854775807) : wrap64 ((i : Int) + 1) = ((i + 1 : Nat) : Int) := by
  unfold wrap64
  omega
theorem bt_nat {s : ByteArray} {i : Nat} (hi : i < s.size) : bt s (i : Int) = (s[i].toNat : Int) := by
  unfold bt
  simp [hi]
theorem drop_end {s : ByteArray} {i : Nat} (hi : s.size ≤ i) : s.data.toList.drop i = [] := List.drop_of_length_le (by rw [← Lib.size_eq]; exact hi)
theorem refprint_loop (s : ByteArray) (hs : s.size ≤ 64) (a b : Int) : ∀ (d i k : Nat) (acc : List Int), s.size - i = d → i ≤ s.size → d < k → acc.length ≤ 2 * i + 1 →
    lintelref01_Print.l0 k acc (i : Int) a b s = some (strOfNums (acc ++ asNums (dbl (s.data.toList.drop i)) ++ [39]), 0) := by
  intro d
  induction d with
  | zero =>
    intro i k acc hd hi hk ha
    obtain ⟨k, rfl⟩ : ∃ m, k = m + 1 := ⟨k - 1, by omega⟩
    simp only [lintelref01_Print.l0]
    rw [if_neg (by omega), if_pos (by omega), drop_end (by omega)]
    simp [dbl, asNums]
  | succ d ih =>
    intro i k acc hd hi hk ha
    obtain ⟨k, rfl⟩ : ∃ m, k = m + 1 := ⟨k - 1, by omega⟩
    have hlt : i < s.size := by omega
    simp only [lintelref01_Print.l0]
    rw [if_pos (by omega), if_pos (by omega), bt_nat hlt, wrap_nat i (by omega), drop_cons s i hlt, dbl]
    by_cases hc : s[i] = 39
    · rw [if_pos (by rw [hc]; rfl), if_pos (by omega)]
      simp only [Option.bind_some]
      rw [if_pos (by rw [List.length_append, List.length_singleton]; omega), ih (i + 1) k _ (by omega) (by omega) (by omega) (by simp; omega), if_pos hc, hc]
      simp [asNums]
    · rw [if_neg (fun h => hc (UInt8.toNat_inj.mp (show s[i].toNat = (39 : UInt8).toNat by have : (39 : UInt8).toNat = 39 := rfl; omega))), if_pos (by omega), ih (i + 1) k _ (by omega) (by omega) (by omega) (by simp; omega), if_neg hc]
      simp [asNums]
theorem print_text (x : ByteArray) (hx : x.size ≤ 64) (w : World) :
    Calls Tryd.prog 8 #[.agg #[.int .i64 2, .int .i64 0, .string x]] w fun e w' => e = .returned (.tuple #[.string ⟨(39 :: (dbl x.data.toList ++ [39])).toArray⟩, .int .i64 0]) ∧ Below w.heap.size w w' := by
  refine lintelref01_Print.calls (x.size + 1) 2 0 x _ _ w ?_
  unfold lintelref01_Print.f
  have hr : lintelref01_Right.f 2 0 x = some true := by
    unfold lintelref01_Right.f
    rw [if_neg (by decide), if_neg (by decide), if_pos rfl, if_pos rfl, decide_eq_true (by omega)]
  rw [hr]
  simp only [Option.bind_some]
  rw [if_pos trivial, if_neg (by decide), if_neg (by decide)]
  refine (refprint_loop x hx 2 0 x.size 0 (x.size + 1) [39] (by omega) (by omega) (by omega) (by simp)).trans ?_
  rw [List.drop_zero, show ([39] : List Int) = asNums [39] from rfl, ← asNums_append, ← asNums_append, asNums_str]
  rfl
end Go.Proofs.YtonlknpghifodaaDoor.P
