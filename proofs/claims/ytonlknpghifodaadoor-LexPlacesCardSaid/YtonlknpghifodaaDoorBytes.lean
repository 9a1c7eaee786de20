/- The predicates of bytes, walked. -/
import Derived.Test.YtonlknpghifodaaDoorGlob
import Derived.WalkKit
import Derived.Lib.Strings
namespace Go.Proofs.YtonlknpghifodaaDoor.P
open Go.RowKit

def isLetter (c : UInt8) : Bool := decide (97 ≤ c.toNat) && decide (c.toNat ≤ 122)
def isDigit (c : UInt8) : Bool := decide (48 ≤ c.toNat) && decide (c.toNat ≤ 57)
def isNameB (c : UInt8) : Bool := isLetter c || isDigit c || decide (c.toNat = 95)
def isBlank (c : UInt8) : Bool := decide (c.toNat = 32) || decide (c.toNat = 9) || decide (c.toNat = 10)

set_option maxHeartbeats 800000 in
set_option maxRecDepth 100000 in
theorem letter_calls (c : UInt8) (w : World) : Calls Tryd.prog 12 #[.int .u8 (c.toNat : Int)] w fun e w' => e = .returned (.bool (isLetter c)) ∧ w' = w := by
  by_cases h1 : 97 ≤ c.toNat
  · have e1 : decide ((97 : Int) ≤ (c.toNat : Int)) = true := decide_eq_true (by omega)
    go_enter Tryd.func12, Tryd.ntmps12
    go_wp2
    go_ret
    exact ⟨by simp [isLetter, h1]; omega, rfl⟩
  · have e1 : decide ((97 : Int) ≤ (c.toNat : Int)) = false := decide_eq_false (by omega)
    go_enter Tryd.func12, Tryd.ntmps12
    go_wp2
    go_ret
    exact ⟨by simp [isLetter, h1], rfl⟩

set_option maxHeartbeats 800000 in
set_option maxRecDepth 100000 in
theorem digit_calls (c : UInt8) (w : World) : Calls Tryd.prog 14 #[.int .u8 (c.toNat : Int)] w fun e w' => e = .returned (.bool (isDigit c)) ∧ w' = w := by
  by_cases h1 : 48 ≤ c.toNat
  · have e1 : decide ((48 : Int) ≤ (c.toNat : Int)) = true := decide_eq_true (by omega)
    go_enter Tryd.func14, Tryd.ntmps14
    go_wp2
    go_ret
    exact ⟨by simp [isDigit, h1]; omega, rfl⟩
  · have e1 : decide ((48 : Int) ≤ (c.toNat : Int)) = false := decide_eq_false (by omega)
    go_enter Tryd.func14, Tryd.ntmps14
    go_wp2
    go_ret
    exact ⟨by simp [isDigit, h1], rfl⟩

theorem eq_int (c : UInt8) (n : Nat) : ((c.toNat : Int) == (n : Int)) = decide (c.toNat = n) := Bool.eq_iff_iff.mpr (by simp; omega)

set_option maxHeartbeats 800000 in
set_option maxRecDepth 100000 in
theorem blank_calls (c : UInt8) (w : World) : Calls Tryd.prog 10 #[.int .u8 (c.toNat : Int)] w fun e w' => e = .returned (.bool (isBlank c)) ∧ w' = w := by
  have e1 : ((c.toNat : Int) == 32) = decide (c.toNat = 32) := eq_int c 32
  have e2 : ((c.toNat : Int) == 9) = decide (c.toNat = 9) := eq_int c 9
  have e3 : ((c.toNat : Int) == 10) = decide (c.toNat = 10) := eq_int c 10
  by_cases h1 : c.toNat = 32
  · rw [decide_eq_true h1] at e1
    go_enter Tryd.func10, Tryd.ntmps10
    go_wp2
    go_ret
    exact ⟨by simp [isBlank, h1], rfl⟩
  · rw [decide_eq_false h1] at e1
    by_cases h2 : c.toNat = 9
    · rw [decide_eq_true h2] at e2
      go_enter Tryd.func10, Tryd.ntmps10
      go_wp2
      go_ret
      exact ⟨by simp [isBlank, h2], rfl⟩
    · rw [decide_eq_false h2] at e2
      go_enter Tryd.func10, Tryd.ntmps10
      go_wp2
      go_ret
      exact ⟨by simp [isBlank, h1, h2], rfl⟩

set_option maxHeartbeats 1600000 in
set_option maxRecDepth 100000 in
theorem nameB_calls (c : UInt8) (w : World) : Calls Tryd.prog 21 #[.int .u8 (c.toNat : Int)] w fun e w' => e = .returned (.bool (isNameB c)) ∧ w' = w := by
  have e3 : ((c.toNat : Int) == 95) = decide (c.toNat = 95) := eq_int c 95
  cases h1 : isLetter c
  · cases h2 : isDigit c
    · go_enter Tryd.func21, Tryd.ntmps21
      go_wp2_with (first | (go_at_call 12; refine (letter_calls c _).mono ?_; rintro e w1 ⟨rfl, rfl⟩; rw [h1]) | (go_at_call 14; refine (digit_calls c _).mono ?_; rintro e w1 ⟨rfl, rfl⟩; rw [h2]))
      go_ret
      exact ⟨by simp [isNameB, h1, h2], rfl⟩
    · go_enter Tryd.func21, Tryd.ntmps21
      go_wp2_with (first | (go_at_call 12; refine (letter_calls c _).mono ?_; rintro e w1 ⟨rfl, rfl⟩; rw [h1]) | (go_at_call 14; refine (digit_calls c _).mono ?_; rintro e w1 ⟨rfl, rfl⟩; rw [h2]))
      go_ret
      exact ⟨by simp [isNameB, h2], rfl⟩
  · go_enter Tryd.func21, Tryd.ntmps21
    go_wp2_with (go_at_call 12; refine (letter_calls c _).mono ?_; rintro e w1 ⟨rfl, rfl⟩; rw [h1])
    go_ret
    exact ⟨by simp [isNameB, h1], rfl⟩
end Go.Proofs.YtonlknpghifodaaDoor.P
