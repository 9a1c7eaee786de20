/- The lexer's 'while', walked: the place behind the bytes that are as they are asked to be. -/
import Derived.Test.YtonlknpghifodaaDoorBytes
import Derived.LoopTactic
import Derived.Test.YtonlknpghifodaaDoorWMore
namespace Go.Proofs.YtonlknpghifodaaDoor.P
set_option linter.unusedVariables false
set_option linter.unusedSimpArgs false
open Go.RowKit Go.Proofs.YtonlknpghifodaaDoorW.PrintWords Go.Proofs.YtonlknpghifodaaDoorW.PrintLast Go.Proofs.YtonlknpghifodaaDoorW.PrintMore

/-- How many bytes, from the first on, are as they are asked to be. -/
def span (p : UInt8 → Bool) : List UInt8 → Nat
  | [] => 0
  | c :: l => if p c then span p l + 1 else 0

theorem span_le (p : UInt8 → Bool) : ∀ l, span p l ≤ l.length
  | [] => Nat.le_refl _
  | c :: l => by
    have := span_le p l
    unfold span
    split
    · simp; omega
    · simp

theorem drop_cons (s : ByteArray) (k : Nat) (h : k < s.size) : s.data.toList.drop k = s[k] :: s.data.toList.drop (k + 1) := by
  rw [List.drop_eq_getElem_cons (by rw [Array.length_toList]; exact h)]
  rfl

set_option maxHeartbeats 3200000 in
set_option maxRecDepth 100000 in
theorem while_calls (F : FuncId) (hF : F = 10 ∨ F = 14 ∨ F = 21) (p : UInt8 → Bool)
    (hp : ∀ c w, Calls Tryd.prog F #[.int .u8 ((c : UInt8).toNat : Int)] w fun e w' => e = .returned (.bool (p c)) ∧ w' = w)
    (b : Nat) (s : ByteArray) (n : Nat) (w : World) (h0 : w.cell? ⟨b, 0, none⟩ = some (.string s)) (hs : s.size ≤ 1048576) (m : Nat) (hm : m = n + span p (s.data.toList.drop n)) :
    Calls Tryd.prog 9 #[.pointer (some ⟨b, 0, none⟩), .int .i64 n, .func (.func F) #[] #[]] w fun e w' => e = .returned (.int .i64 m) ∧ w' = w := by
  have HP := Aside0.mk hp
  clear hp
  rcases hF with rfl | rfl | rfl
  all_goals
    go_enter Tryd.func9, Tryd.ntmps9
    go_wp2
    go_loop [1] (fun i => ∃ k : Nat, i = .int .i64 k ∧ m = k + span p (s.data.toList.drop k))
      (fun i => s.size - (intOf i).toNat)
    case atStart => exact ⟨n, rfl, hm⟩
    case round =>
      clear hm
      obtain ⟨k, rfl, hk⟩ := hrel
      have hk0 := hk
      clear hk
      by_cases hlt : k < s.size
      · rw [drop_cons s k hlt, span] at hk0
        cases hpc : p s[k]
        · rw [hpc, if_neg (by decide)] at hk0
          have hk := Aside0.mk hk0
          clear hk0
          go_wp2_with (first | (go_at_call 10; refine (HP.out s[k] _).mono ?_; rintro e w1 ⟨rfl, rfl⟩; rw [hpc]) | (go_at_call 14; refine (HP.out s[k] _).mono ?_; rintro e w1 ⟨rfl, rfl⟩; rw [hpc]) | (go_at_call 21; refine (HP.out s[k] _).mono ?_; rintro e w1 ⟨rfl, rfl⟩; rw [hpc]))
          go_ret
          obtain rfl : m = k := hk.out
          exact ⟨rfl, rfl⟩
        · rw [hpc, if_pos rfl] at hk0
          have hk := Aside0.mk hk0
          clear hk0
          go_wp2_with (first | (go_at_call 10; refine (HP.out s[k] _).mono ?_; rintro e w1 ⟨rfl, rfl⟩; rw [hpc]) | (go_at_call 14; refine (HP.out s[k] _).mono ?_; rintro e w1 ⟨rfl, rfl⟩; rw [hpc]) | (go_at_call 21; refine (HP.out s[k] _).mono ?_; rintro e w1 ⟨rfl, rfl⟩; rw [hpc]))
          go_round
          case rel => exact ⟨k + 1, by go_num, by have := hk.out; omega⟩
          case measure => simp [intOf]; omega
      · rw [show s.data.toList.drop k = [] from List.drop_eq_nil_of_le (by rw [Array.length_toList]; exact Nat.le_of_not_lt hlt), span] at hk0
        have hk := Aside0.mk hk0
        clear hk0
        go_wp2
        go_ret
        obtain rfl : m = k := hk.out
        exact ⟨rfl, rfl⟩
end Go.Proofs.YtonlknpghifodaaDoor.P
