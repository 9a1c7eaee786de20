-- written by a program of this session (patchprint.py over the kit's print)
import Derived.Test.YtiackolnleeffaaDoorPx0
namespace Go.Proofs.YtiackolnleeffaaDoor.P
open Go.RowKit Go.Proofs.YtiackolnleeffaaDoorW.PrintWords Go.Proofs.YtiackolnleeffaaDoorW.PrintLast Go.Proofs.YtiackolnleeffaaDoorW.PrintMore
attribute [local go_sem] max2_int min2_int max_two min_two max_three min_three max_four min_four   -- for this text's walks alone
set_option linter.unusedVariables false
set_option linter.unusedSimpArgs false

/-! ### lintelref01_number: function 29 -/
mutual
def lintelref01_number.j0 : Nat → ByteArray → Bool → Option (Int × Bool)
  | 0, _, _ => none
  | k + 1, x0, x4 => if x4 = true then (if 1 ≤ (x0.size : Int) then (lintelref01_number.j1 k (x0.extract 1 x0.size) x4) else (none)) else (lintelref01_number.j1 k x0 x4)
def lintelref01_number.j1 : Nat → ByteArray → Bool → Option (Int × Bool)
  | 0, _, _ => none
  | k + 1, x0, x4 => if (x0.size : Int) = 0 then (lintelref01_number.j2 k x0 x4 true) else (lintelref01_number.j2 k x0 x4 (decide ((x0.size : Int) > 19)))
def lintelref01_number.j2 : Nat → ByteArray → Bool → Bool → Option (Int × Bool)
  | 0, _, _, _ => none
  | k + 1, x0, x4, x25 => if x25 = true then (some (0, false)) else (lintelref01_number.l0 k x0 x4 0 0)
def lintelref01_number.l0 : Nat → ByteArray → Bool → Int → Int → Option (Int × Bool)
  | 0, _, _, _, _ => none
  | k + 1, x0, x4, x5, x6 => if x6 < (x0.size : Int) then (if 0 ≤ x6 then (if (bt x0 x6) < 48 then (some (0, false)) else (if (bt x0 x6) > 57 then (some (0, false)) else (lintelref01_number.l0 k x0 x4 (IntKind.u64.wrap ((IntKind.u64.wrap (x5 * 10)) + (((bt x0 x6) - 48) % 256))) (wrap64 (x6 + 1))))) else (none)) else (if x4 = true then (if x5 ≤ 9223372036854775808 then (if x5 > 0 then (if 0 < (x0.size : Int) then (some (wrap64 (-(wrap64 (x5))), ((bt x0 0) != 48))) else (none)) else (some (wrap64 (-(wrap64 (x5))), false))) else (some (wrap64 (-(wrap64 (x5))), false))) else (if x5 < 9223372036854775808 then (if (x0.size : Int) = 1 then (some (wrap64 (x5), true)) else (if 0 < (x0.size : Int) then (some (wrap64 (x5), ((bt x0 0) != 48))) else (none))) else (some (wrap64 (x5), false))))
end
def lintelref01_number.f (k : Nat) (a0 : ByteArray) : Option (Int × Bool) := if (a0.size : Int) > 0 then (if 0 < (a0.size : Int) then (lintelref01_number.j0 k a0 ((bt a0 0) == 45)) else (none)) else (lintelref01_number.j0 k a0 false)
theorem lintelref01_number.mono_l : ∀ k, (∀ y0 y1, LeO (lintelref01_number.j0 k y0 y1) (lintelref01_number.j0 (k + 1) y0 y1)) ∧ (∀ y0 y1, LeO (lintelref01_number.j1 k y0 y1) (lintelref01_number.j1 (k + 1) y0 y1)) ∧ (∀ y0 y1 y2, LeO (lintelref01_number.j2 k y0 y1 y2) (lintelref01_number.j2 (k + 1) y0 y1 y2)) ∧ (∀ y0 y1 y2 y3, LeO (lintelref01_number.l0 k y0 y1 y2 y3) (lintelref01_number.l0 (k + 1) y0 y1 y2 y3))
  | 0 => ⟨fun _ _ r h => by simp [lintelref01_number.j0] at h, fun _ _ r h => by simp [lintelref01_number.j1] at h, fun _ _ _ r h => by simp [lintelref01_number.j2] at h, fun _ _ _ _ r h => by simp [lintelref01_number.l0] at h⟩
  | k + 1 => by
    obtain ⟨ih0, ih1, ih2, ih3⟩ := lintelref01_number.mono_l k
    refine ⟨?_, ?_, ?_, ?_⟩
    · intro y0 y1
      unfold lintelref01_number.j0
      repeat' first
      | (with_reducible exact ih0 _ _)
      | (with_reducible exact ih1 _ _)
      | (with_reducible exact ih2 _ _ _)
      | (with_reducible exact ih3 _ _ _ _)
      | (with_reducible exact LeO.refl _)
      | (with_reducible exact LeO.none _)
      | (with_reducible refine LeO.ite ?_ ?_)
      | (with_reducible refine LeO.bind ?_ (fun _ => ?_))
      | exact ih0 _ _
      | exact ih1 _ _
      | exact ih2 _ _ _
      | exact ih3 _ _ _ _
      | exact LeO.none _
      | refine LeO.ite ?_ ?_
      | refine LeO.bind ?_ (fun _ => ?_)
    · intro y0 y1
      unfold lintelref01_number.j1
      repeat' first
      | (with_reducible exact ih0 _ _)
      | (with_reducible exact ih1 _ _)
      | (with_reducible exact ih2 _ _ _)
      | (with_reducible exact ih3 _ _ _ _)
      | (with_reducible exact LeO.refl _)
      | (with_reducible exact LeO.none _)
      | (with_reducible refine LeO.ite ?_ ?_)
      | (with_reducible refine LeO.bind ?_ (fun _ => ?_))
      | exact ih0 _ _
      | exact ih1 _ _
      | exact ih2 _ _ _
      | exact ih3 _ _ _ _
      | exact LeO.none _
      | refine LeO.ite ?_ ?_
      | refine LeO.bind ?_ (fun _ => ?_)
    · intro y0 y1 y2
      unfold lintelref01_number.j2
      repeat' first
      | (with_reducible exact ih0 _ _)
      | (with_reducible exact ih1 _ _)
      | (with_reducible exact ih2 _ _ _)
      | (with_reducible exact ih3 _ _ _ _)
      | (with_reducible exact LeO.refl _)
      | (with_reducible exact LeO.none _)
      | (with_reducible refine LeO.ite ?_ ?_)
      | (with_reducible refine LeO.bind ?_ (fun _ => ?_))
      | exact ih0 _ _
      | exact ih1 _ _
      | exact ih2 _ _ _
      | exact ih3 _ _ _ _
      | exact LeO.none _
      | refine LeO.ite ?_ ?_
      | refine LeO.bind ?_ (fun _ => ?_)
    · intro y0 y1 y2 y3
      unfold lintelref01_number.l0
      repeat' first
      | (with_reducible exact ih0 _ _)
      | (with_reducible exact ih1 _ _)
      | (with_reducible exact ih2 _ _ _)
      | (with_reducible exact ih3 _ _ _ _)
      | (with_reducible exact LeO.refl _)
      | (with_reducible exact LeO.none _)
      | (with_reducible refine LeO.ite ?_ ?_)
      | (with_reducible refine LeO.bind ?_ (fun _ => ?_))
      | exact ih0 _ _
      | exact ih1 _ _
      | exact ih2 _ _ _
      | exact ih3 _ _ _ _
      | exact LeO.none _
      | refine LeO.ite ?_ ?_
      | refine LeO.bind ?_ (fun _ => ?_)
theorem lintelref01_number.mono : ∀ a0 k, LeO (lintelref01_number.f k a0) (lintelref01_number.f (k + 1) a0) := by
  intro a0 k
  obtain ⟨ih0, ih1, ih2, ih3⟩ := lintelref01_number.mono_l k
  unfold lintelref01_number.f
  repeat' first
      | (with_reducible exact ih0 _ _)
      | (with_reducible exact ih1 _ _)
      | (with_reducible exact ih2 _ _ _)
      | (with_reducible exact ih3 _ _ _ _)
      | (with_reducible exact LeO.refl _)
      | (with_reducible exact LeO.none _)
      | (with_reducible refine LeO.ite ?_ ?_)
      | (with_reducible refine LeO.bind ?_ (fun _ => ?_))
      | exact ih0 _ _
      | exact ih1 _ _
      | exact ih2 _ _ _
      | exact ih3 _ _ _ _
      | exact LeO.none _
      | refine LeO.ite ?_ ?_
      | refine LeO.bind ?_ (fun _ => ?_)
set_option maxHeartbeats 8000000 in
set_option maxRecDepth 100000 in
theorem lintelref01_number.calls (k : Nat) (a0 : ByteArray) (r1 : Int) (r2 : Bool) (w : World) (h : lintelref01_number.f k a0 = some (r1, r2)) :
    Calls Tryd.prog 29 #[.string a0] w fun e w' => e = .returned (.tuple #[.int .i64 r1, .bool r2]) ∧ Drawn0 w w' := by
  have H : (if (a0.size : Int) > 0 then (if 0 < (a0.size : Int) then (lintelref01_number.j0 k a0 ((bt a0 0) == 45)) else (none)) else (lintelref01_number.j0 k a0 false)) = some (r1, r2) := h
  clear h
  have HC2 := Aside0.mk H
  clear H
  go_enter Tryd.func29, Tryd.ntmps29
  go_upto_region 1 with (fail)
  repeat (go_quiet (fail); go_upto_region 1 with (fail))
  go_cut [4] (fun v4 wc => ∃ (kq : Nat) (x4_1 : Bool), v4 = .bool x4_1 ∧ Aside0 (lintelref01_number.j0 kq a0 x4_1 = some (r1, r2)) ∧ Aside0 (kq ≤ k) ∧ Drawn0 w wc)
  case first =>
    have H := HC2.out
    clear HC2
    by_cases c3 : (a0.size : Int) > 0
    · rw [if_pos c3] at H
      have c3b0 : decide (0 < (a0.size : Int)) = true := decide_eq_true c3
      have c3b1 : decide (0 < a0.size) = true := decide_eq_true (by omega)
      clear c3
      (first | rw [c3b0] | (simp only [i64_w, i32_w]; rw [c3b0]) | skip)
      by_cases c4 : 0 < (a0.size : Int)
      · rw [if_pos c4] at H
        have c4b0 : decide (0 < (a0.size : Int)) = true := decide_eq_true c4
        have c4b1 : decide (0 < a0.size) = true := decide_eq_true (by omega)
        clear c4
        have H' := Aside0.mk H
        clear H
        have p5 : 0 ≤ (0 : Int) := (by omega)
        have q5 : 0 < a0.size := (by have : (0 : Int) < (a0.size : Int) := of_decide_eq_true (by first | (with_reducible assumption) | assumption); omega)
        have hx5 : ∀ h : 0 < a0.size, ((a0[0]'h).toNat : Int) = bt a0 0 := bt_at a0 0
        clear p5
        have qi5 : (0 < (a0.size : Int)) = True := eq_true (of_decide_eq_true (by first | (with_reducible assumption) | assumption))
        replace q5 := eq_true q5
        go_wp2
        repeat (go_quiet (fail); try go_wp2)
        go_meet
        case rel => exact ⟨_, (((bt a0 0) == 45)), (by first | rfl | (simp; done) | (simp [*]; done)), H', ⟨by first | omega | exact Nat.le_refl _⟩, by repeat (first | exact Drawn0.refl _ | apply Drawn0.step)⟩
      · rw [if_neg c4] at H
        exact absurd H (by simp)
    · rw [if_neg c3] at H
      have c3b0 : decide (0 < (a0.size : Int)) = false := decide_eq_false c3
      have c3b1 : decide (0 < a0.size) = false := decide_eq_false (by omega)
      clear c3
      (first | rw [c3b0] | (simp only [i64_w, i32_w]; rw [c3b0]) | skip)
      have H' := Aside0.mk H
      clear H
      go_wp2
      repeat (go_quiet (fail); try go_wp2)
      go_meet
      case rel => exact ⟨_, (false), (by first | rfl | (simp; done) | (simp [*]; done)), H', ⟨by first | omega | exact Nat.le_refl _⟩, by repeat (first | exact Drawn0.refl _ | apply Drawn0.step)⟩
  case rest =>
    clear HC2
    try clear c2
    try clear p2
    try clear c3
    try clear c3b0
    try clear c3b1
    try clear c4
    try clear c4b0
    try clear c4b1
    try clear p5
    try clear q5
    try clear hx5
    try clear qi5
    try clear p5
    try clear q5
    obtain ⟨kq, x4_1, rfl, HA, HJ1, ⟨mc1, rfl⟩⟩ := hcut
    cases kq with
    | zero => exact absurd HA.out (by simp [lintelref01_number.j0])
    | succ kj1 =>
      have H := HA.out
      clear HA
      simp only [lintelref01_number.j0] at H
      have HC6 := Aside0.mk H
      clear H
      go_upto_if 15 with (fail)
      repeat (go_quiet (fail); go_upto_if 15 with (fail))
      go_cut [0] (fun v0 wc => ∃ (kq : Nat) (x0_5 : ByteArray), v0 = .string x0_5 ∧ Aside0 (lintelref01_number.j1 kq x0_5 x4_1 = some (r1, r2)) ∧ Aside0 (kq ≤ kj1) ∧ Drawn0 w wc)
      case first =>
        have H := HC6.out
        clear HC6
        by_cases c7 : x4_1 = true
        · subst c7
          have H1 : (if 1 ≤ (a0.size : Int) then (lintelref01_number.j1 kj1 (a0.extract 1 a0.size) true) else (none)) = some (r1, r2) := by rw [if_pos rfl] at H; exact H
          clear H
          have H := H1
          clear H1
          by_cases c8 : 1 ≤ (a0.size : Int)
          · rw [if_pos c8] at H
            have c8b0 := eq_true c8
            have c8b1 : decide (1 ≤ (a0.size : Int)) = true := decide_eq_true c8
            clear c8
            have H' := Aside0.mk H
            clear H
            go_wp2
            repeat (go_quiet (fail); try go_wp2)
            go_meet
            case rel => exact ⟨_, (a0.extract 1 a0.size), (by first | rfl | (simp; done) | (simp [*]; done)), H', ⟨by have := HJ1.out; first | omega | exact Nat.le_refl _⟩, by repeat (first | exact Drawn0.refl _ | apply Drawn0.step)⟩
          · rw [if_neg c8] at H
            exact absurd H (by simp)
        · replace c7 := Bool.eq_false_iff.mpr c7
          subst c7
          have H1 : (lintelref01_number.j1 kj1 a0 false) = some (r1, r2) := by rw [if_neg (show ¬ (false = true) by decide)] at H; exact H
          clear H
          have H := H1
          clear H1
          have H' := Aside0.mk H
          clear H
          go_wp2
          repeat (go_quiet (fail); try go_wp2)
          go_meet
          case rel => exact ⟨_, (a0), (by first | rfl | (simp; done) | (simp [*]; done)), H', ⟨by have := HJ1.out; first | omega | exact Nat.le_refl _⟩, by repeat (first | exact Drawn0.refl _ | apply Drawn0.step)⟩
      case rest =>
        clear HC6
        try clear c1
        try clear c2
        try clear p2
        try clear c3
        try clear c3b0
        try clear c3b1
        try clear c4
        try clear c4b0
        try clear c4b1
        try clear p5
        try clear q5
        try clear hx5
        try clear qi5
        try clear c7
        try clear c8
        try clear c8b0
        try clear c8b1
        try clear p2
        try clear p5
        try clear q5
        obtain ⟨kq, x0_5, rfl, HA, HJ5, ⟨mc5, rfl⟩⟩ := hcut
        cases kq with
        | zero => exact absurd HA.out (by simp [lintelref01_number.j1])
        | succ kj5 =>
          have H := HA.out
          clear HA
          simp only [lintelref01_number.j1] at H
          have HC9 := Aside0.mk H
          clear H
          go_upto_region 4 with (fail)
          repeat (go_quiet (fail); go_upto_region 4 with (fail))
          go_cut [25] (fun v25 wc => ∃ (kq : Nat) (x25_8 : Bool), v25 = .bool x25_8 ∧ Aside0 (lintelref01_number.j2 kq x0_5 x4_1 x25_8 = some (r1, r2)) ∧ Aside0 (kq ≤ kj5) ∧ Drawn0 w wc)
          case first =>
            have H := HC9.out
            clear HC9
            by_cases c10 : (x0_5.size : Int) = 0
            · rw [if_pos c10] at H
              have c10b0 : ((x0_5.size : Int) == 0) = true := beq_iff_eq.mpr c10
              have c10b1 : ((x0_5.size : Int) != 0) = false := bne_eq_false_iff_eq.mpr c10
              clear c10
              (first | rw [c10b0] | (simp only [i64_w, i32_w]; rw [c10b0]) | skip)
              have H' := Aside0.mk H
              clear H
              go_wp2
              repeat (go_quiet (fail); try go_wp2)
              go_meet
              case rel => exact ⟨_, (true), (by first | rfl | (simp; done) | (simp [*]; done)), H', ⟨by have := HJ1.out; have := HJ5.out; first | omega | exact Nat.le_refl _⟩, by repeat (first | exact Drawn0.refl _ | apply Drawn0.step)⟩
            · rw [if_neg c10] at H
              have c10b0 : ((x0_5.size : Int) == 0) = false := beq_eq_false_iff_ne.mpr c10
              have c10b1 : ((x0_5.size : Int) != 0) = true := bne_iff_ne.mpr c10
              (first | rw [c10b0] | (simp only [i64_w, i32_w]; rw [c10b0]) | skip)
              have H' := Aside0.mk H
              clear H
              go_wp2
              repeat (go_quiet (fail); try go_wp2)
              go_meet
              case rel => exact ⟨_, (decide ((x0_5.size : Int) > 19)), (by first | rfl | (simp; done) | (simp [*]; done)), H', ⟨by have := HJ1.out; have := HJ5.out; first | omega | exact Nat.le_refl _⟩, by repeat (first | exact Drawn0.refl _ | apply Drawn0.step)⟩
          case rest =>
            clear HC9
            try clear c1
            try clear c2
            try clear p2
            try clear c3
            try clear c3b0
            try clear c3b1
            try clear c4
            try clear c4b0
            try clear c4b1
            try clear c5
            try clear p5
            try clear q5
            try clear hx5
            try clear qi5
            try clear c7
            try clear c8
            try clear c8b0
            try clear c8b1
            try clear c10
            try clear c10b0
            try clear c10b1
            try clear p2
            try clear p5
            try clear q5
            obtain ⟨kq, x25_8, rfl, HA, HJ8, ⟨mc8, rfl⟩⟩ := hcut
            cases kq with
            | zero => exact absurd HA.out (by simp [lintelref01_number.j2])
            | succ kj8 =>
              have H := HA.out
              clear HA
              simp only [lintelref01_number.j2] at H
              by_cases c11 : x25_8 = true
              · subst c11
                have H1 : (some (0, false)) = some (r1, r2) := by rw [if_pos rfl] at H; exact H
                clear H
                have H := H1
                clear H1
                simp only [Option.some.injEq, Prod.mk.injEq] at H
                obtain ⟨rfl, rfl⟩ := H
                go_wp2
                repeat (go_quiet (fail); try go_wp2)
                go_ret2
                exact ⟨by first | rfl | (simp; done) | (simp [*]; done), by repeat (first | exact Drawn0.refl _ | apply Drawn0.step)⟩
              · replace c11 := Bool.eq_false_iff.mpr c11
                subst c11
                have H1 : (lintelref01_number.l0 kj8 x0_5 x4_1 0 0) = some (r1, r2) := by rw [if_neg (show ¬ (false = true) by decide)] at H; exact H
                clear H
                have H := H1
                clear H1
                have H' := Aside0.mk H
                clear H
                go_wp2
                repeat (go_quiet (fail); try go_wp2)
                go_loopg [5, 6] kj8 (fun kq v5 v6 w' => ∃ (x5_4 : Int) (x6_4 : Int), v5 = .int .u64 x5_4 ∧ v6 = .int .i64 x6_4 ∧ Aside0 (lintelref01_number.l0 kq x0_5 x4_1 x5_4 x6_4 = some (r1, r2)) ∧ Aside0 (kq ≤ kj8) ∧ Drawn0 w w')
                case atStart => exact ⟨(0), (0), (by first | rfl | (simp; done) | (simp [*]; done)), (by first | rfl | (simp; done) | (simp [*]; done)), H', ⟨Nat.le_refl _⟩, by repeat (first | exact Drawn0.refl _ | apply Drawn0.step)⟩
                case round =>
                  clear H'
                  try clear c1
                  try clear c2
                  try clear p2
                  try clear c3
                  try clear c3b0
                  try clear c3b1
                  try clear c4
                  try clear c4b0
                  try clear c4b1
                  try clear c5
                  try clear p5
                  try clear q5
                  try clear hx5
                  try clear qi5
                  try clear c7
                  try clear c8
                  try clear c8b0
                  try clear c8b1
                  try clear c10
                  try clear c10b0
                  try clear c10b1
                  try clear c11
                  try clear p2
                  try clear p5
                  try clear q5
                  obtain ⟨x5_4, x6_4, rfl, rfl, HA, HK4, ⟨m4, rfl⟩⟩ := hrel
                  cases gk with
                  | zero => exact absurd HA.out (by simp [lintelref01_number.l0])
                  | succ k4 =>
                    have H := HA.out
                    clear HA
                    simp only [lintelref01_number.l0] at H
                    by_cases c12 : x6_4 < (x0_5.size : Int)
                    · rw [if_pos c12] at H
                      have c12b0 : decide (x6_4 < (x0_5.size : Int)) = true := decide_eq_true c12
                      clear c12
                      by_cases c13 : 0 ≤ x6_4
                      · rw [if_pos c13] at H
                        have c13b0 : decide (0 ≤ x6_4) = true := decide_eq_true c13
                        clear c13
                        by_cases c15 : (bt x0_5 x6_4) < 48
                        · rw [if_pos c15] at H
                          have c15b0 : decide ((bt x0_5 x6_4) < 48) = true := decide_eq_true c15
                          clear c15
                          simp only [Option.some.injEq, Prod.mk.injEq] at H
                          obtain ⟨rfl, rfl⟩ := H
                          have p14 : 0 ≤ (x6_4 : Int) := of_decide_eq_true (by first | (with_reducible assumption) | assumption)
                          have q14 : x6_4 < (x0_5.size : Int) := of_decide_eq_true (by first | (with_reducible assumption) | assumption)
                          have hx14 := bt_at x0_5 x6_4
                          replace p14 := eq_true p14
                          replace q14 := eq_true q14
                          go_wp2
                          repeat (go_quiet (fail); try go_wp2)
                          go_ret2
                          exact ⟨by first | rfl | (simp; done) | (simp [*]; done), by repeat (first | exact Drawn0.refl _ | apply Drawn0.step)⟩
                        · rw [if_neg c15] at H
                          have c15b0 : decide ((bt x0_5 x6_4) < 48) = false := decide_eq_false c15
                          clear c15
                          by_cases c17 : (bt x0_5 x6_4) > 57
                          · rw [if_pos c17] at H
                            have c17b0 : decide (57 < (bt x0_5 x6_4)) = true := decide_eq_true c17
                            clear c17
                            simp only [Option.some.injEq, Prod.mk.injEq] at H
                            obtain ⟨rfl, rfl⟩ := H
                            have p14 : 0 ≤ (x6_4 : Int) := of_decide_eq_true (by first | (with_reducible assumption) | assumption)
                            have q14 : x6_4 < (x0_5.size : Int) := of_decide_eq_true (by first | (with_reducible assumption) | assumption)
                            have hx14 := bt_at x0_5 x6_4
                            replace p14 := eq_true p14
                            replace q14 := eq_true q14
                            have p16 : 0 ≤ (x6_4 : Int) := of_decide_eq_true (by first | (with_reducible assumption) | assumption)
                            have q16 : x6_4 < (x0_5.size : Int) := of_decide_eq_true (by first | (with_reducible assumption) | assumption)
                            have hx16 := bt_at x0_5 x6_4
                            replace p16 := eq_true p16
                            replace q16 := eq_true q16
                            go_wp2
                            repeat (go_quiet (fail); try go_wp2)
                            go_ret2
                            exact ⟨by first | rfl | (simp; done) | (simp [*]; done), by repeat (first | exact Drawn0.refl _ | apply Drawn0.step)⟩
                          · rw [if_neg c17] at H
                            have c17b0 : decide (57 < (bt x0_5 x6_4)) = false := decide_eq_false c17
                            clear c17
                            have H' := Aside0.mk H
                            clear H
                            have p14 : 0 ≤ (x6_4 : Int) := of_decide_eq_true (by first | (with_reducible assumption) | assumption)
                            have q14 : x6_4 < (x0_5.size : Int) := of_decide_eq_true (by first | (with_reducible assumption) | assumption)
                            have hx14 := bt_at x0_5 x6_4
                            replace p14 := eq_true p14
                            replace q14 := eq_true q14
                            have p16 : 0 ≤ (x6_4 : Int) := of_decide_eq_true (by first | (with_reducible assumption) | assumption)
                            have q16 : x6_4 < (x0_5.size : Int) := of_decide_eq_true (by first | (with_reducible assumption) | assumption)
                            have hx16 := bt_at x0_5 x6_4
                            replace p16 := eq_true p16
                            replace q16 := eq_true q16
                            have p18 : 0 ≤ (x6_4 : Int) := of_decide_eq_true (by first | (with_reducible assumption) | assumption)
                            have q18 : x6_4 < (x0_5.size : Int) := of_decide_eq_true (by first | (with_reducible assumption) | assumption)
                            have hx18 := bt_at x0_5 x6_4
                            replace p18 := eq_true p18
                            replace q18 := eq_true q18
                            go_wp2
                            repeat (go_quiet (fail); try go_wp2)
                            go_roundg k4
                            case measure => have := HJ1.out; have := HJ5.out; have := HJ8.out; have := HK4.out; omega
                            case rel => exact ⟨(IntKind.u64.wrap ((IntKind.u64.wrap (x5_4 * 10)) + (((bt x0_5 x6_4) - 48) % 256))), (wrap64 (x6_4 + 1)), (by first | rfl | (simp; done) | (simp [*]; done)), (by first | rfl | (simp; done) | (simp [*]; done)), H', ⟨by have := HJ1.out; have := HJ5.out; have := HJ8.out; have := HK4.out; omega⟩, by repeat (first | exact Drawn0.refl _ | apply Drawn0.step)⟩
                      · rw [if_neg c13] at H
                        exact absurd H (by simp)
                    · rw [if_neg c12] at H
                      have c12b0 : decide (x6_4 < (x0_5.size : Int)) = false := decide_eq_false c12
                      clear c12
                      by_cases c19 : x4_1 = true
                      · subst c19
                        have H1 : (if x5_4 ≤ 9223372036854775808 then (if x5_4 > 0 then (if 0 < (x0_5.size : Int) then (some (wrap64 (-(wrap64 (x5_4))), ((bt x0_5 0) != 48))) else (none)) else (some (wrap64 (-(wrap64 (x5_4))), false))) else (some (wrap64 (-(wrap64 (x5_4))), false))) = some (r1, r2) := by rw [if_pos rfl] at H; exact H
                        clear H
                        have H := H1
                        clear H1
                        by_cases c20 : x5_4 ≤ 9223372036854775808
                        · rw [if_pos c20] at H
                          have c20b0 : decide (x5_4 ≤ 9223372036854775808) = true := decide_eq_true c20
                          clear c20
                          by_cases c21 : x5_4 > 0
                          · rw [if_pos c21] at H
                            have c21b0 : decide (0 < x5_4) = true := decide_eq_true c21
                            clear c21
                            by_cases c22 : 0 < (x0_5.size : Int)
                            · rw [if_pos c22] at H
                              have c22b0 : decide (0 < (x0_5.size : Int)) = true := decide_eq_true c22
                              have c22b1 : decide (0 < x0_5.size) = true := decide_eq_true (by omega)
                              clear c22
                              simp only [Option.some.injEq, Prod.mk.injEq] at H
                              obtain ⟨rfl, rfl⟩ := H
                              have p23 : 0 ≤ (0 : Int) := (by omega)
                              have q23 : 0 < x0_5.size := (by have : (0 : Int) < (x0_5.size : Int) := of_decide_eq_true (by first | (with_reducible assumption) | assumption); omega)
                              have hx23 : ∀ h : 0 < x0_5.size, ((x0_5[0]'h).toNat : Int) = bt x0_5 0 := bt_at x0_5 0
                              clear p23
                              have qi23 : (0 < (x0_5.size : Int)) = True := eq_true (of_decide_eq_true (by first | (with_reducible assumption) | assumption))
                              replace q23 := eq_true q23
                              go_wp2
                              repeat (go_quiet (fail); try go_wp2)
                              go_ret2
                              exact ⟨by first | rfl | (simp; done) | (simp [*]; done), by repeat (first | exact Drawn0.refl _ | apply Drawn0.step)⟩
                            · rw [if_neg c22] at H
                              exact absurd H (by simp)
                          · rw [if_neg c21] at H
                            have c21b0 : decide (0 < x5_4) = false := decide_eq_false c21
                            clear c21
                            simp only [Option.some.injEq, Prod.mk.injEq] at H
                            obtain ⟨rfl, rfl⟩ := H
                            go_wp2
                            repeat (go_quiet (fail); try go_wp2)
                            go_ret2
                            exact ⟨by first | rfl | (simp; done) | (simp [*]; done), by repeat (first | exact Drawn0.refl _ | apply Drawn0.step)⟩
                        · rw [if_neg c20] at H
                          have c20b0 : decide (x5_4 ≤ 9223372036854775808) = false := decide_eq_false c20
                          clear c20
                          simp only [Option.some.injEq, Prod.mk.injEq] at H
                          obtain ⟨rfl, rfl⟩ := H
                          go_wp2
                          repeat (go_quiet (fail); try go_wp2)
                          go_ret2
                          exact ⟨by first | rfl | (simp; done) | (simp [*]; done), by repeat (first | exact Drawn0.refl _ | apply Drawn0.step)⟩
                      · replace c19 := Bool.eq_false_iff.mpr c19
                        subst c19
                        have H1 : (if x5_4 < 9223372036854775808 then (if (x0_5.size : Int) = 1 then (some (wrap64 (x5_4), true)) else (if 0 < (x0_5.size : Int) then (some (wrap64 (x5_4), ((bt x0_5 0) != 48))) else (none))) else (some (wrap64 (x5_4), false))) = some (r1, r2) := by rw [if_neg (show ¬ (false = true) by decide)] at H; exact H
                        clear H
                        have H := H1
                        clear H1
                        by_cases c24 : x5_4 < 9223372036854775808
                        · rw [if_pos c24] at H
                          have c24b0 : decide (x5_4 < 9223372036854775808) = true := decide_eq_true c24
                          clear c24
                          by_cases c25 : (x0_5.size : Int) = 1
                          · rw [if_pos c25] at H
                            have c25b0 : ((x0_5.size : Int) == 1) = true := beq_iff_eq.mpr c25
                            have c25b1 : ((x0_5.size : Int) != 1) = false := bne_eq_false_iff_eq.mpr c25
                            clear c25
                            simp only [Option.some.injEq, Prod.mk.injEq] at H
                            obtain ⟨rfl, rfl⟩ := H
                            go_wp2
                            repeat (go_quiet (fail); try go_wp2)
                            go_ret2
                            exact ⟨by first | rfl | (simp; done) | (simp [*]; done), by repeat (first | exact Drawn0.refl _ | apply Drawn0.step)⟩
                          · rw [if_neg c25] at H
                            have c25b0 : ((x0_5.size : Int) == 1) = false := beq_eq_false_iff_ne.mpr c25
                            have c25b1 : ((x0_5.size : Int) != 1) = true := bne_iff_ne.mpr c25
                            by_cases c26 : 0 < (x0_5.size : Int)
                            · rw [if_pos c26] at H
                              have c26b0 : decide (0 < (x0_5.size : Int)) = true := decide_eq_true c26
                              have c26b1 : decide (0 < x0_5.size) = true := decide_eq_true (by omega)
                              clear c26
                              simp only [Option.some.injEq, Prod.mk.injEq] at H
                              obtain ⟨rfl, rfl⟩ := H
                              have p27 : 0 ≤ (0 : Int) := (by omega)
                              have q27 : 0 < x0_5.size := (by have : (0 : Int) < (x0_5.size : Int) := of_decide_eq_true (by first | (with_reducible assumption) | assumption); omega)
                              have hx27 : ∀ h : 0 < x0_5.size, ((x0_5[0]'h).toNat : Int) = bt x0_5 0 := bt_at x0_5 0
                              clear p27
                              have qi27 : (0 < (x0_5.size : Int)) = True := eq_true (of_decide_eq_true (by first | (with_reducible assumption) | assumption))
                              replace q27 := eq_true q27
                              go_wp2
                              repeat (go_quiet (fail); try go_wp2)
                              go_ret2
                              exact ⟨by first | rfl | (simp; done) | (simp [*]; done), by repeat (first | exact Drawn0.refl _ | apply Drawn0.step)⟩
                            · rw [if_neg c26] at H
                              exact absurd H (by simp)
                        · rw [if_neg c24] at H
                          have c24b0 : decide (x5_4 < 9223372036854775808) = false := decide_eq_false c24
                          clear c24
                          simp only [Option.some.injEq, Prod.mk.injEq] at H
                          obtain ⟨rfl, rfl⟩ := H
                          go_wp2
                          repeat (go_quiet (fail); try go_wp2)
                          go_ret2
                          exact ⟨by first | rfl | (simp; done) | (simp [*]; done), by repeat (first | exact Drawn0.refl _ | apply Drawn0.step)⟩

end Go.Proofs.YtiackolnleeffaaDoor.P
