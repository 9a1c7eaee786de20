/- The laws of values, as plain statements: each comes to true. -/
import Derived.Test.YtiackolnleeffaaDoorEval3
namespace Go.Proofs.YtiackolnleeffaaDoor.P
open Go.RowKit Go.Proofs.YtiackolnleeffaaDoorW.PrintWords Go.Proofs.YtiackolnleeffaaDoorW.PrintLast Go.Proofs.YtiackolnleeffaaDoorW.PrintMore
open Go.Proofs.YtiackolnleeffaaDoor.M

theorem ev_app {α : Type} {g : Nat → Option α} {r : α} (h : Ev g r) : ∃ K, ∀ k, K ≤ k → g k = some r := h

theorem awake_ev : Ev (fun j => lintellaw01_awake.f j) true := by
  obtain ⟨K1, h1⟩ := Print_ev 2 0 ⟨#[105, 116, 39, 115]⟩ (by unfold ok64; omega)
  obtain ⟨K2, h2⟩ := Read_ev ⟨#[45, 53]⟩ (by decide)
  obtain ⟨K3, h3⟩ := Read_ev ⟨#[48, 53]⟩ (by decide)
  obtain ⟨K4, h4⟩ := Compare_ev 0 0 ⟨#[]⟩ 1 0 ⟨#[]⟩
  refine ⟨K1 + K2 + K3 + K4, fun j hj => ?_⟩
  show lintellaw01_awake.f j = some true
  unfold lintellaw01_awake.f
  rw [if_pos]
  refine ⟨(h1 j (by omega)).trans ?_, (h2 j (by omega)).trans ?_, (h3 j (by omega)).trans ?_, (h4 j (by omega)).trans ?_⟩
  · rfl
  · have hi : Lib.itoa (-5) = [45, 53] := by
      unfold Lib.itoa
      rw [if_pos (by decide), show (-5 : Int).natAbs = 5 from rfl, Lib.decDigits_one (by decide)]
      rfl
    have hr : readV (⟨#[45, 53]⟩ : ByteArray).data.toList = (1, -5, [], 0) := by
      unfold readV
      rw [if_neg (by decide), numV_some (v := -5) (by unfold ok64; omega) hi]
    unfold readB
    rw [hr]
  · have hr : readV (⟨#[48, 53]⟩ : ByteArray).data.toList = (0, 0, [], 10) := by
      unfold readV
      rw [if_neg (by decide), numV_none]
      · rfl
      · intro v hv e
        have h5 : Lib.parseIntB 64 (Lib.itoa v) = .ok v := parseInt_itoa v hv.1 hv.2
        rw [e, show Lib.parseIntB 64 (⟨#[48, 53]⟩ : ByteArray).data.toList = .ok 5 from by decide] at h5
        injection h5 with h5
        subst h5
        unfold Lib.itoa at e
        rw [if_neg (by decide), show (5 : Int).toNat = 5 from rfl, Lib.decDigits_one (by decide)] at e
        exact absurd e (by decide)
    unfold readB
    rw [hr]
  · rfl

theorem Checks_ev (k n : Int) (s : ByteArray) : Ev (fun j => lintellaw01_ValueChecks.f j k n s) true := by
  obtain ⟨K, h⟩ := awake_ev
  refine ⟨K, fun j hj => ?_⟩
  show lintellaw01_ValueChecks.f j k n s = _
  unfold lintellaw01_ValueChecks.f
  rw [show lintellaw01_awake.f j = some true from h j hj, Check_eq, Right_eq]
  cases right k n s.data.toList <;> rfl

theorem Compares_ev (a b : Int) (s : ByteArray) (d e : Int) (t : ByteArray) (hs : s.size ≤ 9223372036854775807) : Ev (fun j => lintellaw01_ValueCompares.f j a b s d e t) true := by
  obtain ⟨K, h⟩ := awake_ev
  obtain ⟨K1, h1⟩ := Compare_ev a b s d e t
  obtain ⟨K2, h2⟩ := RefCompare_ev a b s d e t hs
  refine ⟨K + K1 + K2, fun j hj => ?_⟩
  show lintellaw01_ValueCompares.f j a b s d e t = _
  unfold lintellaw01_ValueCompares.f
  rw [show lintellaw01_awake.f j = some true from h j (by omega), show value_Compare.f j a b s d e t = _ from h1 j (by omega), show lintelref01_Compare.f j a b s d e t = _ from h2 j (by omega)]
  simp

theorem Prints_ev (k n : Int) (s : ByteArray) (hn : ok64 n) : Ev (fun j => lintellaw01_ValuePrints.f j k n s) true := by
  obtain ⟨K, h⟩ := awake_ev
  obtain ⟨K1, h1⟩ := Print_ev k n s hn
  obtain ⟨K2, h2⟩ := RefPrint_ev k n s hn
  refine ⟨K + K1 + K2, fun j hj => ?_⟩
  show lintellaw01_ValuePrints.f j k n s = _
  unfold lintellaw01_ValuePrints.f
  rw [show lintellaw01_awake.f j = some true from h j (by omega), show value_Print.f j k n s = _ from h1 j (by omega), show lintelref01_Print.f j k n s = _ from h2 j (by omega)]
  simp

theorem Reads_ev (s : ByteArray) (hs : s.size ≤ 1048576) : Ev (fun j => lintellaw01_ValueReads.f j s) true := by
  obtain ⟨K, h⟩ := awake_ev
  obtain ⟨K1, h1⟩ := Read_ev s hs
  obtain ⟨K2, h2⟩ := RefRead_ev s hs
  refine ⟨K + K1 + K2, fun j hj => ?_⟩
  show lintellaw01_ValueReads.f j s = _
  unfold lintellaw01_ValueReads.f
  rw [show lintellaw01_awake.f j = some true from h j (by omega), show value_Read.f j s = _ from h1 j (by omega), show lintelref01_Read.f j s = _ from h2 j (by omega)]
  simp

/-- What is written is read as what it was. -/
theorem read_print {k n : Int} {s q : List UInt8} (hn : ok64 n) (h : printV k n s = (q, 0)) : readV q = (k, n, s, 0) := by
  unfold printV at h
  cases hr : right k n s with
  | false =>
    rw [hr] at h
    simp at h
  | true =>
    rw [hr] at h
    simp only [if_true, Prod.mk.injEq, and_true] at h
    unfold right at hr
    by_cases h0 : k = 0
    · subst h0
      simp only [if_true, Bool.and_eq_true, decide_eq_true_eq] at hr h
      obtain ⟨rfl, rfl⟩ := hr
      subst h
      rfl
    · rw [if_neg h0] at hr h
      by_cases h1 : k = 1
      · subst h1
        simp only [if_true, decide_eq_true_eq] at hr h
        subst hr h
        unfold readV
        obtain ⟨c, r, hc, hd⟩ := itoa_head n
        rw [if_neg, numV_some hn rfl]
        rw [hc]
        intro e
        injection e with e _
        subst e
        rcases hd with hd | hd
        · exact absurd hd (by decide)
        · have : (110 : UInt8).toNat = 110 := rfl
          omega
      · rw [if_neg h1] at hr h
        simp only [Bool.and_eq_true, decide_eq_true_eq] at hr
        obtain ⟨⟨rfl, rfl⟩, hl⟩ := hr
        subst h
        unfold readV
        rw [if_neg (by simp), numV_none, textOf_quote]
        · simp [hl]
        · intro v hv e
          obtain ⟨c, r, hc, hd⟩ := itoa_head v
          rw [hc] at e
          injection e with e _
          subst e
          rcases hd with hd | hd
          · exact absurd hd (by decide)
          · have : (39 : UInt8).toNat = 39 := rfl
            omega

/-- What is read is right, and is written as it was. -/
theorem print_read {l : List UInt8} (h : (readV l).2.2.2 = 0) : printV (readV l).1 (readV l).2.1 (readV l).2.2.1 = (l, 0) ∧ right (readV l).1 (readV l).2.1 (readV l).2.2.1 = true ∧ ok64 (readV l).2.1 ∧ (readV l).2.2.1.length ≤ 64 := by
  unfold readV at h ⊢
  by_cases hn : l = [110, 117, 108, 108]
  · rw [if_pos hn]
    subst hn
    exact ⟨rfl, rfl, (⟨by decide, by decide⟩ : ok64 0), by decide⟩
  · rw [if_neg hn] at h ⊢
    cases hv : numV l with
    | some v =>
      obtain ⟨h1, h2⟩ := numV_spec hv
      simp only
      refine ⟨?_, rfl, h1, by decide⟩
      rw [← h2]
      rfl
    | none =>
      rw [hv] at h
      cases ht : textOf l with
      | none =>
        rw [ht] at h
        exact absurd h (by decide)
      | some t =>
        rw [ht] at h
        by_cases hl : t.length ≤ 64
        · simp only [if_pos hl]
          have hr : right 2 0 t = true := by simp [right, hl]
          refine ⟨?_, hr, by unfold ok64; omega, hl⟩
          unfold printV
          rw [hr, quote_textOf ht]
          rfl
        · simp only [if_neg hl] at h
          exact absurd h (by decide)

theorem read_bad {l : List UInt8} (h : ¬ (readV l).2.2.2 = 0) : readV l = (0, 0, [], 10) := by
  unfold readV at h ⊢
  by_cases hn : l = [110, 117, 108, 108]
  · rw [if_pos hn] at h
    exact absurd rfl h
  · rw [if_neg hn] at h ⊢
    cases hv : numV l with
    | some v =>
      rw [hv] at h
      exact absurd rfl h
    | none =>
      rw [hv] at h
      cases ht : textOf l with
      | none => rfl
      | some t =>
        rw [ht] at h
        by_cases hl : t.length ≤ 64
        · simp only [if_pos hl] at h
          exact absurd trivial h
        · simp only [if_neg hl]

theorem printV_size {k n : Int} {s : List UInt8} (hn : ok64 n) (hs : s.length ≤ 1048576) : (printV k n s).1.length ≤ 1048576 := by
  unfold printV
  cases hr : right k n s with
  | false => simp
  | true =>
    simp only [if_true]
    by_cases h0 : k = 0
    · simp [h0]
    · by_cases h1 : k = 1
      · rw [if_neg h0, if_pos h1]
        obtain ⟨h2, h3⟩ := hn
        unfold Lib.itoa
        by_cases hneg : n < 0
        · rw [if_pos hneg]
          have := nDigits_19 (u := n.natAbs) (by omega)
          rw [List.length_cons, Lib.decDigits_length]
          omega
        · rw [if_neg hneg]
          have := nDigits_19 (u := n.toNat) (by omega)
          rw [Lib.decDigits_length]
          omega
      · rw [if_neg h0, if_neg h1]
        unfold right at hr
        rw [if_neg h0, if_neg h1] at hr
        simp only [Bool.and_eq_true, decide_eq_true_eq] at hr
        have := quotes_le s
        simp only [List.length_append, List.length_cons, List.length_nil, esc_length]
        omega

theorem Back_ev (k n : Int) (s q : ByteArray) (hs : s.size ≤ 1048576) (hn : ok64 n) (hq : q.size ≤ 1048576) : Ev (fun j => lintellaw01_ValueBack.f j k n s q) true := by
  obtain ⟨K, h⟩ := awake_ev
  obtain ⟨K1, h1⟩ := Print_ev k n s hn
  have hps : (⟨(printV k n s.data.toList).1.toArray⟩ : ByteArray).size ≤ 1048576 := by
    rw [Lib.size_eq]
    exact printV_size hn (by rw [← Lib.size_eq]; exact hs)
  obtain ⟨K2, h2⟩ := Read_ev ⟨(printV k n s.data.toList).1.toArray⟩ hps
  obtain ⟨K3, h3⟩ := Read_ev q hq
  -- the second half
  have hj0 : Ev (fun j => lintellaw01_ValueBack.j0 j q) true := by
    by_cases hz : (readV q.data.toList).2.2.2 = 0
    · obtain ⟨e1, e2, e3, e4⟩ := print_read hz
      obtain ⟨K4, h4⟩ := Print_ev (readV q.data.toList).1 (readV q.data.toList).2.1 ⟨(readV q.data.toList).2.2.1.toArray⟩ e3
      refine ⟨K + K3 + K4 + 1, fun j hj => ?_⟩
      obtain ⟨j, rfl⟩ : ∃ m, j = m + 1 := ⟨j - 1, by omega⟩
      show lintellaw01_ValueBack.j0 (j + 1) q = _
      simp only [lintellaw01_ValueBack.j0]
      rw [show value_Read.f j q = _ from h3 j (by omega)]
      unfold readB
      simp only [Option.bind_some]
      rw [if_pos hz, show value_Print.f j _ _ _ = _ from h4 j (by omega), show lintellaw01_awake.f j = some true from h j (by omega)]
      simp only [Option.bind_some]
      rw [e1, Check_eq, e2]
      simp
    · have e := read_bad hz
      refine ⟨K + K3 + 1, fun j hj => ?_⟩
      obtain ⟨j, rfl⟩ : ∃ m, j = m + 1 := ⟨j - 1, by omega⟩
      show lintellaw01_ValueBack.j0 (j + 1) q = _
      simp only [lintellaw01_ValueBack.j0]
      rw [show value_Read.f j q = _ from h3 j (by omega), show lintellaw01_awake.f j = some true from h j (by omega)]
      unfold readB
      rw [e]
      simp
  obtain ⟨K5, h5⟩ := hj0
  refine ⟨K + K1 + K2 + K3 + K5, fun j hj => ?_⟩
  show lintellaw01_ValueBack.f j k n s q = _
  unfold lintellaw01_ValueBack.f
  rw [show value_Print.f j k n s = _ from h1 j (by omega)]
  simp only [Option.bind_some]
  by_cases hp : (printV k n s.data.toList).2 = 0
  · rw [if_pos hp, show value_Read.f j _ = _ from h2 j (by omega)]
    have e := read_print (q := (printV k n s.data.toList).1) hn (by rw [← hp])
    unfold readB
    simp only [Option.bind_some]
    rw [e]
    simp only [if_true, beq_self_eq_true, Bool.not_true, Bool.false_or]
    rw [if_neg (by simp)]
    exact h5 j (by omega)
  · rw [if_neg hp]
    exact h5 j (by omega)

end Go.Proofs.YtiackolnleeffaaDoor.P
