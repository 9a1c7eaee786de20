/- What reading values comes to; that the program's reading is the document's. -/
import Derived.Test.YtiackolnleeffaaDoorEval2
import Derived.Lib.ReplaceLaws
namespace Go.Proofs.YtiackolnleeffaaDoor.P
open Go.RowKit Go.Proofs.YtiackolnleeffaaDoorW.PrintWords Go.Proofs.YtiackolnleeffaaDoorW.PrintLast Go.Proofs.YtiackolnleeffaaDoorW.PrintMore
open Go.Proofs.YtiackolnleeffaaDoor.M

/-! ### the reference's reading of numbers -/
theorem wrap_u64 (n : Nat) (h : n < 18446744073709551616) : IntKind.u64.wrap (n : Int) = (n : Int) := by
  simp only [IntKind.wrap, IntKind.bits, IntKind.signed, Bool.false_and, Bool.false_eq_true, if_false]
  omega
theorem wrap_neg (u : Nat) (h : u ≤ 9223372036854775808) : wrap64 (-(wrap64 (u : Int))) = -(u : Int) := by
  obtain ⟨x, hx⟩ : ∃ x, x = wrap64 (u : Int) := ⟨_, rfl⟩
  have h1 : x = u ∨ (x = -(u : Int) ∧ u = 9223372036854775808) := by
    unfold wrap64 at hx
    omega
  rw [← hx]
  clear hx
  unfold wrap64
  omega
def numFin (m : Bool) (t : ByteArray) (u : Nat) : Int × Bool :=
  if m = true then (if u ≤ 9223372036854775808 then (if 0 < u then (wrap64 (-(wrap64 (u : Int))), bt t 0 != 48) else (wrap64 (-(wrap64 (u : Int))), false)) else (wrap64 (-(wrap64 (u : Int))), false))
  else (if u < 9223372036854775808 then (if t.size = 1 then (wrap64 (u : Int), true) else (wrap64 (u : Int), bt t 0 != 48)) else (wrap64 (u : Int), false))
theorem num_loop (m : Bool) (t : ByteArray) (h1 : 1 ≤ t.size) (h19 : t.size ≤ 19) : ∀ (d i k acc : Nat), t.size - i = d → i ≤ t.size → d < k → acc < 10 ^ i →
    lintelref01_number.l0 k t m (acc : Int) (i : Int) = some (match Lib.decFrom acc (t.data.toList.drop i) with | some u => numFin m t u | none => (0, false)) := by
  intro d
  induction d with
  | zero =>
    intro i k acc hd hi hk ha
    obtain ⟨k, rfl⟩ : ∃ m, k = m + 1 := ⟨k - 1, by omega⟩
    simp only [lintelref01_number.l0]
    rw [if_neg (by omega), at_end (by omega)]
    simp only [Lib.decFrom, numFin]
    by_cases hm : m = true
    · rw [if_pos hm, if_pos hm]
      by_cases hu : acc ≤ 9223372036854775808
      · rw [if_pos (by omega), if_pos hu]
        by_cases hp : 0 < acc
        · rw [if_pos (by omega), if_pos (by omega), if_pos hp]
        · rw [if_neg (by omega), if_neg hp]
      · rw [if_neg (by omega), if_neg hu]
    · rw [if_neg hm, if_neg hm]
      by_cases hu : acc < 9223372036854775808
      · rw [if_pos (by omega), if_pos hu]
        by_cases hp : t.size = 1
        · rw [if_pos (by omega), if_pos hp]
        · rw [if_neg (by omega), if_pos (by omega), if_neg hp]
      · rw [if_neg (by omega), if_neg hu]
  | succ d ih =>
    intro i k acc hd hi hk ha
    obtain ⟨k, rfl⟩ : ∃ m, k = m + 1 := ⟨k - 1, by omega⟩
    obtain ⟨c, r, hdr, hb, hr⟩ := at_drop (s := t) (i := i) (by omega)
    simp only [lintelref01_number.l0]
    rw [if_pos (by omega), if_pos (by omega), hb, hdr]
    simp only [Lib.decFrom, Lib.digitVal]
    by_cases hlo : c.toNat < 48
    · rw [if_pos (by omega), if_neg (by omega)]
    · by_cases hhi : 57 < c.toNat
      · rw [if_neg (by omega), if_pos (by omega), if_neg (by omega)]
      · rw [if_neg (by omega), if_neg (by omega), if_pos (by omega), wrap_nat i (by omega)]
        have hp : (10 : Nat) ^ (i + 1) ≤ 10 ^ 19 := Nat.pow_le_pow_right (by decide) (by omega)
        have e19 : (10 : Nat) ^ 19 = 10000000000000000000 := by decide
        have hs : (10 : Nat) ^ (i + 1) = 10 ^ i * 10 := Nat.pow_succ ..
        rw [show (acc : Int) * 10 = ((acc * 10 : Nat) : Int) by omega, wrap_u64 _ (by omega), show ((acc * 10 : Nat) : Int) + (((c.toNat : Int) - 48) % 256) = ((acc * 10 + (c.toNat - 48) : Nat) : Int) by omega, wrap_u64 _ (by omega)]
        rw [ih (i + 1) k _ (by omega) (by omega) (by omega) (by omega), hr]
theorem itoa_inj {v v' : Int} (h : ok64 v) (h' : ok64 v') (e : Lib.itoa v = Lib.itoa v') : v = v' := by
  have h1 := parseInt_itoa v h.1 h.2
  rw [e, parseInt_itoa v' h'.1 h'.2] at h1
  injection h1 with h1
  exact h1.symm
theorem number_ev (s : ByteArray) : ∃ v b, Ev (fun j => lintelref01_number.f j s) (v, b) ∧ (b = true → ok64 v ∧ Lib.itoa v = s.data.toList) ∧ (∀ v', ok64 v' → Lib.itoa v' = s.data.toList → b = true) := by
  have hsz := Lib.size_eq s
  by_cases h0 : s.size = 0
  · refine ⟨0, false, ⟨3, fun j hj => ?_⟩, (fun h => by cases h), fun v' _ h => ?_⟩
    · obtain ⟨j, rfl⟩ : ∃ m, j = m + 3 := ⟨j - 3, by omega⟩
      show lintelref01_number.f (j + 3) s = _
      unfold lintelref01_number.f
      rw [if_neg (by omega)]
      simp only [lintelref01_number.j0, lintelref01_number.j1, lintelref01_number.j2]
      rw [if_neg (by decide), if_pos (by omega), if_pos trivial]
    · obtain ⟨c, r, hc, _⟩ := itoa_head v'
      rw [hc] at h
      rw [← h] at hsz
      simp at hsz
      omega
  obtain ⟨c, r, hdr, hb, hr⟩ := at_drop (s := s) (i := 0) (by omega)
  rw [List.drop_zero] at hdr
  have hb0 : bt s 0 = (c.toNat : Int) := hb
  -- the digits' text, and whether there is a minus
  obtain ⟨t, m, htm, hgo⟩ : ∃ (t : ByteArray) (m : Bool), ((m = true ∧ c = 45 ∧ t.data.toList = r) ∨ (m = false ∧ c ≠ 45 ∧ t = s)) ∧ ∀ j, lintelref01_number.f (j + 1) s = lintelref01_number.j1 j t m := by
    by_cases hc : c = 45
    · refine ⟨s.extract 1 s.size, true, .inl ⟨rfl, hc, ?_⟩, fun j => ?_⟩
      · rw [Lib.extract_data, hdr, List.drop_succ_cons, List.drop_zero, List.take_of_length_le]
        rw [hdr] at hsz
        simp at hsz
        omega
      · unfold lintelref01_number.f
        rw [if_pos (by omega), if_pos (by omega), hb0, show ((c.toNat : Int) == 45) = true from by subst hc; rfl]
        simp only [lintelref01_number.j0, if_true]
        rw [if_pos (by omega)]
    · refine ⟨s, false, .inr ⟨rfl, hc, rfl⟩, fun j => ?_⟩
      unfold lintelref01_number.f
      have : ((c.toNat : Int) == 45) = false := by
        rw [beq_eq_false_iff_ne]
        exact fun h => hc ((byte_eq (n := 45) (by decide)).mp h)
      rw [if_pos (by omega), if_pos (by omega), hb0, this]
      simp only [lintelref01_number.j0]
      rw [if_neg (by decide)]
  -- a numeral's digits
  have hdig : ∀ v', ok64 v' → Lib.itoa v' = s.data.toList → ∃ u : Nat, t.data.toList = Lib.decDigits u ∧ u ≤ 9223372036854775808 ∧ ((m = true ∧ v' = -(u : Int) ∧ 0 < u) ∨ (m = false ∧ v' = (u : Int) ∧ u < 9223372036854775808)) := by
    intro v' hv' h
    rw [hdr] at h
    unfold Lib.itoa at h
    obtain ⟨hv1, hv2⟩ := hv'
    by_cases hn : v' < 0
    · rw [if_pos hn] at h
      injection h with h1 h2
      rcases htm with ⟨hm, _, ht⟩ | ⟨_, hc, _⟩
      · exact ⟨v'.natAbs, by rw [ht, h2], by omega, .inl ⟨hm, by omega, by omega⟩⟩
      · exact absurd h1.symm hc
    · rw [if_neg hn] at h
      rcases htm with ⟨_, hc, _⟩ | ⟨hm, _, ht⟩
      · have := head_digit (decFrom_decDigits _ v'.toNat (Nat.le_refl _)) (c := c) (by rw [h]; rfl)
        subst hc
        have e45 : (45 : UInt8).toNat = 45 := rfl
        omega
      · exact ⟨v'.toNat, by rw [ht, hdr, h], by omega, .inr ⟨hm, by omega, by omega⟩⟩
  have htz := Lib.size_eq t
  by_cases hbad : t.size = 0 ∨ 19 < t.size
  · refine ⟨0, false, ⟨4, fun j hj => ?_⟩, (fun h => by cases h), fun v' hv' h => ?_⟩
    · obtain ⟨j, rfl⟩ : ∃ m, j = m + 3 := ⟨j - 3, by omega⟩
      show lintelref01_number.f (j + 2 + 1) s = _
      rw [hgo]
      simp only [lintelref01_number.j1, lintelref01_number.j2]
      rcases hbad with hz | hz
      · rw [if_pos (by omega), if_pos trivial]
      · rw [if_neg (by omega), if_pos (by simp; omega)]
    · obtain ⟨u, hu, hub, _⟩ := hdig v' hv' h
      have h1 := Lib.decDigits_length u
      have h2 := nDigits_19 hub
      have h3 := Lib.nDigits_pos u
      rw [← hu, ← htz] at h1
      omega
  have hf : ∀ j, lintelref01_number.f (j + 4 + t.size) s = some (match Lib.decFrom 0 t.data.toList with | some u => numFin m t u | none => (0, false)) := by
    intro j
    rw [show j + 4 + t.size = (j + 1 + t.size) + 2 + 1 by omega, hgo]
    simp only [lintelref01_number.j1, lintelref01_number.j2]
    rw [if_neg (by omega), if_neg (by simp; omega)]
    exact num_loop m t (by omega) (by omega) t.size 0 (j + 1 + t.size) 0 (by omega) (by omega) (by omega) (by decide)
  have hev : ∀ (v : Int) (b : Bool), (match Lib.decFrom 0 t.data.toList with | some u => numFin m t u | none => (0, false)) = (v, b) → Ev (fun j => lintelref01_number.f j s) (v, b) := by
    intro v b h
    refine ⟨4 + t.size, fun j hj => ?_⟩
    obtain ⟨j, rfl⟩ : ∃ m, j = m + 4 + t.size := ⟨j - 4 - t.size, by omega⟩
    show lintelref01_number.f (j + 4 + t.size) s = _
    rw [hf, h]
  cases hdf : Lib.decFrom 0 t.data.toList with
  | none =>
    refine ⟨0, false, hev 0 false (by rw [hdf]), (fun h => by cases h), fun v' hv' h => ?_⟩
    obtain ⟨u, hu, _, _⟩ := hdig v' hv' h
    rw [hu, decFrom_decDigits _ u (Nat.le_refl _)] at hdf
    cases hdf
  | some u =>
    obtain ⟨ct, rt, hdrt, hbt, _⟩ := at_drop (s := t) (i := 0) (by omega)
    rw [List.drop_zero] at hdrt
    have hbt0 : bt t 0 = (ct.toNat : Int) := hbt
    have hhead : (bt t 0 != 48) = true ↔ t.data.toList.head? ≠ some 48 := by
      rw [hbt0, hdrt, bne_iff_ne, List.head?_cons]
      constructor
      · intro h e
        injection e with e
        subst e
        exact h rfl
      · intro h e
        exact h (by rw [(byte_eq (n := 48) (by decide)).mp e]; rfl)
    have hne : t.data.toList ≠ [] := by rw [hdrt]; simp
    -- the other way: the number is u
    have hback : ∀ v', ok64 v' → Lib.itoa v' = s.data.toList → t.data.toList = Lib.decDigits u ∧ ((m = true ∧ 0 < u ∧ u ≤ 9223372036854775808) ∨ (m = false ∧ u < 9223372036854775808)) := by
      intro v' hv' h
      obtain ⟨w, hw, hw1, hw2⟩ := hdig v' hv' h
      have : w = u := by
        rw [hw, decFrom_decDigits _ w (Nat.le_refl _)] at hdf
        injection hdf
      subst this
      rcases hw2 with ⟨hm, _, h3⟩ | ⟨hm, _, h3⟩
      · exact ⟨hw, .inl ⟨hm, h3, hw1⟩⟩
      · exact ⟨hw, .inr ⟨hm, h3⟩⟩
    rcases htm with ⟨hm, hc45, ht⟩ | ⟨hm, hc45, ht⟩
    · -- a minus
      by_cases hgood : u ≤ 9223372036854775808 ∧ 0 < u ∧ (bt t 0 != 48) = true
      · obtain ⟨hu1, hu2, hu3⟩ := hgood
        have hk : ok64 (-(u : Int)) := ⟨by omega, by omega⟩
        have hlt : -(u : Int) < 0 := by omega
        have hna : (-(u : Int)).natAbs = u := by omega
        have hv := wrap_neg u hu1
        refine ⟨-(u : Int), true, hev _ _ ?_, fun _ => ⟨hk, ?_⟩, fun _ _ _ => rfl⟩
        · rw [hdf]
          simp only [numFin, hm, if_true]
          rw [if_pos hu1, if_pos hu2, hv, hu3]
        · unfold Lib.itoa
          rw [if_pos hlt, hna, decDigits_of _ _ u (Nat.le_refl _) hne hdf (.inr (hhead.mp hu3)), ht, hdr, hc45]
      · have hno : ∀ v', ok64 v' → Lib.itoa v' = s.data.toList → False := by
          intro v' hv' h
          obtain ⟨h1, h2⟩ := hback v' hv' h
          rcases h2 with ⟨_, h3, h4⟩ | ⟨h3, _⟩
          · refine hgood ⟨h4, h3, hhead.mpr ?_⟩
            rw [h1]
            exact decDigits_head _ u (Nat.le_refl _) (by omega)
          · rw [hm] at h3; cases h3
        refine ⟨wrap64 (-(wrap64 (u : Int))), false, hev _ _ ?_, (fun h => by cases h), fun v' hv' h => (hno v' hv' h).elim⟩
        rw [hdf]
        simp only [numFin, hm, if_true]
        by_cases hu1 : u ≤ 9223372036854775808
        · rw [if_pos hu1]
          by_cases hu2 : 0 < u
          · rw [if_pos hu2]
            have : (bt t 0 != 48) = false := by
              cases hq : (bt t 0 != 48) with
              | false => rfl
              | true => exact absurd ⟨hu1, hu2, hq⟩ hgood
            rw [this]
          · rw [if_neg hu2]
        · rw [if_neg hu1]
    · -- none
      subst ht
      by_cases hgood : u < 9223372036854775808 ∧ (t.size = 1 ∨ (bt t 0 != 48) = true)
      · obtain ⟨hu1, hu2⟩ := hgood
        have hv : wrap64 (u : Int) = (u : Int) := by unfold wrap64; omega
        refine ⟨(u : Int), true, hev _ _ ?_, fun _ => ⟨⟨by omega, by omega⟩, ?_⟩, fun _ _ _ => rfl⟩
        · rw [hdf]
          simp only [numFin, hm, Bool.false_eq_true, if_false]
          rw [if_pos hu1, hv]
          by_cases h1 : t.size = 1
          · rw [if_pos h1]
          · rw [if_neg h1, (hu2.resolve_left h1)]
        · unfold Lib.itoa
          rw [if_neg (by omega), Int.toNat_natCast, decDigits_of _ _ u (Nat.le_refl _) hne hdf (hu2.imp (fun h => by rw [← Lib.size_eq]; exact h) hhead.mp)]
      · have hno : ∀ v', ok64 v' → Lib.itoa v' = t.data.toList → False := by
          intro v' hv' h
          obtain ⟨h1, h2⟩ := hback v' hv' h
          rcases h2 with ⟨h3, _⟩ | ⟨_, h3⟩
          · rw [hm] at h3; cases h3
          · refine hgood ⟨h3, ?_⟩
            by_cases hu0 : u = 0
            · left
              rw [htz, h1, hu0, Lib.decDigits_one (by decide)]
              rfl
            · right
              refine hhead.mpr ?_
              rw [h1]
              exact decDigits_head _ u (Nat.le_refl _) hu0
        refine ⟨wrap64 (u : Int), false, hev _ _ ?_, (fun h => by cases h), fun v' hv' h => (hno v' hv' h).elim⟩
        rw [hdf]
        simp only [numFin, hm, Bool.false_eq_true, if_false]
        by_cases hu1 : u < 9223372036854775808
        · rw [if_pos hu1, if_neg (fun h => hgood ⟨hu1, .inl h⟩)]
          have : (bt t 0 != 48) = false := by
            cases hq : (bt t 0 != 48) with
            | false => rfl
            | true => exact absurd ⟨hu1, .inr hq⟩ hgood
          rw [this]
        · rw [if_neg hu1]

/-! ### reading -/
open Classical in
/-- The number that a text is of. -/
noncomputable def numV (l : List UInt8) : Option Int := if h : ∃ v, ok64 v ∧ Lib.itoa v = l then some h.choose else none
theorem numV_some {v : Int} {l : List UInt8} (h : ok64 v) (e : Lib.itoa v = l) : numV l = some v := by
  have hx : ∃ v, ok64 v ∧ Lib.itoa v = l := ⟨v, h, e⟩
  unfold numV
  rw [dif_pos hx]
  congr 1
  exact itoa_inj hx.choose_spec.1 h (hx.choose_spec.2.trans e.symm)
theorem numV_none {l : List UInt8} (h : ∀ v, ok64 v → Lib.itoa v = l → False) : numV l = none := by
  unfold numV
  rw [dif_neg (fun ⟨v, h1, h2⟩ => h v h1 h2)]
theorem numV_spec {l : List UInt8} {v : Int} (h : numV l = some v) : ok64 v ∧ Lib.itoa v = l := by
  unfold numV at h
  split at h
  · rename_i hx
    injection h with h
    subst h
    exact hx.choose_spec
  · cases h
/-- What a text is read as: a kind, a number, a text, and an error. -/
noncomputable def readV (l : List UInt8) : Int × Int × List UInt8 × Int :=
  if l = [110, 117, 108, 108] then (0, 0, [], 0) else
  match numV l with
  | some v => (1, v, [], 0)
  | none => match textOf l with
    | some t => if t.length ≤ 64 then (2, 0, t, 0) else (0, 0, [], 10)
    | none => (0, 0, [], 10)
noncomputable def readB (l : List UInt8) : Int × Int × ByteArray × Int := ((readV l).1, (readV l).2.1, ⟨(readV l).2.2.1.toArray⟩, (readV l).2.2.2)
theorem RefRead_ev (s : ByteArray) (hs : s.size ≤ 1048576) : Ev (fun j => lintelref01_Read.f j s) (readB s.data.toList) := by
  obtain ⟨v, b, ⟨K1, h1⟩, hb1, hb2⟩ := number_ev s
  obtain ⟨K2, h2⟩ := text_ev s hs
  refine ⟨K1 + K2, fun j hj => ?_⟩
  have h1 : lintelref01_number.f j s = some (v, b) := h1 j (by omega)
  have h2 : lintelref01_text.f j s = _ := h2 j (by omega)
  show lintelref01_Read.f j s = _
  unfold lintelref01_Read.f readB readV
  rw [Lib.toList_data, h1, h2]
  by_cases hn : s.data.toList = [110, 117, 108, 108]
  · rw [if_pos hn, if_pos hn]
  · rw [if_neg hn, if_neg hn]
    simp only [Option.bind_some]
    cases b with
    | true =>
      obtain ⟨h3, h4⟩ := hb1 rfl
      rw [numV_some h3 h4]
      rfl
    | false =>
      rw [numV_none (fun v' h3 h4 => by cases hb2 v' h3 h4)]
      simp only [Bool.false_eq_true, if_false]
      cases textOf s.data.toList with
      | none => rfl
      | some t =>
        simp only [decide_eq_true_eq]
        by_cases ht : t.length ≤ 64
        · rw [if_pos ht, if_pos ht]
        · rw [if_neg ht, if_neg ht]
theorem Tail_ev (s : ByteArray) (x n : Int) (z : ByteArray) (hn : ok64 n) : Ev (fun j => vTail j s x n z) (if (printV x n z.data.toList).2 = 0 then (if (printV x n z.data.toList).1 = s.data.toList then (x, n, z, 0) else (0, 0, ⟨#[]⟩, 10)) else (0, 0, ⟨#[]⟩, 10)) := by
  obtain ⟨K, hK⟩ := Print_ev x n z hn
  refine ⟨K, fun j hj => ?_⟩
  show vTail j s x n z = _
  unfold vTail
  rw [show value_Print.f j x n z = _ from hK j hj]
  simp only [Option.bind_some, Lib.toList_data]
  split
  · split <;> rfl
  · rfl
theorem Read_ev (s : ByteArray) (hs : s.size ≤ 1048576) : Ev (fun j => value_Read.f j s) (readB s.data.toList) := by
  by_cases hn : s.data.toList = [110, 117, 108, 108]
  · obtain ⟨K, hK⟩ := Tail_ev s 0 0 ⟨#[]⟩ (by unfold ok64; omega)
    refine ⟨K, fun j hj => ?_⟩
    show value_Read.f j s = _
    unfold value_Read.f readB readV
    rw [Lib.toList_data, if_pos hn, if_pos hn, show vTail j s 0 0 _ = _ from hK j hj]
    have e : printV 0 0 (⟨#[]⟩ : ByteArray).data.toList = ([110, 117, 108, 108], 0) := by rfl
    rw [e, if_pos rfl, if_pos hn.symm]
  by_cases hp : Lib.hasPrefix s.data.toList (⟨#[39]⟩ : ByteArray).data.toList = true
  · -- a text
    obtain ⟨r, hr⟩ : ∃ r, s.data.toList = 39 :: r := by
      cases hl : s.data.toList with
      | nil => rw [hl] at hp; exact absurd hp (by decide)
      | cons c r =>
        rw [hl] at hp
        simp only [Lib.hasPrefix, List.isPrefixOf] at hp
        refine ⟨r, ?_⟩
        have : (39 == c) = true := by simpa using hp
        rw [← beq_iff_eq.mp this]
    have hsz := Lib.size_eq s
    rw [hr] at hsz
    have hext : (s.extract 1 s.size).data.toList = r := by
      rw [Lib.extract_data, hr, List.drop_succ_cons, List.drop_zero, List.take_of_length_le]
      simp at hsz
      omega
    have hunq : (vUnq s).data.toList = Lib.trimSuffix r [39] := by
      unfold vUnq
      rw [hext]
    have hunql : (vUnq s).size ≤ s.size := by
      rw [Lib.size_eq, hunq]
      unfold Lib.trimSuffix
      split
      · simp only [List.length_take]; simp at hsz; omega
      · simp at hsz; omega
    have htxt : (vTxt s).data.toList = Lib.replaceAll (Lib.trimSuffix r [39]) [39, 39] [39] := by
      unfold vTxt
      rw [hunq]
    have hcount := Lib.countB_mul_le (⟨#[39, 39]⟩ : ByteArray) (by decide) _ (vUnq s) (Nat.le_refl _)
    rw [show (⟨#[39, 39]⟩ : ByteArray).size = 2 from rfl] at hcount
    obtain ⟨K, hK⟩ := Tail_ev s 2 0 (vTxt s) (by unfold ok64; omega)
    refine ⟨K, fun j hj => ?_⟩
    show value_Read.f j s = _
    unfold value_Read.f
    rw [if_neg (by rw [Lib.toList_data]; exact hn), if_pos (by omega), if_pos hp, if_pos (by omega), if_pos (by rw [show (⟨#[39]⟩ : ByteArray).size = 1 from rfl]; omega), show vTail j s 2 0 _ = _ from hK j hj]
    unfold readB readV
    rw [if_neg hn, numV_none (fun v h1 h2 => by
      obtain ⟨c, q, hc, h3⟩ := itoa_head v
      rw [hc, hr] at h2
      injection h2 with h2 _
      subst h2
      rcases h3 with h3 | h3
      · exact absurd h3 (by decide)
      · have e39 : (39 : UInt8).toNat = 39 := rfl
        omega)]
    cases ht : textOf s.data.toList with
    | none =>
      simp only
      cases hR : right 2 0 (vTxt s).data.toList with
      | true =>
        have e : printV 2 0 (vTxt s).data.toList = (39 :: esc (vTxt s).data.toList ++ [39], 0) := by
          unfold printV
          rw [hR]
          rfl
        rw [e, if_pos rfl, if_neg]
        intro e2
        simp only at e2
        rw [← e2, textOf_quote] at ht
        cases ht
      | false =>
        have e : printV 2 0 (vTxt s).data.toList = ([], 10) := by
          unfold printV
          rw [hR]
          rfl
        rw [e, if_neg (by decide)]
    | some t =>
      have hq := quote_textOf ht
      have hrt : r = esc t ++ [39] := by
        rw [hr, List.cons_append] at hq
        injection hq
      have htrim : Lib.trimSuffix r [39] = esc t := by
        rw [hrt]
        unfold Lib.trimSuffix Lib.hasSuffix
        rw [if_pos (by rw [List.isSuffixOf_iff_suffix]; exact List.suffix_append _ _)]
        simp
      have hv : (vTxt s).data.toList = t := by rw [htxt, htrim, replaceAll_esc]
      have hvb : vTxt s = ⟨t.toArray⟩ := by
        have := (mk_data (vTxt s)).symm
        rw [hv] at this
        exact this
      rw [hv]
      simp only
      by_cases hl : t.length ≤ 64
      · have e : printV 2 0 t = (39 :: esc t ++ [39], 0) := by
          unfold printV right
          simp [hl]
        rw [e, if_pos rfl, if_pos hq.symm, if_pos hl, hvb]
      · have e : printV 2 0 t = ([], 10) := by
          unfold printV right
          simp [hl]
        rw [e, if_neg (by decide), if_neg hl]
  · -- a number
    have hpf : Lib.hasPrefix s.data.toList (⟨#[39]⟩ : ByteArray).data.toList = false := Bool.eq_false_iff.mpr hp
    have htx : textOf s.data.toList = none := by
      cases ht : textOf s.data.toList with
      | none => rfl
      | some t =>
        have := quote_textOf ht
        rw [this] at hp
        exact absurd (by rfl) hp
    have hgo : ∀ j, value_Read.f j s = vNum j s (Lib.parseIntB 64 s.data.toList) := by
      intro j
      unfold value_Read.f
      rw [if_neg (by rw [Lib.toList_data]; exact hn), if_pos (by omega), if_neg hp]
    rcases hq : Lib.parseIntB 64 s.data.toList with v | _ | _
    · have hb := Lib.parseIntB_bounds hq
      have e63 : (2 : Nat) ^ (64 - 1) = 9223372036854775808 := by decide
      rw [e63] at hb
      have hv : ok64 v := by unfold ok64; omega
      obtain ⟨K, hK⟩ := Tail_ev s 1 v ⟨#[]⟩ hv
      refine ⟨K, fun j hj => ?_⟩
      show value_Read.f j s = _
      rw [hgo, hq, show vNum j s (.ok v) = vTail j s 1 v ⟨#[]⟩ from rfl, show vTail j s 1 v _ = _ from hK j hj]
      unfold readB readV
      rw [if_neg hn, htx]
      have e : printV 1 v (⟨#[]⟩ : ByteArray).data.toList = (Lib.itoa v, 0) := by rfl
      rw [e, if_pos rfl]
      by_cases hi : Lib.itoa v = s.data.toList
      · rw [if_pos hi, numV_some hv hi]
      · rw [if_neg hi, numV_none (fun v' h1 h2 => by
          rw [← h2, parseInt_itoa v' h1.1 h1.2] at hq
          injection hq with hq
          subst hq
          exact hi h2)]
    · refine ⟨0, fun j _ => ?_⟩
      show value_Read.f j s = _
      rw [hgo, hq]
      unfold vNum readB readV
      rw [if_neg hn, htx, numV_none (fun v' h1 h2 => by rw [← h2, parseInt_itoa v' h1.1 h1.2] at hq; cases hq)]
    · refine ⟨0, fun j _ => ?_⟩
      show value_Read.f j s = _
      rw [hgo, hq]
      unfold vNum readB readV
      rw [if_neg hn, htx, numV_none (fun v' h1 h2 => by rw [← h2, parseInt_itoa v' h1.1 h1.2] at hq; cases hq)]

end Go.Proofs.YtiackolnleeffaaDoor.P
