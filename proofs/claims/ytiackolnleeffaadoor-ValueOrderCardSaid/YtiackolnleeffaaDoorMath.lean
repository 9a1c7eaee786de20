/- Plain facts on bytes: quoted texts, decimal numerals, the order of texts. No program in it. -/
import Derived.Lib.ParseIntBTie
import Derived.Lib.ParseIntBCases
import Derived.Lib.Replace
import Derived.Lib.ItoaNum
import Derived.Lib.Atoi
import Derived.Lib.Bytealg
namespace Go.Proofs.YtiackolnleeffaaDoor.M
open Go

/-! ### quotes -/
/-- Each quote twice. -/
def esc : List UInt8 → List UInt8
  | [] => []
  | c :: r => if c = 39 then 39 :: 39 :: esc r else c :: esc r
/-- How many quotes. -/
def quotes : List UInt8 → Nat
  | [] => 0
  | c :: r => if c = 39 then quotes r + 1 else quotes r
/-- Back: none where a quote stands alone. -/
def unesc : List UInt8 → Option (List UInt8)
  | [] => some []
  | [c] => if c = 39 then none else some [c]
  | c :: d :: r => if c = 39 then (if d = 39 then (unesc r).map (39 :: ·) else none) else (unesc (d :: r)).map (c :: ·)

theorem unesc_esc (l : List UInt8) : unesc (esc l) = some l := by
  induction l with
  | nil => rfl
  | cons c r ih =>
    by_cases h : c = 39
    · subst h
      simp [esc, unesc, ih]
    · simp only [esc, if_neg h]
      cases he : esc r with
      | nil =>
        rw [he] at ih
        simp only [unesc, Option.some.injEq] at ih
        subst ih
        simp [unesc, h]
      | cons d t =>
        rw [he] at ih
        simp [unesc, h, ih]

theorem esc_unesc : ∀ (n : Nat) (m l : List UInt8), m.length ≤ n → unesc m = some l → m = esc l := by
  intro n
  induction n with
  | zero =>
    intro m l hn h
    have : m = [] := List.eq_nil_of_length_eq_zero (by omega)
    subst this
    simp only [unesc, Option.some.injEq] at h
    subst h
    rfl
  | succ n ih =>
    intro m l hn h
    match m, hn, h with
    | [], _, h =>
      simp only [unesc, Option.some.injEq] at h
      subst h
      rfl
    | [c], _, h =>
      by_cases hc : c = 39
      · simp [unesc, hc] at h
      · simp only [unesc, if_neg hc, Option.some.injEq] at h
        subst h
        simp [esc, hc]
    | c :: d :: r, hn, h =>
      by_cases hc : c = 39
      · by_cases hd : d = 39
        · simp only [unesc, if_pos hc, if_pos hd, Option.map_eq_some_iff] at h
          obtain ⟨l', h1, rfl⟩ := h
          have := ih r l' (by simp at hn; omega) h1
          subst hc hd
          simp [esc, ← this]
        · simp [unesc, hc, hd] at h
      · simp only [unesc, if_neg hc, Option.map_eq_some_iff] at h
        obtain ⟨l', h1, rfl⟩ := h
        have := ih (d :: r) l' (by simp at hn ⊢; omega) h1
        simp [esc, hc, ← this]

theorem esc_length (l : List UInt8) : (esc l).length = l.length + quotes l := by
  induction l with
  | nil => rfl
  | cons c r ih =>
    by_cases h : c = 39
    · simp only [esc, quotes, if_pos h, List.length_cons, ih]; omega
    · simp only [esc, quotes, if_neg h, List.length_cons, ih]; omega

theorem quotes_le (l : List UInt8) : quotes l ≤ l.length := by
  induction l with
  | nil => simp [quotes]
  | cons c r ih =>
    by_cases h : c = 39
    · simp only [quotes, if_pos h, List.length_cons]; omega
    · simp only [quotes, if_neg h, List.length_cons]; omega

theorem esc_append (a b : List UInt8) : esc (a ++ b) = esc a ++ esc b := by
  induction a with
  | nil => rfl
  | cons c r ih =>
    by_cases h : c = 39
    · simp [esc, h, ih]
    · simp [esc, h, ih]

theorem esc_plain {l : List UInt8} (h : quotes l = 0) : esc l = l := by
  induction l with
  | nil => rfl
  | cons c r ih =>
    by_cases hc : c = 39
    · simp [quotes, hc] at h
    · simp only [quotes, if_neg hc] at h
      simp [esc, hc, ih h]

/-- A text with a quote: what stands ahead of the first one, and what behind it. -/
theorem first_quote {l : List UInt8} (h : 0 < quotes l) : ∃ p r, l = p ++ 39 :: r ∧ quotes p = 0 ∧ quotes r + 1 = quotes l := by
  induction l with
  | nil => simp [quotes] at h
  | cons c t ih =>
    by_cases hc : c = 39
    · exact ⟨[], t, by simp [hc], rfl, by simp [quotes, hc]⟩
    · simp only [quotes, if_neg hc] at h
      obtain ⟨p, r, rfl, hp, hr⟩ := ih h
      exact ⟨c :: p, r, rfl, by simp [quotes, hc, hp], by simp only [quotes, if_neg hc]; exact hr⟩

theorem no_quote_at {p : List UInt8} (h : quotes p = 0) : ∀ j : Nat, p[j]? ≠ some 39 := by
  induction p with
  | nil => simp
  | cons c r ih =>
    by_cases hc : c = 39
    · simp [quotes, hc] at h
    · simp only [quotes, if_neg hc] at h
      intro j
      cases j with
      | zero => simpa using hc
      | succ j => simpa using ih h j

theorem index_plain {p : List UInt8} (h : quotes p = 0) : Lib.index p [39, 39] = -1 := by
  refine Lib.index_none fun j _ => ?_
  cases ho : Lib.occAt p [39, 39] j with
  | false => rfl
  | true => exact absurd (Lib.occAt_head rfl ho) (no_quote_at h j)

theorem index_first {p r : List UInt8} (h : quotes p = 0) : Lib.index (p ++ 39 :: 39 :: r) [39, 39] = p.length := by
  refine Lib.index_first (by simp) ?_ fun j hj => ?_
  · simp [Lib.occAt, List.isPrefixOf]
  · cases ho : Lib.occAt (p ++ 39 :: 39 :: r) [39, 39] j with
    | false => rfl
    | true =>
      have := Lib.occAt_head rfl ho
      rw [List.getElem?_append_left hj] at this
      exact absurd this (no_quote_at h j)

theorem esc_split {p r : List UInt8} (hp : quotes p = 0) : esc (p ++ 39 :: r) = p ++ 39 :: 39 :: esc r := by
  rw [esc_append, esc_plain hp]
  rfl

theorem replaceK_esc : ∀ (n : Nat) (l : List UInt8) (k : Nat), quotes l ≤ n → quotes l ≤ k → Lib.replaceK [39, 39] [39] k (esc l) = l := by
  intro n
  induction n with
  | zero =>
    intro l k hn _
    have h0 : quotes l = 0 := by omega
    rw [esc_plain h0]
    cases k with
    | zero => rfl
    | succ k => simp [Lib.replaceK, index_plain h0]
  | succ n ih =>
    intro l k hn hk
    by_cases h0 : quotes l = 0
    · rw [esc_plain h0]
      cases k with
      | zero => rfl
      | succ k => simp [Lib.replaceK, index_plain h0]
    · obtain ⟨p, r, rfl, hp, hr⟩ := first_quote (by omega : 0 < quotes l)
      cases k with
      | zero => omega
      | succ k =>
        rw [esc_split hp, Lib.replaceK_hit _ _ _ _ p.length (index_first hp)]
        have e : (p ++ 39 :: 39 :: esc r).drop (p.length + ([39, 39] : List UInt8).length) = esc r := by
          rw [List.drop_append]
          simp
        rw [e, ih r k (by omega) (by omega)]
        simp

theorem countFrom_esc : ∀ (n : Nat) (l : List UInt8) (f : Nat), quotes l ≤ n → quotes l < f → quotes l ≤ Lib.countFrom [39, 39] f (esc l) := by
  intro n
  induction n with
  | zero => intro l f hn _; omega
  | succ n ih =>
    intro l f hn hf
    by_cases h0 : quotes l = 0
    · omega
    · obtain ⟨p, r, rfl, hp, hr⟩ := first_quote (by omega : 0 < quotes l)
      cases f with
      | zero => omega
      | succ f =>
        rw [esc_split hp, Lib.countFrom, index_first hp]
        have hm : ¬ ((p.length : Int) == -1) = true := fun e => by have := beq_iff_eq.1 e; omega
        rw [if_neg hm]
        have e : (p ++ 39 :: 39 :: esc r).drop ((p.length : Int).toNat + ([39, 39] : List UInt8).length) = esc r := by
          rw [List.drop_append]
          simp
        rw [e]
        have := ih r f (by omega) (by omega)
        omega

theorem replaceAll_esc (l : List UInt8) : Lib.replaceAll (esc l) [39, 39] [39] = l := by
  have hne : (([39, 39] : List UInt8) == [39]) = false := by decide
  unfold Lib.replaceAll Lib.replace
  rw [hne]
  simp only [Bool.false_eq_true, if_false]
  unfold Lib.replaceNum
  rw [if_pos (Or.inl (by decide))]
  refine replaceK_esc _ l _ (Nat.le_refl _) ?_
  unfold Lib.count
  exact countFrom_esc _ l _ (Nat.le_refl _) (by rw [esc_length]; have := quotes_le l; omega)

/-! ### decimal numerals -/
/-- The digits of u; none of 0. -/
def digs (u : Nat) : List UInt8 := if _h : u = 0 then [] else digs (u / 10) ++ [UInt8.ofNat (48 + u % 10)]
termination_by u
decreasing_by omega

theorem digs_zero : digs 0 = [] := by rw [digs]; simp
theorem digs_pos {u : Nat} (h : u ≠ 0) : digs u = digs (u / 10) ++ [UInt8.ofNat (48 + u % 10)] := by rw [digs, dif_neg h]

theorem decDigits_digs : ∀ (n u : Nat), u ≤ n → u ≠ 0 → Lib.decDigits u = digs u := by
  intro n
  induction n with
  | zero => intro u h h0; omega
  | succ n ih =>
    intro u h h0
    rw [Lib.decDigits, digs_pos h0]
    by_cases h10 : u < 10
    · rw [dif_pos h10]
      have e1 : u / 10 = 0 := by omega
      have e2 : u % 10 = u := by omega
      rw [e1, digs_zero, e2]
      rfl
    · rw [dif_neg h10, ih (u / 10) (by omega) (by omega)]

theorem byte_digit {d : Nat} (h : d < 10) : (UInt8.ofNat (48 + d)).toNat = 48 + d := by
  rw [UInt8.toNat_ofNat']
  omega

theorem decFrom_append (acc : Nat) (l : List UInt8) (c : UInt8) : Lib.decFrom acc (l ++ [c]) = (Lib.decFrom acc l).bind fun m => (Lib.digitVal c).map (m * 10 + ·) := by
  induction l generalizing acc with
  | nil =>
    simp only [List.nil_append, Lib.decFrom, Option.bind_some]
    cases Lib.digitVal c <;> rfl
  | cons a r ih =>
    simp only [List.cons_append, Lib.decFrom]
    cases Lib.digitVal a with
    | none => rfl
    | some d => exact ih _

theorem digitVal_byte {d : Nat} (h : d < 10) : Lib.digitVal (UInt8.ofNat (48 + d)) = some d := by
  unfold Lib.digitVal
  rw [byte_digit h, if_pos ⟨by omega, by omega⟩]
  congr 1
  omega

theorem decFrom_decDigits : ∀ (n u : Nat), u ≤ n → Lib.decFrom 0 (Lib.decDigits u) = some u := by
  intro n
  induction n with
  | zero =>
    intro u hu
    obtain rfl : u = 0 := by omega
    rw [Lib.decDigits_one (by omega)]
    rfl
  | succ n ih =>
    intro u h
    by_cases h10 : u < 10
    · rw [Lib.decDigits_one h10]
      simp only [Lib.decFrom, digitVal_byte h10]
      simp
    · rw [Lib.decDigits, dif_neg h10, decFrom_append, ih (u / 10) (by omega), Option.bind_some, digitVal_byte (by omega)]
      simp only [Option.map_some, Option.some.injEq]
      omega

theorem decDigits_ne (u : Nat) : Lib.decDigits u ≠ [] := by
  intro h
  have := Lib.decDigits_length u
  rw [h] at this
  have := Lib.nDigits_pos u
  simp at *
  omega

/-- The head of a numeral of two digits or more is no 0. -/
theorem decDigits_head : ∀ (n u : Nat), u ≤ n → u ≠ 0 → (Lib.decDigits u).head? ≠ some 48 := by
  intro n
  induction n with
  | zero => intro u h h0; omega
  | succ n ih =>
    intro u h h0 hh
    by_cases h10 : u < 10
    · rw [Lib.decDigits_one h10] at hh
      simp only [List.head?_cons, Option.some.injEq] at hh
      have := congrArg UInt8.toNat hh
      rw [byte_digit h10] at this
      have e48 : (48 : UInt8).toNat = 48 := rfl
      omega
    · rw [Lib.decDigits, dif_neg h10, List.head?_append] at hh
      have hne := decDigits_ne (u / 10)
      cases hd : Lib.decDigits (u / 10) with
      | nil => exact hne hd
      | cons a r =>
        rw [hd] at hh
        exact ih (u / 10) (by omega) (by omega) (by rw [hd]; simpa using hh)

/-- A row of digits without a 0 ahead is the numeral of its number. -/
theorem decDigits_of : ∀ (n : Nat) (l : List UInt8) (u : Nat), l.length ≤ n → l ≠ [] → Lib.decFrom 0 l = some u → (l.length = 1 ∨ l.head? ≠ some 48) → Lib.decDigits u = l := by
  intro n
  induction n with
  | zero => intro l u h h0; exact absurd (List.eq_nil_of_length_eq_zero (by omega)) h0
  | succ n ih =>
    intro l u hl h0 hd hh
    obtain ⟨r, c, rfl⟩ : ∃ r c, l = r ++ [c] := ⟨l.dropLast, l.getLast h0, (List.dropLast_concat_getLast h0).symm⟩
    rw [decFrom_append] at hd
    obtain ⟨m, hm, hd⟩ := Option.bind_eq_some_iff.mp hd
    obtain ⟨d, hc, rfl⟩ := Option.map_eq_some_iff.mp hd
    obtain ⟨h1, h2, rfl⟩ := Lib.digitVal_eq hc
    have hcb : c = UInt8.ofNat (48 + (c.toNat - 48)) := by
      apply UInt8.toNat_inj.mp
      rw [byte_digit (by omega)]
      omega
    by_cases hr : r = []
    · subst hr
      simp only [Lib.decFrom, Option.some.injEq] at hm
      subst hm
      rw [Lib.decDigits_one (by omega)]
      simp only [List.nil_append]
      rw [show 0 * 10 + (c.toNat - 48) = c.toNat - 48 by omega, ← hcb]
    · have hlen : (r ++ [c]).length ≠ 1 := by
        have := List.length_pos_iff.mpr hr
        simp
        omega
      have hhr : r.head? ≠ some 48 := by
        rcases hh with hh | hh
        · exact absurd hh hlen
        · intro e
          apply hh
          rw [List.head?_append, e]
          rfl
      have hm0 : m ≠ 0 := by
        rintro rfl
        cases r with
        | nil => exact hr rfl
        | cons a t =>
          have := ih (a :: t) 0 (by simp at hl ⊢; omega) hr hm (.inr hhr)
          rw [Lib.decDigits_one (by omega)] at this
          apply hhr
          rw [← this]
          rfl
      have := ih r m (by simp at hl; omega) hr hm (.inr hhr)
      rw [Lib.decDigits, dif_neg (by omega), show (m * 10 + (c.toNat - 48)) / 10 = m by omega, this, show (m * 10 + (c.toNat - 48)) % 10 = c.toNat - 48 by omega, ← hcb]

theorem parseUint10_dec : ∀ (l : List UInt8) (acc u : Nat), Lib.decFrom acc l = some u → u < 18446744073709551616 → Lib.parseUint10 acc l = .ok u := by
  intro l
  induction l with
  | nil => intro acc u h _; simp only [Lib.decFrom, Option.some.injEq] at h; subst h; rfl
  | cons c r ih =>
    intro acc u h hu
    simp only [Lib.decFrom] at h
    cases hd : Lib.digitVal c with
    | none => rw [hd] at h; cases h
    | some d =>
      rw [hd] at h
      obtain ⟨h1, h2, rfl⟩ := Lib.digitVal_eq hd
      have hge : ∀ (l : List UInt8) (a b : Nat), Lib.decFrom a l = some b → a ≤ b := by
        intro l
        induction l with
        | nil => intro a b h; simp only [Lib.decFrom, Option.some.injEq] at h; omega
        | cons x t iht =>
          intro a b h
          simp only [Lib.decFrom] at h
          cases hx : Lib.digitVal x with
          | none => rw [hx] at h; cases h
          | some e => rw [hx] at h; have := iht _ _ h; omega
      have := hge _ _ _ h
      simp only [Lib.parseUint10]
      rw [if_pos ⟨h1, h2⟩, if_neg (by omega), if_neg (by omega)]
      exact ih _ _ h hu

theorem parseUint10_ok : ∀ (l : List UInt8) (acc u : Nat), Lib.parseUint10 acc l = .ok u → Lib.decFrom acc l = some u := by
  intro l
  induction l with
  | nil => intro acc u h; simp only [Lib.parseUint10, Lib.NumEnd.ok.injEq] at h; subst h; rfl
  | cons c r ih =>
    intro acc u h
    simp only [Lib.parseUint10] at h
    by_cases hc : 48 ≤ c.toNat ∧ c.toNat ≤ 57
    · rw [if_pos hc] at h
      by_cases h1 : 1844674407370955162 ≤ acc
      · rw [if_pos h1] at h; cases h
      · rw [if_neg h1] at h
        by_cases h2 : 18446744073709551616 ≤ acc * 10 + (c.toNat - 48)
        · rw [if_pos h2] at h; cases h
        · rw [if_neg h2] at h
          simp only [Lib.decFrom, Lib.digitVal, if_pos hc]
          exact ih _ _ h
    · rw [if_neg hc] at h; cases h

theorem head_digit {l : List UInt8} {u : Nat} (h : Lib.decFrom 0 l = some u) {c : UInt8} (hc : l.head? = some c) : 48 ≤ c.toNat ∧ c.toNat ≤ 57 := by
  cases l with
  | nil => cases hc
  | cons a r =>
    simp only [List.head?_cons, Option.some.injEq] at hc
    subst hc
    simp only [Lib.decFrom] at h
    cases hd : Lib.digitVal a with
    | none => rw [hd] at h; cases h
    | some d => have := Lib.digitVal_eq hd; omega

/-- What is written is read. -/
theorem parseInt_itoa (v : Int) (h0 : -9223372036854775808 ≤ v) (h1 : v ≤ 9223372036854775807) : Lib.parseIntB 64 (Lib.itoa v) = .ok v := by
  unfold Lib.itoa
  by_cases hn : v < 0
  · rw [if_pos hn, Lib.parseIntB_minus, Lib.parseUintB_64, Lib.parseMag, if_neg (decDigits_ne _), parseUint10_dec _ _ _ (decFrom_decDigits _ _ (Nat.le_refl _)) (by omega)]
    unfold Lib.signedC
    have e : (2 : Nat) ^ (64 - 1) = 9223372036854775808 := by decide
    simp only [e]
    rw [if_neg (by omega)]
    congr 1
    omega
  · rw [if_neg hn]
    have hd := decFrom_decDigits _ v.toNat (Nat.le_refl _)
    cases hl : Lib.decDigits v.toNat with
    | nil => exact absurd hl (decDigits_ne _)
    | cons c r =>
      have hh := head_digit hd (c := c) (by rw [hl]; rfl)
      rw [Lib.parseIntB_plain 64 c r (by omega) (by omega), Lib.parseUintB_64, Lib.parseMag, if_neg (by simp), ← hl, parseUint10_dec _ _ _ hd (by omega)]
      unfold Lib.signlessC
      have e : (2 : Nat) ^ (64 - 1) = 9223372036854775808 := by decide
      simp only [e]
      rw [if_neg (by omega)]
      congr 1
      omega

theorem itoa_head (v : Int) : ∃ c r, Lib.itoa v = c :: r ∧ (c = 45 ∨ 48 ≤ c.toNat ∧ c.toNat ≤ 57) := by
  unfold Lib.itoa
  by_cases hn : v < 0
  · rw [if_pos hn]; exact ⟨45, _, rfl, .inl rfl⟩
  · rw [if_neg hn]
    cases hl : Lib.decDigits v.toNat with
    | nil => exact absurd hl (decDigits_ne _)
    | cons c r => exact ⟨c, r, rfl, .inr (head_digit (decFrom_decDigits _ v.toNat (Nat.le_refl _)) (by rw [hl]; rfl))⟩

theorem nDigits_19 {u : Nat} (h : u ≤ 9223372036854775808) : Lib.nDigits u ≤ 19 := by
  rcases Nat.lt_or_ge 19 (Lib.nDigits u) with hlt | hge
  · exfalso
    have h1 := Lib.decDigits_length u
    have h2 := decFrom_decDigits _ u (Nat.le_refl _)
    have hu0 : u ≠ 0 := by
      rintro rfl
      rw [Lib.nDigits_small (by omega)] at hlt
      omega
    have hge : ∀ (k u : Nat), Lib.nDigits u = k + 1 → u ≠ 0 → 10 ^ k ≤ u := by
      intro k
      induction k with
      | zero => intro u _ h; simp; omega
      | succ k ih =>
        intro u hu h0
        by_cases h10 : u < 10
        · rw [Lib.nDigits_small h10] at hu; omega
        · rw [Lib.nDigits_big h10] at hu
          have := ih (u / 10) (by omega) (by omega)
          rw [Nat.pow_succ]
          omega
    have := hge (Lib.nDigits u - 1) u (by omega) hu0
    have h3 : 10 ^ 19 ≤ 10 ^ (Lib.nDigits u - 1) := Nat.pow_le_pow_right (by decide) (by omega)
    have e : (10 : Nat) ^ 19 = 10000000000000000000 := by decide
    omega
  · exact hge

end Go.Proofs.YtiackolnleeffaaDoor.M
