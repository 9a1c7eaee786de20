/- The words of a text that is cut off: plain, no program in sight. -/
import Derived.Test.YtonlknpghifodaaDoorPlaces
import Derived.Lib.IndexBytes
namespace Go.Proofs.YtonlknpghifodaaDoor.P
set_option linter.unusedVariables false
set_option linter.unusedSimpArgs false
open Go.RowKit

theorem bytes_ext {a b : ByteArray} (h : a.data.toList = b.data.toList) : a = b := by
  apply ByteArray.ext
  exact Array.toList_inj.mp h
theorem ext_list (s : ByteArray) (n m : Nat) : (s.extract n m).data.toList = (s.data.toList.drop n).take (m - n) := Lib.extract_data s n m
theorem cut_list (s : ByteArray) (j : Nat) : (s.extract 0 j).data.toList = s.data.toList.take j := by
  rw [ext_list, List.drop_zero, Nat.sub_zero]
theorem cut_drop (s : ByteArray) (j k : Nat) : (s.extract 0 j).data.toList.drop k = (s.data.toList.drop k).take (j - k) := by
  rw [cut_list, List.drop_take]
theorem cut_size (s : ByteArray) {j : Nat} (h : j ≤ s.size) : (s.extract 0 j).size = j := by
  rw [ByteArray.size_extract]; omega
theorem cut_at (s : ByteArray) {j n : Nat} (hj : j ≤ s.size) (h : n < j) : (s.extract 0 j)[n]'(by rw [cut_size s hj]; exact h) = s[n]'(by omega) := by
  have h1 := drop_cons (s.extract 0 j) n (by rw [cut_size s hj]; exact h)
  have h2 := drop_cons s n (by omega)
  rw [cut_drop, h2, show j - n = (j - n - 1) + 1 by omega, List.take_succ_cons] at h1
  exact (List.cons.inj h1).1.symm
theorem cut_extract (s : ByteArray) {j n m : Nat} (hm : m ≤ j) : (s.extract 0 j).extract n m = s.extract n m := by
  apply bytes_ext
  rw [ext_list (s.extract 0 j), cut_drop, ext_list s n m, List.take_take]
  congr 1
  omega
theorem span_take (p : UInt8 → Bool) : ∀ (l : List UInt8) (j : Nat), span p (l.take j) = min (span p l) j
  | [], j => by simp [span]
  | c :: l, 0 => by simp [span]
  | c :: l, j + 1 => by
    rw [List.take_succ_cons, span, span]
    by_cases h : p c = true
    · rw [if_pos h, if_pos h, span_take p l j]; omega
    · rw [if_neg h, if_neg h]; omega

theorem parseM_le {M : Nat} : ∀ (l : List UInt8) (a u : Nat), Lib.parseUintM M a l = .ok u → a ≤ u
  | [], a, u, h => by
    unfold Lib.parseUintM at h
    injection h with h
    omega
  | c :: r, a, u, h => by
    unfold Lib.parseUintM at h
    split at h
    · split at h
      · cases h
      · split at h
        · cases h
        · have := parseM_le r _ u h
          omega
    · cases h
theorem parseM_take {M : Nat} : ∀ (l : List UInt8) (j a u : Nat), Lib.parseUintM M a l = .ok u → ∃ v, Lib.parseUintM M a (l.take j) = .ok v ∧ v ≤ u
  | l, 0, a, u, h => ⟨a, by rw [List.take_zero]; rfl, parseM_le l a u h⟩
  | [], j + 1, a, u, h => ⟨u, by rw [List.take_nil]; exact h, Nat.le_refl _⟩
  | c :: r, j + 1, a, u, h => by
    unfold Lib.parseUintM at h
    split at h
    · rename_i h1
      split at h
      · cases h
      · rename_i h2
        split at h
        · cases h
        · rename_i h3
          obtain ⟨v, hv, hle⟩ := parseM_take r j _ u h
          refine ⟨v, ?_, hle⟩
          rw [List.take_succ_cons, Lib.parseUintM, if_pos h1, if_neg h2, if_neg h3]
          exact hv
    · cases h
theorem parseB_take {B : Nat} {l : List UInt8} {j u : Nat} (hj : 0 < j) (h : Lib.parseUintB B l = .ok u) : ∃ v, Lib.parseUintB B (l.take j) = .ok v ∧ v ≤ u := by
  unfold Lib.parseUintB at h ⊢
  split at h
  · cases h
  · rename_i hl
    rw [if_neg (by
      intro e
      rw [List.take_eq_nil_iff] at e
      rcases e with e | e
      · omega
      · exact hl e)]
    exact parseM_take l j 0 u h
theorem parseI_take {B : Nat} {c : UInt8} {r : List UInt8} {j : Nat} {v : Int} (h : Lib.parseIntB B (c :: r) = .ok v) (hj : (c.toNat = 43 ∨ c.toNat = 45) → 0 < j) : ∃ v', Lib.parseIntB B (c :: r.take j) = .ok v' := by
  unfold Lib.parseIntB at h ⊢
  simp only at h ⊢
  by_cases hs : c.toNat = 43 ∨ c.toNat = 45
  · rw [if_pos hs] at h ⊢
    cases hu : Lib.parseUintB B r with
    | ok u =>
      rw [hu] at h
      obtain ⟨u', hu', hle⟩ := parseB_take (hj hs) hu
      rw [hu']
      simp only at h ⊢
      by_cases hn : c.toNat = 45
      · simp only [hn, not_true_eq_false, false_and, if_false, true_and] at h ⊢
        by_cases hb : 2 ^ (B - 1) < u
        · rw [if_pos hb] at h; cases h
        · rw [if_neg (by omega)]; exact ⟨_, rfl⟩
      · simp only [hn, not_false_eq_true, true_and, false_and, if_false] at h ⊢
        by_cases hb : 2 ^ (B - 1) ≤ u
        · rw [if_pos hb] at h; cases h
        · rw [if_neg (by omega)]; exact ⟨_, rfl⟩
    | _ => rw [hu] at h; cases h
  · rw [if_neg hs] at h ⊢
    have hn : ¬ c.toNat = 45 := fun e => hs (.inr e)
    cases hu : Lib.parseUintB B (c :: r) with
    | ok u =>
      rw [hu] at h
      obtain ⟨u', hu', hle⟩ := parseB_take (j := j + 1) (by omega) hu
      rw [List.take_succ_cons] at hu'
      rw [hu']
      simp only [hn, not_false_eq_true, true_and, false_and, if_false] at h ⊢
      by_cases hb : 2 ^ (B - 1) ≤ u
      · rw [if_pos hb] at h; cases h
      · rw [if_neg (by omega)]; exact ⟨_, rfl⟩
    | _ => rw [hu] at h; cases h

theorem quoted_nil : quoted [] = none := by unfold quoted; rfl
theorem quoted_c {c : UInt8} {l : List UInt8} (h : c ≠ 39) : quoted (c :: l) = (quoted l).map fun p => (c :: p.1, p.2 + 1) := by
  rw [quoted.eq_def]; simp only; rw [if_neg h]
theorem quoted_1 : quoted [39] = some ([], 1) := by rw [quoted.eq_def]; rfl
theorem quoted_d {d : UInt8} {r : List UInt8} (h : d ≠ 39) : quoted (39 :: d :: r) = some ([], 1) := by
  rw [quoted.eq_def]; simp [h]
theorem quoted_q {r : List UInt8} : quoted (39 :: 39 :: r) = (quoted r).map fun p => (39 :: p.1, p.2 + 2) := by
  conv => lhs; rw [quoted.eq_def]
  simp
theorem quoted_take : ∀ (l : List UInt8) (j u : Nat) (x : List UInt8), quoted l = some (x, u) → (u ≤ j ∧ quoted (l.take j) = some (x, u)) ∨ quoted (l.take j) = none ∨ ∃ y, quoted (l.take j) = some (y, j) ∧ y.length ≤ x.length
  | l, 0, u, x, h => .inr (.inl (by rw [List.take_zero]; exact quoted_nil))
  | [], j + 1, u, x, h => by rw [quoted_nil] at h; cases h
  | [c], j + 1, u, x, h => by
    by_cases hc : c = 39
    · subst hc
      rw [quoted_1] at h
      obtain ⟨rfl, rfl⟩ := Prod.mk.inj (Option.some.inj h)
      exact .inl ⟨by omega, by rw [List.take_succ_cons, List.take_nil]; exact quoted_1⟩
    · rw [quoted_c hc, quoted_nil] at h; cases h
  | c :: d :: r, j + 1, u, x, h => by
    by_cases hc : c = 39
    · subst hc
      by_cases hd : d = 39
      · subst hd
        rw [quoted_q] at h
        obtain ⟨⟨y, v⟩, hy, e⟩ := Option.map_eq_some_iff.mp h
        obtain ⟨rfl, rfl⟩ := Prod.mk.inj e
        cases j with
        | zero => exact .inr (.inr ⟨[], by rw [List.take_succ_cons, List.take_zero]; exact quoted_1, by simp⟩)
        | succ j =>
          rw [List.take_succ_cons, List.take_succ_cons, quoted_q]
          rcases quoted_take r j v y hy with ⟨hle, hq⟩ | hq | ⟨z, hq, hz⟩
          · rw [hq]; exact .inl ⟨by omega, rfl⟩
          · rw [hq]; exact .inr (.inl rfl)
          · rw [hq]; exact .inr (.inr ⟨_, rfl, by simpa using hz⟩)
      · rw [quoted_d hd] at h
        obtain ⟨rfl, rfl⟩ := Prod.mk.inj (Option.some.inj h)
        refine .inl ⟨by omega, ?_⟩
        cases j with
        | zero => rw [List.take_succ_cons, List.take_zero]; exact quoted_1
        | succ j => rw [List.take_succ_cons, List.take_succ_cons]; exact quoted_d hd
    · rw [quoted_c hc] at h
      obtain ⟨⟨y, v⟩, hy, e⟩ := Option.map_eq_some_iff.mp h
      obtain ⟨rfl, rfl⟩ := Prod.mk.inj e
      rw [List.take_succ_cons, quoted_c hc]
      rcases quoted_take (d :: r) j v y hy with ⟨hle, hq⟩ | hq | ⟨z, hq, hz⟩
      · rw [hq]; exact .inl ⟨by omega, rfl⟩
      · rw [hq]; exact .inr (.inl rfl)
      · rw [hq]; exact .inr (.inr ⟨_, rfl, by simpa using hz⟩)

/-- What becomes of a word when the text is cut. -/
def Cut1 (j : Nat) (t : Tok) (m : Nat) (r : Rd) : Prop := (m ≤ j ∧ r = .ok t m) ∨ (∃ t', r = .ok t' j) ∨ r = .err 170 ∨ r = .err 171
theorem read1_cut {s : ByteArray} {j n : Nat} (hj : j ≤ s.size) (hn : n < j) {t : Tok} {m : Nat} (h : read1 s n (s[n]'(by omega)) = .ok t m) : Cut1 j t m (read1 (s.extract 0 j) n (s[n]'(by omega))) := by
  have hns : n < s.size := by omega
  unfold read1 at h ⊢
  by_cases hL : isLetter s[n] = true
  · rw [if_pos hL] at h ⊢
    unfold readName at h ⊢
    have he : nameEnd (s.extract 0 j) n = min (nameEnd s n) j := by
      unfold nameEnd
      rw [cut_drop, span_take]
      omega
    by_cases h1 : 16 < nameEnd s n - n
    · rw [if_pos h1] at h; cases h
    · rw [if_neg h1] at h
      injection h with ht hm
      subst ht hm
      rw [he, if_neg (by omega)]
      by_cases hle : nameEnd s n ≤ j
      · rw [Nat.min_eq_left hle, cut_extract s hle]
        exact .inl ⟨hle, rfl⟩
      · rw [Nat.min_eq_right (by omega)]
        exact .inr (.inl ⟨_, rfl⟩)
  · rw [if_neg hL] at h ⊢
    by_cases hN : isNum s[n] = true
    · rw [if_pos hN] at h ⊢
      unfold readNum at h ⊢
      have he : numEnd (s.extract 0 j) n = min (numEnd s n) j := by
        unfold numEnd
        rw [cut_drop, span_take]
        omega
      by_cases h1 : (s.extract n (numEnd s n)).toList = [45]
      · rw [if_pos h1] at h; cases h
      · rw [if_neg h1] at h
        cases hv : Lib.parseIntB 64 (s.extract n (numEnd s n)).data.toList with
        | ok v =>
          rw [hv] at h
          injection h with ht hm
          subst ht hm
          by_cases hle : numEnd s n ≤ j
          · rw [he, Nat.min_eq_left hle, cut_extract s hle, if_neg h1, hv]
            exact .inl ⟨hle, rfl⟩
          · rw [he, Nat.min_eq_right (by omega), cut_extract s (Nat.le_refl j)]
            by_cases h2 : (s.extract n j).toList = [45]
            · rw [if_pos h2]; exact .inr (.inr (.inl rfl))
            · rw [if_neg h2]
              have e1 : (s.extract n j).data.toList = s[n] :: (s.data.toList.drop (n + 1)).take (j - n - 1) := by
                rw [ext_list, drop_cons s n hns, show j - n = (j - n - 1) + 1 by omega, List.take_succ_cons]
                rfl
              have e2 : (s.extract n (numEnd s n)).data.toList = s[n] :: (s.data.toList.drop (n + 1)).take (numEnd s n - n - 1) := by
                rw [ext_list, drop_cons s n hns, show numEnd s n - n = (numEnd s n - n - 1) + 1 by omega, List.take_succ_cons]
                rfl
              have e3 : (s.data.toList.drop (n + 1)).take (j - n - 1) = ((s.data.toList.drop (n + 1)).take (numEnd s n - n - 1)).take (j - n - 1) := by
                rw [List.take_take]
                congr 1
                omega
              have e4 : (s.extract n j).toList = (s.extract n j).data.toList := Lib.toList_data _
              rw [e2] at hv
              obtain ⟨v', hv'⟩ := parseI_take (j := j - n - 1) hv (fun hc => by
                rcases hc with hc | hc
                · exfalso
                  unfold isNum isDigit at hN
                  rw [hc] at hN
                  exact absurd hN (by decide)
                · by_cases hjn : j = n + 1
                  · exfalso
                    apply h2
                    rw [e4, e1, hjn, show n + 1 - n - 1 = 0 by omega, List.take_zero]
                    congr 1
                    exact UInt8.toNat_inj.mp hc
                  · omega)
              rw [e1, e3, hv']
              exact .inr (.inl ⟨_, rfl⟩)
        | _ => rw [hv] at h; cases h
    · rw [if_neg hN] at h ⊢
      by_cases h39 : (s[n]).toNat = 39
      · rw [if_pos h39] at h ⊢
        unfold readText at h ⊢
        cases hq : quoted (s.data.toList.drop (n + 1)) with
        | none => rw [hq] at h; cases h
        | some p =>
          obtain ⟨x, u⟩ := p
          rw [hq] at h
          simp only at h
          by_cases h64 : 64 < x.length
          · rw [if_pos h64] at h; cases h
          · rw [if_neg h64] at h
            injection h with ht hm
            subst ht hm
            rw [cut_drop]
            rcases quoted_take _ (j - (n + 1)) u x hq with ⟨hle, hq'⟩ | hq' | ⟨y, hq', hy⟩
            · rw [hq']
              simp only
              rw [if_neg h64]
              exact .inl ⟨by omega, rfl⟩
            · rw [hq']; exact .inr (.inr (.inr rfl))
            · rw [hq']
              simp only
              rw [if_neg (by omega)]
              exact .inr (.inl ⟨_, by rw [show n + 1 + (j - (n + 1)) = j by omega]⟩)
      · rw [if_neg h39] at h ⊢
        unfold readSign at h ⊢
        cases hs : isSign s[n] with
        | true =>
          rw [hs, if_pos rfl] at h
          injection h with ht hm
          subst ht hm
          rw [if_pos rfl, cut_extract s (show n + 1 ≤ j by omega)]
          exact .inl ⟨hn, rfl⟩
        | false => rw [hs, if_neg (by decide)] at h; cases h

/-- The words of a text that is cut off, beside those of the whole. -/
def CutOf (l : List Tok) : LR → Prop
  | .ok m => ∀ i, i + 2 < m.length → i < l.length ∧ m[i]? = l[i]?
  | .err _ x => x = 170 ∨ x = 171
theorem cut_cons {l : List Tok} {t : Tok} {r : LR} (h : CutOf l r) : CutOf (t :: l) (r.pre [t]) := by
  cases r with
  | err a x => exact h
  | ok m =>
    intro i hi
    cases i with
    | zero => exact ⟨by simp, rfl⟩
    | succ i =>
      simp at hi
      obtain ⟨h1, h2⟩ := h i (by omega)
      exact ⟨by simpa using h1, by simpa using h2⟩
theorem skip_cut (s : ByteArray) {j k : Nat} (hk : k ≤ j) : skip (s.extract 0 j) k = min (skip s k) j := by
  unfold skip
  rw [cut_drop, span_take]
  omega
theorem lexF_cut (s : ByteArray) {j : Nat} (hj : j ≤ s.size) : ∀ (f g k : Nat) (l : List Tok), k ≤ j → s.size - k < f → j - k < g → lexF s f k = .ok l → CutOf l (lexF (s.extract 0 j) g k) := by
  intro f
  induction f with
  | zero => intro g k l _ hf; omega
  | succ f ih =>
    intro g k l hk hf hg h
    obtain ⟨g, rfl⟩ : ∃ g', g = g' + 1 := ⟨g - 1, by omega⟩
    have hsk := skip_cut s hk
    have hsl := skip_le s (show k ≤ s.size by omega)
    have hend : ∀ a, CutOf l (.ok [⟨5, a, ⟨#[]⟩, 0⟩]) := fun a i hi => by simp at hi
    by_cases hlt : skip s k < j
    · have hlt' : skip s k < s.size := by omega
      have hs' : skip (s.extract 0 j) k = skip s k := by omega
      cases hr : read1 s (skip s k) (s[skip s k]'hlt') with
      | err x => rw [lexF_err hlt' hr] at h; cases h
      | ok t m =>
        rw [lexF_ok hlt' hr] at h
        have hc := read1_cut hj hlt hr
        have hp := read1_places hlt' hr
        rw [← cut_at s hj hlt] at hc
        have hlt2 : skip (s.extract 0 j) k < (s.extract 0 j).size := by rw [cut_size s hj]; omega
        have hc' : Cut1 j t m (read1 (s.extract 0 j) (skip (s.extract 0 j) k) ((s.extract 0 j)[skip (s.extract 0 j) k])) := by
          simp only [hs']
          exact hc
        cases hl : lexF s f m with
        | err a x => rw [hl] at h; cases h
        | ok l' =>
          rw [hl] at h
          injection h with h
          subst h
          rcases hc' with ⟨hm, e⟩ | ⟨t', e⟩ | e | e
          · rw [lexF_ok hlt2 e]
            exact cut_cons (ih g m l' hm (by omega) (by omega) hl)
          · rw [lexF_ok hlt2 e]
            obtain ⟨g, rfl⟩ : ∃ g', g = g' + 1 := ⟨g - 1, by omega⟩
            have h0 := skip_cut s (Nat.le_refl j)
            have hj2 := skip_le s hj
            rw [lexF_end (by rw [cut_size s hj]; omega)]
            intro i hi
            exact absurd hi (by simp)
          · rw [lexF_err hlt2 e]; exact .inl rfl
          · rw [lexF_err hlt2 e]; exact .inr rfl
    · rw [lexF_end (by rw [cut_size s hj]; omega)]
      exact hend _
end Go.Proofs.YtonlknpghifodaaDoor.P
