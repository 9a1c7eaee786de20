/- Where the words of a text stand: plain, no program in sight. -/
import Derived.Test.YtonlknpghifodaaDoorWords
namespace Go.Proofs.YtonlknpghifodaaDoor.P
set_option linter.unusedVariables false
set_option linter.unusedSimpArgs false
open Go.RowKit

/-- A word says the bytes that stand at its place. -/
def Says (s : ByteArray) (t : Tok) : Prop := t.kind ≠ 3 → t.text = s.extract t.at' (t.at' + t.text.size)
inductive Places (s : ByteArray) : Nat → List Tok → Prop
  | fin {k : Nat} : k ≤ s.size → Places s k [⟨5, s.size, ⟨#[]⟩, 0⟩]
  | cons {k m : Nat} {t : Tok} {l : List Tok} : k ≤ t.at' → t.at' < m → m ≤ s.size → t.kind ≠ 5 → Says s t → Places s m l → Places s k (t :: l)

theorem says_extract {s : ByteArray} {n m : Nat} {kd v : Int} (h : n ≤ m) (hm : m ≤ s.size) : Says s ⟨kd, n, s.extract n m, v⟩ := by
  intro _
  simp only
  rw [extract_size s n m hm, show n + (m - n) = m by omega]
theorem read1_places {s : ByteArray} {n : Nat} (hn : n < s.size) {t : Tok} {m : Nat} (h : read1 s n s[n] = .ok t m) : t.at' = n ∧ n < m ∧ m ≤ s.size ∧ t.kind ≠ 5 ∧ Says s t := by
  unfold read1 at h
  by_cases hL : isLetter s[n] = true
  · rw [if_pos hL] at h
    unfold readName at h
    by_cases h1 : 16 < nameEnd s n - n
    · rw [if_pos h1] at h; cases h
    · rw [if_neg h1] at h
      have h2 : n < nameEnd s n := by
        unfold nameEnd
        rw [drop_cons s n hn, span, if_pos (by unfold isNameB; rw [hL]; rfl)]
        omega
      have h3 := nameEnd_le hn
      injection h with ht hm
      subst ht hm
      exact ⟨rfl, h2, h3, by simp, says_extract (by omega) h3⟩
  · rw [if_neg hL] at h
    by_cases hN : isNum s[n] = true
    · rw [if_pos hN] at h
      unfold readNum at h
      by_cases h1 : (s.extract n (numEnd s n)).toList = [45]
      · rw [if_pos h1] at h; cases h
      · rw [if_neg h1] at h
        have h2 : n < numEnd s n := by unfold numEnd; omega
        have h3 := numEnd_le hn
        cases hv : Lib.parseIntB 64 (s.extract n (numEnd s n)).data.toList with
        | ok v =>
          rw [hv] at h
          injection h with ht hm
          subst ht hm
          exact ⟨rfl, h2, h3, by simp, says_extract (by omega) h3⟩
        | _ => rw [hv] at h; cases h
    · rw [if_neg hN] at h
      by_cases h39 : s[n].toNat = 39
      · rw [if_pos h39] at h
        unfold readText at h
        cases hq : quoted (s.data.toList.drop (n + 1)) with
        | none => rw [hq] at h; cases h
        | some p =>
          obtain ⟨x, u⟩ := p
          rw [hq] at h
          simp only at h
          by_cases h64 : 64 < x.length
          · rw [if_pos h64] at h; cases h
          · rw [if_neg h64] at h
            injection h with ht hm
            subst ht hm
            have h4 := quoted_le _ _ _ hq
            rw [List.length_drop, Array.length_toList] at h4
            have : s.data.size = s.size := rfl
            exact ⟨rfl, by omega, by omega, by simp, fun h => absurd rfl h⟩
      · rw [if_neg h39] at h
        unfold readSign at h
        cases hs : isSign s[n] with
        | true =>
          rw [hs, if_pos rfl] at h
          injection h with ht hm
          subst ht hm
          exact ⟨rfl, by omega, hn, by simp, says_extract (by omega) hn⟩
        | false => rw [hs, if_neg (by decide)] at h; cases h
theorem lexF_places (s : ByteArray) : ∀ (f k : Nat) (l : List Tok), k ≤ s.size → s.size - k < f → lexF s f k = .ok l → Places s k l := by
  intro f
  induction f with
  | zero => intro k l _ hf; omega
  | succ f ih =>
    intro k l hk hf h
    have hsk := skip_le s hk
    by_cases hlt : skip s k < s.size
    · cases hr : read1 s (skip s k) s[skip s k] with
      | ok t m =>
        rw [lexF_ok hlt hr] at h
        obtain ⟨h1, h2, h3, h4, h5⟩ := read1_places hlt hr
        cases hl : lexF s f m with
        | ok l' =>
          rw [hl] at h
          injection h with h
          subst h
          exact .cons (by omega) (by omega) h3 h4 h5 (ih m l' h3 (by omega) hl)
        | err a x => rw [hl] at h; cases h
      | err x => rw [lexF_err hlt hr] at h; cases h
    · rw [lexF_end hlt] at h
      injection h with h
      subst h
      rw [show skip s k = s.size by omega]
      exact .fin hk
/-- What the law asks of the word at a place of the list. -/
theorem places_at {s : ByteArray} : ∀ {k : Nat} {l : List Tok}, Places s k l → 0 < l.length ∧ ∀ i (hi : i < l.length), k ≤ (l[i]).at' ∧ (l[i]).at' ≤ s.size ∧ ((l[i]).kind = 5 ↔ i + 1 = l.length) ∧ Says s l[i] ∧ (i + 1 = l.length → (l[i]).at' = s.size) ∧ ((l[i]).kind ≠ 5 → (l[i]).at' < s.size) ∧
    ∀ (hj : i + 1 < l.length), (l[i]).at' < (l[i + 1]).at' ∨ (l[i + 1]).kind = 5 := by
  intro k l h
  induction h with
  | fin hk =>
    refine ⟨by simp, fun i hi => ?_⟩
    obtain rfl : i = 0 := by simpa using hi
    refine ⟨hk, Nat.le_refl _, by simp, fun _ => ?_, fun _ => rfl, fun h => absurd rfl h, fun hj => by simp at hj⟩
    show (⟨#[]⟩ : ByteArray) = s.extract s.size (s.size + 0)
    have h0 : (s.extract s.size (s.size + 0)).size = 0 := by rw [ByteArray.size_extract]; omega
    apply ByteArray.ext
    exact (Array.eq_empty_of_size_eq_zero h0).symm
  | @cons k m t l h1 h2 h3 h4 h5 hp ih =>
    obtain ⟨hl, ih⟩ := ih
    refine ⟨by simp, fun i hi => ?_⟩
    cases i with
    | zero =>
      refine ⟨h1, by simp; omega, ?_, h5, fun e => ?_, fun _ => by simp; omega, fun hj => ?_⟩
      · simp only [List.getElem_cons_zero, List.length_cons]
        constructor
        · intro e; exact absurd e h4
        · intro e; omega
      · simp at e
        rw [e] at hl
        simp at hl
      · have := (ih 0 hl).1
        left
        simp
        omega
    | succ i =>
      have hi' : i < l.length := by simpa using hi
      obtain ⟨a1, a2, a3, a4, a5, a6, a7⟩ := ih i hi'
      refine ⟨by simp; omega, by simpa using a2, ?_, by simpa using a4, fun e => ?_, by simpa using a6, fun hj => ?_⟩
      · simp only [List.getElem_cons_succ, List.length_cons, a3]
        omega
      · simpa using a5 (by simpa using e)
      · simpa using a7 (by simpa using hj)
end Go.Proofs.YtonlknpghifodaaDoor.P
