/- The words of a text with more blanks: plain, no program in sight. -/
import Derived.Test.YtonlknpghifodaaDoorCuts
namespace Go.Proofs.YtonlknpghifodaaDoor.P
set_option linter.unusedVariables false
set_option linter.unusedSimpArgs false
open Go.RowKit

def dbl : List UInt8 → List UInt8
  | [] => []
  | c :: l => if c = 39 then 39 :: 39 :: dbl l else c :: dbl l
/-- How a word is written. -/
def shown (t : Tok) : List UInt8 := if t.kind = 3 then 39 :: (dbl t.text.data.toList ++ [39]) else t.text.data.toList
def blanksN (n : Nat) : List UInt8 := [9, 32, 10, 32].take (n + 1)
def seg (n : Nat) (t : Tok) : List UInt8 := blanksN n ++ (shown t ++ [32])
def segs (n : Nat) (l : List Tok) : List UInt8 := l.flatMap (seg n)
/-- A word that may stand ahead of the last one. -/
inductive WF : Tok → Prop
  | name {a : Nat} {x : ByteArray} {c : UInt8} {r : List UInt8} : x.data.toList = c :: r → isLetter c = true → (∀ y ∈ r, isNameB y = true) → x.size ≤ 16 → WF ⟨1, a, x, 0⟩
  | num {a : Nat} {x : ByteArray} {c : UInt8} {r : List UInt8} {v : Int} : x.data.toList = c :: r → isLetter c = false → isNum c = true → (∀ y ∈ r, isDigit y = true) → ¬ x.toList = [45] → Lib.parseIntB 64 x.data.toList = .ok v → WF ⟨2, a, x, v⟩
  | text {a : Nat} {x : ByteArray} : x.size ≤ 64 → WF ⟨3, a, x, 0⟩
  | sign {a : Nat} {x : ByteArray} {c : UInt8} : x.data.toList = [c] → isLetter c = false → isNum c = false → ¬ c.toNat = 39 → isSign c = true → WF ⟨4, a, x, 0⟩

theorem span_all (p : UInt8 → Bool) : ∀ (l : List UInt8), ∀ y ∈ l.take (span p l), p y = true
  | [], y, h => by simp at h
  | c :: l, y, h => by
    rw [span] at h
    by_cases hc : p c = true
    · rw [if_pos hc, List.take_succ_cons] at h
      rcases List.mem_cons.mp h with h | h
      · rw [h]; exact hc
      · exact span_all p l y h
    · rw [if_neg hc] at h; simp at h
theorem span_stop (p : UInt8 → Bool) (d : UInt8) (rest : List UInt8) (hd : p d = false) : ∀ (r : List UInt8), (∀ y ∈ r, p y = true) → span p (r ++ d :: rest) = r.length
  | [], _ => by rw [List.nil_append, span, if_neg (by rw [hd]; decide)]; rfl
  | c :: r, h => by
    rw [List.cons_append, span, if_pos (h c (List.mem_cons_self ..)), span_stop p d rest hd r (fun y hy => h y (List.mem_cons_of_mem _ hy))]
    rfl
theorem span_full (p : UInt8 → Bool) : ∀ (r : List UInt8), (∀ y ∈ r, p y = true) → span p r = r.length
  | [], _ => rfl
  | c :: r, h => by
    rw [span, if_pos (h c (List.mem_cons_self ..)), span_full p r (fun y hy => h y (List.mem_cons_of_mem _ hy))]
    rfl
theorem read1_wf {s : ByteArray} {n : Nat} (hn : n < s.size) {t : Tok} {m : Nat} (h : read1 s n s[n] = .ok t m) : WF t := by
  unfold read1 at h
  by_cases hL : isLetter s[n] = true
  · rw [if_pos hL] at h
    unfold readName at h
    by_cases h1 : 16 < nameEnd s n - n
    · rw [if_pos h1] at h; cases h
    · rw [if_neg h1] at h
      injection h with ht hm
      subst ht hm
      have hE : nameEnd s n = n + (span isNameB (s.data.toList.drop (n + 1)) + 1) := by
        unfold nameEnd
        rw [drop_cons s n hn, span, if_pos (by unfold isNameB; rw [hL]; rfl)]
      refine .name (c := s[n]) (r := (s.data.toList.drop (n + 1)).take (span isNameB (s.data.toList.drop (n + 1)))) ?_ hL (span_all _ _) ?_
      · rw [ext_list, drop_cons s n hn, hE, show n + (span isNameB (s.data.toList.drop (n + 1)) + 1) - n = span isNameB (s.data.toList.drop (n + 1)) + 1 by omega, List.take_succ_cons]
      · rw [extract_size s n _ (nameEnd_le hn)]; omega
  · have hL' : isLetter s[n] = false := by simpa using hL
    rw [if_neg hL] at h
    by_cases hN : isNum s[n] = true
    · rw [if_pos hN] at h
      unfold readNum at h
      by_cases h1 : (s.extract n (numEnd s n)).toList = [45]
      · rw [if_pos h1] at h; cases h
      · rw [if_neg h1] at h
        cases hv : Lib.parseIntB 64 (s.extract n (numEnd s n)).data.toList with
        | ok v =>
          rw [hv] at h
          injection h with ht hm
          subst ht hm
          refine .num (c := s[n]) (r := (s.data.toList.drop (n + 1)).take (span isDigit (s.data.toList.drop (n + 1)))) ?_ hL' hN (span_all _ _) h1 hv
          rw [ext_list, drop_cons s n hn]
          unfold numEnd
          rw [show n + 1 + span isDigit (s.data.toList.drop (n + 1)) - n = span isDigit (s.data.toList.drop (n + 1)) + 1 by omega, List.take_succ_cons]
        | _ => rw [hv] at h; cases h
    · have hN' : isNum s[n] = false := by simpa using hN
      rw [if_neg hN] at h
      by_cases h39 : (s[n]).toNat = 39
      · rw [if_pos h39] at h
        unfold readText at h
        cases hq : quoted (s.data.toList.drop (n + 1)) with
        | none => rw [hq] at h; cases h
        | some p =>
          obtain ⟨x, u⟩ := p
          rw [hq] at h
          simp only at h
          by_cases h64 : 64 < x.length
          · rw [if_pos h64] at h; cases h
          · rw [if_neg h64] at h
            injection h with ht hm
            subst ht hm
            exact .text (by show x.toArray.size ≤ 64; simpa using h64)
      · rw [if_neg h39] at h
        unfold readSign at h
        cases hs : isSign s[n] with
        | true =>
          rw [hs, if_pos rfl] at h
          injection h with ht hm
          subst ht hm
          refine .sign (c := s[n]) ?_ hL' hN' h39 hs
          rw [ext_list, drop_cons s n hn, show n + 1 - n = 0 + 1 by omega, List.take_succ_cons, List.take_zero]
        | false => rw [hs, if_neg (by decide)] at h; cases h
def fin (k : Nat) : Tok := ⟨5, k, ⟨#[]⟩, 0⟩
theorem lexF_wf (s : ByteArray) : ∀ (f k : Nat) (l : List Tok), k ≤ s.size → s.size - k < f → lexF s f k = .ok l → ∃ l', l = l' ++ [fin s.size] ∧ ∀ t ∈ l', WF t := by
  intro f
  induction f with
  | zero => intro k l _ hf; omega
  | succ f ih =>
    intro k l hk hf h
    have hsk := skip_le s hk
    by_cases hlt : skip s k < s.size
    · cases hr : read1 s (skip s k) s[skip s k] with
      | err x => rw [lexF_err hlt hr] at h; cases h
      | ok t m =>
        rw [lexF_ok hlt hr] at h
        have hp := read1_places hlt hr
        cases hl : lexF s f m with
        | err a x => rw [hl] at h; cases h
        | ok l2 =>
          rw [hl] at h
          injection h with h
          subst h
          obtain ⟨l', rfl, hw⟩ := ih m l2 (by omega) (by omega) hl
          refine ⟨t :: l', rfl, fun y hy => ?_⟩
          rcases List.mem_cons.mp hy with e | e
          · rw [e]; exact read1_wf hlt hr
          · exact hw y e
    · rw [lexF_end hlt] at h
      injection h with h
      subst h
      rw [show skip s k = s.size by omega]
      exact ⟨[], rfl, fun t ht => by cases ht⟩
theorem drop_at {s : ByteArray} {n : Nat} {c : UInt8} {r : List UInt8} (h : s.data.toList.drop n = c :: r) : ∃ hn : n < s.size, s[n] = c ∧ s.data.toList.drop (n + 1) = r := by
  have hn : n < s.size := by
    have := congrArg List.length h
    rw [List.length_drop, Array.length_toList, List.length_cons] at this
    have : s.data.size = s.size := rfl
    omega
  refine ⟨hn, ?_⟩
  rw [drop_cons s n hn] at h
  exact ⟨(List.cons.inj h).1, (List.cons.inj h).2⟩
theorem quoted_dbl (d : UInt8) (rest : List UInt8) (hd : d ≠ 39) : ∀ (x : List UInt8), quoted (dbl x ++ 39 :: d :: rest) = some (x, (dbl x).length + 1)
  | [] => by rw [dbl, List.nil_append]; exact quoted_d hd
  | c :: x => by
    rw [dbl]
    by_cases hc : c = 39
    · subst hc
      rw [if_pos rfl, List.cons_append, List.cons_append, quoted_q, quoted_dbl d rest hd x]
      rfl
    · rw [if_neg hc, List.cons_append, quoted_c hc, quoted_dbl d rest hd x]
      rfl
theorem letter_not {c : UInt8} (h : isLetter c = true) : isBlank c = false := by
  unfold isLetter at h
  unfold isBlank
  simp at h ⊢
  omega
theorem num_not {c : UInt8} (h : isNum c = true) : isBlank c = false := by
  unfold isNum isDigit at h
  unfold isBlank
  simp at h ⊢
  omega
theorem sign_not {c : UInt8} (h : isSign c = true) : isBlank c = false := by
  unfold isBlank
  cases h1 : decide (c.toNat = 32) with
  | true => exact absurd (show isSign c = false by rw [show c = 32 from UInt8.toNat_inj.mp (of_decide_eq_true h1)]; kernel_rfl) (by rw [h]; decide)
  | false =>
    cases h2 : decide (c.toNat = 9) with
    | true => exact absurd (show isSign c = false by rw [show c = 9 from UInt8.toNat_inj.mp (of_decide_eq_true h2)]; kernel_rfl) (by rw [h]; decide)
    | false =>
      cases h3 : decide (c.toNat = 10) with
      | true => exact absurd (show isSign c = false by rw [show c = 10 from UInt8.toNat_inj.mp (of_decide_eq_true h3)]; kernel_rfl) (by rw [h]; decide)
      | false => rfl
theorem shown_head {t : Tok} (h : WF t) : ∃ c r, shown t = c :: r ∧ isBlank c = false := by
  cases h with
  | name hx hc _ _ => exact ⟨_, _, by rw [shown, if_neg (show ¬ (1 : Int) = 3 by decide)]; exact hx, letter_not hc⟩
  | num hx _ hc _ _ _ => exact ⟨_, _, by rw [shown, if_neg (show ¬ (2 : Int) = 3 by decide)]; exact hx, num_not hc⟩
  | text _ => exact ⟨_, _, by rw [shown, if_pos rfl], by decide⟩
  | sign hx _ _ _ hc => exact ⟨_, _, by rw [shown, if_neg (show ¬ (4 : Int) = 3 by decide)]; exact hx, sign_not hc⟩
theorem ext_of_drop {s : ByteArray} {n : Nat} {x : ByteArray} {d : UInt8} {rest : List UInt8} (h : s.data.toList.drop n = x.data.toList ++ d :: rest) : s.extract n (n + x.size) = x := by
  apply bytes_ext
  rw [ext_list, h, show n + x.size - n = x.data.toList.length by rw [Array.length_toList]; show _ = x.size; omega, List.take_left]
theorem read1_shown {s : ByteArray} {n : Nat} {t : Tok} {rest : List UInt8} (hw : WF t) (hd : s.data.toList.drop n = shown t ++ 32 :: rest) :
    ∃ hn : n < s.size, read1 s n s[n] = .ok ⟨t.kind, n, t.text, t.n⟩ (n + (shown t).length) := by
  cases hw with
  | @name a x c r hx hc hr hz =>
    have hs : shown ⟨1, a, x, 0⟩ = x.data.toList := by rw [shown, if_neg (show ¬ (1 : Int) = 3 by decide)]
    rw [hs] at hd ⊢
    have hd2 := hd
    rw [hx, List.cons_append] at hd2
    obtain ⟨hn, e, hd3⟩ := drop_at hd2
    have hlen : x.size = r.length + 1 := by
      have := congrArg List.length hx
      rw [Array.length_toList, List.length_cons] at this
      exact this
    have hE : nameEnd s n = n + x.size := by
      unfold nameEnd
      rw [drop_cons s n hn, hd3, span, if_pos (by unfold isNameB; rw [e, hc]; rfl), span_stop isNameB 32 rest (by decide) r hr, hlen]
    refine ⟨hn, ?_⟩
    unfold read1
    rw [if_pos (by rw [e]; exact hc)]
    unfold readName
    rw [hE, if_neg (by omega), ext_of_drop hd]
    rw [Array.length_toList]
    rfl
  | @num a x c r v hx hl hc hr hm hv =>
    have hs : shown ⟨2, a, x, v⟩ = x.data.toList := by rw [shown, if_neg (show ¬ (2 : Int) = 3 by decide)]
    rw [hs] at hd ⊢
    have hd2 := hd
    rw [hx, List.cons_append] at hd2
    obtain ⟨hn, e, hd3⟩ := drop_at hd2
    have hlen : x.size = r.length + 1 := by
      have := congrArg List.length hx
      rw [Array.length_toList, List.length_cons] at this
      exact this
    have hE : numEnd s n = n + x.size := by
      unfold numEnd
      rw [hd3, span_stop isDigit 32 rest (by decide) r hr, hlen]
      omega
    refine ⟨hn, ?_⟩
    unfold read1
    rw [if_neg (by rw [e, hl]; decide), if_pos (by rw [e]; exact hc)]
    unfold readNum
    rw [hE, ext_of_drop hd, if_neg hm, hv]
    rw [Array.length_toList]
    rfl
  | @text a x hz =>
    have hs : shown ⟨3, a, x, 0⟩ = 39 :: (dbl x.data.toList ++ [39]) := by rw [shown, if_pos rfl]
    rw [hs] at hd ⊢
    have hd2 := hd
    rw [List.cons_append] at hd2
    obtain ⟨hn, e, hd3⟩ := drop_at hd2
    have hq := quoted_dbl 32 rest (by decide) x.data.toList
    rw [List.append_assoc, List.singleton_append] at hd3
    rw [← hd3] at hq
    refine ⟨hn, ?_⟩
    unfold read1
    rw [if_neg (by rw [e]; decide), if_neg (by rw [e]; decide), if_pos (by rw [e]; rfl)]
    unfold readText
    rw [hq]
    simp only
    rw [if_neg (by rw [Array.length_toList]; show ¬ 64 < x.size; omega)]
    simp
    omega
  | @sign a x c hx hl hm h39 hc =>
    have hs : shown ⟨4, a, x, 0⟩ = x.data.toList := by rw [shown, if_neg (show ¬ (4 : Int) = 3 by decide)]
    rw [hs] at hd ⊢
    have hd2 := hd
    rw [hx, List.cons_append] at hd2
    obtain ⟨hn, e, hd3⟩ := drop_at hd2
    have hlen : x.size = 1 := by
      have := congrArg List.length hx
      rw [Array.length_toList] at this
      exact this
    refine ⟨hn, ?_⟩
    unfold read1
    rw [if_neg (by rw [e, hl]; decide), if_neg (by rw [e, hm]; decide), if_neg (by rw [e]; exact h39)]
    unfold readSign
    rw [e, hc, if_pos rfl]
    have := ext_of_drop hd
    rw [hlen] at this
    rw [this, Array.length_toList]
    show Rd.ok _ _ = Rd.ok _ (n + x.size)
    rw [hlen]
theorem blanksN_all (n : Nat) : ∀ y ∈ blanksN n, isBlank y = true := by
  intro y hy
  have h := List.mem_of_mem_take hy
  simp only [List.mem_cons, List.not_mem_nil, or_false] at h
  rcases h with rfl | rfl | rfl | rfl <;> decide
/-- What of a word hangs not on its place. -/
def key (t : Tok) : Int × ByteArray × Int := (t.kind, t.text, t.n)
theorem skip_stop {s : ByteArray} {p : Nat} {B : List UInt8} {c : UInt8} {r : List UInt8} (h : s.data.toList.drop p = B ++ c :: r) (hB : ∀ y ∈ B, isBlank y = true) (hc : isBlank c = false) : skip s p = p + B.length := by
  unfold skip
  rw [h, span_stop isBlank c r hc B hB]
theorem lexF_segs (s : ByteArray) (n : Nat) (z : Nat) : ∀ (l : List Tok) (f p : Nat) (B : List UInt8), (∀ t ∈ l, WF t) → s.data.toList.drop p = B ++ segs n (l ++ [fin z]) → (∀ y ∈ B, isBlank y = true) → p ≤ s.size → s.size - p < f →
    ∃ m, lexF s f p = .ok m ∧ m.map key = (l ++ [fin z]).map key := by
  intro l
  induction l with
  | nil =>
    intro f p B _ hd hB hp hf
    obtain ⟨f, rfl⟩ : ∃ f', f = f' + 1 := ⟨f - 1, by omega⟩
    have hall : ∀ y ∈ s.data.toList.drop p, isBlank y = true := by
      rw [hd]
      intro y hy
      rcases List.mem_append.mp hy with h | h
      · exact hB y h
      · simp only [segs, seg, fin, shown, List.nil_append, List.flatMap_cons, List.flatMap_nil, List.append_nil] at h
        rw [if_neg (by decide)] at h
        rcases List.mem_append.mp h with h | h
        · exact blanksN_all n y h
        · simp at h; rw [h]; decide
    have hsk : skip s p = s.size := by
      unfold skip
      rw [span_full _ _ hall, List.length_drop, Array.length_toList]
      have : s.data.size = s.size := rfl
      omega
    exact ⟨_, lexF_end (by omega), rfl⟩
  | cons t l ih =>
    intro f p B hw hd hB hp hf
    obtain ⟨f, rfl⟩ : ∃ f', f = f' + 1 := ⟨f - 1, by omega⟩
    obtain ⟨c, r, hs, hc⟩ := shown_head (hw t (List.mem_cons_self ..))
    have hd1 : s.data.toList.drop p = (B ++ blanksN n) ++ (shown t ++ 32 :: segs n (l ++ [fin z])) := by
      rw [hd]
      simp [segs, seg]
    have hB1 : ∀ y ∈ B ++ blanksN n, isBlank y = true := by
      intro y hy
      rcases List.mem_append.mp hy with h | h
      · exact hB y h
      · exact blanksN_all n y h
    have hsk : skip s p = p + (B ++ blanksN n).length := by
      rw [hs, List.cons_append] at hd1
      exact skip_stop hd1 hB1 hc
    have hd2 : s.data.toList.drop (p + (B ++ blanksN n).length) = shown t ++ 32 :: segs n (l ++ [fin z]) := by
      rw [← List.drop_drop, hd1, List.drop_left]
    obtain ⟨hn, hr⟩ := read1_shown (hw t (List.mem_cons_self ..)) hd2
    rw [← hsk] at hd2
    have hd3 : s.data.toList.drop (skip s p + (shown t).length) = [32] ++ segs n (l ++ [fin z]) := by
      rw [← List.drop_drop, hd2, List.drop_left]; rfl
    have hm : skip s p + (shown t).length < s.size := (drop_at hd3).1
    have hlt : skip s p < s.size := by omega
    have hr2 : read1 s (skip s p) s[skip s p] = .ok ⟨t.kind, skip s p, t.text, t.n⟩ (skip s p + (shown t).length) := by
      simp only [hsk]
      exact hr
    have hpos : 0 < (shown t).length := by rw [hs]; simp
    obtain ⟨m, hm1, hm2⟩ := ih f (skip s p + (shown t).length) [32] (fun y hy => hw y (List.mem_cons_of_mem _ hy)) hd3 (fun y hy => by simp at hy; rw [hy]; decide) (by omega) (by have := skip_le s hp; omega)
    rw [lexF_ok hlt hr2, hm1]
    refine ⟨_, rfl, ?_⟩
    show key _ :: List.map key m = key t :: List.map key (l ++ [fin z])
    rw [hm2]
    rfl
end Go.Proofs.YtonlknpghifodaaDoor.P
