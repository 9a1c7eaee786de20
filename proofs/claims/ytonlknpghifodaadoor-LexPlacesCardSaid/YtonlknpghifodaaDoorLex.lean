/- What the lexer does, as a function; its four readers in one. -/
import Derived.Test.YtonlknpghifodaaDoorNum
import Derived.Test.YtonlknpghifodaaDoorText
namespace Go.Proofs.YtonlknpghifodaaDoor.P
set_option linter.unusedVariables false
set_option linter.unusedSimpArgs false
open Go.RowKit Go.Proofs.YtonlknpghifodaaDoorW.PrintWords Go.Proofs.YtonlknpghifodaaDoorW.PrintLast Go.Proofs.YtonlknpghifodaaDoorW.PrintMore

structure Tok where
  kind : Int
  at' : Nat
  text : ByteArray
  n : Int
def Tok.cells (t : Tok) : List Value := [.int .i64 t.kind, .int .i64 t.at', .string t.text, .int .i64 t.n]
def Tok.agg (t : Tok) : Value := .agg #[.int .i64 t.kind, .int .i64 t.at', .string t.text, .int .i64 t.n]
def cellsOf (l : List Tok) : List Value := l.flatMap Tok.cells

/-- One word that begins at a place: the word and the place behind it, or what is wrong. -/
inductive Rd
  | ok (t : Tok) (m : Nat)
  | err (e : Int)

def readName (s : ByteArray) (n : Nat) : Rd :=
  if 16 < nameEnd s n - n then .err 21 else .ok ⟨1, n, s.extract n (nameEnd s n), 0⟩ (nameEnd s n)
def readNum (s : ByteArray) (n : Nat) : Rd :=
  if (s.extract n (numEnd s n)).toList = [45] then .err 170
  else match Lib.parseIntB 64 (s.extract n (numEnd s n)).data.toList with
    | .ok v => .ok ⟨2, n, s.extract n (numEnd s n), v⟩ (numEnd s n)
    | _ => .err 172
def readText (s : ByteArray) (n : Nat) : Rd :=
  match quoted (s.data.toList.drop (n + 1)) with
  | none => .err 171
  | some (x, u) => if 64 < x.length then .err 21 else .ok ⟨3, n, ⟨x.toArray⟩, 0⟩ (n + 1 + u)
def readSign (s : ByteArray) (n : Nat) (c : UInt8) : Rd :=
  if isSign c then .ok ⟨4, n, s.extract n (n + 1), 0⟩ (n + 1) else .err 170
def isNum (c : UInt8) : Bool := isDigit c || decide (c.toNat = 45)
def read1 (s : ByteArray) (n : Nat) (c : UInt8) : Rd :=
  if isLetter c = true then readName s n
  else if isNum c = true then readNum s n
  else if c.toNat = 39 then readText s n
  else readSign s n c

inductive LR
  | ok (l : List Tok)
  | err (at' : Nat) (e : Int)
def LR.pre (out : List Tok) : LR → LR
  | .ok l => .ok (out ++ l)
  | .err a e => .err a e
def skip (s : ByteArray) (k : Nat) : Nat := k + span isBlank (s.data.toList.drop k)
def lexF (s : ByteArray) : Nat → Nat → LR
  | 0, _ => .err 0 0
  | f + 1, k =>
    if h : skip s k < s.size then
      match read1 s (skip s k) s[skip s k] with
      | .ok t m => (lexF s f m).pre [t]
      | .err e => .err (skip s k) e
    else .ok [⟨5, skip s k, ⟨#[]⟩, 0⟩]

/-- What a reader answers, and what it leaves. -/
def rdPost (b : Nat) (s : ByteArray) (n : Nat) (w : World) (r : Rd) (e : Ending) (w' : World) : Prop :=
  w.grownBy w' (some b) ∧ match r with
  | .ok t m => e = .returned (.tuple #[t.agg, .int .i64 0]) ∧ w'.heap[b]? = some (.cells #[.string s, .int .i64 m] 37 (0, 0)) ∧ n < m ∧ m ≤ s.size
  | .err x => ∃ (kd : Int) (t : ByteArray), e = .returned (.tuple #[.agg #[.int .i64 kd, .int .i64 n, .string t, .int .i64 0], .int .i64 x]) ∧ x ≠ 0

theorem quoted_le : ∀ (l : List UInt8) (x : List UInt8) (u : Nat), quoted l = some (x, u) → 1 ≤ u ∧ u ≤ l.length ∧ x.length < u
  | [], x, u, h => by simp [quoted] at h
  | [c], x, u, h => by
    unfold quoted at h
    by_cases hc : c = 39
    · simp [hc] at h; obtain ⟨rfl, rfl⟩ := h; simp
    · simp [hc, quoted] at h
  | c :: d :: r, x, u, h => by
    rw [quoted.eq_def] at h
    simp only at h
    by_cases hc : c = 39
    · rw [if_pos hc] at h
      by_cases hd : d = 39
      · rw [if_pos hd] at h
        obtain ⟨⟨y, v⟩, hy, e⟩ := Option.map_eq_some_iff.mp h
        obtain ⟨rfl, rfl⟩ := Prod.mk.inj e
        have := quoted_le r y v hy
        simp
        omega
      · rw [if_neg hd] at h
        obtain ⟨rfl, rfl⟩ := Prod.mk.inj (Option.some.inj h)
        simp
    · rw [if_neg hc] at h
      obtain ⟨⟨y, v⟩, hy, e⟩ := Option.map_eq_some_iff.mp h
      obtain ⟨rfl, rfl⟩ := Prod.mk.inj e
      have := quoted_le (d :: r) y v hy
      simp at this ⊢
      omega

theorem rd_name (b : Nat) (s : ByteArray) (n : Nat) (w : World) (hb : w.heap[b]? = some (.cells #[.string s, .int .i64 n] 37 (0, 0))) (hn : n < s.size) (hs : s.size ≤ 1048576) (hc : isLetter s[n] = true) :
    Calls Tryd.prog 13 #[.pointer (some ⟨b, 0, none⟩)] w (rdPost b s n w (readName s n)) := by
  refine (name_calls b s n w hb hn hs _ rfl).mono fun e w' hq => ?_
  obtain ⟨he, hb', hg⟩ := hq
  refine ⟨hg, ?_⟩
  unfold readName
  by_cases h : 16 < nameEnd s n - n
  · rw [if_pos h]
    rw [decide_eq_true h, if_pos rfl] at he
    exact ⟨1, _, he, by decide⟩
  · rw [if_neg h]
    rw [decide_eq_false h, if_neg (by decide)] at he
    refine ⟨he, hb', ?_, nameEnd_le hn⟩
    unfold nameEnd
    rw [drop_cons s n hn, span, if_pos (by unfold isNameB; rw [hc]; rfl)]
    omega

theorem rd_num (b : Nat) (s : ByteArray) (n : Nat) (w : World) (hb : w.heap[b]? = some (.cells #[.string s, .int .i64 n] 37 (0, 0))) (hn : n < s.size) (hs : s.size ≤ 1048576) (hG : Glob w) (hbG : 1 < b ∧ 2 < b) :
    Calls Tryd.prog 15 #[.pointer (some ⟨b, 0, none⟩)] w (rdPost b s n w (readNum s n)) := by
  unfold readNum
  by_cases hm : (s.extract n (numEnd s n)).toList = [45]
  · rw [if_pos hm]
    refine (num_minus b s n w hb hn hs hm).mono fun e w' hq => ?_
    exact ⟨hq.2, 2, _, hq.1, by decide⟩
  · rw [if_neg hm]
    cases hv : Lib.parseIntB 64 (s.extract n (numEnd s n)).data.toList with
    | ok v =>
      refine (num_ok b s n w hb hn hs hm v hv).mono fun e w' hq => ?_
      exact ⟨hq.2.2, hq.1, hq.2.1, by unfold numEnd; omega, numEnd_le hn⟩
    | _ =>
      refine (num_bad b s n w hb hn hs hm (fun v e => by rw [hv] at e; cases e) hG hbG).mono fun e w' hq => ?_
      exact ⟨hq.2, 2, _, hq.1, by decide⟩

theorem rd_text (b : Nat) (s : ByteArray) (n : Nat) (w : World) (hb : w.heap[b]? = some (.cells #[.string s, .int .i64 n] 37 (0, 0))) (hn : n < s.size) (hs : s.size ≤ 1048576) :
    Calls Tryd.prog 16 #[.pointer (some ⟨b, 0, none⟩)] w (rdPost b s n w (readText s n)) := by
  refine (text_calls b s n w hb hn hs _ rfl).mono fun e w' hq => ?_
  obtain ⟨he, hb', hg⟩ := hq
  refine ⟨hg, ?_⟩
  unfold readText
  cases h : quoted (s.data.toList.drop (n + 1)) with
  | none =>
    rw [h] at he
    exact ⟨0, _, he, by decide⟩
  | some p =>
    obtain ⟨x, u⟩ := p
    rw [h] at he
    simp only [textVal] at he ⊢
    by_cases h64 : 64 < x.length
    · rw [if_pos h64]
      rw [if_pos h64] at he
      exact ⟨0, _, he, by decide⟩
    · rw [if_neg h64]
      rw [if_neg h64] at he
      refine ⟨he, hb' x u h, by omega, ?_⟩
      have := quoted_le _ _ _ h
      rw [List.length_drop, Array.length_toList] at this
      have : s.data.size = s.size := rfl
      omega

theorem rd_sign (b : Nat) (s : ByteArray) (n : Nat) (w : World) (hb : w.heap[b]? = some (.cells #[.string s, .int .i64 n] 37 (0, 0))) (hn : n < s.size) (hs : s.size ≤ 1048576) :
    Calls Tryd.prog 11 #[.pointer (some ⟨b, 0, none⟩)] w (rdPost b s n w (readSign s n s[n])) := by
  unfold readSign
  cases hc : isSign s[n] with
  | true =>
    refine (sign_ok b s n w hb hn hs hc).mono fun e w' hq => ?_
    exact ⟨hq.2.2, hq.1, hq.2.1, by omega, hn⟩
  | false =>
    refine (sign_bad b s n w hb hn hs hc).mono fun e w' hq => ?_
    exact ⟨hq.2, 0, _, hq.1, by decide⟩
end Go.Proofs.YtonlknpghifodaaDoor.P
