/- What the walks of the laws of the lexer lean on. -/
import Derived.Test.YtonlknpghifodaaDoorAwake
import Derived.Test.YtonlknpghifodaaDoorPlaces
namespace Go.Proofs.YtonlknpghifodaaDoor.P
set_option linter.unusedVariables false
set_option linter.unusedSimpArgs false
open Go.RowKit Go.Proofs.YtonlknpghifodaaDoorW.PrintWords Go.Proofs.YtonlknpghifodaaDoorW.PrintLast Go.Proofs.YtonlknpghifodaaDoorW.PrintMore

theorem bel_drewN {B : Nat} {a w : World} (h : Below B a w) (n : Nat) : Below B a (w.drewN n) := ⟨h.os, h.tape, h.output, h.size, h.block⟩
theorem own_drewN {w : World} {B : Nat} {e : TypeId} {sz n : Nat} {v : Value} {xs : List Value} (h : w.ownsRow B e sz v n xs) (k : Nat) : (w.drewN k).ownsRow B e sz v n xs := h
theorem cellsOf_at : ∀ (l : List Tok) (k j : Nat) (hk : k < l.length), j < 4 → (cellsOf l)[k * 4 + j]? = (l[k]).cells[j]?
  | t :: l, 0, j, _, hj => by
    simp only [cellsOf, List.flatMap_cons, Nat.zero_mul, Nat.zero_add, List.getElem_cons_zero]
    rw [List.getElem?_append_left (by simp [Tok.cells]; omega)]
  | t :: l, k + 1, j, hk, hj => by
    have := cellsOf_at l k j (by simpa using hk) hj
    simp only [cellsOf, List.flatMap_cons, List.getElem_cons_succ] at this ⊢
    rw [List.getElem?_append_right (by simp [Tok.cells]; omega), ← this]
    congr 1
    simp [Tok.cells]
    omega
/-- The four cells of a word of a list that is held. -/
theorem own_word {w : World} {B g cap : Nat} {e : TypeId} {l : List Tok} (h : w.ownsRow B e 4 (.slice (some ⟨g, 0, none⟩) l.length cap) l.length (cellsOf l)) (k : Nat) (hk : k < l.length) :
    w.cell? ⟨g, k * 4, none⟩ = some (.int .i64 (l[k]).kind) ∧ w.cell? ⟨g, k * 4 + 1, none⟩ = some (.int .i64 (l[k]).at') ∧ w.cell? ⟨g, k * 4 + 2, none⟩ = some (.string (l[k]).text) ∧ w.cell? ⟨g, k * 4 + 3, none⟩ = some (.int .i64 (l[k]).n) := by
  refine ⟨own_at h (k * 4 + 0) _ ?_, own_at h (k * 4 + 1) _ ?_, own_at h (k * 4 + 2) _ ?_, own_at h (k * 4 + 3) _ ?_⟩
  all_goals
    rw [cellsOf_at l k _ hk (by omega)]
    rfl

theorem lexF_err_le (s : ByteArray) : ∀ (f k a : Nat) (x : Int), k ≤ s.size → s.size - k < f → lexF s f k = .err a x → a ≤ s.size := by
  intro f
  induction f with
  | zero => intro k a x _ hf; omega
  | succ f ih =>
    intro k a x hk hf h
    have hsk := skip_le s hk
    by_cases hlt : skip s k < s.size
    · cases hr : read1 s (skip s k) s[skip s k] with
      | ok t m =>
        rw [lexF_ok hlt hr] at h
        obtain ⟨h1, h2, h3, h4, h5⟩ := read1_places hlt hr
        cases hl : lexF s f m with
        | ok l' => rw [hl] at h; cases h
        | err a' x' =>
          rw [hl] at h
          injection h with ha hx
          subst ha hx
          exact ih m _ _ h3 (by omega) hl
      | err x' =>
        rw [lexF_err hlt hr] at h
        injection h with ha hx
        omega
    · rw [lexF_end hlt] at h
      cases h
theorem read1_err_ne {s : ByteArray} {n : Nat} {c : UInt8} {x : Int} (h : read1 s n c = .err x) : x ≠ 0 := by
  unfold read1 readName readNum readText readSign at h
  intro e
  subst e
  split at h
  · split at h <;> cases h
  · split at h
    · split at h
      · cases h
      · split at h <;> cases h
    · split at h
      · split at h
        · cases h
        · split at h <;> cases h
      · split at h <;> cases h
theorem lexF_err_ne (s : ByteArray) : ∀ (f k a : Nat) (x : Int), k ≤ s.size → s.size - k < f → lexF s f k = .err a x → x ≠ 0 := by
  intro f
  induction f with
  | zero => intro k a x _ hf; omega
  | succ f ih =>
    intro k a x hk hf h
    have hsk := skip_le s hk
    by_cases hlt : skip s k < s.size
    · cases hr : read1 s (skip s k) s[skip s k] with
      | ok t m =>
        rw [lexF_ok hlt hr] at h
        obtain ⟨h1, h2, h3, h4, h5⟩ := read1_places hlt hr
        cases hl : lexF s f m with
        | ok l' => rw [hl] at h; cases h
        | err a' x' =>
          rw [hl] at h
          injection h with ha hx
          subst ha hx
          exact ih m _ _ h3 (by omega) hl
      | err x' =>
        rw [lexF_err hlt hr] at h
        injection h with ha hx
        subst hx
        exact read1_err_ne hr
    · rw [lexF_end hlt] at h
      cases h
theorem lexF_length (s : ByteArray) : ∀ (f k : Nat) (l : List Tok), k ≤ s.size → s.size - k < f → lexF s f k = .ok l → l.length + k ≤ s.size + 1 := by
  intro f
  induction f with
  | zero => intro k l _ hf; omega
  | succ f ih =>
    intro k l hk hf h
    have hsk := skip_le s hk
    by_cases hlt : skip s k < s.size
    · cases hr : read1 s (skip s k) s[skip s k] with
      | ok t m =>
        rw [lexF_ok hlt hr] at h
        obtain ⟨h1, h2, h3, h4, h5⟩ := read1_places hlt hr
        cases hl : lexF s f m with
        | err a x => rw [hl] at h; cases h
        | ok l' =>
          rw [hl] at h
          injection h with h
          subst h
          have := ih m l' h3 (by omega) hl
          simp
          omega
      | err x' => rw [lexF_err hlt hr] at h; cases h
    · rw [lexF_end hlt] at h
      injection h with h
      subst h
      simp
      omega
end Go.Proofs.YtonlknpghifodaaDoor.P
