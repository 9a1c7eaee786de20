/- The lexer's two fixed answers, and lintellaw17.awake, walked. -/
import Derived.Test.YtonlknpghifodaaDoorWords
namespace Go.Proofs.YtonlknpghifodaaDoor.P
set_option linter.unusedVariables false
set_option linter.unusedSimpArgs false
open Go.RowKit Go.Proofs.YtonlknpghifodaaDoorW.PrintWords Go.Proofs.YtonlknpghifodaaDoorW.PrintLast Go.Proofs.YtonlknpghifodaaDoorW.PrintMore

def text1 : ByteArray := ⟨#[97, 61, 45, 48, 55, 59, 39, 105, 116, 39, 39, 115, 39]⟩
def text2 : ByteArray := ⟨#[97, 32, 63]⟩
theorem lex2 : lexF text2 4 0 = .err 2 170 := by kernel_rfl
def toks1 : List Tok := [⟨1, 0, ⟨#[97]⟩, 0⟩, ⟨4, 1, ⟨#[61]⟩, 0⟩, ⟨2, 2, ⟨#[45, 48, 55]⟩, -7⟩, ⟨4, 5, ⟨#[59]⟩, 0⟩, ⟨3, 6, ⟨#[105, 116, 39, 115]⟩, 0⟩, ⟨5, 13, ⟨#[]⟩, 0⟩]
theorem lex1 : lexF text1 14 0 = .ok toks1 := by kernel_rfl

theorem own_at {w : World} {B g n cap : Nat} {e : TypeId} {sz : Nat} {xs : List Value} (h : w.ownsRow B e sz (.slice (some ⟨g, 0, none⟩) n cap) n xs) (j : Nat) (u : Value) (hj : xs[j]? = some u) : w.cell? ⟨g, j, none⟩ = some u := by
  have := h.cells (g := g) rfl j u hj
  by_cases hj0 : j = 0
  · subst hj0; simpa [Addr.add] using this
  · simpa [Addr.add, hj0] using this

set_option maxHeartbeats 1600000 in
set_option maxRecDepth 100000 in
theorem awake_calls (w : World) (hG : Glob w) : Calls Tryd.prog 7 #[] w fun e w' => e = .returned (.bool true) ∧ Below w.heap.size w w' := by
  have hu := Tryd.underlying28
  have HG := Aside0.mk hG
  clear hG
  go_enter Tryd.func7, Tryd.ntmps7
  go_wp2_with fail
  refine (words_calls text1 w (by decide) HG.out _ lex1.symm).mono ?_
  rintro e w1 ⟨hb1, v, rfl, hown⟩
  replace hown : w1.ownsRow w.heap.size 28 4 v 6 (cellsOf toks1) := hown
  rcases hown.2 with ⟨_, h0⟩ | ⟨g, cap, cur, rfl, hg, _⟩
  · exact absurd h0 (by decide)
  have HB1 := Aside0.mk hb1
  have HO := Aside0.mk hown
  clear hown hb1
  go_wp2_with fail
  refine (words_calls text2 w1 (by decide) (Glob_below HG.out HB1.out HG.out.lt) _ lex2.symm).mono ?_
  rintro e w2 ⟨hb2, rfl, _⟩
  have hk := HO.out.kept (only_of_below hb2 none) (.inr (by simp [Value.ownBlock]))
  have c8 := own_at hk 8 _ rfl
  have c9 := own_at hk 9 _ rfl
  have c10 := own_at hk 10 _ rfl
  have c11 := own_at hk 11 _ rfl
  have c18 := own_at hk 18 _ rfl
  have c20 := own_at hk 20 _ rfl
  have c21 := own_at hk 21 _ rfl
  have c22 := own_at hk 22 _ rfl
  have c23 := own_at hk 23 _ rfl
  have HB2 := Aside0.mk (below_step HB1.out hb2)
  clear hb2 hk hg HO
  go_wp2
  go_ret
  exact ⟨rfl, HB2.out⟩
end Go.Proofs.YtonlknpghifodaaDoor.P
