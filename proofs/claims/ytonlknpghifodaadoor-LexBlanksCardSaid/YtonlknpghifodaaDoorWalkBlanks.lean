/- lintellaw17.LexBlanks, walked. -/
import Derived.Test.YtonlknpghifodaaDoorWalkBase
import Derived.Test.YtonlknpghifodaaDoorPrint
namespace Go.Proofs.YtonlknpghifodaaDoor.P
set_option linter.unusedVariables false
set_option linter.unusedSimpArgs false
open Go.RowKit Go.Proofs.YtonlknpghifodaaDoorW.PrintWords Go.Proofs.YtonlknpghifodaaDoorW.PrintLast Go.Proofs.YtonlknpghifodaaDoorW.PrintMore

set_option maxHeartbeats 1600000 in
set_option maxRecDepth 100000 in
theorem blanks_none (s : ByteArray) (nn : Int) (w : World) (hG : Glob w) (a : Nat) (x : Int) (hx : x ≠ 0)
    (hW : Calls Tryd.prog 6 #[.string s] w fun e w' => e = .returned (.tuple #[.slice none 0 0, .int .i64 a, .int .i64 x]) ∧ Below w.heap.size w w') :
    Calls Tryd.prog 4 #[.string s, .int .i64 nn] w fun e w' => e = .returned (.bool true) ∧ Below w.heap.size w w' := by
  have hx0 : (x == 0) = false := by simpa using hx
  have hx1 : (x != 0) = true := by simpa using hx
  have HG := Aside0.mk hG
  have HW := Aside0.mk hW
  clear hG hW hx
  go_enter Tryd.func4, Tryd.ntmps4
  go_wp2_with fail
  refine HW.out.mono ?_
  rintro e w1 ⟨rfl, hb1⟩
  have HB1 := Aside0.mk hb1
  clear hb1
  go_wp2_with fail
  refine (awake_calls w1 (Glob_below HG.out HB1.out HG.out.lt)).mono ?_
  rintro e w2 ⟨rfl, hb2⟩
  have HB2 := Aside0.mk (below_step HB1.out hb2)
  clear hb2
  go_wp2_with fail
  refine (awake_calls w2 (Glob_below HG.out HB2.out HG.out.lt)).mono ?_
  rintro e w3 ⟨rfl, hb3⟩
  have HB3 := Aside0.mk (below_step HB2.out hb3)
  clear hb3
  go_wp2
  go_ret
  exact ⟨rfl, HB3.out⟩

set_option maxHeartbeats 1600000 in
set_option maxRecDepth 100000 in
theorem blanks_out (s : ByteArray) (nn : Int) (w : World) (hG : Glob w) (l : List Tok) (hs : s.size ≤ 1024) (hl : lexF s (s.size + 1) 0 = .ok l) (hc : nn < 0 ∨ (3 : Int) < nn) :
    Calls Tryd.prog 4 #[.string s, .int .i64 nn] w fun e w' => e = .returned (.bool true) ∧ Below w.heap.size w w' := by
  have HG := Aside0.mk hG
  have HW := Aside0.mk (words_calls s w hs hG _ hl.symm)
  clear hG hl
  have hcc : decide (nn < 0) = true ∨ (decide (nn < 0) = false ∧ decide ((3 : Int) < nn) = true) := by
    by_cases h : nn < 0
    · exact .inl (decide_eq_true h)
    · exact .inr ⟨decide_eq_false h, decide_eq_true (hc.resolve_left h)⟩
  clear hc
  rcases hcc with d1 | ⟨d1, d2⟩
  all_goals
    go_enter Tryd.func4, Tryd.ntmps4
    go_wp2_with fail
    refine HW.out.mono ?_
    rintro e w1 ⟨hb1, v, rfl, hown⟩
    have HB1 := Aside0.mk hb1
    clear hb1 hown HW
    go_wp2_with fail
    refine (awake_calls w1 (Glob_below HG.out HB1.out HG.out.lt)).mono ?_
    rintro e w2 ⟨rfl, hb2⟩
    have HB2 := Aside0.mk (below_step HB1.out hb2)
    clear hb2
    go_wp2_with fail
    refine (awake_calls w2 (Glob_below HG.out HB2.out HG.out.lt)).mono ?_
    rintro e w3 ⟨rfl, hb3⟩
    have HB3 := Aside0.mk (below_step HB2.out hb3)
    clear hb3
    go_wp2
    go_ret
    exact ⟨rfl, HB3.out⟩

theorem blanksN_str (n : Nat) : ((⟨#[9, 32, 10, 32]⟩ : ByteArray).extract 0 (n + 1)).data.toList = blanksN n := by
  rw [ext_list]; rfl
theorem dbl_length : ∀ l : List UInt8, (dbl l).length ≤ 2 * l.length
  | [] => by simp [dbl]
  | c :: l => by
    have := dbl_length l
    rw [dbl]
    split <;> simp <;> omega
theorem seg_length (n : Nat) (t : Tok) (h : t.text.size ≤ 1024) : (seg n t).length ≤ 2060 := by
  have h1 : (blanksN n).length ≤ 4 := by unfold blanksN; rw [List.length_take]; simp; omega
  have h2 : (shown t).length ≤ 2050 := by
    unfold shown
    have := dbl_length t.text.data.toList
    have h3 : t.text.data.toList.length = t.text.size := by rw [Array.length_toList]; rfl
    split
    · simp; omega
    · omega
  unfold seg
  simp
  omega
theorem segs_length (n : Nat) : ∀ l : List Tok, (∀ t ∈ l, t.text.size ≤ 1024) → (segs n l).length ≤ l.length * 2060
  | [], _ => by simp [segs]
  | t :: l, h => by
    have h1 := segs_length n l fun y hy => h y (List.mem_cons_of_mem _ hy)
    have h2 := seg_length n t (h t (List.mem_cons_self ..))
    simp only [segs, List.flatMap_cons, List.length_append, List.length_cons] at h1 ⊢
    omega
theorem segs_snoc (n : Nat) (l : List Tok) (k : Nat) (h : k < l.length) : segs n (l.take (k + 1)) = segs n (l.take k) ++ seg n l[k] := by
  rw [List.take_succ_eq_append_getElem h]
  unfold segs
  rw [List.flatMap_append]
  simp
theorem text_size {s : ByteArray} {l : List Tok} {t : Tok} (hs : s.size ≤ 1024) (hl : lexF s (s.size + 1) 0 = .ok l) (ht : t ∈ l) : t.text.size ≤ 1024 ∧ (t.kind = 3 → t.text.size ≤ 64) := by
  obtain ⟨k, hk, rfl⟩ := List.mem_iff_getElem.mp ht
  have hp := (places_at (lexF_places s _ 0 l (Nat.zero_le _) (by omega) hl)).2 k hk
  obtain ⟨l', hl', hw⟩ := lexF_wf s _ 0 l (Nat.zero_le _) (by omega) hl
  have h3 : (l[k]).kind = 3 → (l[k]).text.size ≤ 64 := by
    intro h3
    have hm : l[k] ∈ l' ++ [fin s.size] := hl' ▸ ht
    rcases List.mem_append.mp hm with h | h
    · have := hw _ h
      generalize l[k] = t at *
      cases this with
      | text hx => exact hx
      | name _ _ _ _ => cases h3
      | num _ _ _ _ _ _ => cases h3
      | sign _ _ _ _ _ => cases h3
    · rw [List.mem_singleton.mp h] at h3
      cases h3
  refine ⟨?_, h3⟩
  by_cases e : (l[k]).kind = 3
  · have := h3 e; omega
  · have := congrArg ByteArray.size (hp.2.2.2.1 e)
    rw [ByteArray.size_extract] at this
    omega
theorem key_at {l m : List Tok} (h : m.map key = l.map key) : m.length = l.length ∧ ∀ i (h1 : i < l.length) (h2 : i < m.length), (m[i]).kind = (l[i]).kind ∧ (m[i]).text = (l[i]).text ∧ (m[i]).n = (l[i]).n := by
  have hlen : m.length = l.length := by simpa using congrArg List.length h
  refine ⟨hlen, fun i h1 h2 => ?_⟩
  have := congrArg (·[i]?) h
  simp only [List.getElem?_map, List.getElem?_eq_getElem h1, List.getElem?_eq_getElem h2, Option.map_some, key, Option.some.injEq, Prod.mk.injEq] at this
  exact this

theorem app_list (a b : ByteArray) : (a ++ b).data.toList = a.data.toList ++ b.data.toList := by simp [ByteArray.data_append]
theorem own_word2 {w : World} {B g cap n : Nat} {e : TypeId} {l : List Tok} (hn : n = l.length) (h : w.ownsRow B e 4 (.slice (some ⟨g, 0, none⟩) n cap) n (cellsOf l)) (k : Nat) (hk : k < l.length) :
    w.cell? ⟨g, k * 4, none⟩ = some (.int .i64 (l[k]).kind) ∧ w.cell? ⟨g, k * 4 + 1, none⟩ = some (.int .i64 (l[k]).at') ∧ w.cell? ⟨g, k * 4 + 2, none⟩ = some (.string (l[k]).text) ∧ w.cell? ⟨g, k * 4 + 3, none⟩ = some (.int .i64 (l[k]).n) := by
  subst hn
  exact own_word h k hk
theorem print_some (x : ByteArray) (hx : x.size ≤ 64) : ∃ X : ByteArray, X.data.toList = 39 :: (dbl x.data.toList ++ [39]) ∧ X.size ≤ 130 ∧ ∀ w : World,
    Calls Tryd.prog 8 #[.agg #[.int .i64 2, .int .i64 0, .string x]] w fun e w' => e = .returned (.tuple #[.string X, .int .i64 0]) ∧ Below w.heap.size w w' := by
  refine ⟨⟨(39 :: (dbl x.data.toList ++ [39])).toArray⟩, by simp, ?_, print_text x hx⟩
  have := dbl_length x.data.toList
  have h3 : x.data.toList.length = x.size := by rw [Array.length_toList]; rfl
  show (39 :: (dbl x.data.toList ++ [39])).toArray.size ≤ 130
  simp
  omega

set_option maxHeartbeats 6400000 in
set_option maxRecDepth 100000 in
theorem blanks_some (s : ByteArray) (n : Nat) (me : Int) (hme : me = n) (hn : n ≤ 3) (w : World) (hG : Glob w) (l : List Tok) (hs : s.size ≤ 1024) (hl : lexF s (s.size + 1) 0 = .ok l) (hlen : l.length ≤ 1025)
    (hts : ∀ t ∈ l, t.text.size ≤ 1024 ∧ (t.kind = 3 → t.text.size ≤ 64))
    (hm : ∀ T : ByteArray, T.data.toList = segs n l → ∃ m, lexF T (T.size + 1) 0 = .ok m ∧ m.map key = l.map key) :
    Calls Tryd.prog 4 #[.string s, .int .i64 me] w fun e w' => e = .returned (.bool true) ∧ Below w.heap.size w w' := by
  subst hme
  obtain ⟨hpos, _⟩ := places_at (lexF_places s _ 0 l (Nat.zero_le _) (by omega) hl)
  have HG := Aside0.mk hG
  have HW := Aside0.mk (words_calls s w hs hG _ hl.symm)
  have HT := Aside0.mk hts
  have HM := Aside0.mk hm
  clear hG hl hts hm
  have d1 : decide ((n : Int) < 0) = false := decide_eq_false (by omega)
  have d2 : decide ((3 : Int) < (n : Int)) = false := decide_eq_false (by omega)
  go_enter Tryd.func4, Tryd.ntmps4
  go_wp2_with fail
  refine HW.out.mono ?_
  rintro e w1 ⟨hb1, v, rfl, hown⟩
  rcases hown.2 with ⟨_, h0⟩ | ⟨g, cap, cur, rfl, hg, _⟩
  · omega
  have HB1 := Aside0.mk hb1
  have HO := Aside0.mk hown
  clear hb1 hown HW hg
  go_wp2_with fail
  refine (awake_calls w1 (Glob_below HG.out HB1.out HG.out.lt)).mono ?_
  rintro e w2 ⟨rfl, hb2⟩
  have HB2 := Aside0.mk (below_step HB1.out hb2)
  have HO2 := Aside0.mk (HO.out.kept (only_of_below hb2 none) (.inr (by simp [Value.ownBlock])))
  clear hb2 HO HB1
  go_wp2
  go_loopw [8, 40] (fun t i wr => ∃ (k : Nat) (tk : ByteArray), i = .int .i64 k ∧ t = .string tk ∧ k ≤ l.length ∧ tk.data.toList = segs n (l.take k) ∧ Below w.heap.size w wr ∧ wr.ownsRow w.heap.size 28 4 (.slice (some ⟨g, 0, none⟩) l.length cap) l.length (cellsOf l))
    (fun _ i _ => l.length - (intOf i).toNat)
  case atStart => exact ⟨0, _, rfl, rfl, Nat.zero_le _, rfl, HB2.out, HO2.out⟩
  case round =>
    obtain ⟨k, tk, rfl, rfl, hk, htk, hbr, hor⟩ := hrel
    have HBr := Aside0.mk hbr
    have HOr := Aside0.mk hor
    have HTk := Aside0.mk htk
    have hz : tk.size ≤ 2111500 := by
      have h1 := segs_length n (l.take k) fun t ht => (HT.out t (List.mem_of_mem_take ht)).1
      rw [← htk, Array.length_toList, List.length_take] at h1
      have : tk.data.size = tk.size := rfl
      have : min k l.length * 2060 ≤ 1025 * 2060 := Nat.mul_le_mul_right _ (by omega)
      omega
    clear hbr hor htk HB2 HO2
    by_cases hlt : k < l.length
    · obtain ⟨c0, c1, c2, c3⟩ := own_word HOr.out k hlt
      have hsn := Aside0.mk (segs_snoc n l k hlt)
      have hT := HT.out l[k] (List.getElem_mem hlt)
      have hbl := Aside0.mk (blanksN_str n)
      have hw1 : IntKind.i64.wrap ((n : Int) + 1) = (n : Int) + 1 := by rw [IntKind.wrap_i64]; omega
      have i1 : (n : Int) + 1 ≤ 4 := by omega
      unfold seg shown at hsn
      generalize (l[k]).kind = kd at *
      generalize (l[k]).at' = at' at *
      generalize (l[k]).text = tx at *
      generalize (l[k]).n = nn at *
      have hx := hT.1
      by_cases h3 : kd = 3
      · subst h3
        have h64 := hT.2 rfl
        clear hT
        obtain ⟨X, hX, hXs, hP⟩ := print_some tx h64
        rw [if_pos rfl, ← hX] at hsn
        have HP := Aside0.mk hP
        clear hX hP
        go_wp2_with fail
        refine (HP.out _).mono ?_
        rintro e w4 ⟨rfl, hb4⟩
        have HB4 := Aside0.mk hb4
        clear hb4 c0 c1 c2 c3
        go_wp2
        go_roundw
        case rel => exact ⟨k + 1, _, by go_num, rfl, by omega, by rw [hsn.out, app_list, app_list, app_list, hbl.out, HTk.out]; simp, below_step (HBr.out.alloc HBr.out.size _) HB4.out, (HOr.out.alloc _).kept (only_of_below HB4.out none) (.inr (by simp [Value.ownBlock]))⟩
        case measure => simp [intOf]; omega
      · have g3 : (kd == 3) = false := by simpa using h3
        clear hT
        rw [if_neg h3] at hsn
        go_wp2
        go_roundw
        case rel => exact ⟨k + 1, _, by go_num, rfl, by omega, by rw [hsn.out, app_list, app_list, app_list, hbl.out, HTk.out]; simp, HBr.out.alloc HBr.out.size _, HOr.out.alloc _⟩
        case measure => simp [intOf]; omega
    · obtain rfl : k = l.length := by omega
      rw [List.take_length] at HTk
      obtain ⟨m, hm1, hm2⟩ := HM.out tk HTk.out
      obtain ⟨hml, hkey⟩ := key_at hm2
      have HL := Aside0.mk hml
      have HK := Aside0.mk hkey
      have HX := Aside0.mk hm1
      have HSz := Aside0.mk HBr.out.size
      clear hml hkey hm1 hm2 HM HTk
      by_cases hbig : 1024 < tk.size
      · have hd : decide ((1024 : Int) < (tk.size : Int)) = true := decide_eq_true (by omega)
        go_wp2
        go_ret
        exact ⟨rfl, HBr.out⟩
      · have hd : decide ((1024 : Int) < (tk.size : Int)) = false := decide_eq_false (by omega)
        go_wp2_with fail
        refine (words_calls tk wr (by omega) (Glob_below HG.out HBr.out HG.out.lt) _ HX.out.symm).mono ?_
        rintro e w3 ⟨hb3, v3, rfl, hown3⟩
        rw [HL.out] at hown3
        rcases hown3.2 with ⟨_, h0⟩ | ⟨g3, cap3, cur3, rfl, hg3, _⟩
        · omega
        have HB3 := Aside0.mk (below_step HBr.out hb3)
        have HO3 := Aside0.mk (HOr.out.kept (only_of_below hb3 none) (.inr (by simp [Value.ownBlock])))
        have HM3 := Aside0.mk (own_mono hown3 HSz.out)
        clear hb3 HBr HOr hown3 hg3 HX hz
        go_wp2
        go_loopw [90] (fun i wr => ∃ k : Nat, i = .int .i64 k ∧ k ≤ l.length ∧ Below w.heap.size w wr ∧ wr.ownsRow w.heap.size 28 4 (.slice (some ⟨g, 0, none⟩) l.length cap) l.length (cellsOf l) ∧ wr.ownsRow w.heap.size 28 4 (.slice (some ⟨g3, 0, none⟩) l.length cap3) l.length (cellsOf m))
          (fun i _ => l.length - (intOf i).toNat)
        case atStart => exact ⟨0, rfl, Nat.zero_le _, HB3.out, HO3.out, HM3.out⟩
        case round =>
          obtain ⟨k, rfl, hk, hbr, hor, hmr⟩ := hrel
          have HBr := Aside0.mk hbr
          have HOr := Aside0.mk hor
          have HMr := Aside0.mk hmr
          clear hbr hor hmr HB3 HO3 HM3
          by_cases hlt : k < l.length
          · have hkm : k < m.length := by have := HL.out; omega
            obtain ⟨e1, e2, e3⟩ := HK.out k hlt hkm
            obtain ⟨c0, c1, c2, c3⟩ := own_word HOr.out k hlt
            obtain ⟨m0, m1, m2, m3⟩ := own_word2 HL.out.symm HMr.out k hkm
            rw [e1] at m0
            rw [e2] at m2
            rw [e3] at m3
            clear e1 e2 e3 m1 c1
            have i1 : (k : Int) < (l.length : Int) := by omega
            generalize (l[k]).kind = kd at *
            generalize (l[k]).text = tx at *
            generalize (l[k]).n = nn at *
            go_wp2
            go_quiet (fail)
            go_wp2
            go_roundw
            case rel => exact ⟨k + 1, by go_num, by omega, bel_drewN HBr.out _, own_drewN HOr.out _, own_drewN HMr.out _⟩
            case measure => simp [intOf]; omega
          · go_wp2
            go_ret
            exact ⟨rfl, HBr.out⟩

/-- lintellaw17.LexBlanks answers true at every input. -/
theorem blanks_calls (s : ByteArray) (nn : Int) (w : World) (hG : Glob w) :
    Calls Tryd.prog 4 #[.string s, .int .i64 nn] w fun e w' => e = .returned (.bool true) ∧ Below w.heap.size w w' := by
  by_cases hs : s.size ≤ 1024
  · cases hl : lexF s (s.size + 1) 0 with
    | err a x =>
      have hx : x ≠ 0 := fun e => lexF_err_ne s _ 0 a x (by omega) (by omega) hl e
      exact blanks_none s nn w hG a x hx ((words_calls s w hs hG _ hl.symm).mono fun e w' ⟨hb, he, _⟩ => ⟨he, hb⟩)
    | ok l =>
      by_cases hc : nn < 0 ∨ (3 : Int) < nn
      · exact blanks_out s nn w hG l hs hl hc
      · obtain ⟨n, rfl⟩ : ∃ n : Nat, nn = n := ⟨nn.toNat, by omega⟩
        have hlen := lexF_length s _ 0 l (Nat.zero_le _) (by omega) hl
        obtain ⟨l', hl', hw⟩ := lexF_wf s _ 0 l (Nat.zero_le _) (by omega) hl
        refine blanks_some s n _ rfl (by omega) w hG l hs hl (by omega) (fun t ht => text_size hs hl ht) fun T hT => ?_
        obtain ⟨m, h1, h2⟩ := lexF_segs T n s.size l' (T.size + 1) 0 [] hw (by rw [List.drop_zero, hT, hl']; rfl) (fun y hy => by cases hy) (Nat.zero_le _) (by omega)
        exact ⟨m, h1, by rw [h2, hl']⟩
  · exact blanks_none s nn w hG 0 30 (by decide) ((words_big s w (by omega)).mono fun e w' ⟨he, hw⟩ => ⟨he, hw ▸ Below.refl _ _⟩)
end Go.Proofs.YtonlknpghifodaaDoor.P
