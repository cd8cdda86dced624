/- The words of a text (parcloseref03.Words): what lex.Words says. Condition: the text is at most 2^47 bytes. -/
import Derived.Test.YtbgpniepgbmkaaaDoorR3f
namespace Go.Proofs.YtbgpniepgbmkaaaDoor
open Go.RowKit BigFrame

theorem tok_ge (s : ByteArray) : ∀ (f pos : Nat) (st : LS), st.L.length ≤ (tokRun s f pos st).length
  | 0, pos, st => by rw [tokRun, endL_len]; omega
  | f + 1, pos, st => by
    rw [tokRun]
    split
    · split
      · refine Nat.le_trans ?_ (tok_ge s f _ _)
        simp only
        rw [endL_len]
        omega
      · refine Nat.le_trans ?_ (tok_ge s f _ _)
        simp only [nxL]
        split
        · rw [endL_len]; omega
        · exact Nat.le_refl _
    · rw [endL_len]; omega
theorem bad_pos (s : ByteArray) : ∀ (f pos : Nat) (ln co : Int), 1 ≤ ln → (badRun s f pos ln co).1 = 0 ∨ 1 ≤ (badRun s f pos ln co).1
  | 0, _, _, _, _ => .inl rfl
  | f + 1, pos, ln, co, h => by
    rw [badRun]
    split
    · split
      · exact .inr h
      · split
        · exact bad_pos s f _ _ _ (by omega)
        · exact bad_pos s f _ _ _ h
    · exact .inl rfl
theorem lexM_long {s : ByteArray} (h : 4096 < s.size) : lexM s = ([], 13, 0, 0) := by
  unfold lexM
  rw [if_pos h]
theorem lexM_bad {s : ByteArray} (h : ¬ 4096 < s.size) (hb : (badM s).1 ≠ 0) : lexM s = ([], 2, (badM s).1, (badM s).2) := by
  unfold lexM
  rw [if_neg h, lex_two s _ _ _ (by simp)]
  simp only
  unfold badM at hb ⊢
  rw [if_neg hb]
theorem lexM_good {s : ByteArray} (h : ¬ 4096 < s.size) (hb : (badM s).1 = 0) : lexM s = (tokRun s s.size 0 ⟨[], 1, 0, -1, 0, false⟩, 0, 0, 0) ∧ goodRun s s.size 0 := by
  refine ⟨?_, good_of s _ _ 1 0 (by omega) hb⟩
  unfold lexM
  rw [if_neg h, lex_two s _ _ _ (by simp)]
  simp only
  unfold badM at hb
  rw [if_pos hb]
set_option maxRecDepth 100000 in
set_option maxHeartbeats 16000000 in
theorem rwords_calls (s : ByteArray) (hs : s.size ≤ 140737488351232) (w : World) :
    Calls Tryd.prog 25 #[.string s] w fun e w' => ∃ v, e = .returned (.tuple #[v, .int .i64 (lexM s).2.1, .int .i64 (lexM s).2.2.1, .int .i64 (lexM s).2.2.2]) ∧ w'.ownsRow w.heap.size 63 3 v (lexM s).1.length ((lexM s).1.flatMap wdCells) ∧ Below w.heap.size w w' := by
  obtain ⟨i0, hi, hz0, hz1, hz2⟩ := info_parts Tryd.info_word
  have HI0 := Lib.hid hi
  have sz : (0 : Int) ≤ (s.size : Int) := Int.natCast_nonneg _
  have hown0 : (w.alloc (.cells #[] 63)).ownsRow w.heap.size 63 3 (.slice (some ⟨w.heap.size, 0, none⟩) 0 0) 0 [] := World.ownsRow_made w #[] 0 (Nat.le_refl _) (by unfold maxLen; omega) (by simp)
  have HO0 := Lib.hid hown0
  have HB0 := Lib.hid (plus_one1 w (.cells #[] 63))
  have HBC := Lib.hid (fun u : World => rbad_calls s hs u)
  clear hi hown0
  go_enter Tryd.func25, Tryd.ntmps25
  by_cases h4 : 4096 < s.size
  · have HV := Lib.hid (lexM_long h4)
    have h4i : (4096 : Int) < (s.size : Int) := by omega
    clear h4
    go_wp2_with fail
    refine bodyPost_ret (results_tmp4 rfl _ _ _) rfl ?_
    rw [HV.out]
    exact ⟨_, rfl, HO0.out, HB0.out⟩
  have h4i : ¬ (4096 : Int) < (s.size : Int) := by omega
  have s9 : (s.size : Int) ≤ 4096 := by omega
  go_wp2_with fail
  refine (HBC.out _).mono ?_
  rintro _ _ ⟨rfl, rfl⟩
  have hbp := bad_pos s s.size 0 1 0 (by omega)
  by_cases hb : (badM s).1 = 0
  rotate_left
  · have HV := Lib.hid (lexM_bad h4 hb)
    have hb1 : (0 : Int) < (badM s).1 := by unfold badM at hb ⊢; omega
    obtain ⟨⟨m1, m2⟩, hm⟩ : ∃ m, m = badM s := ⟨_, rfl⟩
    rw [← hm] at HV hb1 ⊢
    simp only at HV hb1 ⊢
    clear h4 h4i hb hbp hm
    go_wp2_with fail
    refine bodyPost_ret (results_tmp4 rfl _ _ _) rfl ?_
    rw [HV.out]
    exact ⟨_, rfl, HO0.out, HB0.out⟩
  obtain ⟨hlm, hgood⟩ := lexM_good h4 hb
  have HV := Lib.hid hlm
  have HG := Lib.hid hgood
  have hb1 : ¬ (0 : Int) < (badM s).1 := by omega
  obtain ⟨⟨m1, m2⟩, hm⟩ : ∃ m, m = badM s := ⟨_, rfl⟩
  rw [← hm] at hb1 ⊢
  simp only at hb1 ⊢
  have HRL := Lib.hid (show (tokRun s s.size 0 ⟨[], 1, 0, -1, 0, false⟩).length ≤ 4097 by have := lexM_len s; rw [hlm] at this; exact this)
  obtain ⟨R, hR⟩ : ∃ R, R = tokRun s s.size 0 ⟨[], 1, 0, -1, 0, false⟩ := ⟨_, rfl⟩
  rw [← hR] at HV HRL
  have HR := Lib.hid hR.symm
  have hsn : s.size ≤ 4096 := by omega
  clear h4 h4i hb hbp hm hlm hgood hR
  go_wp2_with fail
  go_loopw [6, 9, 10, 11] (fun u6 u9 u10 u11 wr => ∃ (a i : Nat) (L : List Wd) (ln : Int), u9 = .int .i64 ln ∧ u10 = .int .i64 a ∧ u11 = .int .i64 i ∧ 1 ≤ ln ∧ ln ≤ i + 1 ∧ L.length ≤ R.length ∧ ((i = s.size + 1 ∧ a ≤ s.size + 1 ∧ L = R) ∨ (i ≤ s.size ∧ a ≤ i ∧ (∀ p, a ≤ p → p < i → bAt s p ≠ 10) ∧ ∃ F ca, s.size - a ≤ F ∧ goodRun s F a ∧ tokRun s F a ⟨L, ln, 0, -1, ca, false⟩ = R)) ∧ wr.ownsRow w.heap.size 63 3 u6 L.length (L.flatMap wdCells) ∧ Below w.heap.size w wr) (fun _ _ _ x _ => s.size + 1 - (intOf x).toNat)
  case atStart => exact ⟨0, 0, [], 1, rfl, rfl, rfl, by omega, by omega, Nat.zero_le _, .inr ⟨Nat.zero_le _, Nat.le_refl _, fun p h1 h2 => by omega, s.size, 0, by omega, HG.out, HR.out⟩, HO0.out, HB0.out⟩
  case round =>
    clear HG HR HO0 HB0
    obtain ⟨a, i, L, ln, rfl, rfl, rfl, l1, l2, hLR, hst, hown, hbel⟩ := hrel
    have HO := Lib.hid hown
    have HB := Lib.hid hbel
    have hrl := HRL.out
    have hiz : (0 : Int) ≤ (i : Int) := Int.natCast_nonneg _
    have haz : (0 : Int) ≤ (a : Int) := Int.natCast_nonneg _
    have hws := hbel.size
    clear hown hbel
    rcases hst with ⟨hi1, ha1, hLE⟩ | ⟨hi1, hai, hno, F, ca, hF, hgr, htr⟩
    · have hc' : ¬ (i : Int) ≤ (s.size : Int) := by omega
      have HLE := Lib.hid hLE
      clear hi1 ha1 hLE
      go_wp2_with fail
      refine bodyPost_ret (results_tmp4 rfl _ _ _) rfl ?_
      rw [HV.out]
      exact ⟨_, rfl, by rw [← HLE.out]; exact HO.out, HB.out⟩
    · have hc' : (i : Int) ≤ (s.size : Int) := by omega
      have hai' : (a : Int) ≤ (i : Int) := by omega
      by_cases hend : i = s.size ∨ bAt s i = 10
      · obtain ⟨g1, e1, e2⟩ := line_tok (L := L) (ln := ln) (ca := ca) hai hi1 hno hend hF hgr
        rw [htr] at e1 e2
        have HE1 := Lib.hid e1
        have HE2 := Lib.hid e2
        have hle2 : (L ++ oneM (s.extract a i) ln).length ≤ R.length := by
          by_cases c : i = s.size
          · rw [e1 c]; exact Nat.le_refl _
          · obtain ⟨F2, ca2, _, _, h3⟩ := e2 (by omega)
            rw [h3]
            exact tok_ge s F2 (i + 1) ⟨L ++ oneM (s.extract a i) ln, ln + 1, 0, -1, ca2, false⟩
        have HON := Lib.hid (fun u : World => rone_calls (s.extract a i) ln (by have := extract_size s a i; omega) g1 u)
        have HL2 := Lib.hid hle2
        rw [List.length_append] at hle2
        clear g1 e1 e2 hno hgr htr hF
        generalize oneM (s.extract a i) ln = ws at HON HE1 HE2 HL2 hle2
        have rest : ∀ (hstep : True), True := fun h => h
        by_cases hie : i = s.size
        · subst hie
          clear hend HE2 rest
          go_wp2_with fail
          refine (HON.out _).mono ?_
          rintro _ w5 ⟨v5, rfl, own5, hb5⟩
          have hown5 : w5.ownsRow w.heap.size 63 3 u6 L.length (L.flatMap wdCells) := owns_same HO.out (fun k hk => hb5.block k (HO.out.lt k hk).2)
          have hsh : v5 = .slice none 0 0 ∨ ∃ bl o n c, v5 = .slice (some ⟨bl, o, none⟩) n c := by
            rcases own5.2 with ⟨h, _⟩ | ⟨g, cap, _, h, _⟩
            · exact .inl h
            · exact .inr ⟨g, 0, _, cap, h⟩
          have HB5 := Lib.hid (HB.out.trans (hb5.mono hws))
          have hs5 := HB5.out.size
          have HRE := Lib.hid (Reads.of_owns own5)
          clear own5 hb5
          go_wp2_with (at_builtin; go_loud (refine wpList_append_from rfl (.tmp 43) (.tmp 49) 58 rfl w.heap.size 63 i0 (.agg #[.string ByteArray.empty, .int .i64 0, .int .i64 0]) 3 32 Tryd.underlying58 HI0.out hz0 hz1 hz2 rfl (by decide) u6 _ _ rfl hown5 v5 ws.length (ws.flatMap wdCells) rfl HRE.out hsh ?c2 ?c3 ?c4 ?c5 ?_))
          case c2 => intro x hx; obtain ⟨d, _, hd⟩ := List.mem_flatMap.1 hx; exact wdCells_one d x hd
          case c3 => unfold maxLen; omega
          case c4 => omega
          case c5 => omega
          intro v4 w4 own4 gr4 at4
          have HO4 := Lib.hid (show w4.ownsRow w.heap.size 63 3 v4 (L ++ ws).length ((L ++ ws).flatMap wdCells) by rw [List.length_append, List.flatMap_append]; exact own4)
          have HB4 := Lib.hid (show Below w.heap.size w w4 from HB5.out.grown gr4 hs5 (fun k hk => (hown5.lt k hk).1))
          clear own4 gr4 at4 hown5
          go_wp2_with fail
          go_roundw
          case rel => exact ⟨s.size + 1, s.size + 1, L ++ ws, ln + 1, by go_num, by go_num, by go_num, by omega, by omega, HL2.out, .inl ⟨rfl, Nat.le_refl _, (HE1.out (by first | rfl | trivial)).symm⟩, HO4.out, HB4.out⟩
          case measure => simp [intOf] <;> omega
        · have hil : i < s.size := by omega
          have hil' : (i : Int) < (s.size : Int) := by omega
          have hine : ((i : Int) == (s.size : Int)) = false := by rw [beq_eq_false_iff_ne]; omega
          have hb10 : bAt s i = 10 := by rcases hend with h | h <;> first | exact absurd h hie | exact h
          have hb0 : ((s[i]'hil).toNat : Int) = 10 := by rw [← bAt_eq s i hil, hb10]; rfl
          clear hend HE1 rest hie hb10
          go_wp2_with fail
          refine (HON.out _).mono ?_
          rintro _ w5 ⟨v5, rfl, own5, hb5⟩
          have hown5 : w5.ownsRow w.heap.size 63 3 u6 L.length (L.flatMap wdCells) := owns_same HO.out (fun k hk => hb5.block k (HO.out.lt k hk).2)
          have hsh : v5 = .slice none 0 0 ∨ ∃ bl o n c, v5 = .slice (some ⟨bl, o, none⟩) n c := by
            rcases own5.2 with ⟨h, _⟩ | ⟨g, cap, _, h, _⟩
            · exact .inl h
            · exact .inr ⟨g, 0, _, cap, h⟩
          have HB5 := Lib.hid (HB.out.trans (hb5.mono hws))
          have hs5 := HB5.out.size
          have HRE := Lib.hid (Reads.of_owns own5)
          clear own5 hb5
          go_wp2_with (at_builtin; go_loud (refine wpList_append_from rfl (.tmp 43) (.tmp 49) 58 rfl w.heap.size 63 i0 (.agg #[.string ByteArray.empty, .int .i64 0, .int .i64 0]) 3 32 Tryd.underlying58 HI0.out hz0 hz1 hz2 rfl (by decide) u6 _ _ rfl hown5 v5 ws.length (ws.flatMap wdCells) rfl HRE.out hsh ?c2 ?c3 ?c4 ?c5 ?_))
          case c2 => intro x hx; obtain ⟨d, _, hd⟩ := List.mem_flatMap.1 hx; exact wdCells_one d x hd
          case c3 => unfold maxLen; omega
          case c4 => omega
          case c5 => omega
          intro v4 w4 own4 gr4 at4
          have HO4 := Lib.hid (show w4.ownsRow w.heap.size 63 3 v4 (L ++ ws).length ((L ++ ws).flatMap wdCells) by rw [List.length_append, List.flatMap_append]; exact own4)
          have HB4 := Lib.hid (show Below w.heap.size w w4 from HB5.out.grown gr4 hs5 (fun k hk => (hown5.lt k hk).1))
          clear own4 gr4 at4 hown5
          go_wp2_with fail
          go_roundw
          case rel =>
            obtain ⟨F2, ca2, h1, h2, h3⟩ := HE2.out hil
            exact ⟨i + 1, i + 1, L ++ ws, ln + 1, by go_num, by go_num, by go_num, by omega, by omega, HL2.out, .inr ⟨by omega, Nat.le_refl _, fun p h4 h5 => by omega, F2, ca2, h1, h2, h3.symm⟩, HO4.out, HB4.out⟩
          case measure => simp [intOf] <;> omega
      · have hil : i < s.size := by omega
        have hil' : (i : Int) < (s.size : Int) := by omega
        have hine : ((i : Int) == (s.size : Int)) = false := by rw [beq_eq_false_iff_ne]; omega
        obtain ⟨c, hcx⟩ : ∃ c : Int, c = (bAt s i : Int) := ⟨_, rfl⟩
        have hb0 : ((s[i]'hil).toNat : Int) = c := by rw [hcx, bAt_eq s i hil]
        have hcn : (c == 10) = false := by simpa using (by omega : c ≠ 10)
        have hb10 : bAt s i ≠ 10 := fun e => hend (.inr e)
        have HNO := Lib.hid (show ∀ p, a ≤ p → p < i + 1 → bAt s p ≠ 10 from fun p h1 h2 => by
          by_cases e : p = i
          · rw [e]; exact hb10
          · exact hno p h1 (by omega))
        have HX := Lib.hid (show ∃ F ca, s.size - a ≤ F ∧ goodRun s F a ∧ tokRun s F a ⟨L, ln, 0, -1, ca, false⟩ = R from ⟨F, ca, hF, hgr, htr⟩)
        clear hend hno hF hgr htr hcx hb10
        go_wp2_with fail
        go_roundw
        case rel => exact ⟨a, i + 1, L, ln, rfl, rfl, by go_num, by omega, by omega, hLR, .inr ⟨by omega, by omega, HNO.out, HX.out⟩, HO.out, HB.out⟩
        case measure => simp [intOf] <;> omega
end Go.Proofs.YtbgpniepgbmkaaaDoor
