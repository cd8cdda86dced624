/- What the document's one does with a line of one name. Conditions: the policy lies in rows of the call's own, the line can be read. -/
import Derived.Test.YtkjhgfjlknbdkaaDoorR4b
namespace Go.Proofs.YtkjhgfjlknbdkaaDoor
open Go.RowKit BigFrame Go.BigFrame

set_option maxRecDepth 100000 in
set_option maxHeartbeats 64000000 in
theorem rslot4_calls {B : Nat} {w : World} {vd vs vl vw : Value} {p : P3} {x0 x1 x2 : ByteArray} (h : PW B w vd vs vl p) (hBB : B ≤ w.heap.size) (hw : Reads w 1 vw 3 ([x0, x1, x2].map Value.string)) (hs : x2.size ≤ 140737488351232) (hk : (x0.toList = [115, 108, 111, 116]))
    (hv0 : findD p.D x1 < 0 → lineM p [x0, x1, x2] = (4, p)) (hvb : 0 ≤ findD p.D x1 → rnumM x2 < 0 → lineM p [x0, x1, x2] = (2, p)) (hvo : 0 ≤ findD p.D x1 → 0 ≤ rnumM x2 → lineM p [x0, x1, x2] = (0, ⟨p.D, p.S ++ [(findD p.D x1, rnumM x2)], p.K⟩)) (hS : p.S.length ≤ 5000) (hK : p.K.length ≤ 5000) :
    Calls Tryd.prog 32 #[.agg #[vd, vs, vl], vw] w fun e w' => ∃ vd' vs' vl', e = .returned (.tuple #[.agg #[vd', vs', vl'], .int .i64 (lineM p [x0, x1, x2]).1]) ∧ PW B w' vd' vs' vl' (lineM p [x0, x1, x2]).2 ∧ Below w.heap.size w w' := by
  obtain ⟨_, aw, cw, rfl, hw2, hw3, hw4⟩ := hw
  obtain ⟨bw, ow, rfl, hwc⟩ := hw4 (by omega)
  unfold maxLen at hw3
  have k0 : w.cell? ⟨bw, ow, none⟩ = some (.string x0) := hwc 0 _ rfl
  have k1 : w.cell? ⟨bw, ow + 1, none⟩ = some (.string x1) := hwc 1 _ rfl
  have k2 : w.cell? ⟨bw, ow + 2, none⟩ = some (.string x2) := hwc 2 _ rfl
  obtain ⟨ad, cd, rfl, d1, d2, _⟩ := owns_shape h.d
  obtain ⟨as', cs, rfl, s1, s2, _⟩ := owns_shape h.s
  obtain ⟨al, cl, rfl, l1, l2, _⟩ := owns_shape h.k
  unfold maxLen at d2
  have HP := Lib.hid h
  have HBB0 := Lib.hid hBB
  have HW := Lib.hid (block_lt_of_cell k0)
  have K0 := Lib.hid k0
  obtain ⟨a, ha⟩ : ∃ a, a = findD p.D x1 := ⟨_, rfl⟩
  obtain ⟨num, hnum⟩ : ∃ num, num = rnumM x2 := ⟨_, rfl⟩
  rw [← ha] at hv0 hvb hvo
  rw [← hnum] at hvb hvo
  have HFa := Lib.hid ha
  have HV0 := Lib.hid hv0
  have HVB := Lib.hid hvb
  have HVO := Lib.hid hvo
  have HNU := Lib.hid (fun u : World => show Calls Tryd.prog 57 #[.string x2] u fun e w' => e = .returned (.int .i64 num) ∧ w' = u from hnum ▸ rnumber_calls x2 hs u)
  clear hwc hw4 h d1 s1 s2 l1 l2 ha hnum hv0 hvb hvo hs hBB
  go_enter Tryd.func32, Tryd.ntmps32
  have hbx := one_boxes w (.slice ad p.D.length cd) (.slice as' p.S.length cs) (.slice al p.K.length cl)
  go_upto_region 1 with (fail)
  obtain ⟨pb, hpb⟩ : ∃ pb, pb = w.heap.size := ⟨_, rfl⟩
  obtain ⟨rb, hrb⟩ : ∃ rb, rb = w.heap.size + 1 := ⟨_, rfl⟩
  have HNR := Lib.hid (show rb ≠ pb by omega)
  rw [← hrb, ← hpb] at hbx ⊢
  obtain ⟨⟨hx1, hx2⟩, hbw⟩ := hbx
  have HX1 := Lib.hid hx1
  have HX2 := Lib.hid hx2
  have HB2 := Lib.hid (show Below w.heap.size w _ by rw [hpb] at hbw; exact hbw)
  have hPB2 : w.heap.size ≤ pb ∧ w.heap.size ≤ rb := by omega
  clear hbw hpb hrb hx1 hx2
  generalize (w.alloc (.cells #[.slice ad p.D.length cd, .slice as' p.S.length cs, .slice al p.K.length cl] 26)).alloc (.cells #[.slice none 0 0, .slice none 0 0, .slice none 0 0] 26) = w2 at HX1 HX2 HB2 ⊢
  have k0' : w2.cell? ⟨bw, ow, none⟩ = some (.string x0) := below_cell1 HB2.out HW.out k0
  clear k0
  go_upto_block 0 with (fail)
  go_cut [6, 7] (fun u u7 wx => u = .int .i64 3 ∧ u7 = .int .i64 1 ∧ wx = w2)
  case first => as_aux_lemma =>
    go_wp2_with fail
    go_meet
    exact ⟨rfl, rfl, rfl⟩
  case rest =>
  obtain ⟨rfl, rfl, rfl⟩ := hcut
  have HS3 := Lib.hid (S4.start HB2.out HX1.out HX2.out)
  go_upto_block 1 with (fail)
  obtain ⟨hb, hhb⟩ : ∃ hb, hb = wc.heap.size := ⟨_, rfl⟩
  have HPB := Lib.hid (show w.heap.size ≤ pb ∧ w.heap.size ≤ rb ∧ w.heap.size ≤ hb from ⟨hPB2.1, hPB2.2, by rw [hhb]; exact HB2.out.size⟩)
  rw [← hhb] at HS3 ⊢
  generalize wc.alloc (.cells #[.int .i64 0, .int .i64 0] 3) = w3 at HS3 ⊢
  clear hhb HX1 HX2 hPB2
  go_cut [9] (fun _ wx => S4 w pb rb hb (.slice ad p.D.length cd) (.slice as' p.S.length cs) (.slice al p.K.length cl) a 0 wx ∧ 0 ≤ a)
  case first => as_aux_lemma =>
    go_wp2_with fail
    go_loopw [9] (fun u9 wr => ∃ i : Nat, (u9 = .int .i64 0 ∧ i = 0 ∧ S4 w pb rb hb (.slice ad p.D.length cd) (.slice as' p.S.length cs) (.slice al p.K.length cl) 0 0 wr) ∨ (u9 = .int .i64 1 ∧ i = 1 ∧ 0 ≤ a ∧ S4 w pb rb hb (.slice ad p.D.length cd) (.slice as' p.S.length cs) (.slice al p.K.length cl) a 0 wr)) (fun u _ => 1 - (intOf u).toNat)
    case atStart => exact ⟨0, .inl ⟨rfl, rfl, HS3.out⟩⟩
    case round =>
      obtain ⟨i, hst⟩ := hrel
      clear HS3
      rcases hst with ⟨rfl, rfl, hs⟩ | ⟨rfl, rfl, hpos0, hs⟩
      · have HS := Lib.hid hs
        clear hs
        have f0 : ∀ t : BW wr, t.at_.cell? ⟨pb, 0, none⟩ = some (.slice ad p.D.length cd) := fun t => blk_cell (HS.out.below t.ok).x 0
        have f1 : ∀ t : BW wr, t.at_.cell? ⟨bw, ow + 1, none⟩ = some (.string x1) := fun t => below_cell1 (HS.out.below t.ok).bl HW.out k1
        have HFI := Lib.hid (fun t : BW wr => show Calls Tryd.prog 26 #[.slice ad p.D.length cd, .string x1] t.at_ fun e w' => e = .returned (.int .i64 a) ∧ t.at_ = w' from HFa.out ▸ rFind_calls (Reads.of_owns (HP.out.below (HS.out.below t.ok).bl).d) x1)
        go_wp2_with fail
        refine wp_region_W 12 99 (fun _ => True) (by kernel_rfl) (by kernel_rfl) trivial (fun _ => ?_)
        refine wpAnyW_phase (w0 := wr) (fuel := 1) 0 10 10 (by kernel_rfl) (by kernel_rfl) (by kernel_rfl) (by kernel_rfl) (by kernel_rfl) (by kernel_rfl) ((Below.refl _ _).drew) ?_
        simp only [List.drop_succ_cons, List.drop_zero, List.take_succ_cons, List.take_zero]
        repeat (go_big_quiet_step (first | (go_at_call 26; with_reducible refine Calls.bw_same _ (HFI.out _))))
        refine wpQuiet_nil ?_
        intro _ hw'
        obtain ⟨tq, rfl⟩ := hw'
        have HS7 := Lib.hid (HS.out.below tq.ok)
        obtain ⟨W7, hW7⟩ : ∃ W7, W7 = tq.at_ := ⟨_, rfl⟩
        rw [← hW7] at HS7 ⊢
        clear hW7 f0 f1 HFI
        have z7 : W7.frozen? ⟨hb, 0, none⟩ = false := blk_free HS7.out.c 0
        have y7 : W7.cell? ⟨hb, 0, none⟩ = some (.int .i64 0) := blk_cell HS7.out.c 0
        refine wpAnyW_one (i := 10) (by kernel_rfl) rfl (fun KK hKK => ?_)
        go_simp
        refine step_owe hKK trivial (fun _ => ?_)
        clear hKK KK
        refine wpAnyW_one (i := 11) (by kernel_rfl) rfl (fun KK hKK => ?_)
        go_simp
        refine step_owe hKK trivial (fun _ => ?_)
        clear hKK KK
        refine wpAnyW_done (by kernel_rfl) ?_
        have HS8 := Lib.hid (HS7.out.set0 HPB.out.2.2 a)
        clear z7 y7 HS7
        generalize W7.setCell ⟨hb, 0, none⟩ (.int .i64 a) = W8 at HS8 ⊢
        have y8 : W8.cell? ⟨hb, 0, none⟩ = some (.int .i64 a) := blk_cell HS8.out.c 0
        have e0 : W8.cell? ⟨pb, 0, none⟩ = some (.slice ad p.D.length cd) := blk_cell HS8.out.x 0
        have e1 : W8.cell? ⟨pb, 1, none⟩ = some (.slice as' p.S.length cs) := blk_cell HS8.out.x 1
        have e2 : W8.cell? ⟨pb, 2, none⟩ = some (.slice al p.K.length cl) := blk_cell HS8.out.x 2
        have r0 : W8.cell? ⟨rb, 0, none⟩ = some (.slice none 0 0) := blk_cell HS8.out.y 0
        have f0 : W8.frozen? ⟨rb, 0, none⟩ = false := blk_free HS8.out.y 0
        have r1 : W8.cell? ⟨rb, 1, none⟩ = some (.slice none 0 0) := blk_cell HS8.out.y 1
        have f1 : W8.frozen? ⟨rb, 1, none⟩ = false := blk_free HS8.out.y 1
        have r2 : W8.cell? ⟨rb, 2, none⟩ = some (.slice none 0 0) := blk_cell HS8.out.y 2
        have f2 : W8.frozen? ⟨rb, 2, none⟩ = false := blk_free HS8.out.y 2
        by_cases hneg : a < 0
        · have HV := Lib.hid (HV0.out hneg)
          go_wp2_with fail
          refine bodyPost_ret (pol_ret4 rfl _ _ rb _ _ _ rfl (HS8.out.y.put _ _ _)) rfl ?_
          rw [HV.out]
          exact ⟨_, _, _, rfl, (HP.out.below HS8.out.bl).put HS8.out.y _ _ _, below_put HS8.out.bl HPB.out.2.1 _ _ _⟩
        have hpos : 0 ≤ a := by omega
        clear e0 e1 e2 r0 r1 r2 f0 f1 f2
        go_wp2_with fail
        go_roundw
        case rel => exact ⟨1, .inr ⟨rfl, rfl, hpos, HS8.out⟩⟩
        case measure => simp [intOf] <;> omega
      · go_wp2_with fail
        go_meet
        exact ⟨hs, hpos0⟩
  case rest =>
  obtain ⟨hs4, hap⟩ := hcut
  have HS4 := Lib.hid hs4
  clear hs4 HS3
  have HVB2 := Lib.hid (HVB.out hap)
  have HVO2 := Lib.hid (HVO.out hap)
  clear HVB HVO HV0
  go_upto_block 3 with (fail)
  refine name_wp (fun W5 hW5 => ?_)
  have HS5 := Lib.hid (HS4.out.below (w' := W5) (by rw [hW5]; exact (plus_one1 _ _).trans ((plus_one1 _ _).mono (plus_one1 _ _).size)))
  have own5 : W5.ownsRow w.heap.size 3 1 (.slice (some ⟨wc.heap.size + 1, 0, none⟩) 0 0) 0 [] := by
    rw [hW5]
    exact owns_emptyE _ (by simp) (Nat.le_trans HS4.out.bl.size (plus_one1 _ _).size)
  have HO5 := Lib.hid own5
  have HNE5 := Lib.hid (show (Value.slice (some ⟨wc.heap.size + 1, 0, none⟩) 0 0).ownBlock ≠ some hb from fun e => by have := lt_of_block HS4.out.c; simp only [Value.ownBlock, Option.some.injEq] at e; omega)
  clear hW5 own5
  generalize wc.heap.size + 1 = nb0 at HO5 HNE5 ⊢
  go_cut [11, 14] (fun _ u14 wx => S4 w pb rb hb (.slice ad p.D.length cd) (.slice as' p.S.length cs) (.slice al p.K.length cl) a 0 wx ∧ wx.ownsRow w.heap.size 3 1 u14 1 (ints [num]) ∧ 0 ≤ num)
  case first => as_aux_lemma =>
    go_wp2_with fail
    go_loopw [11, 14] (fun u11 u14 wr => ∃ v, u14 = v ∧ v.ownBlock ≠ some hb ∧ S4 w pb rb hb (.slice ad p.D.length cd) (.slice as' p.S.length cs) (.slice al p.K.length cl) a 0 wr ∧ ((u11 = .int .i64 2 ∧ wr.ownsRow w.heap.size 3 1 v 0 []) ∨ (u11 = .int .i64 3 ∧ 0 ≤ num ∧ wr.ownsRow w.heap.size 3 1 v 1 (ints [num])))) (fun u _ _ => 3 - (intOf u).toNat)
    case atStart => exact ⟨_, rfl, HNE5.out, HS5.out, .inl ⟨rfl, HO5.out⟩⟩
    case round =>
      obtain ⟨v, rfl, hne, hs, hst⟩ := hrel
      have HS := Lib.hid hs
      have HNE := Lib.hid hne
      clear hs hne HS5 HO5 HNE5
      rcases hst with ⟨rfl, hown⟩ | ⟨rfl, hpos, hown⟩
      · have kw : wr.cell? ⟨bw, ow + 2, none⟩ = some (.string x2) := below_cell1 HS.out.bl HW.out k2
        have HO := Lib.hid hown
        by_cases hneg : num < 0
        · have HV := Lib.hid (HVB2.out hneg)
          have e0 : wr.cell? ⟨pb, 0, none⟩ = some (.slice ad p.D.length cd) := blk_cell HS.out.x 0
          have e1 : wr.cell? ⟨pb, 1, none⟩ = some (.slice as' p.S.length cs) := blk_cell HS.out.x 1
          have e2 : wr.cell? ⟨pb, 2, none⟩ = some (.slice al p.K.length cl) := blk_cell HS.out.x 2
          have r0 : wr.cell? ⟨rb, 0, none⟩ = some (.slice none 0 0) := blk_cell HS.out.y 0
          have f0 : wr.frozen? ⟨rb, 0, none⟩ = false := blk_free HS.out.y 0
          have r1 : wr.cell? ⟨rb, 1, none⟩ = some (.slice none 0 0) := blk_cell HS.out.y 1
          have f1 : wr.frozen? ⟨rb, 1, none⟩ = false := blk_free HS.out.y 1
          have r2 : wr.cell? ⟨rb, 2, none⟩ = some (.slice none 0 0) := blk_cell HS.out.y 2
          have f2 : wr.frozen? ⟨rb, 2, none⟩ = false := blk_free HS.out.y 2
          go_wp2_with fail
          refine (HNU.out _).mono ?_
          rintro _ wr ⟨rfl, rfl⟩
          go_wp2_with fail
          refine bodyPost_ret (pol_ret4 rfl _ _ rb _ _ _ rfl (HS.out.y.put _ _ _)) rfl ?_
          rw [HV.out]
          exact ⟨_, _, _, rfl, (HP.out.below HS.out.bl).put HS.out.y _ _ _, below_put HS.out.bl HPB.out.2.1 _ _ _⟩
        have hpos : 0 ≤ num := by omega
        have hbs := HS.out.bl.size
        obtain ⟨i0, hi, hz0, hz1, hz2⟩ := info_parts Tryd.info_int
        have HI0 := Lib.hid hi
        clear hi
        go_wp2_with fail
        refine (HNU.out _).mono ?_
        rintro _ wr ⟨rfl, rfl⟩
        go_wp2_with (at_builtin; go_loud (refine wpList_append_from rfl (.tmp 105) (.tmp 107) 100 rfl w.heap.size 3 i0 (.int .i64 0) 1 8 Tryd.underlying100 HI0.out hz0 hz1 hz2 rfl (by decide) u14 0 [] rfl (HO.out.alloc _) (.slice (some ⟨wr.heap.size, 0, none⟩) 1 1) 1 (ints [num]) rfl (one_reads _ _ _) (.inr ⟨_, _, _, _, rfl⟩) (ints_one _) (by unfold maxLen; omega) (by omega) (Nat.le_trans hbs (plus_one1 _ _).size) ?_))
        intro v4 w4 own4 gr4 at4
        have HO4 := Lib.hid (show w4.ownsRow w.heap.size 3 1 v4 1 (ints [num]) by simpa using own4)
        have HS9 := Lib.hid (HS.out.grow (o := .cells #[.int .i64 num] 3) gr4 HO.out HNE.out)
        have HNE4 := Lib.hid (show v4.ownBlock ≠ some hb from by
          rcases at4 with h | h
          · rw [h]; exact HNE.out
          · rw [h]; intro e; injection e with e; have := lt_of_block HS.out.c; have := (plus_one1 wr (.cells #[.int .i64 num] 3)).size; omega)
        clear own4 gr4 at4 hown
        go_wp2_with fail
        go_roundw
        case rel => exact ⟨_, rfl, HNE4.out, HS9.out, .inr ⟨rfl, hpos, HO4.out⟩⟩
        case measure => simp [intOf] <;> omega
      · have HO := Lib.hid hown
        clear hown
        go_wp2_with fail
        go_meet
        exact ⟨HS.out, HO.out, hpos⟩
  case rest =>
  obtain ⟨hsl, hown, hnp⟩ := hcut
  have HV := Lib.hid (HVO2.out hnp)
  obtain ⟨nb, cnb, rfl, hnc, _, hnlt⟩ := owns_pos hown (by omega)
  have hn0 : wc.cell? ⟨nb, 0, none⟩ = some (.int .i64 num) := by
    obtain ⟨_, _, _, e, _, _, hh⟩ := Reads.of_owns hown
    injection e with e1 e2 e3
    obtain ⟨b', o', e4, hh⟩ := hh (by omega)
    rw [← e1] at e4
    injection e4 with e4
    injection e4 with e4 e5
    subst e4 e5
    exact hh 0 _ rfl
  have HSL := Lib.hid hsl
  have HNB := Lib.hid hnlt
  have HBB := Lib.hid (Nat.le_trans HBB0.out HSL.out.bl.size)
  clear hsl hown HVB2 HVO2 HNU HS4 HS5 HO5 HNE5
  have q0 : wc.cell? ⟨bw, ow, none⟩ = some (.string x0) := below_cell1 HSL.out.bl HW.out K0.out
  obtain ⟨wl, hwl⟩ : ∃ wl, wl = wc := ⟨_, rfl⟩
  rw [← hwl] at HSL HNB HBB hn0 q0 ⊢
  clear hwl
  obtain ⟨i0, hi, hz0, hz1, hz2⟩ := info_parts Tryd.info_slot
  have HI0 := Lib.hid hi
  have HSRC := Lib.hid (Reads.of_owns (HP.out.below HSL.out.bl).s)
  have HSLT := Lib.hid (fun k hk => ((HP.out.below HSL.out.bl).s.lt k hk).2)
  have HSH := Lib.hid (owns_sh HP.out.s)
  have HONES := Lib.hid (fun (_ : Unit) => flat_ones p.S slCells sl_one)
  have HONE1 := Lib.hid (fun (_ : Unit) => sl_one (a, num))
  clear hi

  go_wp2_with fail
  refine wp_region_W 15 14 (fun w' : World => Below wl.heap.size wl w') (by kernel_rfl) (by kernel_rfl) ⟨rfl, rfl, rfl, Nat.le_refl _, fun _ _ => rfl⟩ (fun hT => ?_)
  refine wpAnyW_take (i := 1) (some 134) rfl rfl (by kernel_rfl) (by kernel_rfl) (by kernel_rfl) (by kernel_rfl) (fun _ _ _ h => h) (v := ?_) (.inl ⟨by rfl, ?_⟩) (.inr hT) ?_
  rotate_left
  · (intro wT _; go_simp <;> with_reducible rfl)
  simp only [Act.put, List.setIfInBounds_toArray, List.set_cons_zero, List.set_cons_succ]
  refine wpAnyW_load (i := 2) (some 135) rfl rfl (by kernel_rfl) (by kernel_rfl) (by kernel_rfl) (by kernel_rfl) (by kernel_rfl) (fun _ _ _ h => h) (v := ?_) (.inl ⟨by rfl, ?_⟩) hT ?_
  rotate_left
  · (intro wT hT; try dsimp only at hT); (have t1 : wT.cell? ⟨pb, 1, none⟩ = some (.slice as' p.S.length cs) := blk_cell (HSL.out.x.below hT) 1); (have t2 : wT.cell? ⟨hb, 0, none⟩ = some (.int .i64 a) := blk_cell (HSL.out.below hT).c 0); (have t9 : wT.cell? ⟨nb, 0, none⟩ = some (.int .i64 num) := below_cell1 hT HNB.out hn0); clear hT; (go_simp <;> with_reducible rfl)
  simp only [Act.put, List.setIfInBounds_toArray, List.set_cons_zero, List.set_cons_succ]
  refine wpAnyW_take (i := 4) (some 137) rfl rfl (by kernel_rfl) (by kernel_rfl) (by kernel_rfl) (by kernel_rfl) (fun _ _ _ h => h) (v := ?_) (.inl ⟨by rfl, ?_⟩) (.inr hT) ?_
  rotate_left
  · (intro wT _; go_simp <;> with_reducible rfl)
  simp only [Act.put, List.setIfInBounds_toArray, List.set_cons_zero, List.set_cons_succ]
  refine wpAnyW_take (i := 5) (some 138) rfl rfl (by kernel_rfl) (by kernel_rfl) (by kernel_rfl) (by kernel_rfl) (fun _ _ _ h => h) (v := ?_) (.inl ⟨by rfl, ?_⟩) (.inr hT) ?_
  rotate_left
  · (intro wT _; go_simp <;> with_reducible rfl)
  simp only [Act.put, List.setIfInBounds_toArray, List.set_cons_zero, List.set_cons_succ]
  refine wpAnyW_load (i := 6) (some 139) rfl rfl (by kernel_rfl) (by kernel_rfl) (by kernel_rfl) (by kernel_rfl) (by kernel_rfl) (fun _ _ _ h => h) (v := ?_) (.inl ⟨by rfl, ?_⟩) hT ?_
  rotate_left
  · (intro wT hT; try dsimp only at hT); (have t1 : wT.cell? ⟨pb, 1, none⟩ = some (.slice as' p.S.length cs) := blk_cell (HSL.out.x.below hT) 1); (have t2 : wT.cell? ⟨hb, 0, none⟩ = some (.int .i64 a) := blk_cell (HSL.out.below hT).c 0); (have t9 : wT.cell? ⟨nb, 0, none⟩ = some (.int .i64 num) := below_cell1 hT HNB.out hn0); clear hT; (go_simp <;> with_reducible rfl)
  simp only [Act.put, List.setIfInBounds_toArray, List.set_cons_zero, List.set_cons_succ]
  refine wpAnyW_take (i := 7) (some 140) rfl rfl (by kernel_rfl) (by kernel_rfl) (by kernel_rfl) (by kernel_rfl) (fun _ _ _ h => h) (v := ?_) (.inl ⟨by rfl, ?_⟩) (.inr hT) ?_
  rotate_left
  · (intro wT _; go_simp <;> with_reducible rfl)
  simp only [Act.put, List.setIfInBounds_toArray, List.set_cons_zero, List.set_cons_succ]
  refine wpAnyW_take (i := 8) (some 141) rfl rfl (by kernel_rfl) (by kernel_rfl) (by kernel_rfl) (by kernel_rfl) (fun _ _ _ h => h) (v := ?_) (.inl ⟨by rfl, ?_⟩) (.inr hT) ?_
  rotate_left
  · (intro wT _; go_simp <;> with_reducible rfl)
  simp only [Act.put, List.setIfInBounds_toArray, List.set_cons_zero, List.set_cons_succ]
  refine wpAnyW_load (i := 9) (some 142) rfl rfl (by kernel_rfl) (by kernel_rfl) (by kernel_rfl) (by kernel_rfl) (by kernel_rfl) (fun _ _ _ h => h) (v := ?_) (.inl ⟨by rfl, ?_⟩) hT ?_
  rotate_left
  · (intro wT hT; try dsimp only at hT); (have t1 : wT.cell? ⟨pb, 1, none⟩ = some (.slice as' p.S.length cs) := blk_cell (HSL.out.x.below hT) 1); (have t2 : wT.cell? ⟨hb, 0, none⟩ = some (.int .i64 a) := blk_cell (HSL.out.below hT).c 0); (have t9 : wT.cell? ⟨nb, 0, none⟩ = some (.int .i64 num) := below_cell1 hT HNB.out hn0); clear hT; (go_simp <;> with_reducible rfl)
  simp only [Act.put, List.setIfInBounds_toArray, List.set_cons_zero, List.set_cons_succ]
  refine wpAnyW_take (i := 10) (some 143) rfl rfl (by kernel_rfl) (by kernel_rfl) (by kernel_rfl) (by kernel_rfl) (fun _ _ _ h => h) (v := ?_) (.inl ⟨by rfl, ?_⟩) (.inr hT) ?_
  rotate_left
  · (intro wT _; go_simp <;> with_reducible rfl)
  simp only [Act.put, List.setIfInBounds_toArray, List.set_cons_zero, List.set_cons_succ]
  refine wpAnyW_two (i := 0) (j := 11) (by kernel_rfl) rfl rfl (fun K hK => ?_) (fun K hK => ?_)
  · go_simp
    refine name_world (fun WA hWA => ?_)
    have hbA : Below wl.heap.size wl WA := by rw [hWA]; exact (⟨rfl, rfl, rfl, Nat.le_refl _, fun _ _ => rfl⟩ : Below wl.heap.size wl wl.drew).alloc (Nat.le_refl wl.heap.size) _
    have ownA : WA.ownsRow B 39 2 (.slice (some ⟨wl.heap.size, 0, none⟩) 0 0) 0 [] := by rw [hWA]; exact owns_emptyK _ (Nat.le_trans HBB.out (Nat.le_refl wl.heap.size))
    have ltA : wl.heap.size < WA.heap.size := by rw [hWA]; simp
    clear hWA
    refine step_owe hK ?_ (fun hT => ?_)
    · first | exact hbA | exact hbB | exact hbC | exact hbD
    clear hK K
    refine wpAnyW_two (i := 3) (j := 11) (by kernel_rfl) rfl rfl (fun K hK => ?_) (fun K hK => ?_)
    · refine step_append_from (by rfl) (.tmp 133) (.tmp 135) 23 (by rfl) B 39 i0 (.agg #[.int .i64 0, .int .i64 0]) 2 16 Tryd.underlying23 HI0.out hz0 hz1 hz2 rfl (by omega) (.slice (some ⟨wl.heap.size, 0, none⟩) 0 0) 0 [] (by rfl) ownA (.slice as' p.S.length cs) (p.S.length) (p.S.flatMap slCells) (by rfl) (HSRC.out.frame (fun k hk => hbA.block k (HSLT.out k hk))) HSH.out (HONES.out ()) (by unfold maxLen; omega) (by omega) (Nat.le_trans HBB.out hbA.size) ?_
      intro vB WB ownB growB atB
      simp only [Nat.zero_add, List.nil_append] at ownB
      have hbB : Below wl.heap.size wl WB := hbA.grown growB hbA.size (fun k hk => by simp only [Value.ownBlock, Option.some.injEq] at hk; subst hk; exact Nat.le_refl _)
      refine step_owe hK ?_ (fun hT => ?_)
      · first | exact hbA | exact hbB | exact hbC | exact hbD
      clear hK K
      refine wpAnyW_one (i := 11) (by kernel_rfl) rfl (fun K hK => ?_)
      go_simp
      refine name_world (fun WC hWC => ?_)
      have hbC : Below wl.heap.size wl WC := by rw [hWC]; exact hbB.alloc hbB.size _
      have newsC : Reads WC 2 (.slice (some ⟨WB.heap.size, 0, none⟩) 1 1) 1 (slCells (a, num)) := by rw [hWC]; exact row_one _ (slCells (a, num)) _ rfl (by decide)
      have newC := Lib.hid (show ∀ k, (Value.slice (some ⟨WB.heap.size, 0, none⟩) 1 1).ownBlock = some k → k < WC.heap.size ∧ k = WB.heap.size from fun k hk => by simp only [Value.ownBlock, Option.some.injEq] at hk; subst hk; exact ⟨by rw [hWC]; simp, rfl⟩)
      have ownC := ownB.alloc (.cells #[.int .i64 a, .int .i64 num] 39)
      rw [← hWC] at ownC
      clear hWC
      refine step_owe hK ?_ (fun hT => ?_)
      · first | exact hbA | exact hbB | exact hbC | exact hbD
      clear hK K
      refine wpAnyW_one (i := 12) (by kernel_rfl) rfl (fun K hK => ?_)
      refine step_append_from (by rfl) (.tmp 136) (.tmp 144) 23 (by rfl) B 39 i0 (.agg #[.int .i64 0, .int .i64 0]) 2 16 Tryd.underlying23 HI0.out hz0 hz1 hz2 rfl (by omega) vB (p.S.length) (p.S.flatMap slCells) (by rfl) ownC (.slice (some ⟨WB.heap.size, 0, none⟩) 1 1) 1 (slCells (a, num)) (by rfl) newsC (.inr ⟨_, _, _, _, rfl⟩) (HONE1.out ()) (by unfold maxLen; omega) (by omega) (Nat.le_trans HBB.out hbC.size) ?_
      intro vD WD ownD growD atD
      have hbD : Below wl.heap.size wl WD := hbC.grown growD hbC.size (fun k hk => by
        rcases atB with h | h
        · rw [h] at hk; simp only [Value.ownBlock, Option.some.injEq] at hk; subst hk; first | exact Nat.le_refl _ | exact hbC.size
        · rw [h] at hk; injection hk with hk; subst hk; first | exact hbA.size | exact hbC.size)
      have HOD := Lib.hid ownD
      have HBD := Lib.hid hbD
      obtain ⟨aD, cD, rfl, _, _, _⟩ := owns_shape ownD
      have HXD := Lib.hid (HSL.out.x.below hbD)
      have zD : WD.frozen? ⟨pb, 1, none⟩ = false := blk_free HXD.out 1
      have yD : WD.cell? ⟨pb, 1, none⟩ = some (.slice as' p.S.length cs) := blk_cell HXD.out 1
      refine step_owe hK ?_ (fun hT => ?_)
      · first | exact hbA | exact hbB | exact hbC | exact hbD
      clear hK K
      refine wpAnyW_take (i := 13) (some 146) rfl rfl (by kernel_rfl) (by kernel_rfl) (by kernel_rfl) (by kernel_rfl) (fun _ _ _ h => h) (v := ?_) (.inl ⟨by rfl, ?_⟩) (.inr hT) ?_
      rotate_left
      · (intro wT _; go_simp <;> with_reducible rfl)
      simp only [Act.put, List.setIfInBounds_toArray, List.set_cons_zero, List.set_cons_succ]
      refine wpAnyW_one (i := 14) (by kernel_rfl) rfl (fun K hK => ?_)
      go_simp
      refine step_paid hK (by kernel_rfl) ?_
      clear hK K
      refine wpAnyW_done (by kernel_rfl) ?_
      have HOX := Lib.hid (show WD.ownsRow B 39 2 (.slice aD (p.S.length + 1) cD) (p.S ++ [(a, num)]).length ((p.S ++ [(a, num)]).flatMap slCells) by rw [List.length_append, List.flatMap_append]; simpa using HOD.out)
      have PWD := (HP.out.below HSL.out.bl).below HBD.out
      have HPD := Lib.hid (show PW B WD (.slice ad p.D.length cd) (.slice aD (p.S.length + 1) cD) (.slice al p.K.length cl) (⟨p.D, p.S ++ [(a, num)], p.K⟩ : P3) from ⟨PWD.d, HOX.out, PWD.k⟩)
      have HPF := Lib.hid (HPD.out.set HXD.out 1 (.slice aD (p.S.length + 1) cD))
      have HXF := Lib.hid (HXD.out.set1 (.slice aD (p.S.length + 1) cD))
      have HYD := Lib.hid (HSL.out.y.below HBD.out)
      have HYF := Lib.hid (show BoxP rb (.slice none 0 0) (.slice none 0 0) (.slice none 0 0) (WD.setCell ⟨pb, 1, none⟩ (.slice aD (p.S.length + 1) cD)) from (heap_setCell_other _ _ _ _ HNR.out).trans HYD.out)
      have HBF := Lib.hid (show Below w.heap.size w (WD.setCell ⟨pb, 1, none⟩ (.slice aD (p.S.length + 1) cD)) from (HSL.out.bl.trans (HBD.out.mono HSL.out.bl.size)).setCell (p := ⟨pb, 1, none⟩) HPB.out.1 _)
      clear zD yD HXD HPD HBD HOD HOX PWD HYD ownD hbD growD atD
      generalize WD.setCell ⟨pb, 1, none⟩ (.slice aD (p.S.length + 1) cD) = WF at HPF HXF HYF HBF ⊢
      have e0 : WF.cell? ⟨pb, 0, none⟩ = some (.slice ad p.D.length cd) := blk_cell HXF.out 0
      have e1 : WF.cell? ⟨pb, 1, none⟩ = some (.slice aD (p.S.length + 1) cD) := blk_cell HXF.out 1
      have e2 : WF.cell? ⟨pb, 2, none⟩ = some (.slice al p.K.length cl) := blk_cell HXF.out 2
      have r0 : WF.cell? ⟨rb, 0, none⟩ = some (.slice none 0 0) := blk_cell HYF.out 0
      have f0 : WF.frozen? ⟨rb, 0, none⟩ = false := blk_free HYF.out 0
      have r1 : WF.cell? ⟨rb, 1, none⟩ = some (.slice none 0 0) := blk_cell HYF.out 1
      have f1 : WF.frozen? ⟨rb, 1, none⟩ = false := blk_free HYF.out 1
      have r2 : WF.cell? ⟨rb, 2, none⟩ = some (.slice none 0 0) := blk_cell HYF.out 2
      have f2 : WF.frozen? ⟨rb, 2, none⟩ = false := blk_free HYF.out 2
      go_wp2_with fail
      refine bodyPost_ret (pol_ret4 rfl _ _ rb _ _ _ rfl (HYF.out.put _ _ _)) rfl ?_
      rw [HV.out]
      exact ⟨_, _, _, rfl, HPF.out.put HYF.out _ _ _, below_put HBF.out HPB.out.2.1 _ _ _⟩
    · go_simp
      refine name_world (fun WC hWC => ?_)
      have hbC : Below wl.heap.size wl WC := by rw [hWC]; exact hbA.alloc hbA.size _
      have newsC : Reads WC 2 (.slice (some ⟨WA.heap.size, 0, none⟩) 1 1) 1 (slCells (a, num)) := by rw [hWC]; exact row_one _ (slCells (a, num)) _ rfl (by decide)
      have newC := Lib.hid (show ∀ k, (Value.slice (some ⟨WA.heap.size, 0, none⟩) 1 1).ownBlock = some k → k < WC.heap.size ∧ k = WA.heap.size from fun k hk => by simp only [Value.ownBlock, Option.some.injEq] at hk; subst hk; exact ⟨by rw [hWC]; simp, rfl⟩)
      have ownC := ownA.alloc (.cells #[.int .i64 a, .int .i64 num] 39)
      rw [← hWC] at ownC
      clear hWC
      refine step_owe hK ?_ (fun hT => ?_)
      · first | exact hbA | exact hbB | exact hbC | exact hbD
      clear hK K
      refine wpAnyW_one (i := 3) (by kernel_rfl) rfl (fun K hK => ?_)
      refine step_append_from (by rfl) (.tmp 133) (.tmp 135) 23 (by rfl) B 39 i0 (.agg #[.int .i64 0, .int .i64 0]) 2 16 Tryd.underlying23 HI0.out hz0 hz1 hz2 rfl (by omega) (.slice (some ⟨wl.heap.size, 0, none⟩) 0 0) 0 [] (by rfl) ownC (.slice as' p.S.length cs) (p.S.length) (p.S.flatMap slCells) (by rfl) (HSRC.out.frame (fun k hk => hbC.block k (HSLT.out k hk))) HSH.out (HONES.out ()) (by unfold maxLen; omega) (by omega) (Nat.le_trans HBB.out hbC.size) ?_
      intro vB WB ownB growB atB
      simp only [Nat.zero_add, List.nil_append] at ownB
      have hbB : Below wl.heap.size wl WB := hbC.grown growB hbC.size (fun k hk => by simp only [Value.ownBlock, Option.some.injEq] at hk; subst hk; exact Nat.le_refl _)
      have newsB := newsC.grown growB (fun k hk => (newC.out k hk).1) (fun k hk e => by simp only [Value.ownBlock, Option.some.injEq] at e; have := (newC.out k hk).2; have := ltA; omega)
      refine step_owe hK ?_ (fun hT => ?_)
      · first | exact hbA | exact hbB | exact hbC | exact hbD
      clear hK K
      refine wpAnyW_one (i := 12) (by kernel_rfl) rfl (fun K hK => ?_)
      refine step_append_from (by rfl) (.tmp 136) (.tmp 144) 23 (by rfl) B 39 i0 (.agg #[.int .i64 0, .int .i64 0]) 2 16 Tryd.underlying23 HI0.out hz0 hz1 hz2 rfl (by omega) vB (p.S.length) (p.S.flatMap slCells) (by rfl) ownB (.slice (some ⟨WA.heap.size, 0, none⟩) 1 1) 1 (slCells (a, num)) (by rfl) newsB (.inr ⟨_, _, _, _, rfl⟩) (HONE1.out ()) (by unfold maxLen; omega) (by omega) (Nat.le_trans HBB.out hbB.size) ?_
      intro vD WD ownD growD atD
      have hbD : Below wl.heap.size wl WD := hbB.grown growD hbB.size (fun k hk => by
        rcases atB with h | h
        · rw [h] at hk; simp only [Value.ownBlock, Option.some.injEq] at hk; subst hk; first | exact Nat.le_refl _ | exact hbC.size
        · rw [h] at hk; injection hk with hk; subst hk; first | exact hbA.size | exact hbC.size)
      have HOD := Lib.hid ownD
      have HBD := Lib.hid hbD
      obtain ⟨aD, cD, rfl, _, _, _⟩ := owns_shape ownD
      have HXD := Lib.hid (HSL.out.x.below hbD)
      have zD : WD.frozen? ⟨pb, 1, none⟩ = false := blk_free HXD.out 1
      have yD : WD.cell? ⟨pb, 1, none⟩ = some (.slice as' p.S.length cs) := blk_cell HXD.out 1
      refine step_owe hK ?_ (fun hT => ?_)
      · first | exact hbA | exact hbB | exact hbC | exact hbD
      clear hK K
      refine wpAnyW_take (i := 13) (some 146) rfl rfl (by kernel_rfl) (by kernel_rfl) (by kernel_rfl) (by kernel_rfl) (fun _ _ _ h => h) (v := ?_) (.inl ⟨by rfl, ?_⟩) (.inr hT) ?_
      rotate_left
      · (intro wT _; go_simp <;> with_reducible rfl)
      simp only [Act.put, List.setIfInBounds_toArray, List.set_cons_zero, List.set_cons_succ]
      refine wpAnyW_one (i := 14) (by kernel_rfl) rfl (fun K hK => ?_)
      go_simp
      refine step_paid hK (by kernel_rfl) ?_
      clear hK K
      refine wpAnyW_done (by kernel_rfl) ?_
      have HOX := Lib.hid (show WD.ownsRow B 39 2 (.slice aD (p.S.length + 1) cD) (p.S ++ [(a, num)]).length ((p.S ++ [(a, num)]).flatMap slCells) by rw [List.length_append, List.flatMap_append]; simpa using HOD.out)
      have PWD := (HP.out.below HSL.out.bl).below HBD.out
      have HPD := Lib.hid (show PW B WD (.slice ad p.D.length cd) (.slice aD (p.S.length + 1) cD) (.slice al p.K.length cl) (⟨p.D, p.S ++ [(a, num)], p.K⟩ : P3) from ⟨PWD.d, HOX.out, PWD.k⟩)
      have HPF := Lib.hid (HPD.out.set HXD.out 1 (.slice aD (p.S.length + 1) cD))
      have HXF := Lib.hid (HXD.out.set1 (.slice aD (p.S.length + 1) cD))
      have HYD := Lib.hid (HSL.out.y.below HBD.out)
      have HYF := Lib.hid (show BoxP rb (.slice none 0 0) (.slice none 0 0) (.slice none 0 0) (WD.setCell ⟨pb, 1, none⟩ (.slice aD (p.S.length + 1) cD)) from (heap_setCell_other _ _ _ _ HNR.out).trans HYD.out)
      have HBF := Lib.hid (show Below w.heap.size w (WD.setCell ⟨pb, 1, none⟩ (.slice aD (p.S.length + 1) cD)) from (HSL.out.bl.trans (HBD.out.mono HSL.out.bl.size)).setCell (p := ⟨pb, 1, none⟩) HPB.out.1 _)
      clear zD yD HXD HPD HBD HOD HOX PWD HYD ownD hbD growD atD
      generalize WD.setCell ⟨pb, 1, none⟩ (.slice aD (p.S.length + 1) cD) = WF at HPF HXF HYF HBF ⊢
      have e0 : WF.cell? ⟨pb, 0, none⟩ = some (.slice ad p.D.length cd) := blk_cell HXF.out 0
      have e1 : WF.cell? ⟨pb, 1, none⟩ = some (.slice aD (p.S.length + 1) cD) := blk_cell HXF.out 1
      have e2 : WF.cell? ⟨pb, 2, none⟩ = some (.slice al p.K.length cl) := blk_cell HXF.out 2
      have r0 : WF.cell? ⟨rb, 0, none⟩ = some (.slice none 0 0) := blk_cell HYF.out 0
      have f0 : WF.frozen? ⟨rb, 0, none⟩ = false := blk_free HYF.out 0
      have r1 : WF.cell? ⟨rb, 1, none⟩ = some (.slice none 0 0) := blk_cell HYF.out 1
      have f1 : WF.frozen? ⟨rb, 1, none⟩ = false := blk_free HYF.out 1
      have r2 : WF.cell? ⟨rb, 2, none⟩ = some (.slice none 0 0) := blk_cell HYF.out 2
      have f2 : WF.frozen? ⟨rb, 2, none⟩ = false := blk_free HYF.out 2
      go_wp2_with fail
      refine bodyPost_ret (pol_ret4 rfl _ _ rb _ _ _ rfl (HYF.out.put _ _ _)) rfl ?_
      rw [HV.out]
      exact ⟨_, _, _, rfl, HPF.out.put HYF.out _ _ _, below_put HBF.out HPB.out.2.1 _ _ _⟩
  · go_simp
    refine name_world (fun WC hWC => ?_)
    have hbC : Below wl.heap.size wl WC := by rw [hWC]; exact (⟨rfl, rfl, rfl, Nat.le_refl _, fun _ _ => rfl⟩ : Below wl.heap.size wl wl.drew).alloc (Nat.le_refl wl.heap.size) _
    have newsC : Reads WC 2 (.slice (some ⟨wl.heap.size, 0, none⟩) 1 1) 1 (slCells (a, num)) := by rw [hWC]; exact row_one _ (slCells (a, num)) _ rfl (by decide)
    have newC := Lib.hid (show ∀ k, (Value.slice (some ⟨wl.heap.size, 0, none⟩) 1 1).ownBlock = some k → k < WC.heap.size ∧ k = wl.heap.size from fun k hk => by simp only [Value.ownBlock, Option.some.injEq] at hk; subst hk; exact ⟨by rw [hWC]; simp, rfl⟩)
    clear hWC
    refine step_owe hK ?_ (fun hT => ?_)
    · first | exact hbA | exact hbB | exact hbC | exact hbD
    clear hK K
    refine wpAnyW_one (i := 0) (by kernel_rfl) rfl (fun K hK => ?_)
    go_simp
    refine name_world (fun WA hWA => ?_)
    have hbA : Below wl.heap.size wl WA := by rw [hWA]; exact hbC.alloc hbC.size _
    have ownA : WA.ownsRow B 39 2 (.slice (some ⟨WC.heap.size, 0, none⟩) 0 0) 0 [] := by rw [hWA]; exact owns_emptyK _ (Nat.le_trans HBB.out hbC.size)
    have newsA := (newsC.frame (w' := WA) (fun k hk => by rw [hWA]; exact Below.heap_alloc _ _ _ (newC.out k hk).1))
    have newA := Lib.hid (show ∀ k, (Value.slice (some ⟨wl.heap.size, 0, none⟩) 1 1).ownBlock = some k → k < WA.heap.size ∧ k ≠ WC.heap.size from fun k hk => ⟨Nat.lt_of_lt_of_le (newC.out k hk).1 (by rw [hWA]; simp), fun e => by have := (newC.out k hk).1; omega⟩)
    have ltA : WC.heap.size < WA.heap.size := by rw [hWA]; simp
    clear hWA
    refine step_owe hK ?_ (fun hT => ?_)
    · first | exact hbA | exact hbB | exact hbC | exact hbD
    clear hK K
    refine wpAnyW_one (i := 3) (by kernel_rfl) rfl (fun K hK => ?_)
    refine step_append_from (by rfl) (.tmp 133) (.tmp 135) 23 (by rfl) B 39 i0 (.agg #[.int .i64 0, .int .i64 0]) 2 16 Tryd.underlying23 HI0.out hz0 hz1 hz2 rfl (by omega) (.slice (some ⟨WC.heap.size, 0, none⟩) 0 0) 0 [] (by rfl) ownA (.slice as' p.S.length cs) (p.S.length) (p.S.flatMap slCells) (by rfl) (HSRC.out.frame (fun k hk => hbA.block k (HSLT.out k hk))) HSH.out (HONES.out ()) (by unfold maxLen; omega) (by omega) (Nat.le_trans HBB.out hbA.size) ?_
    intro vB WB ownB growB atB
    simp only [Nat.zero_add, List.nil_append] at ownB
    have hbB : Below wl.heap.size wl WB := hbA.grown growB hbA.size (fun k hk => by simp only [Value.ownBlock, Option.some.injEq] at hk; subst hk; exact hbC.size)
    have newsB := newsA.grown growB (fun k hk => (newA.out k hk).1) (fun k hk e => by simp only [Value.ownBlock, Option.some.injEq] at e; have := (newA.out k hk).2; omega)
    refine step_owe hK ?_ (fun hT => ?_)
    · first | exact hbA | exact hbB | exact hbC | exact hbD
    clear hK K
    refine wpAnyW_one (i := 12) (by kernel_rfl) rfl (fun K hK => ?_)
    refine step_append_from (by rfl) (.tmp 136) (.tmp 144) 23 (by rfl) B 39 i0 (.agg #[.int .i64 0, .int .i64 0]) 2 16 Tryd.underlying23 HI0.out hz0 hz1 hz2 rfl (by omega) vB (p.S.length) (p.S.flatMap slCells) (by rfl) ownB (.slice (some ⟨wl.heap.size, 0, none⟩) 1 1) 1 (slCells (a, num)) (by rfl) newsB (.inr ⟨_, _, _, _, rfl⟩) (HONE1.out ()) (by unfold maxLen; omega) (by omega) (Nat.le_trans HBB.out hbB.size) ?_
    intro vD WD ownD growD atD
    have hbD : Below wl.heap.size wl WD := hbB.grown growD hbB.size (fun k hk => by
      rcases atB with h | h
      · rw [h] at hk; simp only [Value.ownBlock, Option.some.injEq] at hk; subst hk; first | exact Nat.le_refl _ | exact hbC.size
      · rw [h] at hk; injection hk with hk; subst hk; first | exact hbA.size | exact hbC.size)
    have HOD := Lib.hid ownD
    have HBD := Lib.hid hbD
    obtain ⟨aD, cD, rfl, _, _, _⟩ := owns_shape ownD
    have HXD := Lib.hid (HSL.out.x.below hbD)
    have zD : WD.frozen? ⟨pb, 1, none⟩ = false := blk_free HXD.out 1
    have yD : WD.cell? ⟨pb, 1, none⟩ = some (.slice as' p.S.length cs) := blk_cell HXD.out 1
    refine step_owe hK ?_ (fun hT => ?_)
    · first | exact hbA | exact hbB | exact hbC | exact hbD
    clear hK K
    refine wpAnyW_take (i := 13) (some 146) rfl rfl (by kernel_rfl) (by kernel_rfl) (by kernel_rfl) (by kernel_rfl) (fun _ _ _ h => h) (v := ?_) (.inl ⟨by rfl, ?_⟩) (.inr hT) ?_
    rotate_left
    · (intro wT _; go_simp <;> with_reducible rfl)
    simp only [Act.put, List.setIfInBounds_toArray, List.set_cons_zero, List.set_cons_succ]
    refine wpAnyW_one (i := 14) (by kernel_rfl) rfl (fun K hK => ?_)
    go_simp
    refine step_paid hK (by kernel_rfl) ?_
    clear hK K
    refine wpAnyW_done (by kernel_rfl) ?_
    have HOX := Lib.hid (show WD.ownsRow B 39 2 (.slice aD (p.S.length + 1) cD) (p.S ++ [(a, num)]).length ((p.S ++ [(a, num)]).flatMap slCells) by rw [List.length_append, List.flatMap_append]; simpa using HOD.out)
    have PWD := (HP.out.below HSL.out.bl).below HBD.out
    have HPD := Lib.hid (show PW B WD (.slice ad p.D.length cd) (.slice aD (p.S.length + 1) cD) (.slice al p.K.length cl) (⟨p.D, p.S ++ [(a, num)], p.K⟩ : P3) from ⟨PWD.d, HOX.out, PWD.k⟩)
    have HPF := Lib.hid (HPD.out.set HXD.out 1 (.slice aD (p.S.length + 1) cD))
    have HXF := Lib.hid (HXD.out.set1 (.slice aD (p.S.length + 1) cD))
    have HYD := Lib.hid (HSL.out.y.below HBD.out)
    have HYF := Lib.hid (show BoxP rb (.slice none 0 0) (.slice none 0 0) (.slice none 0 0) (WD.setCell ⟨pb, 1, none⟩ (.slice aD (p.S.length + 1) cD)) from (heap_setCell_other _ _ _ _ HNR.out).trans HYD.out)
    have HBF := Lib.hid (show Below w.heap.size w (WD.setCell ⟨pb, 1, none⟩ (.slice aD (p.S.length + 1) cD)) from (HSL.out.bl.trans (HBD.out.mono HSL.out.bl.size)).setCell (p := ⟨pb, 1, none⟩) HPB.out.1 _)
    clear zD yD HXD HPD HBD HOD HOX PWD HYD ownD hbD growD atD
    generalize WD.setCell ⟨pb, 1, none⟩ (.slice aD (p.S.length + 1) cD) = WF at HPF HXF HYF HBF ⊢
    have e0 : WF.cell? ⟨pb, 0, none⟩ = some (.slice ad p.D.length cd) := blk_cell HXF.out 0
    have e1 : WF.cell? ⟨pb, 1, none⟩ = some (.slice aD (p.S.length + 1) cD) := blk_cell HXF.out 1
    have e2 : WF.cell? ⟨pb, 2, none⟩ = some (.slice al p.K.length cl) := blk_cell HXF.out 2
    have r0 : WF.cell? ⟨rb, 0, none⟩ = some (.slice none 0 0) := blk_cell HYF.out 0
    have f0 : WF.frozen? ⟨rb, 0, none⟩ = false := blk_free HYF.out 0
    have r1 : WF.cell? ⟨rb, 1, none⟩ = some (.slice none 0 0) := blk_cell HYF.out 1
    have f1 : WF.frozen? ⟨rb, 1, none⟩ = false := blk_free HYF.out 1
    have r2 : WF.cell? ⟨rb, 2, none⟩ = some (.slice none 0 0) := blk_cell HYF.out 2
    have f2 : WF.frozen? ⟨rb, 2, none⟩ = false := blk_free HYF.out 2
    go_wp2_with fail
    refine bodyPost_ret (pol_ret4 rfl _ _ rb _ _ _ rfl (HYF.out.put _ _ _)) rfl ?_
    rw [HV.out]
    exact ⟨_, _, _, rfl, HPF.out.put HYF.out _ _ _, below_put HBF.out HPB.out.2.1 _ _ _⟩
end Go.Proofs.YtkjhgfjlknbdkaaDoor
