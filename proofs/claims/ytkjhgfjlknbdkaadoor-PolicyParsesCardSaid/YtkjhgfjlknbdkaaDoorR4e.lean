/- What the document's one does with a domain's line. Conditions: the policy lies in rows of the call's own, the line can be read. -/
import Derived.Test.YtkjhgfjlknbdkaaDoorR4b
import Derived.Test.YtkjhgfjlknbdkaaDoorSignRef
import Derived.Test.YtkjhgfjlknbdkaaDoorSignRef2
namespace Go.Proofs.YtkjhgfjlknbdkaaDoor
open Go.RowKit BigFrame Go.BigFrame

theorem name_q {Q : Exit → Act → World → Prop} {e : Exit} {a : Act} {W' : World} (h : ∀ W, W = W' → Q e a W) : Q e a W' := h _ rfl
/-- The boxes of the walk. -/
structure D4 (w : World) (pb rb db : Nat) (vd vs vl : Value) (d : Dm) (wx : World) : Prop where
  bl : Below w.heap.size w wx
  x : BoxP pb vd vs vl wx
  y : BoxP rb (.slice none 0 0) (.slice none 0 0) (.slice none 0 0) wx
  c : BoxD db d wx
section
variable {w w' wx w2 : World} {pb rb db : Nat} {vd vs vl : Value} {d d' : Dm}
theorem D4.below (h : D4 w pb rb db vd vs vl d wx) (hw : Below wx.heap.size wx w') : D4 w pb rb db vd vs vl d w' :=
  ⟨h.bl.trans (hw.mono h.bl.size), h.x.below hw, h.y.below hw, h.c.below hw⟩
theorem D4.start (hw : Below w.heap.size w w2) (h1 : BoxP pb vd vs vl w2) (h2 : BoxP rb (.slice none 0 0) (.slice none 0 0) (.slice none 0 0) w2) : D4 w pb rb w2.heap.size vd vs vl ⟨ByteArray.empty, 0, 0, 0, 0, 0⟩ (w2.alloc (.cells #[.string ⟨#[]⟩, .int .i64 0, .int .i64 0, .int .i64 0, .int .i64 0, .int .i64 0] 37)) :=
  ⟨hw.trans ((plus_one1 w2 _).mono hw.size), h1.below (plus_one1 w2 _), h2.below (plus_one1 w2 _), heap_alloc_new w2 _⟩
theorem D4.set (h : D4 w pb rb db vd vs vl d wx) (hw : w.heap.size ≤ db) (i : Nat) (v : Value) (hd : (Dm.cells d).toArray.setIfInBounds i v = (Dm.cells d').toArray) : D4 w pb rb db vd vs vl d' (wx.setCell ⟨db, i, none⟩ v) := by
  refine ⟨h.bl.setCell (p := ⟨db, i, none⟩) hw _, (heap_setCell_other _ _ _ _ (fun e => types_apart1 h.x h.c (by decide) e)).trans h.x, (heap_setCell_other _ _ _ _ (fun e => types_apart1 h.y h.c (by decide) e)).trans h.y, ?_⟩
  have h1 : wx.heap[db]? = some (.cells (Dm.cells d).toArray 37 (0, 0)) := h.c
  have h2 := blk_set h1 i v
  rw [hd] at h2
  exact h2
theorem D4.grow (h : D4 w pb rb db vd vs vl d wx) {o : Obj} {v : Value} {n : Nat} {xs : List Value} (gr : (wx.alloc o).grownBy w' v.ownBlock) (hown : wx.ownsRow w.heap.size 3 1 v n xs) : D4 w pb rb db vd vs vl d w' := by
  have h1 := h.below (plus_one1 wx o)
  refine ⟨h1.bl.grown gr h1.bl.size (fun k hk => (hown.lt k hk).1), (gr.block _ (lt_of_block h1.x) (fun e => ?_)).trans h1.x, (gr.block _ (lt_of_block h1.y) (fun e => ?_)).trans h1.y, (gr.block _ (lt_of_block h1.c) (fun e => ?_)).trans h1.c⟩
  · obtain ⟨_, _, hc⟩ := owns_type1 hown e.symm
    exact types_apart1 hc h.x (by decide) rfl
  · obtain ⟨_, _, hc⟩ := owns_type1 hown e.symm
    exact types_apart1 hc h.y (by decide) rfl
  · obtain ⟨_, _, hc⟩ := owns_type1 hown e.symm
    exact types_apart1 hc h.c (by decide) rfl
end
set_option maxRecDepth 100000 in
set_option maxHeartbeats 64000000 in
theorem rdom4_calls {B : Nat} {w : World} {vd vs vl vw : Value} {p : P3} {x0 x1 x2 x3 x4 x5 : ByteArray} (h : PW B w vd vs vl p) (hBB : B ≤ w.heap.size) (hw : Reads w 1 vw 6 ([x0, x1, x2, x3, x4, x5].map Value.string)) (hs : ∀ x ∈ [x0, x1, x2, x3, x4, x5], x.size ≤ 140737488351232) (hk : x0.toList = [100, 111, 109, 97, 105, 110])
    (hv4 : (nameB (bl x1 0) = false ∨ 0 ≤ findD p.D x1) → lineM p [x0, x1, x2, x3, x4, x5] = (4, p)) (hv3 : nameB (bl x1 0) = true → findD p.D x1 < 0 → (readV x2).2.2 ≠ 0 → lineM p [x0, x1, x2, x3, x4, x5] = (3, p))
    (hvb : nameB (bl x1 0) = true → findD p.D x1 < 0 → (readV x2).2.2 = 0 → (rnumM x3 < 0 ∨ rnumM x4 < 0 ∨ rnumM x5 < 0) → lineM p [x0, x1, x2, x3, x4, x5] = (2, p))
    (hvo : nameB (bl x1 0) = true → findD p.D x1 < 0 → (readV x2).2.2 = 0 → (0 ≤ rnumM x3 ∧ 0 ≤ rnumM x4 ∧ 0 ≤ rnumM x5) → lineM p [x0, x1, x2, x3, x4, x5] = (0, ⟨p.D ++ [⟨x1, (readV x2).1, (readV x2).2.1, rnumM x3, rnumM x4, rnumM x5⟩], p.S, p.K⟩)) (hD : p.D.length ≤ 5000) :
    Calls Tryd.prog 32 #[.agg #[vd, vs, vl], vw] w fun e w' => ∃ vd' vs' vl', e = .returned (.tuple #[.agg #[vd', vs', vl'], .int .i64 (lineM p [x0, x1, x2, x3, x4, x5]).1]) ∧ PW B w' vd' vs' vl' (lineM p [x0, x1, x2, x3, x4, x5]).2 ∧ Below w.heap.size w w' := by
  obtain ⟨_, aw, cw, rfl, hw2, hw3, hw4⟩ := hw
  obtain ⟨bw, ow, rfl, hwc⟩ := hw4 (by omega)
  unfold maxLen at hw3
  have k0 : w.cell? ⟨bw, ow, none⟩ = some (.string x0) := hwc 0 _ rfl
  have k1 : w.cell? ⟨bw, ow + 1, none⟩ = some (.string x1) := hwc 1 _ rfl
  have k2 : w.cell? ⟨bw, ow + 2, none⟩ = some (.string x2) := hwc 2 _ rfl
  have k3 : w.cell? ⟨bw, ow + 3, none⟩ = some (.string x3) := hwc 3 _ rfl
  have k4 : w.cell? ⟨bw, ow + 4, none⟩ = some (.string x4) := hwc 4 _ rfl
  have k5 : w.cell? ⟨bw, ow + 5, none⟩ = some (.string x5) := hwc 5 _ rfl
  obtain ⟨ad, cd, rfl, d1, d2, _⟩ := owns_shape h.d
  obtain ⟨as', cs, rfl, s1, s2, _⟩ := owns_shape h.s
  obtain ⟨al, cl, rfl, l1, l2, _⟩ := owns_shape h.k
  unfold maxLen at d2
  have HP := Lib.hid h
  have HBB0 := Lib.hid hBB
  have HW := Lib.hid (block_lt_of_cell k0)
  have HRE := Lib.hid (fun u : World => rRead_calls x2 (hs x2 (by simp)) u)
  have HNA := Lib.hid (fun u : World => rName_calls x1 (hs x1 (by simp)) u)
  have HFI0 := Lib.hid (fun (u : World) (hu : Below w.heap.size w u) => rFind_calls (Reads.of_owns (HP.out.below hu).d) x1)
  have n3s := rnumber_calls x3 (hs x3 (by simp))
  have n4s := rnumber_calls x4 (hs x4 (by simp))
  have n5s := rnumber_calls x5 (hs x5 (by simp))
  generalize rnumM x3 = n3 at n3s hvb hvo
  generalize rnumM x4 = n4 at n4s hvb hvo
  generalize rnumM x5 = n5 at n5s hvb hvo
  generalize findD p.D x1 = f at HFI0 hv4 hv3 hvb hvo
  generalize nameB (bl x1 0) = nB at HNA hv4 hv3 hvb hvo
  unfold readOut lab at HRE
  generalize readV x2 = rv at HRE hv3 hvb hvo
  obtain ⟨l, c, er⟩ := rv
  simp only at HRE hv3 hvb hvo
  have HNU0 := Lib.hid n3s
  have HNU1 := Lib.hid n4s
  have HNU2 := Lib.hid n5s
  have HV4 := Lib.hid hv4
  have HV3 := Lib.hid hv3
  have HVB := Lib.hid hvb
  have HVO := Lib.hid hvo
  clear hwc hw4 h d1 s1 s2 l1 l2 hv4 hv3 hvb hvo hs hBB n3s n4s n5s
  go_enter Tryd.func32, Tryd.ntmps32
  have hbx := one_boxes w (.slice ad p.D.length cd) (.slice as' p.S.length cs) (.slice al p.K.length cl)
  go_upto_region 1 with (fail)
  obtain ⟨pb, hpb⟩ : ∃ pb, pb = w.heap.size := ⟨_, rfl⟩
  obtain ⟨rb, hrb⟩ : ∃ rb, rb = w.heap.size + 1 := ⟨_, rfl⟩
  have HNR := Lib.hid (show rb ≠ pb by omega)
  rw [← hrb, ← hpb] at hbx ⊢
  obtain ⟨⟨hx1, hx2⟩, hbw⟩ := hbx
  have HX1 := Lib.hid hx1
  have HX2 := Lib.hid hx2
  have HB2 := Lib.hid (show Below w.heap.size w _ by rw [hpb] at hbw; exact hbw)
  have hPB2 : w.heap.size ≤ pb ∧ w.heap.size ≤ rb := by omega
  clear hbw hpb hrb hx1 hx2
  generalize (w.alloc (.cells #[.slice ad p.D.length cd, .slice as' p.S.length cs, .slice al p.K.length cl] 26)).alloc (.cells #[.slice none 0 0, .slice none 0 0, .slice none 0 0] 26) = w2 at HX1 HX2 HB2 ⊢
  have k0' : w2.cell? ⟨bw, ow, none⟩ = some (.string x0) := below_cell1 HB2.out HW.out k0
  clear k0
  go_wp2_with fail
  go_loopw [9] (fun u9 wr => u9 = .int .i64 0 ∧ Below w2.heap.size w2 wr) (fun _ _ => 0)
  case atStart => exact ⟨rfl, plus_one1 w2 _⟩
  case round =>
  obtain ⟨rfl, hb3⟩ := hrel
  have HD0a := Lib.hid (D4.start (HB2.out.trans (hb3.mono HB2.out.size)) (HX1.out.below hb3) (HX2.out.below hb3))
  have HSZ := Lib.hid (Nat.le_trans HB2.out.size hb3.size)
  clear k0' hb3
  go_upto_region 20 with (fail)
  obtain ⟨db, hdb⟩ : ∃ db, db = wr.heap.size := ⟨_, rfl⟩
  have HPB := Lib.hid (show w.heap.size ≤ pb ∧ w.heap.size ≤ rb ∧ w.heap.size ≤ db from ⟨hPB2.1, hPB2.2, by rw [hdb]; exact HSZ.out⟩)
  rw [← hdb] at HD0a ⊢
  refine name_wp (fun W0 hW0 => ?_)
  have HD0 := Lib.hid (show D4 w pb rb db (.slice ad p.D.length cd) (.slice as' p.S.length cs) (.slice al p.K.length cl) ⟨ByteArray.empty, 0, 0, 0, 0, 0⟩ W0 by rw [hW0]; exact HD0a.out)
  clear hdb HX1 HX2 HB2 hPB2 HD0a hW0 HSZ
  have g0 : ∀ t : BW W0, t.at_.cell? ⟨pb, 0, none⟩ = some (.slice ad p.D.length cd) := fun t => blk_cell (HD0.out.below t.ok).x 0
  have g1 : ∀ t : BW W0, t.at_.cell? ⟨bw, ow + 1, none⟩ = some (.string x1) := fun t => below_cell1 (HD0.out.below t.ok).bl HW.out k1
  have HFI := Lib.hid (fun t : BW W0 => HFI0.out t.at_ (HD0.out.below t.ok).bl)
  clear HFI0
  cases nB with
  | false =>
    have HV := Lib.hid (HV4.out (.inl rfl))
    go_wp2_with fail
    refine wp_region_quiet_bw (by kernel_rfl) (by kernel_rfl) ?_
    repeat (go_big_quiet_step (first | (go_at_call 25; with_reducible refine Calls.bw _ (HNA.out _)) | (go_at_call 26; with_reducible refine Calls.bw_same _ (HFI.out _))))
    refine wpQuiet_nil ?_
    intro _ hw'
    obtain ⟨tq, rfl⟩ := hw'
    clear g0 g1
    have HD2 := Lib.hid (HD0.out.below tq.ok)
    obtain ⟨W2, hW2⟩ : ∃ W2, W2 = tq.at_ := ⟨_, rfl⟩
    rw [← hW2] at HD2 ⊢
    clear hW2 HNA HFI
    have e0 : W2.cell? ⟨pb, 0, none⟩ = some (.slice ad p.D.length cd) := blk_cell HD2.out.x 0
    have e1 : W2.cell? ⟨pb, 1, none⟩ = some (.slice as' p.S.length cs) := blk_cell HD2.out.x 1
    have e2 : W2.cell? ⟨pb, 2, none⟩ = some (.slice al p.K.length cl) := blk_cell HD2.out.x 2
    have r0 : W2.cell? ⟨rb, 0, none⟩ = some (.slice none 0 0) := blk_cell HD2.out.y 0
    have f0 : W2.frozen? ⟨rb, 0, none⟩ = false := blk_free HD2.out.y 0
    have r1 : W2.cell? ⟨rb, 1, none⟩ = some (.slice none 0 0) := blk_cell HD2.out.y 1
    have f1 : W2.frozen? ⟨rb, 1, none⟩ = false := blk_free HD2.out.y 1
    have r2 : W2.cell? ⟨rb, 2, none⟩ = some (.slice none 0 0) := blk_cell HD2.out.y 2
    have f2 : W2.frozen? ⟨rb, 2, none⟩ = false := blk_free HD2.out.y 2
    go_wp2_with fail
    refine bodyPost_ret (pol_ret4 rfl _ _ rb _ _ _ rfl (HD2.out.y.put _ _ _)) rfl ?_
    rw [HV.out]
    exact ⟨_, _, _, rfl, (HP.out.below HD2.out.bl).put HD2.out.y _ _ _, below_put HD2.out.bl HPB.out.2.1 _ _ _⟩
  | true =>
  by_cases hf : 0 ≤ f
  · have HV := Lib.hid (HV4.out (.inr hf))
    go_wp2_with fail
    refine wp_region_quiet_bw (by kernel_rfl) (by kernel_rfl) ?_
    repeat (go_big_quiet_step (first | (go_at_call 25; with_reducible refine Calls.bw _ (HNA.out _)) | (go_at_call 26; with_reducible refine Calls.bw_same _ (HFI.out _))))
    refine wpQuiet_nil ?_
    intro _ hw'
    obtain ⟨tq, rfl⟩ := hw'
    clear g0 g1
    have HD2 := Lib.hid (HD0.out.below tq.ok)
    obtain ⟨W2, hW2⟩ : ∃ W2, W2 = tq.at_ := ⟨_, rfl⟩
    rw [← hW2] at HD2 ⊢
    clear hW2 HNA HFI
    have e0 : W2.cell? ⟨pb, 0, none⟩ = some (.slice ad p.D.length cd) := blk_cell HD2.out.x 0
    have e1 : W2.cell? ⟨pb, 1, none⟩ = some (.slice as' p.S.length cs) := blk_cell HD2.out.x 1
    have e2 : W2.cell? ⟨pb, 2, none⟩ = some (.slice al p.K.length cl) := blk_cell HD2.out.x 2
    have r0 : W2.cell? ⟨rb, 0, none⟩ = some (.slice none 0 0) := blk_cell HD2.out.y 0
    have f0 : W2.frozen? ⟨rb, 0, none⟩ = false := blk_free HD2.out.y 0
    have r1 : W2.cell? ⟨rb, 1, none⟩ = some (.slice none 0 0) := blk_cell HD2.out.y 1
    have f1 : W2.frozen? ⟨rb, 1, none⟩ = false := blk_free HD2.out.y 1
    have r2 : W2.cell? ⟨rb, 2, none⟩ = some (.slice none 0 0) := blk_cell HD2.out.y 2
    have f2 : W2.frozen? ⟨rb, 2, none⟩ = false := blk_free HD2.out.y 2
    go_wp2_with fail
    refine bodyPost_ret (pol_ret4 rfl _ _ rb _ _ _ rfl (HD2.out.y.put _ _ _)) rfl ?_
    rw [HV.out]
    exact ⟨_, _, _, rfl, (HP.out.below HD2.out.bl).put HD2.out.y _ _ _, below_put HD2.out.bl HPB.out.2.1 _ _ _⟩
  have hf' : f < 0 := by omega
  have HV3b := Lib.hid (HV3.out rfl hf')
  have HVB1 := Lib.hid (HVB.out rfl hf')
  have HVO1 := Lib.hid (HVO.out rfl hf')
  go_wp2_with fail
  refine wp_region_quiet_bw (by kernel_rfl) (by kernel_rfl) ?_
  repeat (go_big_quiet_step (first | (go_at_call 25; with_reducible refine Calls.bw _ (HNA.out _)) | (go_at_call 26; with_reducible refine Calls.bw_same _ (HFI.out _))))
  refine wpQuiet_nil ?_
  intro _ hw'
  obtain ⟨tq, rfl⟩ := hw'
  clear g0 g1
  have HD2 := Lib.hid (HD0.out.below tq.ok)
  obtain ⟨W2, hW2⟩ : ∃ W2, W2 = tq.at_ := ⟨_, rfl⟩
  rw [← hW2] at HD2 ⊢
  clear hW2 HNA HFI
  clear HV3 HVB HVO HV4 HD0
  have q2 : W2.cell? ⟨bw, ow + 2, none⟩ = some (.string x2) := below_cell1 HD2.out.bl HW.out k2
  go_wp2_with fail
  refine (HRE.out _).mono ?_
  rintro _ w3 ⟨rfl, hb3⟩
  have HD3 := Lib.hid (HD2.out.below hb3)
  clear hb3 q2 HD2 HRE
  by_cases her : er = 0
  case neg =>
    have her' : (er == 0) = false := by simpa using her
    have HV := Lib.hid (HV3b.out her)
    have HDA := Lib.hid (HD3.out.below (plus_one1 w3 (.cells #[.int .i64 l, .int .i64 c] 35)))
    go_upto_region 25 with (fail)
    generalize w3.alloc (.cells #[.int .i64 l, .int .i64 c] 35) = W4 at HDA ⊢
    have e0 : W4.cell? ⟨pb, 0, none⟩ = some (.slice ad p.D.length cd) := blk_cell HDA.out.x 0
    have e1 : W4.cell? ⟨pb, 1, none⟩ = some (.slice as' p.S.length cs) := blk_cell HDA.out.x 1
    have e2 : W4.cell? ⟨pb, 2, none⟩ = some (.slice al p.K.length cl) := blk_cell HDA.out.x 2
    have r0 : W4.cell? ⟨rb, 0, none⟩ = some (.slice none 0 0) := blk_cell HDA.out.y 0
    have f0 : W4.frozen? ⟨rb, 0, none⟩ = false := blk_free HDA.out.y 0
    have r1 : W4.cell? ⟨rb, 1, none⟩ = some (.slice none 0 0) := blk_cell HDA.out.y 1
    have f1 : W4.frozen? ⟨rb, 1, none⟩ = false := blk_free HDA.out.y 1
    have r2 : W4.cell? ⟨rb, 2, none⟩ = some (.slice none 0 0) := blk_cell HDA.out.y 2
    have f2 : W4.frozen? ⟨rb, 2, none⟩ = false := blk_free HDA.out.y 2
    go_wp2_with fail
    refine bodyPost_ret (pol_ret4 rfl _ _ rb _ _ _ rfl (HDA.out.y.put _ _ _)) rfl ?_
    rw [HV.out]
    exact ⟨_, _, _, rfl, (HP.out.below HDA.out.bl).put HDA.out.y _ _ _, below_put HDA.out.bl HPB.out.2.1 _ _ _⟩
  case pos =>
  subst her
  have HVB2 := Lib.hid (HVB1.out rfl)
  have HVO2 := Lib.hid (HVO1.out rfl)
  clear HVB1 HVO1 HV3b
  have HDA := Lib.hid (HD3.out.below (plus_one1 w3 (.cells #[.int .i64 l, .int .i64 c] 35)))
  have HXA := Lib.hid (show (w3.alloc (.cells #[.int .i64 l, .int .i64 c] 35)).heap[w3.heap.size]? = some (.cells #[.int .i64 l, .int .i64 c] 35 (0, 0)) from heap_alloc_new w3 _)
  go_upto_region 25 with (fail)
  obtain ⟨lb, hlb⟩ : ∃ lb, lb = w3.heap.size := ⟨_, rfl⟩
  rw [← hlb] at HXA ⊢
  generalize w3.alloc (.cells #[.int .i64 l, .int .i64 c] 35) = wl at HDA HXA ⊢
  have HLD := Lib.hid (show lb ≠ db ∧ bw ≠ db from ⟨types_apart1 HXA.out HDA.out.c (by decide), by have := HW.out; have := HPB.out.2.2; omega⟩)
  have q0 : wl.cell? ⟨lb, 0, none⟩ = some (.int .i64 l) := blk_cell HXA.out 0
  have q1 : wl.cell? ⟨lb, 1, none⟩ = some (.int .i64 c) := blk_cell HXA.out 1
  have q2 : wl.cell? ⟨bw, ow + 1, none⟩ = some (.string x1) := below_cell1 HDA.out.bl HW.out k1
  have HD := Lib.hid HDA.out
  clear hlb HXA HDA HD3
  go_wp2_with fail
  refine wp_region_W 9 7 (fun w' : World => ∀ k, k ≠ db → w'.heap[k]? = wl.heap[k]?) (by kernel_rfl) (by kernel_rfl) (fun _ _ => rfl) (fun hT => ?_)
  refine wpAnyW_take (i := 0) (some 85) rfl rfl (by kernel_rfl) (by kernel_rfl) (by kernel_rfl) (by kernel_rfl) (fun _ _ _ h => h) (v := ?_) (.inl ⟨by rfl, ?_⟩) (.inr hT) ?_
  rotate_left
  · (intro wT _; go_simp <;> with_reducible rfl)
  simp only [Act.put, List.setIfInBounds_toArray, List.set_cons_zero, List.set_cons_succ]
  refine wpAnyW_take (i := 1) (some 86) rfl rfl (by kernel_rfl) (by kernel_rfl) (by kernel_rfl) (by kernel_rfl) (fun _ _ _ h => h) (v := ?_) (.inl ⟨by rfl, ?_⟩) (.inr hT) ?_
  rotate_left
  · (intro wT _; go_simp <;> with_reducible rfl)
  simp only [Act.put, List.setIfInBounds_toArray, List.set_cons_zero, List.set_cons_succ]
  refine wpAnyW_load (i := 2) (some 87) rfl rfl (by kernel_rfl) (by kernel_rfl) (by kernel_rfl) (by kernel_rfl) (by kernel_rfl) (fun _ _ _ h => h) (v := ?_) (.inl ⟨by rfl, ?_⟩) hT ?_
  rotate_left
  · (intro wT hT; try dsimp only at hT); (have t0 : wT.cell? ⟨lb, 0, none⟩ = some (.int .i64 l) := (World.cell?_of_block (hT lb HLD.out.1)).trans q0); (have t1 : wT.cell? ⟨lb, 1, none⟩ = some (.int .i64 c) := (World.cell?_of_block (hT lb HLD.out.1)).trans q1); (have t2 : wT.cell? ⟨bw, ow + 1, none⟩ = some (.string x1) := (World.cell?_of_block (hT bw HLD.out.2)).trans q2); clear hT; (go_simp <;> with_reducible rfl)
  simp only [Act.put, List.setIfInBounds_toArray, List.set_cons_zero, List.set_cons_succ]
  refine wpAnyW_load (i := 3) (some 88) rfl rfl (by kernel_rfl) (by kernel_rfl) (by kernel_rfl) (by kernel_rfl) (by kernel_rfl) (fun _ _ _ h => h) (v := ?_) (.inl ⟨by rfl, ?_⟩) hT ?_
  rotate_left
  · (intro wT hT; try dsimp only at hT); (have t0 : wT.cell? ⟨lb, 0, none⟩ = some (.int .i64 l) := (World.cell?_of_block (hT lb HLD.out.1)).trans q0); (have t1 : wT.cell? ⟨lb, 1, none⟩ = some (.int .i64 c) := (World.cell?_of_block (hT lb HLD.out.1)).trans q1); (have t2 : wT.cell? ⟨bw, ow + 1, none⟩ = some (.string x1) := (World.cell?_of_block (hT bw HLD.out.2)).trans q2); clear hT; (go_simp <;> with_reducible rfl)
  simp only [Act.put, List.setIfInBounds_toArray, List.set_cons_zero, List.set_cons_succ]
  refine wpAnyW_take (i := 4) (some 89) rfl rfl (by kernel_rfl) (by kernel_rfl) (by kernel_rfl) (by kernel_rfl) (fun _ _ _ h => h) (v := ?_) (.inl ⟨by rfl, ?_⟩) (.inr hT) ?_
  rotate_left
  · (intro wT _; go_simp <;> with_reducible rfl)
  simp only [Act.put, List.setIfInBounds_toArray, List.set_cons_zero, List.set_cons_succ]
  refine wpAnyW_one (i := 5) (by kernel_rfl) rfl (fun K hK => ?_)
  have z5 : wl.drew.frozen? ⟨db, 0, none⟩ = false := blk_free (HD.out.below (Below.refl _ _).drew).c 0
  have y5 : wl.drew.cell? ⟨db, 0, none⟩ = some (.string ByteArray.empty) := blk_cell (HD.out.below (Below.refl _ _).drew).c 0
  go_simp
  refine step_owe hK ?_ (fun hT => ?_)
  · exact fun k hk => (heap_setCell_other _ _ _ _ hk).trans (hT k hk)
  clear hK K
  refine wpAnyW_take (i := 6) (some 90) rfl rfl (by kernel_rfl) (by kernel_rfl) (by kernel_rfl) (by kernel_rfl) (fun _ _ _ h => h) (v := ?_) (.inl ⟨by rfl, ?_⟩) (.inr hT) ?_
  rotate_left
  · (intro wT _; go_simp <;> with_reducible rfl)
  simp only [Act.put, List.setIfInBounds_toArray, List.set_cons_zero, List.set_cons_succ]
  refine wpAnyW_one (i := 7) (by kernel_rfl) rfl (fun K hK => ?_)
  clear z5 y5
  have HD5 := Lib.hid ((HD.out.set HPB.out.2.2 0 (.string x1) (d' := ⟨x1, 0, 0, 0, 0, 0⟩) rfl).below (Below.refl _ _).drew)
  generalize (wl.setCell ⟨db, 0, none⟩ (.string x1)).drew = W5 at HD5 ⊢
  have z7 : W5.frozen? ⟨db, 1, none⟩ = false := blk_free HD5.out.c 1
  have z8 : W5.frozen? ⟨db, 2, none⟩ = false := blk_free HD5.out.c 2
  have y7 : W5.cell? ⟨db, 1, none⟩ = some (.int .i64 0) := blk_cell HD5.out.c 1
  have y8 : W5.cell? ⟨db, 2, none⟩ = some (.int .i64 0) := blk_cell HD5.out.c 2
  go_simp
  refine step_paid hK (by kernel_rfl) ?_
  clear hK K
  refine wpAnyW_take (i := 8) (some 11) rfl rfl (by kernel_rfl) (by kernel_rfl) (by kernel_rfl) (by kernel_rfl) (fun _ _ _ h => h) (v := ?_) (.inl ⟨by rfl, ?_⟩) (.inl (by kernel_rfl)) ?_
  rotate_left
  · (intro wT _; go_simp <;> with_reducible rfl)
  simp only [Act.put, List.setIfInBounds_toArray, List.set_cons_zero, List.set_cons_succ]
  refine wpAnyW_done (by kernel_rfl) ?_
  refine name_q (fun W8 hW8 => ?_)
  have HD8 := Lib.hid (show D4 w pb rb db (.slice ad p.D.length cd) (.slice as' p.S.length cs) (.slice al p.K.length cl) ⟨x1, l, c, 0, 0, 0⟩ W8 by rw [hW8]; exact (HD5.out.set HPB.out.2.2 1 (.int .i64 l) (d' := ⟨x1, l, 0, 0, 0, 0⟩) rfl).set HPB.out.2.2 2 (.int .i64 c) (d' := ⟨x1, l, c, 0, 0, 0⟩) rfl)
  clear hW8 HD5 z7 z8 y7 y8 q0 q1 q2
  clear HD HLD
  go_upto_block 3 with (fail)
  refine name_wp (fun W5 hW5 => ?_)
  have HS5 := Lib.hid (HD8.out.below (w' := W5) (by rw [hW5]; exact plus_one1 _ _))
  have HO5 := Lib.hid (show W5.ownsRow w.heap.size 3 1 (.slice (some ⟨W8.heap.size, 0, none⟩) 0 0) 0 (ints []) by
    rw [hW5]
    exact owns_emptyK _ HD8.out.bl.size)
  clear hW5 HD8
  generalize W8.heap.size = nb0 at HO5 ⊢
  go_cut [11, 14] (fun _ u14 wx => D4 w pb rb db (.slice ad p.D.length cd) (.slice as' p.S.length cs) (.slice al p.K.length cl) ⟨x1, l, c, 0, 0, 0⟩ wx ∧ wx.ownsRow w.heap.size 3 1 u14 3 (ints [n3, n4, n5]) ∧ 0 ≤ n3 ∧ 0 ≤ n4 ∧ 0 ≤ n5)
  case first => as_aux_lemma =>
    go_wp2_with fail
    go_loopw [11, 14] (fun u11 u14 wr => ∃ v, u14 = v ∧ D4 w pb rb db (.slice ad p.D.length cd) (.slice as' p.S.length cs) (.slice al p.K.length cl) ⟨x1, l, c, 0, 0, 0⟩ wr ∧ ((u11 = .int .i64 3 ∧ wr.ownsRow w.heap.size 3 1 v 0 (ints [])) ∨ (u11 = .int .i64 4 ∧ 0 ≤ n3 ∧ wr.ownsRow w.heap.size 3 1 v 1 (ints [n3])) ∨ (u11 = .int .i64 5 ∧ 0 ≤ n3 ∧ 0 ≤ n4 ∧ wr.ownsRow w.heap.size 3 1 v 2 (ints [n3, n4])) ∨ (u11 = .int .i64 6 ∧ 0 ≤ n3 ∧ 0 ≤ n4 ∧ 0 ≤ n5 ∧ wr.ownsRow w.heap.size 3 1 v 3 (ints [n3, n4, n5])))) (fun u _ _ => 6 - (intOf u).toNat)
    case atStart => exact ⟨_, rfl, HS5.out, .inl ⟨rfl, HO5.out⟩⟩
    case round =>
      obtain ⟨v, rfl, hs, hst⟩ := hrel
      have HS := Lib.hid hs
      clear hs HS5 HO5
      rcases hst with ⟨rfl, hown⟩ | ⟨rfl, hq0, hown⟩ | ⟨rfl, hq0, hq1, hown⟩ | ⟨rfl, hq0, hq1, hq2, hown⟩
      · have kw : wr.cell? ⟨bw, ow + 3, none⟩ = some (.string x3) := below_cell1 HS.out.bl HW.out k3
        have HO := Lib.hid hown
        by_cases hneg : n3 < 0
        · have HV := Lib.hid (HVB2.out (.inl hneg))
          have e0 : wr.cell? ⟨pb, 0, none⟩ = some (.slice ad p.D.length cd) := blk_cell HS.out.x 0
          have e1 : wr.cell? ⟨pb, 1, none⟩ = some (.slice as' p.S.length cs) := blk_cell HS.out.x 1
          have e2 : wr.cell? ⟨pb, 2, none⟩ = some (.slice al p.K.length cl) := blk_cell HS.out.x 2
          have r0 : wr.cell? ⟨rb, 0, none⟩ = some (.slice none 0 0) := blk_cell HS.out.y 0
          have f0 : wr.frozen? ⟨rb, 0, none⟩ = false := blk_free HS.out.y 0
          have r1 : wr.cell? ⟨rb, 1, none⟩ = some (.slice none 0 0) := blk_cell HS.out.y 1
          have f1 : wr.frozen? ⟨rb, 1, none⟩ = false := blk_free HS.out.y 1
          have r2 : wr.cell? ⟨rb, 2, none⟩ = some (.slice none 0 0) := blk_cell HS.out.y 2
          have f2 : wr.frozen? ⟨rb, 2, none⟩ = false := blk_free HS.out.y 2
          go_wp2_with fail
          refine (HNU0.out _).mono ?_
          rintro _ wr ⟨rfl, rfl⟩
          go_wp2_with fail
          refine bodyPost_ret (pol_ret4 rfl _ _ rb _ _ _ rfl (HS.out.y.put _ _ _)) rfl ?_
          rw [HV.out]
          exact ⟨_, _, _, rfl, (HP.out.below HS.out.bl).put HS.out.y _ _ _, below_put HS.out.bl HPB.out.2.1 _ _ _⟩
        have hpos : 0 ≤ n3 := by omega
        have hbs := HS.out.bl.size
        obtain ⟨i0, hi, hz0, hz1, hz2⟩ := info_parts Tryd.info_int
        have HI0 := Lib.hid hi
        clear hi
        go_wp2_with fail
        refine (HNU0.out _).mono ?_
        rintro _ wr ⟨rfl, rfl⟩
        go_wp2_with (at_builtin; go_loud (refine wpList_append_from rfl (.tmp 105) (.tmp 107) 100 rfl w.heap.size 3 i0 (.int .i64 0) 1 8 Tryd.underlying100 HI0.out hz0 hz1 hz2 rfl (by decide) u14 0 (ints []) rfl (HO.out.alloc _) (.slice (some ⟨wr.heap.size, 0, none⟩) 1 1) 1 (ints [n3]) rfl (one_reads _ _ _) (.inr ⟨_, _, _, _, rfl⟩) (ints_one _) (by unfold maxLen; omega) (by omega) (Nat.le_trans hbs (plus_one1 _ _).size) ?_))
        intro v4 w4 own4 gr4 at4
        have HO4 := Lib.hid (show w4.ownsRow w.heap.size 3 1 v4 1 (ints [n3]) by simpa [ints] using own4)
        have HS9 := Lib.hid (HS.out.grow (o := .cells #[.int .i64 n3] 3) gr4 HO.out)
        clear own4 gr4 at4 hown
        go_wp2_with fail
        go_roundw
        case rel => exact ⟨_, rfl, HS9.out, .inr (.inl ⟨rfl, hpos, HO4.out⟩)⟩
        case measure => simp [intOf] <;> omega
      · have kw : wr.cell? ⟨bw, ow + 4, none⟩ = some (.string x4) := below_cell1 HS.out.bl HW.out k4
        have HO := Lib.hid hown
        by_cases hneg : n4 < 0
        · have HV := Lib.hid (HVB2.out (.inr (.inl hneg)))
          have e0 : wr.cell? ⟨pb, 0, none⟩ = some (.slice ad p.D.length cd) := blk_cell HS.out.x 0
          have e1 : wr.cell? ⟨pb, 1, none⟩ = some (.slice as' p.S.length cs) := blk_cell HS.out.x 1
          have e2 : wr.cell? ⟨pb, 2, none⟩ = some (.slice al p.K.length cl) := blk_cell HS.out.x 2
          have r0 : wr.cell? ⟨rb, 0, none⟩ = some (.slice none 0 0) := blk_cell HS.out.y 0
          have f0 : wr.frozen? ⟨rb, 0, none⟩ = false := blk_free HS.out.y 0
          have r1 : wr.cell? ⟨rb, 1, none⟩ = some (.slice none 0 0) := blk_cell HS.out.y 1
          have f1 : wr.frozen? ⟨rb, 1, none⟩ = false := blk_free HS.out.y 1
          have r2 : wr.cell? ⟨rb, 2, none⟩ = some (.slice none 0 0) := blk_cell HS.out.y 2
          have f2 : wr.frozen? ⟨rb, 2, none⟩ = false := blk_free HS.out.y 2
          go_wp2_with fail
          refine (HNU1.out _).mono ?_
          rintro _ wr ⟨rfl, rfl⟩
          go_wp2_with fail
          refine bodyPost_ret (pol_ret4 rfl _ _ rb _ _ _ rfl (HS.out.y.put _ _ _)) rfl ?_
          rw [HV.out]
          exact ⟨_, _, _, rfl, (HP.out.below HS.out.bl).put HS.out.y _ _ _, below_put HS.out.bl HPB.out.2.1 _ _ _⟩
        have hpos : 0 ≤ n4 := by omega
        have hbs := HS.out.bl.size
        obtain ⟨i0, hi, hz0, hz1, hz2⟩ := info_parts Tryd.info_int
        have HI0 := Lib.hid hi
        clear hi
        go_wp2_with fail
        refine (HNU1.out _).mono ?_
        rintro _ wr ⟨rfl, rfl⟩
        go_wp2_with (at_builtin; go_loud (refine wpList_append_from rfl (.tmp 105) (.tmp 107) 100 rfl w.heap.size 3 i0 (.int .i64 0) 1 8 Tryd.underlying100 HI0.out hz0 hz1 hz2 rfl (by decide) u14 1 (ints [n3]) rfl (HO.out.alloc _) (.slice (some ⟨wr.heap.size, 0, none⟩) 1 1) 1 (ints [n4]) rfl (one_reads _ _ _) (.inr ⟨_, _, _, _, rfl⟩) (ints_one _) (by unfold maxLen; omega) (by omega) (Nat.le_trans hbs (plus_one1 _ _).size) ?_))
        intro v4 w4 own4 gr4 at4
        have HO4 := Lib.hid (show w4.ownsRow w.heap.size 3 1 v4 2 (ints [n3, n4]) by simpa [ints] using own4)
        have HS9 := Lib.hid (HS.out.grow (o := .cells #[.int .i64 n4] 3) gr4 HO.out)
        clear own4 gr4 at4 hown
        go_wp2_with fail
        go_roundw
        case rel => exact ⟨_, rfl, HS9.out, .inr (.inr (.inl ⟨rfl, hq0, hpos, HO4.out⟩))⟩
        case measure => simp [intOf] <;> omega
      · have kw : wr.cell? ⟨bw, ow + 5, none⟩ = some (.string x5) := below_cell1 HS.out.bl HW.out k5
        have HO := Lib.hid hown
        by_cases hneg : n5 < 0
        · have HV := Lib.hid (HVB2.out (.inr (.inr hneg)))
          have e0 : wr.cell? ⟨pb, 0, none⟩ = some (.slice ad p.D.length cd) := blk_cell HS.out.x 0
          have e1 : wr.cell? ⟨pb, 1, none⟩ = some (.slice as' p.S.length cs) := blk_cell HS.out.x 1
          have e2 : wr.cell? ⟨pb, 2, none⟩ = some (.slice al p.K.length cl) := blk_cell HS.out.x 2
          have r0 : wr.cell? ⟨rb, 0, none⟩ = some (.slice none 0 0) := blk_cell HS.out.y 0
          have f0 : wr.frozen? ⟨rb, 0, none⟩ = false := blk_free HS.out.y 0
          have r1 : wr.cell? ⟨rb, 1, none⟩ = some (.slice none 0 0) := blk_cell HS.out.y 1
          have f1 : wr.frozen? ⟨rb, 1, none⟩ = false := blk_free HS.out.y 1
          have r2 : wr.cell? ⟨rb, 2, none⟩ = some (.slice none 0 0) := blk_cell HS.out.y 2
          have f2 : wr.frozen? ⟨rb, 2, none⟩ = false := blk_free HS.out.y 2
          go_wp2_with fail
          refine (HNU2.out _).mono ?_
          rintro _ wr ⟨rfl, rfl⟩
          go_wp2_with fail
          refine bodyPost_ret (pol_ret4 rfl _ _ rb _ _ _ rfl (HS.out.y.put _ _ _)) rfl ?_
          rw [HV.out]
          exact ⟨_, _, _, rfl, (HP.out.below HS.out.bl).put HS.out.y _ _ _, below_put HS.out.bl HPB.out.2.1 _ _ _⟩
        have hpos : 0 ≤ n5 := by omega
        have hbs := HS.out.bl.size
        obtain ⟨i0, hi, hz0, hz1, hz2⟩ := info_parts Tryd.info_int
        have HI0 := Lib.hid hi
        clear hi
        go_wp2_with fail
        refine (HNU2.out _).mono ?_
        rintro _ wr ⟨rfl, rfl⟩
        go_wp2_with (at_builtin; go_loud (refine wpList_append_from rfl (.tmp 105) (.tmp 107) 100 rfl w.heap.size 3 i0 (.int .i64 0) 1 8 Tryd.underlying100 HI0.out hz0 hz1 hz2 rfl (by decide) u14 2 (ints [n3, n4]) rfl (HO.out.alloc _) (.slice (some ⟨wr.heap.size, 0, none⟩) 1 1) 1 (ints [n5]) rfl (one_reads _ _ _) (.inr ⟨_, _, _, _, rfl⟩) (ints_one _) (by unfold maxLen; omega) (by omega) (Nat.le_trans hbs (plus_one1 _ _).size) ?_))
        intro v4 w4 own4 gr4 at4
        have HO4 := Lib.hid (show w4.ownsRow w.heap.size 3 1 v4 3 (ints [n3, n4, n5]) by simpa [ints] using own4)
        have HS9 := Lib.hid (HS.out.grow (o := .cells #[.int .i64 n5] 3) gr4 HO.out)
        clear own4 gr4 at4 hown
        go_wp2_with fail
        go_roundw
        case rel => exact ⟨_, rfl, HS9.out, .inr (.inr (.inr ⟨rfl, hq0, hq1, hpos, HO4.out⟩))⟩
        case measure => simp [intOf] <;> omega
      · have HO := Lib.hid hown
        clear hown
        go_wp2_with fail
        go_meet
        exact ⟨HS.out, HO.out, hq0, hq1, hq2⟩
  case rest =>
  obtain ⟨hsl, hown, hq0, hq1, hq2⟩ := hcut
  have HV := Lib.hid (HVO2.out ⟨hq0, hq1, hq2⟩)
  obtain ⟨nb, cnb, rfl, hnc, _, hnlt⟩ := owns_pos hown (by omega)
  have HRN := Lib.hid (show ∀ j u, (ints [n3, n4, n5])[j]? = some u → wc.cell? ⟨nb, j, none⟩ = some u by
    obtain ⟨_, _, _, e, _, _, hh⟩ := Reads.of_owns hown
    injection e with e1 e2 e3
    obtain ⟨b', o', e4, hh⟩ := hh (by omega)
    obtain ⟨cs0, fr0, hc0⟩ := owns_type1 hown rfl
    intro j u hj
    rw [← e1] at e4
    injection e4 with e4
    injection e4 with e4 e5
    subst e4 e5
    have := hh j u hj
    rwa [Nat.zero_add] at this)
  obtain ⟨wl, hwl⟩ : ∃ wl, wl = wc := ⟨_, rfl⟩
  rw [← hwl] at HRN hsl hown hnlt ⊢
  have q0 : wl.cell? ⟨nb, 0, none⟩ = some (.int .i64 n3) := HRN.out 0 _ rfl
  have q1 : wl.cell? ⟨nb, 1, none⟩ = some (.int .i64 n4) := HRN.out 1 _ rfl
  have q2 : wl.cell? ⟨nb, 2, none⟩ = some (.int .i64 n5) := HRN.out 2 _ rfl
  have HND := Lib.hid (show nb ≠ db by
    obtain ⟨cs0, fr0, hc0⟩ := owns_type1 hown rfl
    exact types_apart1 hc0 hsl.c (by decide))
  have HD := Lib.hid hsl
  clear hsl hown hwl hq0 hq1 hq2 hnlt HRN HVB2 HVO2 HNU0 HNU1 HNU2 HS5 HO5
  go_wp2_with fail
  refine wp_region_W 15 14 (fun w' : World => ∀ k, k ≠ db → w'.heap[k]? = wl.heap[k]?) (by kernel_rfl) (by kernel_rfl) (fun _ _ => rfl) (fun hT => ?_)
  refine wpAnyW_take (i := 0) (some 111) rfl rfl (by kernel_rfl) (by kernel_rfl) (by kernel_rfl) (by kernel_rfl) (fun _ _ _ h => h) (v := ?_) (.inl ⟨by rfl, ?_⟩) (.inr hT) ?_
  rotate_left
  · (intro wT _; go_simp <;> with_reducible rfl)
  simp only [Act.put, List.setIfInBounds_toArray, List.set_cons_zero, List.set_cons_succ]
  refine wpAnyW_take (i := 1) (some 112) rfl rfl (by kernel_rfl) (by kernel_rfl) (by kernel_rfl) (by kernel_rfl) (fun _ _ _ h => h) (v := ?_) (.inl ⟨by rfl, ?_⟩) (.inr hT) ?_
  rotate_left
  · (intro wT _; go_simp <;> with_reducible rfl)
  simp only [Act.put, List.setIfInBounds_toArray, List.set_cons_zero, List.set_cons_succ]
  refine wpAnyW_load (i := 2) (some 113) rfl rfl (by kernel_rfl) (by kernel_rfl) (by kernel_rfl) (by kernel_rfl) (by kernel_rfl) (fun _ _ _ h => h) (v := ?_) (.inl ⟨by rfl, ?_⟩) hT ?_
  rotate_left
  · (intro wT hT; try dsimp only at hT); (have t0 : wT.cell? ⟨nb, 0, none⟩ = some (.int .i64 n3) := (World.cell?_of_block (hT nb HND.out)).trans q0); (have t1 : wT.cell? ⟨nb, 1, none⟩ = some (.int .i64 n4) := (World.cell?_of_block (hT nb HND.out)).trans q1); (have t2 : wT.cell? ⟨nb, 2, none⟩ = some (.int .i64 n5) := (World.cell?_of_block (hT nb HND.out)).trans q2); clear hT; (go_simp <;> with_reducible rfl)
  simp only [Act.put, List.setIfInBounds_toArray, List.set_cons_zero, List.set_cons_succ]
  refine wpAnyW_take (i := 3) (some 114) rfl rfl (by kernel_rfl) (by kernel_rfl) (by kernel_rfl) (by kernel_rfl) (fun _ _ _ h => h) (v := ?_) (.inl ⟨by rfl, ?_⟩) (.inr hT) ?_
  rotate_left
  · (intro wT _; go_simp <;> with_reducible rfl)
  simp only [Act.put, List.setIfInBounds_toArray, List.set_cons_zero, List.set_cons_succ]
  refine wpAnyW_take (i := 4) (some 115) rfl rfl (by kernel_rfl) (by kernel_rfl) (by kernel_rfl) (by kernel_rfl) (fun _ _ _ h => h) (v := ?_) (.inl ⟨by rfl, ?_⟩) (.inr hT) ?_
  rotate_left
  · (intro wT _; go_simp <;> with_reducible rfl)
  simp only [Act.put, List.setIfInBounds_toArray, List.set_cons_zero, List.set_cons_succ]
  refine wpAnyW_load (i := 5) (some 116) rfl rfl (by kernel_rfl) (by kernel_rfl) (by kernel_rfl) (by kernel_rfl) (by kernel_rfl) (fun _ _ _ h => h) (v := ?_) (.inl ⟨by rfl, ?_⟩) hT ?_
  rotate_left
  · (intro wT hT; try dsimp only at hT); (have t0 : wT.cell? ⟨nb, 0, none⟩ = some (.int .i64 n3) := (World.cell?_of_block (hT nb HND.out)).trans q0); (have t1 : wT.cell? ⟨nb, 1, none⟩ = some (.int .i64 n4) := (World.cell?_of_block (hT nb HND.out)).trans q1); (have t2 : wT.cell? ⟨nb, 2, none⟩ = some (.int .i64 n5) := (World.cell?_of_block (hT nb HND.out)).trans q2); clear hT; (go_simp <;> with_reducible rfl)
  simp only [Act.put, List.setIfInBounds_toArray, List.set_cons_zero, List.set_cons_succ]
  refine wpAnyW_take (i := 6) (some 117) rfl rfl (by kernel_rfl) (by kernel_rfl) (by kernel_rfl) (by kernel_rfl) (fun _ _ _ h => h) (v := ?_) (.inl ⟨by rfl, ?_⟩) (.inr hT) ?_
  rotate_left
  · (intro wT _; go_simp <;> with_reducible rfl)
  simp only [Act.put, List.setIfInBounds_toArray, List.set_cons_zero, List.set_cons_succ]
  refine wpAnyW_take (i := 7) (some 118) rfl rfl (by kernel_rfl) (by kernel_rfl) (by kernel_rfl) (by kernel_rfl) (fun _ _ _ h => h) (v := ?_) (.inl ⟨by rfl, ?_⟩) (.inr hT) ?_
  rotate_left
  · (intro wT _; go_simp <;> with_reducible rfl)
  simp only [Act.put, List.setIfInBounds_toArray, List.set_cons_zero, List.set_cons_succ]
  refine wpAnyW_load (i := 8) (some 119) rfl rfl (by kernel_rfl) (by kernel_rfl) (by kernel_rfl) (by kernel_rfl) (by kernel_rfl) (fun _ _ _ h => h) (v := ?_) (.inl ⟨by rfl, ?_⟩) hT ?_
  rotate_left
  · (intro wT hT; try dsimp only at hT); (have t0 : wT.cell? ⟨nb, 0, none⟩ = some (.int .i64 n3) := (World.cell?_of_block (hT nb HND.out)).trans q0); (have t1 : wT.cell? ⟨nb, 1, none⟩ = some (.int .i64 n4) := (World.cell?_of_block (hT nb HND.out)).trans q1); (have t2 : wT.cell? ⟨nb, 2, none⟩ = some (.int .i64 n5) := (World.cell?_of_block (hT nb HND.out)).trans q2); clear hT; (go_simp <;> with_reducible rfl)
  simp only [Act.put, List.setIfInBounds_toArray, List.set_cons_zero, List.set_cons_succ]
  refine wpAnyW_take (i := 9) (some 120) rfl rfl (by kernel_rfl) (by kernel_rfl) (by kernel_rfl) (by kernel_rfl) (fun _ _ _ h => h) (v := ?_) (.inl ⟨by rfl, ?_⟩) (.inr hT) ?_
  rotate_left
  · (intro wT _; go_simp <;> with_reducible rfl)
  simp only [Act.put, List.setIfInBounds_toArray, List.set_cons_zero, List.set_cons_succ]
  refine wpAnyW_one (i := 10) (by kernel_rfl) rfl (fun K hK => ?_)
  have z3 : wl.drew.frozen? ⟨db, 3, none⟩ = false := blk_free (HD.out.below (Below.refl _ _).drew).c 3
  have y3 : wl.drew.cell? ⟨db, 3, none⟩ = some (.int .i64 0) := blk_cell (HD.out.below (Below.refl _ _).drew).c 3
  go_simp
  refine step_owe hK ?_ (fun hT => ?_)
  · exact fun k hk => (heap_setCell_other _ _ _ _ hk).trans (hT k hk)
  clear hK K
  refine wpAnyW_take (i := 11) (some 121) rfl rfl (by kernel_rfl) (by kernel_rfl) (by kernel_rfl) (by kernel_rfl) (fun _ _ _ h => h) (v := ?_) (.inl ⟨by rfl, ?_⟩) (.inr hT) ?_
  rotate_left
  · (intro wT _; go_simp <;> with_reducible rfl)
  simp only [Act.put, List.setIfInBounds_toArray, List.set_cons_zero, List.set_cons_succ]
  refine wpAnyW_one (i := 12) (by kernel_rfl) rfl (fun K hK => ?_)
  clear z3 y3
  have HD3 := Lib.hid ((HD.out.set HPB.out.2.2 3 (.int .i64 n3) (d' := ⟨x1, l, c, n3, 0, 0⟩) rfl).below (Below.refl _ _).drew)
  revert hT
  generalize (wl.setCell ⟨db, 3, none⟩ (.int .i64 n3)).drew = W3 at HD3 ⊢
  intro hT
  have z4 : W3.frozen? ⟨db, 4, none⟩ = false := blk_free HD3.out.c 4
  have y4 : W3.cell? ⟨db, 4, none⟩ = some (.int .i64 0) := blk_cell HD3.out.c 4
  go_simp
  refine step_owe hK ?_ (fun hT => ?_)
  · exact fun k hk => (heap_setCell_other _ _ _ _ hk).trans (hT k hk)
  clear hK K
  refine wpAnyW_take (i := 13) (some 122) rfl rfl (by kernel_rfl) (by kernel_rfl) (by kernel_rfl) (by kernel_rfl) (fun _ _ _ h => h) (v := ?_) (.inl ⟨by rfl, ?_⟩) (.inr hT) ?_
  rotate_left
  · (intro wT _; go_simp <;> with_reducible rfl)
  simp only [Act.put, List.setIfInBounds_toArray, List.set_cons_zero, List.set_cons_succ]
  refine wpAnyW_one (i := 14) (by kernel_rfl) rfl (fun K hK => ?_)
  clear z4 y4
  have HD4 := Lib.hid (HD3.out.set HPB.out.2.2 4 (.int .i64 n4) (d' := ⟨x1, l, c, n3, n4, 0⟩) rfl)
  generalize W3.setCell ⟨db, 4, none⟩ (.int .i64 n4) = W4 at HD4 ⊢
  clear HD3
  have z5 : W4.frozen? ⟨db, 5, none⟩ = false := blk_free HD4.out.c 5
  have y5 : W4.cell? ⟨db, 5, none⟩ = some (.int .i64 0) := blk_cell HD4.out.c 5
  go_simp
  refine step_paid hK (by kernel_rfl) ?_
  clear hK K
  refine wpAnyW_done (by kernel_rfl) ?_
  have HD6 := Lib.hid (HD4.out.set HPB.out.2.2 5 (.int .i64 n5) (d' := ⟨x1, l, c, n3, n4, n5⟩) rfl)
  have HX6 := Lib.hid (HBB0.out)
  clear z5 y5 HX6
  generalize W4.setCell ⟨db, 5, none⟩ (.int .i64 n5) = W6 at HD6 ⊢
  clear HD4 q0 q1 q2 HND HD
  obtain ⟨wl, hwl⟩ : ∃ wl, wl = W6 := ⟨_, rfl⟩
  rw [← hwl] at HD6 ⊢
  clear hwl
  have HSL := Lib.hid HD6.out
  have HBB := Lib.hid (Nat.le_trans HBB0.out HSL.out.bl.size)
  obtain ⟨i0, hi, hz0, hz1, hz2⟩ := info_parts Tryd.info_dom
  have HI0 := Lib.hid hi
  have HSRC := Lib.hid (Reads.of_owns (HP.out.below HSL.out.bl).d)
  have HSLT := Lib.hid (fun k hk => ((HP.out.below HSL.out.bl).d.lt k hk).2)
  have HSH := Lib.hid (owns_sh HP.out.d)
  have HONES := Lib.hid (fun (_ : Unit) => flat_ones p.D Dm.cells dm_one)
  have HONE1 := Lib.hid (fun (_ : Unit) => dm_one ⟨x1, l, c, n3, n4, n5⟩)
  clear hi
  go_wp2_with fail
  refine wp_region_W 9 8 (fun w' : World => Below wl.heap.size wl w') (by kernel_rfl) (by kernel_rfl) ⟨rfl, rfl, rfl, Nat.le_refl _, fun _ _ => rfl⟩ (fun hT => ?_)
  refine wpAnyW_take (i := 1) (some 124) rfl rfl (by kernel_rfl) (by kernel_rfl) (by kernel_rfl) (by kernel_rfl) (fun _ _ _ h => h) (v := ?_) (.inl ⟨by rfl, ?_⟩) (.inr hT) ?_
  rotate_left
  · (intro wT _; go_simp <;> with_reducible rfl)
  simp only [Act.put, List.setIfInBounds_toArray, List.set_cons_zero, List.set_cons_succ]
  refine wpAnyW_load (i := 2) (some 125) rfl rfl (by kernel_rfl) (by kernel_rfl) (by kernel_rfl) (by kernel_rfl) (by kernel_rfl) (fun _ _ _ h => h) (v := ?_) (.inl ⟨by rfl, ?_⟩) hT ?_
  rotate_left
  · (intro wT hT; try dsimp only at hT); (have t1 : wT.cell? ⟨pb, 0, none⟩ = some (.slice ad p.D.length cd) := blk_cell (HSL.out.x.below hT) 0); (have u0 : wT.cell? ⟨db, 0, none⟩ = some (.string x1) := blk_cell (HSL.out.below hT).c 0); (have u1 : wT.cell? ⟨db, 1, none⟩ = some (.int .i64 l) := blk_cell (HSL.out.below hT).c 1); (have u2 : wT.cell? ⟨db, 2, none⟩ = some (.int .i64 c) := blk_cell (HSL.out.below hT).c 2); (have u3 : wT.cell? ⟨db, 3, none⟩ = some (.int .i64 n3) := blk_cell (HSL.out.below hT).c 3); (have u4 : wT.cell? ⟨db, 4, none⟩ = some (.int .i64 n4) := blk_cell (HSL.out.below hT).c 4); (have u5 : wT.cell? ⟨db, 5, none⟩ = some (.int .i64 n5) := blk_cell (HSL.out.below hT).c 5); clear hT; (go_simp <;> with_reducible rfl)
  simp only [Act.put, List.setIfInBounds_toArray, List.set_cons_zero, List.set_cons_succ]
  refine wpAnyW_load (i := 4) (some 127) rfl rfl (by kernel_rfl) (by kernel_rfl) (by kernel_rfl) (by kernel_rfl) (by kernel_rfl) (fun _ _ _ h => h) (v := ?_) (.inl ⟨by rfl, ?_⟩) hT ?_
  rotate_left
  · (intro wT hT; try dsimp only at hT); (have t1 : wT.cell? ⟨pb, 0, none⟩ = some (.slice ad p.D.length cd) := blk_cell (HSL.out.x.below hT) 0); (have u0 : wT.cell? ⟨db, 0, none⟩ = some (.string x1) := blk_cell (HSL.out.below hT).c 0); (have u1 : wT.cell? ⟨db, 1, none⟩ = some (.int .i64 l) := blk_cell (HSL.out.below hT).c 1); (have u2 : wT.cell? ⟨db, 2, none⟩ = some (.int .i64 c) := blk_cell (HSL.out.below hT).c 2); (have u3 : wT.cell? ⟨db, 3, none⟩ = some (.int .i64 n3) := blk_cell (HSL.out.below hT).c 3); (have u4 : wT.cell? ⟨db, 4, none⟩ = some (.int .i64 n4) := blk_cell (HSL.out.below hT).c 4); (have u5 : wT.cell? ⟨db, 5, none⟩ = some (.int .i64 n5) := blk_cell (HSL.out.below hT).c 5); clear hT; (go_simp <;> with_reducible rfl)
  simp only [Act.put, List.setIfInBounds_toArray, List.set_cons_zero, List.set_cons_succ]
  refine wpAnyW_two (i := 0) (j := 5) (by kernel_rfl) rfl rfl (fun K hK => ?_) (fun K hK => ?_)
  · go_simp
    refine name_world (fun WA hWA => ?_)
    have hbA : Below wl.heap.size wl WA := by rw [hWA]; exact (⟨rfl, rfl, rfl, Nat.le_refl _, fun _ _ => rfl⟩ : Below wl.heap.size wl wl.drew).alloc (Nat.le_refl wl.heap.size) _
    have ownA : WA.ownsRow B 37 6 (.slice (some ⟨wl.heap.size, 0, none⟩) 0 0) 0 [] := by rw [hWA]; exact owns_emptyK _ (Nat.le_trans HBB.out (Nat.le_refl wl.heap.size))
    have ltA : wl.heap.size < WA.heap.size := by rw [hWA]; simp
    clear hWA
    refine step_owe hK ?_ (fun hT => ?_)
    · first | exact hbA | exact hbB | exact hbC | exact hbD
    clear hK K
    refine wpAnyW_two (i := 3) (j := 5) (by kernel_rfl) rfl rfl (fun K hK => ?_) (fun K hK => ?_)
    · refine step_append_from (by rfl) (.tmp 123) (.tmp 125) 22 (by rfl) B 37 i0 (.agg #[.string ByteArray.empty, .int .i64 0, .int .i64 0, .int .i64 0, .int .i64 0, .int .i64 0]) 6 56 Tryd.underlying22 HI0.out hz0 hz1 hz2 rfl (by omega) (.slice (some ⟨wl.heap.size, 0, none⟩) 0 0) 0 [] (by rfl) ownA (.slice ad p.D.length cd) (p.D.length) (p.D.flatMap Dm.cells) (by rfl) (HSRC.out.frame (fun k hk => hbA.block k (HSLT.out k hk))) HSH.out (HONES.out ()) (by unfold maxLen; omega) (by omega) (Nat.le_trans HBB.out hbA.size) ?_
      intro vB WB ownB growB atB
      simp only [Nat.zero_add, List.nil_append] at ownB
      have hbB : Below wl.heap.size wl WB := hbA.grown growB hbA.size (fun k hk => by simp only [Value.ownBlock, Option.some.injEq] at hk; subst hk; exact Nat.le_refl _)
      refine step_owe hK ?_ (fun hT => ?_)
      · first | exact hbA | exact hbB | exact hbC | exact hbD
      clear hK K
      refine wpAnyW_one (i := 5) (by kernel_rfl) rfl (fun K hK => ?_)
      go_simp
      refine name_world (fun WC hWC => ?_)
      have hbC : Below wl.heap.size wl WC := by rw [hWC]; exact hbB.alloc hbB.size _
      have newsC : Reads WC 6 (.slice (some ⟨WB.heap.size, 0, none⟩) 1 1) 1 (Dm.cells ⟨x1, l, c, n3, n4, n5⟩) := by rw [hWC]; exact row_one _ (Dm.cells ⟨x1, l, c, n3, n4, n5⟩) _ rfl (by decide)
      have newC := Lib.hid (show ∀ k, (Value.slice (some ⟨WB.heap.size, 0, none⟩) 1 1).ownBlock = some k → k < WC.heap.size ∧ k = WB.heap.size from fun k hk => by simp only [Value.ownBlock, Option.some.injEq] at hk; subst hk; exact ⟨by rw [hWC]; simp, rfl⟩)
      have ownC := ownB.alloc (.cells #[.string x1, .int .i64 l, .int .i64 c, .int .i64 n3, .int .i64 n4, .int .i64 n5] 37)
      rw [← hWC] at ownC
      clear hWC
      refine step_owe hK ?_ (fun hT => ?_)
      · first | exact hbA | exact hbB | exact hbC | exact hbD
      clear hK K
      refine wpAnyW_one (i := 6) (by kernel_rfl) rfl (fun K hK => ?_)
      refine step_append_from (by rfl) (.tmp 126) (.tmp 128) 22 (by rfl) B 37 i0 (.agg #[.string ByteArray.empty, .int .i64 0, .int .i64 0, .int .i64 0, .int .i64 0, .int .i64 0]) 6 56 Tryd.underlying22 HI0.out hz0 hz1 hz2 rfl (by omega) vB (p.D.length) (p.D.flatMap Dm.cells) (by rfl) ownC (.slice (some ⟨WB.heap.size, 0, none⟩) 1 1) 1 (Dm.cells ⟨x1, l, c, n3, n4, n5⟩) (by rfl) newsC (.inr ⟨_, _, _, _, rfl⟩) (HONE1.out ()) (by unfold maxLen; omega) (by omega) (Nat.le_trans HBB.out hbC.size) ?_
      intro vD WD ownD growD atD
      have hbD : Below wl.heap.size wl WD := hbC.grown growD hbC.size (fun k hk => by
        rcases atB with h | h
        · rw [h] at hk; simp only [Value.ownBlock, Option.some.injEq] at hk; subst hk; first | exact Nat.le_refl _ | exact hbC.size
        · rw [h] at hk; injection hk with hk; subst hk; first | exact hbA.size | exact hbC.size)
      have HOD := Lib.hid ownD
      have HBD := Lib.hid hbD
      obtain ⟨aD, cD, rfl, _, _, _⟩ := owns_shape ownD
      have HXD := Lib.hid (HSL.out.x.below hbD)
      have zD : WD.frozen? ⟨pb, 0, none⟩ = false := blk_free HXD.out 0
      have yD : WD.cell? ⟨pb, 0, none⟩ = some (.slice ad p.D.length cd) := blk_cell HXD.out 0
      refine step_owe hK ?_ (fun hT => ?_)
      · first | exact hbA | exact hbB | exact hbC | exact hbD
      clear hK K
      refine wpAnyW_take (i := 7) (some 130) rfl rfl (by kernel_rfl) (by kernel_rfl) (by kernel_rfl) (by kernel_rfl) (fun _ _ _ h => h) (v := ?_) (.inl ⟨by rfl, ?_⟩) (.inr hT) ?_
      rotate_left
      · (intro wT _; go_simp <;> with_reducible rfl)
      simp only [Act.put, List.setIfInBounds_toArray, List.set_cons_zero, List.set_cons_succ]
      refine wpAnyW_one (i := 8) (by kernel_rfl) rfl (fun K hK => ?_)
      go_simp
      refine step_paid hK (by kernel_rfl) ?_
      clear hK K
      refine wpAnyW_done (by kernel_rfl) ?_
      have HOX := Lib.hid (show WD.ownsRow B 37 6 (.slice aD (p.D.length + 1) cD) (p.D ++ [(⟨x1, l, c, n3, n4, n5⟩ : Dm)]).length ((p.D ++ [(⟨x1, l, c, n3, n4, n5⟩ : Dm)]).flatMap Dm.cells) by rw [List.length_append, List.flatMap_append]; simpa using HOD.out)
      have PWD := (HP.out.below HSL.out.bl).below HBD.out
      have HPD := Lib.hid (show PW B WD (.slice aD (p.D.length + 1) cD) (.slice as' p.S.length cs) (.slice al p.K.length cl) (⟨p.D ++ [(⟨x1, l, c, n3, n4, n5⟩ : Dm)], p.S, p.K⟩ : P3) from ⟨HOX.out, PWD.s, PWD.k⟩)
      have HPF := Lib.hid (HPD.out.set HXD.out 0 (.slice aD (p.D.length + 1) cD))
      have HXF := Lib.hid (HXD.out.set0 (.slice aD (p.D.length + 1) cD))
      have HYD := Lib.hid (HSL.out.y.below HBD.out)
      have HYF := Lib.hid (show BoxP rb (.slice none 0 0) (.slice none 0 0) (.slice none 0 0) (WD.setCell ⟨pb, 0, none⟩ (.slice aD (p.D.length + 1) cD)) from (heap_setCell_other _ _ _ _ HNR.out).trans HYD.out)
      have HBF := Lib.hid (show Below w.heap.size w (WD.setCell ⟨pb, 0, none⟩ (.slice aD (p.D.length + 1) cD)) from (HSL.out.bl.trans (HBD.out.mono HSL.out.bl.size)).setCell (p := ⟨pb, 0, none⟩) HPB.out.1 _)
      clear zD yD HXD HPD HBD HOD HOX PWD HYD ownD hbD growD atD
      generalize WD.setCell ⟨pb, 0, none⟩ (.slice aD (p.D.length + 1) cD) = WF at HPF HXF HYF HBF ⊢
      have e0 : WF.cell? ⟨pb, 0, none⟩ = some (.slice aD (p.D.length + 1) cD) := blk_cell HXF.out 0
      have e1 : WF.cell? ⟨pb, 1, none⟩ = some (.slice as' p.S.length cs) := blk_cell HXF.out 1
      have e2 : WF.cell? ⟨pb, 2, none⟩ = some (.slice al p.K.length cl) := blk_cell HXF.out 2
      have r0 : WF.cell? ⟨rb, 0, none⟩ = some (.slice none 0 0) := blk_cell HYF.out 0
      have f0 : WF.frozen? ⟨rb, 0, none⟩ = false := blk_free HYF.out 0
      have r1 : WF.cell? ⟨rb, 1, none⟩ = some (.slice none 0 0) := blk_cell HYF.out 1
      have f1 : WF.frozen? ⟨rb, 1, none⟩ = false := blk_free HYF.out 1
      have r2 : WF.cell? ⟨rb, 2, none⟩ = some (.slice none 0 0) := blk_cell HYF.out 2
      have f2 : WF.frozen? ⟨rb, 2, none⟩ = false := blk_free HYF.out 2
      go_wp2_with fail
      refine bodyPost_ret (pol_ret4 rfl _ _ rb _ _ _ rfl (HYF.out.put _ _ _)) rfl ?_
      rw [HV.out]
      exact ⟨_, _, _, rfl, HPF.out.put HYF.out _ _ _, below_put HBF.out HPB.out.2.1 _ _ _⟩
    · go_simp
      refine name_world (fun WC hWC => ?_)
      have hbC : Below wl.heap.size wl WC := by rw [hWC]; exact hbA.alloc hbA.size _
      have newsC : Reads WC 6 (.slice (some ⟨WA.heap.size, 0, none⟩) 1 1) 1 (Dm.cells ⟨x1, l, c, n3, n4, n5⟩) := by rw [hWC]; exact row_one _ (Dm.cells ⟨x1, l, c, n3, n4, n5⟩) _ rfl (by decide)
      have newC := Lib.hid (show ∀ k, (Value.slice (some ⟨WA.heap.size, 0, none⟩) 1 1).ownBlock = some k → k < WC.heap.size ∧ k = WA.heap.size from fun k hk => by simp only [Value.ownBlock, Option.some.injEq] at hk; subst hk; exact ⟨by rw [hWC]; simp, rfl⟩)
      have ownC := ownA.alloc (.cells #[.string x1, .int .i64 l, .int .i64 c, .int .i64 n3, .int .i64 n4, .int .i64 n5] 37)
      rw [← hWC] at ownC
      clear hWC
      refine step_owe hK ?_ (fun hT => ?_)
      · first | exact hbA | exact hbB | exact hbC | exact hbD
      clear hK K
      refine wpAnyW_one (i := 3) (by kernel_rfl) rfl (fun K hK => ?_)
      refine step_append_from (by rfl) (.tmp 123) (.tmp 125) 22 (by rfl) B 37 i0 (.agg #[.string ByteArray.empty, .int .i64 0, .int .i64 0, .int .i64 0, .int .i64 0, .int .i64 0]) 6 56 Tryd.underlying22 HI0.out hz0 hz1 hz2 rfl (by omega) (.slice (some ⟨wl.heap.size, 0, none⟩) 0 0) 0 [] (by rfl) ownC (.slice ad p.D.length cd) (p.D.length) (p.D.flatMap Dm.cells) (by rfl) (HSRC.out.frame (fun k hk => hbC.block k (HSLT.out k hk))) HSH.out (HONES.out ()) (by unfold maxLen; omega) (by omega) (Nat.le_trans HBB.out hbC.size) ?_
      intro vB WB ownB growB atB
      simp only [Nat.zero_add, List.nil_append] at ownB
      have hbB : Below wl.heap.size wl WB := hbC.grown growB hbC.size (fun k hk => by simp only [Value.ownBlock, Option.some.injEq] at hk; subst hk; exact Nat.le_refl _)
      have newsB := newsC.grown growB (fun k hk => (newC.out k hk).1) (fun k hk e => by simp only [Value.ownBlock, Option.some.injEq] at e; have := (newC.out k hk).2; have := ltA; omega)
      refine step_owe hK ?_ (fun hT => ?_)
      · first | exact hbA | exact hbB | exact hbC | exact hbD
      clear hK K
      refine wpAnyW_one (i := 6) (by kernel_rfl) rfl (fun K hK => ?_)
      refine step_append_from (by rfl) (.tmp 126) (.tmp 128) 22 (by rfl) B 37 i0 (.agg #[.string ByteArray.empty, .int .i64 0, .int .i64 0, .int .i64 0, .int .i64 0, .int .i64 0]) 6 56 Tryd.underlying22 HI0.out hz0 hz1 hz2 rfl (by omega) vB (p.D.length) (p.D.flatMap Dm.cells) (by rfl) ownB (.slice (some ⟨WA.heap.size, 0, none⟩) 1 1) 1 (Dm.cells ⟨x1, l, c, n3, n4, n5⟩) (by rfl) newsB (.inr ⟨_, _, _, _, rfl⟩) (HONE1.out ()) (by unfold maxLen; omega) (by omega) (Nat.le_trans HBB.out hbB.size) ?_
      intro vD WD ownD growD atD
      have hbD : Below wl.heap.size wl WD := hbB.grown growD hbB.size (fun k hk => by
        rcases atB with h | h
        · rw [h] at hk; simp only [Value.ownBlock, Option.some.injEq] at hk; subst hk; first | exact Nat.le_refl _ | exact hbC.size
        · rw [h] at hk; injection hk with hk; subst hk; first | exact hbA.size | exact hbC.size)
      have HOD := Lib.hid ownD
      have HBD := Lib.hid hbD
      obtain ⟨aD, cD, rfl, _, _, _⟩ := owns_shape ownD
      have HXD := Lib.hid (HSL.out.x.below hbD)
      have zD : WD.frozen? ⟨pb, 0, none⟩ = false := blk_free HXD.out 0
      have yD : WD.cell? ⟨pb, 0, none⟩ = some (.slice ad p.D.length cd) := blk_cell HXD.out 0
      refine step_owe hK ?_ (fun hT => ?_)
      · first | exact hbA | exact hbB | exact hbC | exact hbD
      clear hK K
      refine wpAnyW_take (i := 7) (some 130) rfl rfl (by kernel_rfl) (by kernel_rfl) (by kernel_rfl) (by kernel_rfl) (fun _ _ _ h => h) (v := ?_) (.inl ⟨by rfl, ?_⟩) (.inr hT) ?_
      rotate_left
      · (intro wT _; go_simp <;> with_reducible rfl)
      simp only [Act.put, List.setIfInBounds_toArray, List.set_cons_zero, List.set_cons_succ]
      refine wpAnyW_one (i := 8) (by kernel_rfl) rfl (fun K hK => ?_)
      go_simp
      refine step_paid hK (by kernel_rfl) ?_
      clear hK K
      refine wpAnyW_done (by kernel_rfl) ?_
      have HOX := Lib.hid (show WD.ownsRow B 37 6 (.slice aD (p.D.length + 1) cD) (p.D ++ [(⟨x1, l, c, n3, n4, n5⟩ : Dm)]).length ((p.D ++ [(⟨x1, l, c, n3, n4, n5⟩ : Dm)]).flatMap Dm.cells) by rw [List.length_append, List.flatMap_append]; simpa using HOD.out)
      have PWD := (HP.out.below HSL.out.bl).below HBD.out
      have HPD := Lib.hid (show PW B WD (.slice aD (p.D.length + 1) cD) (.slice as' p.S.length cs) (.slice al p.K.length cl) (⟨p.D ++ [(⟨x1, l, c, n3, n4, n5⟩ : Dm)], p.S, p.K⟩ : P3) from ⟨HOX.out, PWD.s, PWD.k⟩)
      have HPF := Lib.hid (HPD.out.set HXD.out 0 (.slice aD (p.D.length + 1) cD))
      have HXF := Lib.hid (HXD.out.set0 (.slice aD (p.D.length + 1) cD))
      have HYD := Lib.hid (HSL.out.y.below HBD.out)
      have HYF := Lib.hid (show BoxP rb (.slice none 0 0) (.slice none 0 0) (.slice none 0 0) (WD.setCell ⟨pb, 0, none⟩ (.slice aD (p.D.length + 1) cD)) from (heap_setCell_other _ _ _ _ HNR.out).trans HYD.out)
      have HBF := Lib.hid (show Below w.heap.size w (WD.setCell ⟨pb, 0, none⟩ (.slice aD (p.D.length + 1) cD)) from (HSL.out.bl.trans (HBD.out.mono HSL.out.bl.size)).setCell (p := ⟨pb, 0, none⟩) HPB.out.1 _)
      clear zD yD HXD HPD HBD HOD HOX PWD HYD ownD hbD growD atD
      generalize WD.setCell ⟨pb, 0, none⟩ (.slice aD (p.D.length + 1) cD) = WF at HPF HXF HYF HBF ⊢
      have e0 : WF.cell? ⟨pb, 0, none⟩ = some (.slice aD (p.D.length + 1) cD) := blk_cell HXF.out 0
      have e1 : WF.cell? ⟨pb, 1, none⟩ = some (.slice as' p.S.length cs) := blk_cell HXF.out 1
      have e2 : WF.cell? ⟨pb, 2, none⟩ = some (.slice al p.K.length cl) := blk_cell HXF.out 2
      have r0 : WF.cell? ⟨rb, 0, none⟩ = some (.slice none 0 0) := blk_cell HYF.out 0
      have f0 : WF.frozen? ⟨rb, 0, none⟩ = false := blk_free HYF.out 0
      have r1 : WF.cell? ⟨rb, 1, none⟩ = some (.slice none 0 0) := blk_cell HYF.out 1
      have f1 : WF.frozen? ⟨rb, 1, none⟩ = false := blk_free HYF.out 1
      have r2 : WF.cell? ⟨rb, 2, none⟩ = some (.slice none 0 0) := blk_cell HYF.out 2
      have f2 : WF.frozen? ⟨rb, 2, none⟩ = false := blk_free HYF.out 2
      go_wp2_with fail
      refine bodyPost_ret (pol_ret4 rfl _ _ rb _ _ _ rfl (HYF.out.put _ _ _)) rfl ?_
      rw [HV.out]
      exact ⟨_, _, _, rfl, HPF.out.put HYF.out _ _ _, below_put HBF.out HPB.out.2.1 _ _ _⟩
  · go_simp
    refine name_world (fun WC hWC => ?_)
    have hbC : Below wl.heap.size wl WC := by rw [hWC]; exact (⟨rfl, rfl, rfl, Nat.le_refl _, fun _ _ => rfl⟩ : Below wl.heap.size wl wl.drew).alloc (Nat.le_refl wl.heap.size) _
    have newsC : Reads WC 6 (.slice (some ⟨wl.heap.size, 0, none⟩) 1 1) 1 (Dm.cells ⟨x1, l, c, n3, n4, n5⟩) := by rw [hWC]; exact row_one _ (Dm.cells ⟨x1, l, c, n3, n4, n5⟩) _ rfl (by decide)
    have newC := Lib.hid (show ∀ k, (Value.slice (some ⟨wl.heap.size, 0, none⟩) 1 1).ownBlock = some k → k < WC.heap.size ∧ k = wl.heap.size from fun k hk => by simp only [Value.ownBlock, Option.some.injEq] at hk; subst hk; exact ⟨by rw [hWC]; simp, rfl⟩)
    clear hWC
    refine step_owe hK ?_ (fun hT => ?_)
    · first | exact hbA | exact hbB | exact hbC | exact hbD
    clear hK K
    refine wpAnyW_one (i := 0) (by kernel_rfl) rfl (fun K hK => ?_)
    go_simp
    refine name_world (fun WA hWA => ?_)
    have hbA : Below wl.heap.size wl WA := by rw [hWA]; exact hbC.alloc hbC.size _
    have ownA : WA.ownsRow B 37 6 (.slice (some ⟨WC.heap.size, 0, none⟩) 0 0) 0 [] := by rw [hWA]; exact owns_emptyK _ (Nat.le_trans HBB.out hbC.size)
    have newsA := (newsC.frame (w' := WA) (fun k hk => by rw [hWA]; exact Below.heap_alloc _ _ _ (newC.out k hk).1))
    have newA := Lib.hid (show ∀ k, (Value.slice (some ⟨wl.heap.size, 0, none⟩) 1 1).ownBlock = some k → k < WA.heap.size ∧ k ≠ WC.heap.size from fun k hk => ⟨Nat.lt_of_lt_of_le (newC.out k hk).1 (by rw [hWA]; simp), fun e => by have := (newC.out k hk).1; omega⟩)
    have ltA : WC.heap.size < WA.heap.size := by rw [hWA]; simp
    clear hWA
    refine step_owe hK ?_ (fun hT => ?_)
    · first | exact hbA | exact hbB | exact hbC | exact hbD
    clear hK K
    refine wpAnyW_one (i := 3) (by kernel_rfl) rfl (fun K hK => ?_)
    refine step_append_from (by rfl) (.tmp 123) (.tmp 125) 22 (by rfl) B 37 i0 (.agg #[.string ByteArray.empty, .int .i64 0, .int .i64 0, .int .i64 0, .int .i64 0, .int .i64 0]) 6 56 Tryd.underlying22 HI0.out hz0 hz1 hz2 rfl (by omega) (.slice (some ⟨WC.heap.size, 0, none⟩) 0 0) 0 [] (by rfl) ownA (.slice ad p.D.length cd) (p.D.length) (p.D.flatMap Dm.cells) (by rfl) (HSRC.out.frame (fun k hk => hbA.block k (HSLT.out k hk))) HSH.out (HONES.out ()) (by unfold maxLen; omega) (by omega) (Nat.le_trans HBB.out hbA.size) ?_
    intro vB WB ownB growB atB
    simp only [Nat.zero_add, List.nil_append] at ownB
    have hbB : Below wl.heap.size wl WB := hbA.grown growB hbA.size (fun k hk => by simp only [Value.ownBlock, Option.some.injEq] at hk; subst hk; exact hbC.size)
    have newsB := newsA.grown growB (fun k hk => (newA.out k hk).1) (fun k hk e => by simp only [Value.ownBlock, Option.some.injEq] at e; have := (newA.out k hk).2; omega)
    refine step_owe hK ?_ (fun hT => ?_)
    · first | exact hbA | exact hbB | exact hbC | exact hbD
    clear hK K
    refine wpAnyW_one (i := 6) (by kernel_rfl) rfl (fun K hK => ?_)
    refine step_append_from (by rfl) (.tmp 126) (.tmp 128) 22 (by rfl) B 37 i0 (.agg #[.string ByteArray.empty, .int .i64 0, .int .i64 0, .int .i64 0, .int .i64 0, .int .i64 0]) 6 56 Tryd.underlying22 HI0.out hz0 hz1 hz2 rfl (by omega) vB (p.D.length) (p.D.flatMap Dm.cells) (by rfl) ownB (.slice (some ⟨wl.heap.size, 0, none⟩) 1 1) 1 (Dm.cells ⟨x1, l, c, n3, n4, n5⟩) (by rfl) newsB (.inr ⟨_, _, _, _, rfl⟩) (HONE1.out ()) (by unfold maxLen; omega) (by omega) (Nat.le_trans HBB.out hbB.size) ?_
    intro vD WD ownD growD atD
    have hbD : Below wl.heap.size wl WD := hbB.grown growD hbB.size (fun k hk => by
      rcases atB with h | h
      · rw [h] at hk; simp only [Value.ownBlock, Option.some.injEq] at hk; subst hk; first | exact Nat.le_refl _ | exact hbC.size
      · rw [h] at hk; injection hk with hk; subst hk; first | exact hbA.size | exact hbC.size)
    have HOD := Lib.hid ownD
    have HBD := Lib.hid hbD
    obtain ⟨aD, cD, rfl, _, _, _⟩ := owns_shape ownD
    have HXD := Lib.hid (HSL.out.x.below hbD)
    have zD : WD.frozen? ⟨pb, 0, none⟩ = false := blk_free HXD.out 0
    have yD : WD.cell? ⟨pb, 0, none⟩ = some (.slice ad p.D.length cd) := blk_cell HXD.out 0
    refine step_owe hK ?_ (fun hT => ?_)
    · first | exact hbA | exact hbB | exact hbC | exact hbD
    clear hK K
    refine wpAnyW_take (i := 7) (some 130) rfl rfl (by kernel_rfl) (by kernel_rfl) (by kernel_rfl) (by kernel_rfl) (fun _ _ _ h => h) (v := ?_) (.inl ⟨by rfl, ?_⟩) (.inr hT) ?_
    rotate_left
    · (intro wT _; go_simp <;> with_reducible rfl)
    simp only [Act.put, List.setIfInBounds_toArray, List.set_cons_zero, List.set_cons_succ]
    refine wpAnyW_one (i := 8) (by kernel_rfl) rfl (fun K hK => ?_)
    go_simp
    refine step_paid hK (by kernel_rfl) ?_
    clear hK K
    refine wpAnyW_done (by kernel_rfl) ?_
    have HOX := Lib.hid (show WD.ownsRow B 37 6 (.slice aD (p.D.length + 1) cD) (p.D ++ [(⟨x1, l, c, n3, n4, n5⟩ : Dm)]).length ((p.D ++ [(⟨x1, l, c, n3, n4, n5⟩ : Dm)]).flatMap Dm.cells) by rw [List.length_append, List.flatMap_append]; simpa using HOD.out)
    have PWD := (HP.out.below HSL.out.bl).below HBD.out
    have HPD := Lib.hid (show PW B WD (.slice aD (p.D.length + 1) cD) (.slice as' p.S.length cs) (.slice al p.K.length cl) (⟨p.D ++ [(⟨x1, l, c, n3, n4, n5⟩ : Dm)], p.S, p.K⟩ : P3) from ⟨HOX.out, PWD.s, PWD.k⟩)
    have HPF := Lib.hid (HPD.out.set HXD.out 0 (.slice aD (p.D.length + 1) cD))
    have HXF := Lib.hid (HXD.out.set0 (.slice aD (p.D.length + 1) cD))
    have HYD := Lib.hid (HSL.out.y.below HBD.out)
    have HYF := Lib.hid (show BoxP rb (.slice none 0 0) (.slice none 0 0) (.slice none 0 0) (WD.setCell ⟨pb, 0, none⟩ (.slice aD (p.D.length + 1) cD)) from (heap_setCell_other _ _ _ _ HNR.out).trans HYD.out)
    have HBF := Lib.hid (show Below w.heap.size w (WD.setCell ⟨pb, 0, none⟩ (.slice aD (p.D.length + 1) cD)) from (HSL.out.bl.trans (HBD.out.mono HSL.out.bl.size)).setCell (p := ⟨pb, 0, none⟩) HPB.out.1 _)
    clear zD yD HXD HPD HBD HOD HOX PWD HYD ownD hbD growD atD
    generalize WD.setCell ⟨pb, 0, none⟩ (.slice aD (p.D.length + 1) cD) = WF at HPF HXF HYF HBF ⊢
    have e0 : WF.cell? ⟨pb, 0, none⟩ = some (.slice aD (p.D.length + 1) cD) := blk_cell HXF.out 0
    have e1 : WF.cell? ⟨pb, 1, none⟩ = some (.slice as' p.S.length cs) := blk_cell HXF.out 1
    have e2 : WF.cell? ⟨pb, 2, none⟩ = some (.slice al p.K.length cl) := blk_cell HXF.out 2
    have r0 : WF.cell? ⟨rb, 0, none⟩ = some (.slice none 0 0) := blk_cell HYF.out 0
    have f0 : WF.frozen? ⟨rb, 0, none⟩ = false := blk_free HYF.out 0
    have r1 : WF.cell? ⟨rb, 1, none⟩ = some (.slice none 0 0) := blk_cell HYF.out 1
    have f1 : WF.frozen? ⟨rb, 1, none⟩ = false := blk_free HYF.out 1
    have r2 : WF.cell? ⟨rb, 2, none⟩ = some (.slice none 0 0) := blk_cell HYF.out 2
    have f2 : WF.frozen? ⟨rb, 2, none⟩ = false := blk_free HYF.out 2
    go_wp2_with fail
    refine bodyPost_ret (pol_ret4 rfl _ _ rb _ _ _ rfl (HYF.out.put _ _ _)) rfl ?_
    rw [HV.out]
    exact ⟨_, _, _, rfl, HPF.out.put HYF.out _ _ _, below_put HBF.out HPB.out.2.1 _ _ _⟩

end Go.Proofs.YtkjhgfjlknbdkaaDoor
