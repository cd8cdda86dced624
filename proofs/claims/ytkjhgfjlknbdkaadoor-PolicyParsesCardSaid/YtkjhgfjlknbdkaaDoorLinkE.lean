/- What policy.link does. Conditions: the policy grows in memory, the line has four words that can be read. -/
import Derived.Test.YtkjhgfjlknbdkaaDoorSlotE
namespace Go.Proofs.YtkjhgfjlknbdkaaDoor
open Go.RowKit BigFrame Go.BigFrame

theorem Tryd.info_link : (Tryd.prog.info? 32).map (fun i => (i.zero, i.size, i.bytes)) = some (some (.agg #[.int .i64 0, .int .i64 0, .int .i64 0, .int .i64 0]), 4, 32) := by kernel_rfl
theorem lk_one (d : Lk) : ∀ u ∈ lkCells d, u.oneCell' = true := by
  intro u hu
  simp only [lkCells, List.mem_cons, List.not_mem_nil, or_false] at hu
  rcases hu with rfl | rfl | rfl | rfl <;> rfl
def linkE (D : List Dm) (x1 x2 x3 : ByteArray) : Int := if findD D x1 < 0 ∨ findD D x2 < 0 then 4 else if numAll [x3] = true then 0 else 2
def linkK (D : List Dm) (KL : List Lk) (kd : Int) (x1 x2 x3 : ByteArray) : List Lk := if linkE D x1 x2 x3 = 0 then KL ++ [⟨kd, findD D x1, findD D x2, (numM x3).1⟩] else KL
theorem linkK_bad {D : List Dm} {KL : List Lk} {kd : Int} {x1 x2 x3 : ByteArray} {e : Int} (h : linkE D x1 x2 x3 = e) (he : (e == 0) = false) : linkK D KL kd x1 x2 x3 = KL := by
  unfold linkK
  rw [if_neg (by rw [h]; simpa using he)]
section
variable {w0 w : World} {pb : Nat} {D : List Dm} {S : List (Int × Int)} {KL : List Lk} {vd vs vl : Value}
set_option maxRecDepth 100000 in
set_option maxHeartbeats 16000000 in
theorem link_calls (h : PO w0 w pb D S KL vd vs vl) (hT : Tab w0) {vw : Value} {x0 x1 x2 x3 : ByteArray} (hw : Reads w 1 vw 4 (List.map Value.string [x0, x1, x2, x3]))
    (hs2 : ∀ x ∈ [x3], x.size ≤ 140737488351232) (hK : KL.length ≤ 5000) (kd : Int) :
    Calls Tryd.prog 53 #[.pointer (some ⟨pb, 0, none⟩), vw, .int .i64 kd] w fun e w' => e = .returned (.int .i64 (linkE D x1 x2 x3)) ∧ POF w w' pb vd vs vl ∧ ∃ vl', PO w0 w' pb D S (linkK D KL kd x1 x2 x3) vd vs vl' := by
  have hwr := hw
  obtain ⟨_, aw, cw, rfl, hw2, hw3, hw4⟩ := hw
  obtain ⟨bw, ow, rfl, hwc⟩ := hw4 (by omega)
  unfold maxLen at hw3
  have HW := Lib.hid (show w.cell? ⟨bw, ow + 1, none⟩ = some (.string x1) ∧ w.cell? ⟨bw, ow + 2, none⟩ = some (.string x2) from ⟨hwc 1 _ rfl, hwc 2 _ rfl⟩)
  have HBW := Lib.hid (show bw < w.heap.size from block_lt_of_cell (hwc 1 _ rfl))
  have HP := Lib.hid h
  have HT := Lib.hid hT
  have HS2 := Lib.hid hs2
  have HR := Lib.hid (Reads.of_owns h.d)
  have HPB := Lib.hid (lt_of_block h.blk)
  obtain ⟨av, cv, rfl, hv1, hv2, _⟩ := owns_shape h.d
  obtain ⟨asl, csl, rfl, hsv1, hsv2, _⟩ := owns_shape h.k
  unfold maxLen at hv2 hsv2
  obtain ⟨nd, hnd⟩ : ∃ nd, nd = D.length := ⟨_, rfl⟩
  have HC0 := Lib.hid (show w.cell? ⟨pb, 0, none⟩ = some (.slice av nd cv) from by rw [hnd]; exact blk_cell h.blk 0)
  have HW3 := Lib.hid hwr
  have HF1 := Lib.hid (fun (u : World) (hu : Below w.heap.size w u) => find_calls (HR.out.below (by omega) hu) x1)
  have HF2 := Lib.hid (fun (u : World) (hu : Below w.heap.size w u) => find_calls (HR.out.below (by omega) hu) x2)
  rw [← hnd] at HF1 HF2
  have HND := Lib.hid hnd
  have HSE := Lib.hid (show linkE D x1 x2 x3 = if findD D x1 < 0 ∨ findD D x2 < 0 then 4 else if numAll [x3] = true then 0 else 2 from rfl)
  have HSS := Lib.hid (show linkK D KL kd x1 x2 x3 = if linkE D x1 x2 x3 = 0 then KL ++ [⟨kd, findD D x1, findD D x2, (numM x3).1⟩] else KL from rfl)
  generalize findD D x1 = f1 at HF1 HSE HSS
  generalize findD D x2 = f2 at HF2 HSE HSS
  clear hwr h hT hwc hw4 hs2 hv1 hv2 HR hnd
  go_enter Tryd.func53, Tryd.ntmps53
  go_upto_region 1 with (fail)
  go_cut [7] (fun u wx => ∃ sb, u = .pointer (some ⟨sb, 0, none⟩) ∧ wx.heap[sb]? = some (.cells #[.int .i64 kd, .int .i64 f1, .int .i64 f2, .int .i64 0] 32 (0, 0)) ∧ Below w.heap.size w wx ∧ w.heap.size ≤ sb)
  case first => as_aux_lemma =>
    refine wp_region_W 20 19 (fun w' : World => Below w.heap.size w w') (by kernel_rfl) (by kernel_rfl) ((Below.refl _ _).drew) (fun hT => ?_)
    refine wpAnyW_take (i := 0) (some 8) rfl rfl (by kernel_rfl) (by kernel_rfl) (by kernel_rfl) (by kernel_rfl) (fun _ _ _ h => h) (v := ?_) (.inl ⟨by rfl, ?_⟩) (.inr hT) ?_
    rotate_left
    · (intro wT _; go_simp <;> with_reducible rfl)
    simp only [Act.put, List.setIfInBounds_toArray, List.set_cons_zero, List.set_cons_succ]
    refine wpAnyW_take (i := 1) (some 9) rfl rfl (by kernel_rfl) (by kernel_rfl) (by kernel_rfl) (by kernel_rfl) (fun _ _ _ h => h) (v := ?_) (.inl ⟨by rfl, ?_⟩) (.inr hT) ?_
    rotate_left
    · (intro wT _; go_simp <;> with_reducible rfl)
    simp only [Act.put, List.setIfInBounds_toArray, List.set_cons_zero, List.set_cons_succ]
    refine wpAnyW_take (i := 2) (some 10) rfl rfl (by kernel_rfl) (by kernel_rfl) (by kernel_rfl) (by kernel_rfl) (fun _ _ _ h => h) (v := ?_) (.inl ⟨by rfl, ?_⟩) (.inr hT) ?_
    rotate_left
    · (intro wT _; go_simp <;> with_reducible rfl)
    simp only [Act.put, List.setIfInBounds_toArray, List.set_cons_zero, List.set_cons_succ]
    refine wpAnyW_take (i := 3) (some 11) rfl rfl (by kernel_rfl) (by kernel_rfl) (by kernel_rfl) (by kernel_rfl) (fun _ _ _ h => h) (v := ?_) (.inl ⟨by rfl, ?_⟩) (.inr hT) ?_
    rotate_left
    · (intro wT _; go_simp <;> with_reducible rfl)
    simp only [Act.put, List.setIfInBounds_toArray, List.set_cons_zero, List.set_cons_succ]
    refine wpAnyW_load (i := 4) (some 12) rfl rfl (by kernel_rfl) (by kernel_rfl) (by kernel_rfl) (by kernel_rfl) (by kernel_rfl) (fun _ _ _ h => h) (v := ?_) (.inl ⟨by rfl, ?_⟩) hT ?_
    rotate_left
    · (intro wT hT; try dsimp only at hT); (have t0 := below_cell1 hT HPB.out HC0.out; have t1 := below_cell1 hT HBW.out HW.out.1; have t2 := below_cell1 hT HBW.out HW.out.2; clear hT); (go_simp <;> with_reducible rfl)
    simp only [Act.put, List.setIfInBounds_toArray, List.set_cons_zero, List.set_cons_succ]
    refine wpAnyW_take (i := 5) (some 13) rfl rfl (by kernel_rfl) (by kernel_rfl) (by kernel_rfl) (by kernel_rfl) (fun _ _ _ h => h) (v := ?_) (.inl ⟨by rfl, ?_⟩) (.inr hT) ?_
    rotate_left
    · (intro wT _; go_simp <;> with_reducible rfl)
    simp only [Act.put, List.setIfInBounds_toArray, List.set_cons_zero, List.set_cons_succ]
    refine wpAnyW_take (i := 6) (some 14) rfl rfl (by kernel_rfl) (by kernel_rfl) (by kernel_rfl) (by kernel_rfl) (fun _ _ _ h => h) (v := ?_) (.inl ⟨by rfl, ?_⟩) (.inr hT) ?_
    rotate_left
    · (intro wT _; go_simp <;> with_reducible rfl)
    simp only [Act.put, List.setIfInBounds_toArray, List.set_cons_zero, List.set_cons_succ]
    refine wpAnyW_load (i := 7) (some 15) rfl rfl (by kernel_rfl) (by kernel_rfl) (by kernel_rfl) (by kernel_rfl) (by kernel_rfl) (fun _ _ _ h => h) (v := ?_) (.inl ⟨by rfl, ?_⟩) hT ?_
    rotate_left
    · (intro wT hT; try dsimp only at hT); (have t0 := below_cell1 hT HPB.out HC0.out; have t1 := below_cell1 hT HBW.out HW.out.1; have t2 := below_cell1 hT HBW.out HW.out.2; clear hT); (go_simp <;> with_reducible rfl)
    simp only [Act.put, List.setIfInBounds_toArray, List.set_cons_zero, List.set_cons_succ]
    refine wpAnyW_take (i := 9) (some 17) rfl rfl (by kernel_rfl) (by kernel_rfl) (by kernel_rfl) (by kernel_rfl) (fun _ _ _ h => h) (v := ?_) (.inl ⟨by rfl, ?_⟩) (.inr hT) ?_
    rotate_left
    · (intro wT _; go_simp <;> with_reducible rfl)
    simp only [Act.put, List.setIfInBounds_toArray, List.set_cons_zero, List.set_cons_succ]
    refine wpAnyW_take (i := 10) (some 18) rfl rfl (by kernel_rfl) (by kernel_rfl) (by kernel_rfl) (by kernel_rfl) (fun _ _ _ h => h) (v := ?_) (.inl ⟨by rfl, ?_⟩) (.inr hT) ?_
    rotate_left
    · (intro wT _; go_simp <;> with_reducible rfl)
    simp only [Act.put, List.setIfInBounds_toArray, List.set_cons_zero, List.set_cons_succ]
    refine wpAnyW_take (i := 11) (some 19) rfl rfl (by kernel_rfl) (by kernel_rfl) (by kernel_rfl) (by kernel_rfl) (fun _ _ _ h => h) (v := ?_) (.inl ⟨by rfl, ?_⟩) (.inr hT) ?_
    rotate_left
    · (intro wT _; go_simp <;> with_reducible rfl)
    simp only [Act.put, List.setIfInBounds_toArray, List.set_cons_zero, List.set_cons_succ]
    refine wpAnyW_load (i := 12) (some 20) rfl rfl (by kernel_rfl) (by kernel_rfl) (by kernel_rfl) (by kernel_rfl) (by kernel_rfl) (fun _ _ _ h => h) (v := ?_) (.inl ⟨by rfl, ?_⟩) hT ?_
    rotate_left
    · (intro wT hT; try dsimp only at hT); (have t0 := below_cell1 hT HPB.out HC0.out; have t1 := below_cell1 hT HBW.out HW.out.1; have t2 := below_cell1 hT HBW.out HW.out.2; clear hT); (go_simp <;> with_reducible rfl)
    simp only [Act.put, List.setIfInBounds_toArray, List.set_cons_zero, List.set_cons_succ]
    refine wpAnyW_take (i := 13) (some 21) rfl rfl (by kernel_rfl) (by kernel_rfl) (by kernel_rfl) (by kernel_rfl) (fun _ _ _ h => h) (v := ?_) (.inl ⟨by rfl, ?_⟩) (.inr hT) ?_
    rotate_left
    · (intro wT _; go_simp <;> with_reducible rfl)
    simp only [Act.put, List.setIfInBounds_toArray, List.set_cons_zero, List.set_cons_succ]
    refine wpAnyW_take (i := 14) (some 22) rfl rfl (by kernel_rfl) (by kernel_rfl) (by kernel_rfl) (by kernel_rfl) (fun _ _ _ h => h) (v := ?_) (.inl ⟨by rfl, ?_⟩) (.inr hT) ?_
    rotate_left
    · (intro wT _; go_simp <;> with_reducible rfl)
    simp only [Act.put, List.setIfInBounds_toArray, List.set_cons_zero, List.set_cons_succ]
    refine wpAnyW_load (i := 15) (some 23) rfl rfl (by kernel_rfl) (by kernel_rfl) (by kernel_rfl) (by kernel_rfl) (by kernel_rfl) (fun _ _ _ h => h) (v := ?_) (.inl ⟨by rfl, ?_⟩) hT ?_
    rotate_left
    · (intro wT hT; try dsimp only at hT); (have t0 := below_cell1 hT HPB.out HC0.out; have t1 := below_cell1 hT HBW.out HW.out.1; have t2 := below_cell1 hT HBW.out HW.out.2; clear hT); (go_simp <;> with_reducible rfl)
    simp only [Act.put, List.setIfInBounds_toArray, List.set_cons_zero, List.set_cons_succ]
    refine wpAnyW_two (i := 8) (j := 18) (by kernel_rfl) rfl rfl (fun K hK => ?_) (fun K hK => ?_)
    · go_simp
      refine (HF1.out w.drew ((Below.refl w.heap.size w).drew)).mono ?_
      rintro e W8 ⟨rfl, hq8⟩
      dsimp only
      have hb8 : Below w.heap.size w W8 := Below.trans ((Below.refl w.heap.size w).drew) (hq8.mono ((Below.refl w.heap.size w).drew).size)
      refine step_owe hK ?_ (fun hT => ?_)
      · first | exact hb8 | exact hb16 | exact hb18
      clear hK K
      refine wpAnyW_two (i := 16) (j := 18) (by kernel_rfl) rfl rfl (fun K hK => ?_) (fun K hK => ?_)
      · go_simp
        refine (HF2.out W8 (hb8)).mono ?_
        rintro e W16 ⟨rfl, hq16⟩
        dsimp only
        have hb16 : Below w.heap.size w W16 := Below.trans (hb8) (hq16.mono (hb8).size)
        refine step_owe hK ?_ (fun hT => ?_)
        · first | exact hb8 | exact hb16 | exact hb18
        clear hK K
        refine wpAnyW_take (i := 17) (some 25) rfl rfl (by kernel_rfl) (by kernel_rfl) (by kernel_rfl) (by kernel_rfl) (fun _ _ _ h => h) (v := ?_) (.inl ⟨by rfl, ?_⟩) (.inr hT) ?_
        rotate_left
        · (intro wT _; go_simp <;> with_reducible rfl)
        simp only [Act.put, List.setIfInBounds_toArray, List.set_cons_zero, List.set_cons_succ]
        refine wpAnyW_one (i := 18) (by kernel_rfl) rfl (fun K hK => ?_)
        go_simp
        refine name_world2 (fun W18 hW18 => ?_)
        obtain ⟨sb, hsbe⟩ : ∃ sb, sb = (W16).heap.size := ⟨_, rfl⟩
        have hsb : w.heap.size ≤ sb := by rw [hsbe]; exact Below.size (hb16)
        have hb18 : Below w.heap.size w W18 := by rw [hW18]; first | exact Below.alloc (hb16) (Below.size (hb16)) _ | exact (Below.alloc (Below.refl _ _) (Nat.le_refl _) _).drew
        have hx18 : W18.heap[sb]? = some (.cells #[.int .i64 0, .int .i64 0, .int .i64 0, .int .i64 0] 32 (0, 0)) := by rw [hW18, hsbe]; exact heap_alloc_new (W16) _
        rw [← hsbe]
        clear hW18 hsbe
        refine step_owe hK ?_ (fun hT => ?_)
        · first | exact hb8 | exact hb16 | exact hb18
        clear hK K
        refine wpAnyW_one (i := 19) (by kernel_rfl) rfl (fun K hK => ?_)
        have z0 : W18.frozen? ⟨sb, 0, none⟩ = false := blk_free hx18 0
        have y0 : W18.cell? ⟨sb, 0, none⟩ = some (.int .i64 0) := blk_cell hx18 0
        have z1 : W18.frozen? ⟨sb, 1, none⟩ = false := blk_free hx18 1
        have y1 : W18.cell? ⟨sb, 1, none⟩ = some (.int .i64 0) := blk_cell hx18 1
        have z2 : W18.frozen? ⟨sb, 2, none⟩ = false := blk_free hx18 2
        have y2 : W18.cell? ⟨sb, 2, none⟩ = some (.int .i64 0) := blk_cell hx18 2
        have z3 : W18.frozen? ⟨sb, 3, none⟩ = false := blk_free hx18 3
        have y3 : W18.cell? ⟨sb, 3, none⟩ = some (.int .i64 0) := blk_cell hx18 3
        have HXF := Lib.hid hx18
        have HBF := Lib.hid hb18
        have HSB := Lib.hid hsb
        go_simp
        obtain ⟨WF, hWF⟩ : ∃ WF, WF = W18 := ⟨_, rfl⟩
        rw [← hWF] at HXF HBF ⊢
        refine step_paid hK (by kernel_rfl) ?_
        clear hK K
        refine wpAnyW_done (by kernel_rfl) ?_
        go_wp2_with fail
        go_meet
        refine ⟨sb, rfl, ?_, (((HBF.out.setCell (p := ⟨sb, 0, none⟩) HSB.out (.int .i64 kd)).setCell (p := ⟨sb, 1, none⟩) HSB.out (.int .i64 f1)).setCell (p := ⟨sb, 2, none⟩) HSB.out (.int .i64 f2)).setCell (p := ⟨sb, 3, none⟩) HSB.out (.int .i64 0), HSB.out⟩
        have := blk_set (blk_set (blk_set (blk_set HXF.out 0 (.int .i64 kd)) 1 (.int .i64 f1)) 2 (.int .i64 f2)) 3 (.int .i64 0)
        simpa using this
      · go_simp
        refine name_world2 (fun W18 hW18 => ?_)
        obtain ⟨sb, hsbe⟩ : ∃ sb, sb = (W8).heap.size := ⟨_, rfl⟩
        have hsb : w.heap.size ≤ sb := by rw [hsbe]; exact Below.size (hb8)
        have hb18 : Below w.heap.size w W18 := by rw [hW18]; first | exact Below.alloc (hb8) (Below.size (hb8)) _ | exact (Below.alloc (Below.refl _ _) (Nat.le_refl _) _).drew
        have hx18 : W18.heap[sb]? = some (.cells #[.int .i64 0, .int .i64 0, .int .i64 0, .int .i64 0] 32 (0, 0)) := by rw [hW18, hsbe]; exact heap_alloc_new (W8) _
        rw [← hsbe]
        clear hW18 hsbe
        refine step_owe hK ?_ (fun hT => ?_)
        · first | exact hb8 | exact hb16 | exact hb18
        clear hK K
        refine wpAnyW_one (i := 16) (by kernel_rfl) rfl (fun K hK => ?_)
        go_simp
        refine (HF2.out W18 (hb18)).mono ?_
        rintro e W16 ⟨rfl, hq16⟩
        dsimp only
        have hb16 : Below w.heap.size w W16 := Below.trans (hb18) (hq16.mono (hb18).size)
        have hx16 : W16.heap[sb]? = some (.cells #[.int .i64 0, .int .i64 0, .int .i64 0, .int .i64 0] 32 (0, 0)) := (hq16.block _ (lt_of_block hx18)).trans hx18
        refine step_owe hK ?_ (fun hT => ?_)
        · first | exact hb8 | exact hb16 | exact hb18
        clear hK K
        refine wpAnyW_take (i := 17) (some 25) rfl rfl (by kernel_rfl) (by kernel_rfl) (by kernel_rfl) (by kernel_rfl) (fun _ _ _ h => h) (v := ?_) (.inl ⟨by rfl, ?_⟩) (.inr hT) ?_
        rotate_left
        · (intro wT _; go_simp <;> with_reducible rfl)
        simp only [Act.put, List.setIfInBounds_toArray, List.set_cons_zero, List.set_cons_succ]
        refine wpAnyW_one (i := 19) (by kernel_rfl) rfl (fun K hK => ?_)
        have z0 : W16.frozen? ⟨sb, 0, none⟩ = false := blk_free hx16 0
        have y0 : W16.cell? ⟨sb, 0, none⟩ = some (.int .i64 0) := blk_cell hx16 0
        have z1 : W16.frozen? ⟨sb, 1, none⟩ = false := blk_free hx16 1
        have y1 : W16.cell? ⟨sb, 1, none⟩ = some (.int .i64 0) := blk_cell hx16 1
        have z2 : W16.frozen? ⟨sb, 2, none⟩ = false := blk_free hx16 2
        have y2 : W16.cell? ⟨sb, 2, none⟩ = some (.int .i64 0) := blk_cell hx16 2
        have z3 : W16.frozen? ⟨sb, 3, none⟩ = false := blk_free hx16 3
        have y3 : W16.cell? ⟨sb, 3, none⟩ = some (.int .i64 0) := blk_cell hx16 3
        have HXF := Lib.hid hx16
        have HBF := Lib.hid hb16
        have HSB := Lib.hid hsb
        go_simp
        obtain ⟨WF, hWF⟩ : ∃ WF, WF = W16 := ⟨_, rfl⟩
        rw [← hWF] at HXF HBF ⊢
        refine step_paid hK (by kernel_rfl) ?_
        clear hK K
        refine wpAnyW_done (by kernel_rfl) ?_
        go_wp2_with fail
        go_meet
        refine ⟨sb, rfl, ?_, (((HBF.out.setCell (p := ⟨sb, 0, none⟩) HSB.out (.int .i64 kd)).setCell (p := ⟨sb, 1, none⟩) HSB.out (.int .i64 f1)).setCell (p := ⟨sb, 2, none⟩) HSB.out (.int .i64 f2)).setCell (p := ⟨sb, 3, none⟩) HSB.out (.int .i64 0), HSB.out⟩
        have := blk_set (blk_set (blk_set (blk_set HXF.out 0 (.int .i64 kd)) 1 (.int .i64 f1)) 2 (.int .i64 f2)) 3 (.int .i64 0)
        simpa using this
    · go_simp
      refine name_world2 (fun W18 hW18 => ?_)
      obtain ⟨sb, hsbe⟩ : ∃ sb, sb = (w.drew).heap.size := ⟨_, rfl⟩
      have hsb : w.heap.size ≤ sb := by rw [hsbe]; exact Below.size ((Below.refl w.heap.size w).drew)
      have hb18 : Below w.heap.size w W18 := by rw [hW18]; first | exact Below.alloc ((Below.refl w.heap.size w).drew) (Below.size ((Below.refl w.heap.size w).drew)) _ | exact (Below.alloc (Below.refl _ _) (Nat.le_refl _) _).drew
      have hx18 : W18.heap[sb]? = some (.cells #[.int .i64 0, .int .i64 0, .int .i64 0, .int .i64 0] 32 (0, 0)) := by rw [hW18, hsbe]; exact heap_alloc_new (w.drew) _
      rw [show w.heap.size = sb from hsbe.symm]
      clear hW18 hsbe
      refine step_owe hK ?_ (fun hT => ?_)
      · first | exact hb8 | exact hb16 | exact hb18
      clear hK K
      refine wpAnyW_one (i := 8) (by kernel_rfl) rfl (fun K hK => ?_)
      go_simp
      refine (HF1.out W18 (hb18)).mono ?_
      rintro e W8 ⟨rfl, hq8⟩
      dsimp only
      have hb8 : Below w.heap.size w W8 := Below.trans (hb18) (hq8.mono (hb18).size)
      have hx8 : W8.heap[sb]? = some (.cells #[.int .i64 0, .int .i64 0, .int .i64 0, .int .i64 0] 32 (0, 0)) := (hq8.block _ (lt_of_block hx18)).trans hx18
      refine step_owe hK ?_ (fun hT => ?_)
      · first | exact hb8 | exact hb16 | exact hb18
      clear hK K
      refine wpAnyW_one (i := 16) (by kernel_rfl) rfl (fun K hK => ?_)
      go_simp
      refine (HF2.out W8 (hb8)).mono ?_
      rintro e W16 ⟨rfl, hq16⟩
      dsimp only
      have hb16 : Below w.heap.size w W16 := Below.trans (hb8) (hq16.mono (hb8).size)
      have hx16 : W16.heap[sb]? = some (.cells #[.int .i64 0, .int .i64 0, .int .i64 0, .int .i64 0] 32 (0, 0)) := (hq16.block _ (lt_of_block hx8)).trans hx8
      refine step_owe hK ?_ (fun hT => ?_)
      · first | exact hb8 | exact hb16 | exact hb18
      clear hK K
      refine wpAnyW_take (i := 17) (some 25) rfl rfl (by kernel_rfl) (by kernel_rfl) (by kernel_rfl) (by kernel_rfl) (fun _ _ _ h => h) (v := ?_) (.inl ⟨by rfl, ?_⟩) (.inr hT) ?_
      rotate_left
      · (intro wT _; go_simp <;> with_reducible rfl)
      simp only [Act.put, List.setIfInBounds_toArray, List.set_cons_zero, List.set_cons_succ]
      refine wpAnyW_one (i := 19) (by kernel_rfl) rfl (fun K hK => ?_)
      have z0 : W16.frozen? ⟨sb, 0, none⟩ = false := blk_free hx16 0
      have y0 : W16.cell? ⟨sb, 0, none⟩ = some (.int .i64 0) := blk_cell hx16 0
      have z1 : W16.frozen? ⟨sb, 1, none⟩ = false := blk_free hx16 1
      have y1 : W16.cell? ⟨sb, 1, none⟩ = some (.int .i64 0) := blk_cell hx16 1
      have z2 : W16.frozen? ⟨sb, 2, none⟩ = false := blk_free hx16 2
      have y2 : W16.cell? ⟨sb, 2, none⟩ = some (.int .i64 0) := blk_cell hx16 2
      have z3 : W16.frozen? ⟨sb, 3, none⟩ = false := blk_free hx16 3
      have y3 : W16.cell? ⟨sb, 3, none⟩ = some (.int .i64 0) := blk_cell hx16 3
      have HXF := Lib.hid hx16
      have HBF := Lib.hid hb16
      have HSB := Lib.hid hsb
      go_simp
      obtain ⟨WF, hWF⟩ : ∃ WF, WF = W16 := ⟨_, rfl⟩
      rw [← hWF] at HXF HBF ⊢
      refine step_paid hK (by kernel_rfl) ?_
      clear hK K
      refine wpAnyW_done (by kernel_rfl) ?_
      go_wp2_with fail
      go_meet
      refine ⟨sb, rfl, ?_, (((HBF.out.setCell (p := ⟨sb, 0, none⟩) HSB.out (.int .i64 kd)).setCell (p := ⟨sb, 1, none⟩) HSB.out (.int .i64 f1)).setCell (p := ⟨sb, 2, none⟩) HSB.out (.int .i64 f2)).setCell (p := ⟨sb, 3, none⟩) HSB.out (.int .i64 0), HSB.out⟩
      have := blk_set (blk_set (blk_set (blk_set HXF.out 0 (.int .i64 kd)) 1 (.int .i64 f1)) 2 (.int .i64 f2)) 3 (.int .i64 0)
      simpa using this
  case rest =>
  obtain ⟨sb, rfl, hxb, hb1, hsb⟩ := hcut
  have HX1 := Lib.hid hxb
  have HB1 := Lib.hid hb1
  have HSB := Lib.hid hsb
  have m1 : wc.cell? ⟨sb, 1, none⟩ = some (.int .i64 f1) := blk_cell hxb 1
  have m2 : wc.cell? ⟨sb, 2, none⟩ = some (.int .i64 f2) := blk_cell hxb 2
  clear hxb hb1 hsb HF1 HF2 HC0
  by_cases hf : f1 < 0 ∨ f2 < 0
  · have HV := Lib.hid (show linkE D x1 x2 x3 = 4 by rw [HSE.out, if_pos hf])
    by_cases hf1 : f1 < 0
    · clear hf
      go_wp2_with fail
      go_ret
      rw [linkK_bad HV.out rfl, HV.out]
      exact ⟨rfl, POF.of_below HB1.out, _, HP.out.below HB1.out⟩
    · have hf2 : f2 < 0 := by omega
      clear hf
      go_wp2_with fail
      go_ret
      rw [linkK_bad HV.out rfl, HV.out]
      exact ⟨rfl, POF.of_below HB1.out, _, HP.out.below HB1.out⟩
  · have HSE2 := Lib.hid (show linkE D x1 x2 x3 = if numAll [x3] = true then 0 else 2 by rw [HSE.out, if_neg hf])
    have hf1 : ¬ f1 < 0 := by omega
    have hf2 : ¬ f2 < 0 := by omega
    clear hf
    clear HSE
    have hp6 := lt_of_block HX1.out
    have HNU := Lib.hid (numbers_calls (w0 := w0) (w := wc.alloc (.cells #[.pointer (some ⟨sb, 3, none⟩)] 119)) HT.out ((HP.out.b.trans (HB1.out.mono HP.out.b.size)).alloc (by have := HP.out.b.size; have := HB1.out.size; omega) _) (tb := sb) (by have := HP.out.b.size; have := HSB.out; omega) (W := [x3]) (offs := [3]) (vw := .slice (some ⟨bw, ow + 3, none⟩) 1 (cw - 3)) (n := 1)
      (drop_reads 3 ((HW3.out.below (by omega) HB1.out).below (by omega) (plus_one1 wc _)) (by omega)) (by intro k hk; have := HSB.out; have := HBW.out; simp only [Value.ownBlock, Option.some.injEq] at hk; omega) (lit_reads wc [.pointer (some ⟨sb, 3, none⟩)] _ (by simp)) (by intro k hk; simp only [Value.ownBlock, Option.some.injEq] at hk; omega) (Nat.le_refl _) ((Below.heap_alloc _ _ _ hp6).trans HX1.out) (by simp) HS2.out)
    have HB66 := Lib.hid (HB1.out.trans ((plus_one1 wc (.cells #[.pointer (some ⟨sb, 3, none⟩)] 119)).mono HB1.out.size))
    have HP6 := Lib.hid (HP.out.below HB66.out)
    clear hp6 HX1 HB1
    generalize hall : numAll [x3] = all at HNU HSE2
    clear hall
    go_wp2_with fail
    refine HNU.out.mono ?_
    rintro e w7 ⟨rfl, hx7, cs, hcs, hc7, hal⟩
    have HPN := Lib.hid (HP6.out.ext hx7 (by have := HP.out.b.size; have := HSB.out; omega) (fun k hk e => by have := HP.out.lt k hk; have := HSB.out; omega))
    have HB7 := Lib.hid (ext_below3 HB66.out hx7 (fun k hk => by rw [hk]; exact HSB.out))
    clear hx7 HP6 HB66 HNU
    cases all with
    | false =>
      have HV := Lib.hid (show linkE D x1 x2 x3 = 2 from HSE2.out)
      clear HSE2 hal
      go_wp2_with fail
      go_ret
      rw [linkK_bad HV.out rfl, HV.out]
      exact ⟨rfl, POF.of_below HB7.out, _, HPN.out⟩
    | true =>
      have HV := Lib.hid (show linkE D x1 x2 x3 = 0 from HSE2.out)
      have HDD := Lib.hid (show linkK D KL kd x1 x2 x3 = KL ++ [⟨kd, f1, f2, (numM x3).1⟩] by rw [HSS.out, if_pos HV.out])
      have hal := hal rfl
      simp only [putN, List.map_cons, List.map_nil, List.getD_cons_zero, List.getD_cons_succ, List.setIfInBounds_toArray, List.set_cons_zero, List.set_cons_succ] at hal
      subst hal
      generalize (numM x3).1 = n2 at hc7 HDD
      have HX7 := Lib.hid hc7
      clear hc7 hcs HSE2 HSS
      have HPB7 := Lib.hid (lt_of_block HPN.out.blk)
      have HO := Lib.hid HPN.out.k
      obtain ⟨db, rfl⟩ : ∃ db, db = sb := ⟨_, rfl⟩
      have HNE := Lib.hid (fun (k : Nat) (hk : (Value.slice asl KL.length csl).ownBlock = some k) => show k ≠ db from by have := HP.out.lt k (.inr (.inr (.inr hk))); have := HSB.out; omega)
      obtain ⟨i0, hi0, hz0, hz1, hz2⟩ := info_parts Tryd.info_link
      have HI0 := Lib.hid hi0
      obtain ⟨n, hn⟩ : ∃ n, n = KL.length := ⟨_, rfl⟩
      have HN := Lib.hid hn
      rw [← hn] at HNE HO hsv1 hK
      have HPN := Lib.hid (show PO w0 w7 pb D S KL (.slice av D.length cv) vs (.slice asl n csl) by rw [hn]; exact HPN.out)
      obtain ⟨nd2, hnd2⟩ : ∃ nd2, nd2 = D.length := ⟨_, rfl⟩
      have HND2 := Lib.hid hnd2
      rw [← hnd2] at HPN
      clear hi0 hn hnd2
      go_upto_region 6 with (fail)
      refine wp_region_W 11 10 (fun w' : World => w'.heap[pb]? = some (.cells #[.slice av nd2 cv, vs, .slice asl n csl] 26 (0, 0)) ∧ w'.heap[db]? = some (.cells #[.int .i64 kd, .int .i64 f1, .int .i64 f2, .int .i64 n2] 32 (0, 0))) (by kernel_rfl) (by kernel_rfl) ⟨HPN.out.blk, HX7.out⟩ (fun hT => ?_)
      refine wpAnyW_take (i := 0) (some 40) rfl rfl (by kernel_rfl) (by kernel_rfl) (by kernel_rfl) (by kernel_rfl) (fun _ _ _ h => h) (v := ?_) (.inl ⟨by rfl, ?_⟩) (.inr hT) ?_
      rotate_left
      · (intro wT _; go_simp <;> with_reducible rfl)
      simp only [Act.put, List.setIfInBounds_toArray, List.set_cons_zero, List.set_cons_succ]
      refine wpAnyW_take (i := 1) (some 41) rfl rfl (by kernel_rfl) (by kernel_rfl) (by kernel_rfl) (by kernel_rfl) (fun _ _ _ h => h) (v := ?_) (.inl ⟨by rfl, ?_⟩) (.inr hT) ?_
      rotate_left
      · (intro wT _; go_simp <;> with_reducible rfl)
      simp only [Act.put, List.setIfInBounds_toArray, List.set_cons_zero, List.set_cons_succ]
      refine wpAnyW_take (i := 2) (some 42) rfl rfl (by kernel_rfl) (by kernel_rfl) (by kernel_rfl) (by kernel_rfl) (fun _ _ _ h => h) (v := ?_) (.inl ⟨by rfl, ?_⟩) (.inr hT) ?_
      rotate_left
      · (intro wT _; go_simp <;> with_reducible rfl)
      simp only [Act.put, List.setIfInBounds_toArray, List.set_cons_zero, List.set_cons_succ]
      refine wpAnyW_take (i := 3) (some 43) rfl rfl (by kernel_rfl) (by kernel_rfl) (by kernel_rfl) (by kernel_rfl) (fun _ _ _ h => h) (v := ?_) (.inl ⟨by rfl, ?_⟩) (.inr hT) ?_
      rotate_left
      · (intro wT _; go_simp <;> with_reducible rfl)
      simp only [Act.put, List.setIfInBounds_toArray, List.set_cons_zero, List.set_cons_succ]
      refine wpAnyW_load (i := 4) (some 44) rfl rfl (by kernel_rfl) (by kernel_rfl) (by kernel_rfl) (by kernel_rfl) (by kernel_rfl) (fun _ _ _ h => h) (v := ?_) (.inl ⟨by rfl, ?_⟩) hT ?_
      rotate_left
      · (intro wT hT; try dsimp only at hT); (obtain ⟨hC, hD⟩ := hT; have t0 : wT.cell? ⟨pb, 2, none⟩ = some (.slice asl n csl) := blk_cell hC 2; have e0 : wT.cell? ⟨db, 0, none⟩ = some (.int .i64 kd) := blk_cell hD 0; have e1 : wT.cell? ⟨db, 1, none⟩ = some (.int .i64 f1) := blk_cell hD 1; have e2 : wT.cell? ⟨db, 2, none⟩ = some (.int .i64 f2) := blk_cell hD 2; have e3 : wT.cell? ⟨db, 3, none⟩ = some (.int .i64 n2) := blk_cell hD 3; clear hC hD); (go_simp <;> with_reducible rfl)
      simp only [Act.put, List.setIfInBounds_toArray, List.set_cons_zero, List.set_cons_succ]
      refine wpAnyW_load (i := 5) (some 45) rfl rfl (by kernel_rfl) (by kernel_rfl) (by kernel_rfl) (by kernel_rfl) (by kernel_rfl) (fun _ _ _ h => h) (v := ?_) (.inl ⟨by rfl, ?_⟩) hT ?_
      rotate_left
      · (intro wT hT; try dsimp only at hT); (obtain ⟨hC, hD⟩ := hT; have t0 : wT.cell? ⟨pb, 2, none⟩ = some (.slice asl n csl) := blk_cell hC 2; have e0 : wT.cell? ⟨db, 0, none⟩ = some (.int .i64 kd) := blk_cell hD 0; have e1 : wT.cell? ⟨db, 1, none⟩ = some (.int .i64 f1) := blk_cell hD 1; have e2 : wT.cell? ⟨db, 2, none⟩ = some (.int .i64 f2) := blk_cell hD 2; have e3 : wT.cell? ⟨db, 3, none⟩ = some (.int .i64 n2) := blk_cell hD 3; clear hC hD); (go_simp <;> with_reducible rfl)
      simp only [Act.put, List.setIfInBounds_toArray, List.set_cons_zero, List.set_cons_succ]
      refine wpAnyW_one (i := 6) (by kernel_rfl) rfl (fun K hK => ?_)
      go_simp
      refine name_world2 (fun W21 hW21 => ?_)
      have hb21 : W21.heap[pb]? = some (.cells #[.slice av nd2 cv, vs, .slice asl n csl] 26 (0, 0)) := by rw [hW21]; exact (Below.heap_alloc _ _ _ HPB7.out).trans HPN.out.blk
      have hx21 : W21.heap[db]? = some (.cells #[.int .i64 kd, .int .i64 f1, .int .i64 f2, .int .i64 n2] 32 (0, 0)) := by rw [hW21]; exact (Below.heap_alloc _ _ _ (lt_of_block HX7.out)).trans HX7.out
      have own21 : W21.ownsRow w0.heap.size 32 4 (.slice asl n csl) n (KL.flatMap lkCells) := by
        rw [hW21]
        exact (owns_same HO.out (fun _ _ => rfl) : w7.drew.ownsRow w0.heap.size 32 4 (.slice asl n csl) n (KL.flatMap lkCells)).alloc _
      have bel21 : w0.heap.size ≤ W21.heap.size := by rw [hW21]; exact Nat.le_trans HPN.out.b.size (plus_one1 w7.drew _).size
      have news21 : ∀ (j : Nat) (u : Value), (lkCells ⟨kd, f1, f2, n2⟩)[j]? = some u → W21.cell? ((⟨w7.heap.size, 0, none⟩ : Addr).add j) = some u := by
        intro j u hj
        rw [hW21]
        exact news_cells w7.drew #[.int .i64 kd, .int .i64 f1, .int .i64 f2, .int .i64 n2] _ w7.heap.size rfl j u hj
      have HW21 := Lib.hid (show W21 = w7.drew.alloc (.cells #[.int .i64 kd, .int .i64 f1, .int .i64 f2, .int .i64 n2] 32) from hW21.trans rfl)
      clear hW21
      refine step_owe hK ?_ (fun hT => ?_)
      · first | exact ⟨hb21, hx21⟩ | exact ⟨hb22, hx22⟩
      clear hK K
      refine wpAnyW_one (i := 7) (by kernel_rfl) rfl (fun K hK => ?_)
      refine step_append_at (by rfl) (.tmp 44) (.tmp 46) 24 (by rfl) w0.heap.size 32 i0 (.agg #[.int .i64 0, .int .i64 0, .int .i64 0, .int .i64 0]) 4 32 Tryd.underlying24 HI0.out hz0 hz1 hz2 rfl (by omega) (.slice asl n csl) n (KL.flatMap lkCells) (by rfl) own21 ⟨w7.heap.size, 0, none⟩ 1 1 (lkCells ⟨kd, f1, f2, n2⟩) (by rfl) rfl news21 (lk_one _) (by unfold maxLen; omega) (by omega) bel21 ?_
      intro v22 W22 own22 grow22 at22
      have HADD := Lib.hid (HPN.out.addK (o := .cells #[.int .i64 kd, .int .i64 f1, .int .i64 f2, .int .i64 n2] 32) (x := ⟨kd, f1, f2, n2⟩) (by rw [← HW21.out]; exact grow22) (v' := v22) (by rw [← HN.out]; exact own22) (by rw [← HW21.out]; exact at22))
      have hb22 := HADD.out.2
      have hx22 : W22.heap[db]? = some (.cells #[.int .i64 kd, .int .i64 f1, .int .i64 f2, .int .i64 n2] 32 (0, 0)) := (grow22.block db (lt_of_block hx21) (fun e => HNE.out _ e.symm rfl)).trans hx21
      obtain ⟨a22, c22, rfl, _, _, _⟩ := owns_shape own22
      have z22 : W22.frozen? ⟨pb, 2, none⟩ = false := blk_free hb22 2
      have m22 : W22.cell? ⟨pb, 2, none⟩ = some (.slice asl n csl) := blk_cell hb22 2
      refine step_owe hK ?_ (fun hT => ?_)
      · first | exact ⟨hb21, hx21⟩ | exact ⟨hb22, hx22⟩
      clear hK K
      refine wpAnyW_take (i := 8) (some 48) rfl rfl (by kernel_rfl) (by kernel_rfl) (by kernel_rfl) (by kernel_rfl) (fun _ _ _ h => h) (v := ?_) (.inl ⟨by rfl, ?_⟩) (.inr hT) ?_
      rotate_left
      · (intro wT _; go_simp <;> with_reducible rfl)
      simp only [Act.put, List.setIfInBounds_toArray, List.set_cons_zero, List.set_cons_succ]
      refine wpAnyW_take (i := 9) (some 49) rfl rfl (by kernel_rfl) (by kernel_rfl) (by kernel_rfl) (by kernel_rfl) (fun _ _ _ h => h) (v := ?_) (.inl ⟨by rfl, ?_⟩) (.inr hT) ?_
      rotate_left
      · (intro wT _; go_simp <;> with_reducible rfl)
      simp only [Act.put, List.setIfInBounds_toArray, List.set_cons_zero, List.set_cons_succ]
      refine wpAnyW_one (i := 10) (by kernel_rfl) rfl (fun K hK => ?_)
      go_simp
      refine step_paid hK (by kernel_rfl) ?_
      clear hK K
      refine wpAnyW_done (by kernel_rfl) ?_
      have HA2 := Lib.hid HADD.out.1
      clear own22 grow22 at22 own21 bel21 news21 hb21 hx21 hx22 hb22 HADD HW21
      go_wp2_with fail
      go_ret
      rw [HV.out, HDD.out]
      exact ⟨rfl, POF.before HB7.out (by rw [← HN.out, ← HND2.out]; exact HA2.out.2), _, by rw [← HND2.out]; exact HA2.out.1⟩
end
end Go.Proofs.YtkjhgfjlknbdkaaDoor
