/- What the document's one (parcloseref28.one) does: what tale.entry does. Conditions: the policy and the words can be read, no word is longer than 2^47 bytes. -/
import Derived.Test.YtbgpniepgbmkaaaDoorTal6
namespace Go.Proofs.YtbgpniepgbmkaaaDoor
open Go.RowKit BigFrame Go.BigFrame

section
variable {w w0 : World} {b : Nat} {x : En} {T : TypeId}
theorem en_set2 (h : w.heap[b]? = some (.cells (enCells x).toArray T (0, 0))) (v : Int) : (w.setCell ⟨b, 2, none⟩ (.int .i64 v)).heap[b]? = some (.cells (enCells ⟨x.kd, x.dom, v, x.op, x.a, x.b, x.c⟩).toArray T (0, 0)) := by
  have := blk_set h 2 (.int .i64 v)
  simpa [enCells] using this
theorem en_set3 (h : w.heap[b]? = some (.cells (enCells x).toArray T (0, 0))) (v : Int) : (w.setCell ⟨b, 3, none⟩ (.int .i64 v)).heap[b]? = some (.cells (enCells ⟨x.kd, x.dom, x.pick, v, x.a, x.b, x.c⟩).toArray T (0, 0)) := by
  have := blk_set h 3 (.int .i64 v)
  simpa [enCells] using this
theorem en_set4 (h : w.heap[b]? = some (.cells (enCells x).toArray T (0, 0))) (v : Int) : (w.setCell ⟨b, 4, none⟩ (.int .i64 v)).heap[b]? = some (.cells (enCells ⟨x.kd, x.dom, x.pick, x.op, v, x.b, x.c⟩).toArray T (0, 0)) := by
  have := blk_set h 4 (.int .i64 v)
  simpa [enCells] using this
theorem en_set5 (h : w.heap[b]? = some (.cells (enCells x).toArray T (0, 0))) (v : Int) : (w.setCell ⟨b, 5, none⟩ (.int .i64 v)).heap[b]? = some (.cells (enCells ⟨x.kd, x.dom, x.pick, x.op, x.a, v, x.c⟩).toArray T (0, 0)) := by
  have := blk_set h 5 (.int .i64 v)
  simpa [enCells] using this
theorem en_set6 (h : w.heap[b]? = some (.cells (enCells x).toArray T (0, 0))) (v : Int) : (w.setCell ⟨b, 6, none⟩ (.int .i64 v)).heap[b]? = some (.cells (enCells ⟨x.kd, x.dom, x.pick, x.op, x.a, x.b, v⟩).toArray T (0, 0)) := by
  have := blk_set h 6 (.int .i64 v)
  simpa [enCells] using this
end
def oAt (s : ByteArray) (j : Nat) : Int := if 0 ≤ opIx s ∧ opIx s + 1 < (j : Int) then opIx s + 1 else 0
theorem word_ix {j : Nat} (h0 : 1 ≤ j) (h1 : j ≤ 34) (s : ByteArray) : wordT (j : Int) = s ↔ opIx s = (j : Int) - 1 := by
  have hw : wordT (j : Int) = ⟨(opsB.getD ((j : Int) - 1).toNat []).toArray⟩ := by unfold wordT; rw [if_pos ⟨by omega, by omega⟩]
  rw [hw]
  constructor
  · intro h
    rw [← h]
    exact (ops_at (op := (j : Int)) (by omega) (by omega)).1
  · intro h
    unfold opIx at h
    cases hf : opsB.findIdx? (fun x => decide (x = s.data.toList)) with
    | none => rw [hf] at h; simp only at h; omega
    | some k =>
      rw [hf] at h
      simp only at h
      have hk : k = ((j : Int) - 1).toNat := by omega
      have h2 := List.findIdx?_eq_some_iff_getElem.1 hf
      obtain ⟨hlt, hp, _⟩ := h2
      have hp2 : opsB[k] = s.data.toList := of_decide_eq_true hp
      rw [← hk, List.getD_eq_getElem?_getD, List.getElem?_eq_getElem hlt]
      exact ba_ext (by simpa using hp2)
theorem oAt_hit {j : Nat} {s : ByteArray} (h0 : 1 ≤ j) (h : opIx s = (j : Int) - 1) : oAt s (j + 1) = (j : Int) := by
  unfold oAt
  rw [if_pos (by omega)]
  omega
theorem oAt_no {j : Nat} {s : ByteArray} (h : ¬ opIx s = (j : Int) - 1) : oAt s (j + 1) = oAt s j := by
  unfold oAt
  by_cases h1 : 0 ≤ opIx s ∧ opIx s + 1 < (j : Int)
  · rw [if_pos h1, if_pos (by omega)]
  · rw [if_neg h1, if_neg (by omega)]
theorem oAt_end (s : ByteArray) : oAt s 35 = if opIx s < 0 then 0 else 1 + opIx s := by
  have := opIx_b s
  unfold oAt
  by_cases h : opIx s < 0
  · rw [if_pos h, if_neg (by omega)]
  · rw [if_neg h, if_pos (by omega)]
    omega
set_option maxRecDepth 100000 in
set_option maxHeartbeats 32000000 in
theorem rone28_calls {w : World} {vd vs vl : Value} {nd : Nat} {D : List Dm} (hd : Reads w 6 vd nd (D.flatMap Dm.cells)) {vw : Value} {n : Nat} {W : List ByteArray} (hw : Reads w 1 vw n (W.map Value.string)) (hn : 0 < n) (hsz : ∀ x ∈ W, x.size ≤ 140737488351232) :
    Calls Tryd.prog 26 #[.agg #[vd, vs, vl], vw] w fun e w' => e = .returned (.tuple #[enVal (entM D W).1, .int .i64 (entM D W).2]) ∧ Below w.heap.size w w' := by
  have hlw : W.length = n := by have := hw.1; simpa using this
  have hlt := hw.lt hn (by omega)
  obtain ⟨_, aw, cw, rfl, hw2, hw3, hw4⟩ := hw
  obtain ⟨bw, ow, rfl, hwc⟩ := hw4 hn
  unfold maxLen at hw3
  obtain ⟨x0, R, rfl⟩ : ∃ x0 R, W = x0 :: R := by
    cases W with
    | nil => simp at hlw; omega
    | cons a b => exact ⟨a, b, rfl⟩
  have hbw : bw < w.heap.size := hlt bw rfl
  have HB2 := Lib.hid ((plus_one1 w (.cells #[vd, vs, vl] 26)).trans ((plus_one1 (w.alloc (.cells #[vd, vs, vl] 26)) (.cells #[.int .i64 0, .int .i64 0, .int .i64 0, .int .i64 0, .int .i64 0, .int .i64 0, .int .i64 0] 28)).mono (by simp)))
  have HP0 := Lib.hid (show ((w.alloc (.cells #[vd, vs, vl] 26)).alloc (.cells #[.int .i64 0, .int .i64 0, .int .i64 0, .int .i64 0, .int .i64 0, .int .i64 0, .int .i64 0] 28)).heap[w.heap.size]? = some (.cells #[vd, vs, vl] 26 (0, 0)) from
    (Below.heap_alloc _ _ _ (by simp)).trans (heap_alloc_new w _))
  have HR0 := Lib.hid (show ((w.alloc (.cells #[vd, vs, vl] 26)).alloc (.cells #[.int .i64 0, .int .i64 0, .int .i64 0, .int .i64 0, .int .i64 0, .int .i64 0, .int .i64 0] 28)).heap[w.heap.size + 1]? = some (.cells (enCells zE).toArray 28 (0, 0)) from heap_alloc2_new w _ _)
  have HWC := Lib.hid (fun (u : World) (hu : Below w.heap.size w u) (j : Nat) (x : ByteArray) (hx : (x0 :: R)[j]? = some x) => below_cell1 hu hbw (hwc j (.string x) (by rw [List.getElem?_map, hx]; rfl)))
  have HBW := Lib.hid hbw
  have HD := Lib.hid hd
  have HS := Lib.hid hsz
  have HL := Lib.hid hlw
  have hn1 : (0 : Int) < (n : Int) := by omega
  clear hwc hw4 hlt hlw hd hsz
  go_enter Tryd.func26, Tryd.ntmps26
  go_upto_region 1 with (fail)
  obtain ⟨pb, hpb⟩ : ∃ b, b = w.heap.size := ⟨_, rfl⟩
  obtain ⟨rb, hrb⟩ : ∃ b, b = w.heap.size + 1 := ⟨_, rfl⟩
  have HRB := Lib.hid (show w.heap.size ≤ rb by omega)
  rw [← hrb] at HR0 ⊢
  rw [← hpb] at HP0 ⊢
  generalize (w.alloc (.cells #[vd, vs, vl] 26)).alloc (.cells #[.int .i64 0, .int .i64 0, .int .i64 0, .int .i64 0, .int .i64 0, .int .i64 0, .int .i64 0] 28) = w2 at HB2 HP0 HR0 ⊢
  clear hpb hrb hbw
  have k0 : w2.cell? ⟨bw, ow, none⟩ = some (.string x0) := HWC.out w2 HB2.out 0 x0 rfl
  by_cases hA : x0 = sTick ∧ n = 1
  · obtain ⟨hx0, rfl⟩ := hA
    have hR : R = [] := List.eq_nil_of_length_eq_zero (by have := HL.out; simpa using this)
    subst hR
    have t1 : x0.toList = [116, 105, 99, 107] := by rw [hx0]; exact tl_lit _
    have HV := Lib.hid (show entM D [x0] = (tkE, 0) by unfold entM; simp only; rw [if_pos hx0])
    clear hx0
    have z0 : w2.frozen? ⟨rb, 0, none⟩ = false := blk_free HR0.out 0
    have y0 : w2.cell? ⟨rb, 0, none⟩ = some (.int .i64 0) := blk_cell HR0.out 0
    have z1 : w2.frozen? ⟨rb, 1, none⟩ = false := blk_free HR0.out 1
    have y1 : w2.cell? ⟨rb, 1, none⟩ = some (.int .i64 0) := blk_cell HR0.out 1
    have z2 : w2.frozen? ⟨rb, 2, none⟩ = false := blk_free HR0.out 2
    have y2 : w2.cell? ⟨rb, 2, none⟩ = some (.int .i64 0) := blk_cell HR0.out 2
    have z3 : w2.frozen? ⟨rb, 3, none⟩ = false := blk_free HR0.out 3
    have y3 : w2.cell? ⟨rb, 3, none⟩ = some (.int .i64 0) := blk_cell HR0.out 3
    have z4 : w2.frozen? ⟨rb, 4, none⟩ = false := blk_free HR0.out 4
    have y4 : w2.cell? ⟨rb, 4, none⟩ = some (.int .i64 0) := blk_cell HR0.out 4
    have z5 : w2.frozen? ⟨rb, 5, none⟩ = false := blk_free HR0.out 5
    have y5 : w2.cell? ⟨rb, 5, none⟩ = some (.int .i64 0) := blk_cell HR0.out 5
    have z6 : w2.frozen? ⟨rb, 6, none⟩ = false := blk_free HR0.out 6
    have y6 : w2.cell? ⟨rb, 6, none⟩ = some (.int .i64 0) := blk_cell HR0.out 6
    go_wp2_with fail
    refine bodyPost_ret (en_ret rfl _ _ _ _ rfl (en_put HR0.out _ _ _ _ _ _ _)) rfl ?_
    rw [HV.out]
    exact ⟨rfl, en_putB HB2.out HRB.out _ _ _ _ _ _ _⟩
  by_cases hB : x0 = sDo ∧ n = 7
  rotate_left
  · have HV := Lib.hid (show entM D (x0 :: R) = (zE, 2) from entM_bad (fun h => hA ⟨h.1, by have := HL.out; rw [h.2] at this; simpa using this.symm⟩) (fun h => hB ⟨h.1, by have := HL.out; rw [List.length_cons, h.2] at this; omega⟩))
    have z0 : w2.frozen? ⟨rb, 0, none⟩ = false := blk_free HR0.out 0
    have y0 : w2.cell? ⟨rb, 0, none⟩ = some (.int .i64 0) := blk_cell HR0.out 0
    have z1 : w2.frozen? ⟨rb, 1, none⟩ = false := blk_free HR0.out 1
    have y1 : w2.cell? ⟨rb, 1, none⟩ = some (.int .i64 0) := blk_cell HR0.out 1
    have z2 : w2.frozen? ⟨rb, 2, none⟩ = false := blk_free HR0.out 2
    have y2 : w2.cell? ⟨rb, 2, none⟩ = some (.int .i64 0) := blk_cell HR0.out 2
    have z3 : w2.frozen? ⟨rb, 3, none⟩ = false := blk_free HR0.out 3
    have y3 : w2.cell? ⟨rb, 3, none⟩ = some (.int .i64 0) := blk_cell HR0.out 3
    have z4 : w2.frozen? ⟨rb, 4, none⟩ = false := blk_free HR0.out 4
    have y4 : w2.cell? ⟨rb, 4, none⟩ = some (.int .i64 0) := blk_cell HR0.out 4
    have z5 : w2.frozen? ⟨rb, 5, none⟩ = false := blk_free HR0.out 5
    have y5 : w2.cell? ⟨rb, 5, none⟩ = some (.int .i64 0) := blk_cell HR0.out 5
    have z6 : w2.frozen? ⟨rb, 6, none⟩ = false := blk_free HR0.out 6
    have y6 : w2.cell? ⟨rb, 6, none⟩ = some (.int .i64 0) := blk_cell HR0.out 6
    have t0 : ((n : Int) = 1 ∧ ¬ x0.toList = [116, 105, 99, 107] ∧ ¬ (n : Int) = 7) ∨ (¬ (n : Int) = 1 ∧ ¬ (n : Int) = 7) ∨ (¬ (n : Int) = 1 ∧ (n : Int) = 7 ∧ ¬ x0.toList = [100, 111]) := by
      by_cases e1 : n = 1
      · exact .inl ⟨by omega, fun e => hA ⟨tl_of (by rw [e]; exact (tl_lit _).symm), e1⟩, by omega⟩
      by_cases e2 : n = 7
      · exact .inr (.inr ⟨by omega, by omega, fun e => hB ⟨tl_of (by rw [e]; exact (tl_lit _).symm), e2⟩⟩)
      exact .inr (.inl ⟨by omega, by omega⟩)
    clear hA hB
    rcases t0 with ⟨t1, t2, t3⟩ | ⟨t1, t2⟩ | ⟨t1, t2, t3⟩
    · obtain rfl : n = 1 := by omega
      have t2' : (x0.toList == [116, 105, 99, 107]) = false := by simpa using t2
      clear t1 t2 t3
      go_wp2_with fail
      refine bodyPost_ret (en_ret rfl _ _ _ _ rfl (en_put HR0.out _ _ _ _ _ _ _)) rfl ?_
      rw [HV.out]
      exact ⟨rfl, en_putB HB2.out HRB.out _ _ _ _ _ _ _⟩
    · go_wp2_with fail
      refine bodyPost_ret (en_ret rfl _ _ _ _ rfl (en_put HR0.out _ _ _ _ _ _ _)) rfl ?_
      rw [HV.out]
      exact ⟨rfl, en_putB HB2.out HRB.out _ _ _ _ _ _ _⟩
    · obtain rfl : n = 7 := by omega
      have t3' : (x0.toList == [100, 111]) = false := by simpa using t3
      have t3'' : (x0.toList != [100, 111]) = true := by simpa using t3
      clear t1 t2 t3
      go_wp2_with fail
      refine bodyPost_ret (en_ret rfl _ _ _ _ rfl (en_put HR0.out _ _ _ _ _ _ _)) rfl ?_
      rw [HV.out]
      exact ⟨rfl, en_putB HB2.out HRB.out _ _ _ _ _ _ _⟩
  obtain ⟨hx0, rfl⟩ := hB
  clear hA
  obtain ⟨x1, x2, x3, x4, x5, x6, rfl⟩ := six_list (R := R) (by have := HL.out; simpa using this)
  have t1 : x0.toList = [100, 111] := by rw [hx0]; exact tl_lit _
  have HE := Lib.hid (show entM D [x0, x1, x2, x3, x4, x5, x6] = if findD D x1 < 0 then ((zE, 4) : En × Int) else if opIx x3 < 0 then (zE, 2) else match numsT x2 x4 x5 x6 with | some (a, b, c, d) => (⟨2, findD D x1, a, 1 + opIx x3, b, c, d⟩, 0) | none => (zE, 2) by
    show (if x0 = sDo then _ else _) = _
    rw [if_pos hx0]
    rfl)
  clear hx0
  have HFI := Lib.hid (fun (u : World) (hu : Below w2.heap.size w2 u) => (rFind_calls ((HD.out.below (by omega) HB2.out).below (by omega) hu) x1).mono (fun e w' (h : e = .returned (.int .i64 (findD D x1)) ∧ u = w') => (show e = .returned (.int .i64 (findD D x1)) ∧ Below u.heap.size u w' from ⟨h.1, by rw [← h.2]; exact Below.refl _ _⟩)))
  have HVD := Lib.hid (show ∃ a c, vd = .slice a nd c from by obtain ⟨_, a, c, h, _⟩ := HD.out; exact ⟨a, c, h⟩)
  obtain ⟨vda, vdc, rfl⟩ := HVD.out
  have HPC := Lib.hid (fun (u : World) (hu : Below w2.heap.size w2 u) => show u.cell? ⟨pb, 0, none⟩ = some (.slice vda nd vdc) ∧ u.cell? ⟨bw, ow + 1, none⟩ = some (.string x1) from
    ⟨below_cell1 hu (lt_of_block HP0.out) (blk_cell HP0.out 0), HWC.out u (HB2.out.trans (hu.mono HB2.out.size)) 1 x1 rfl⟩)
  obtain ⟨f1, hf1⟩ : ∃ f, f = findD D x1 := ⟨_, rfl⟩
  rw [← hf1] at HFI HE
  clear hf1
  go_upto_region 5 with (fail)
  go_cut [6] (fun u wx => ∃ xb, u = .pointer (some ⟨xb, 0, none⟩) ∧ wx.heap[xb]? = some (.cells (enCells ⟨2, f1, 0, 0, 0, 0, 0⟩).toArray 28 (0, 0)) ∧ Below w2.heap.size w2 wx ∧ w2.heap.size ≤ xb)
  case first =>
    refine wp_region_W 9 8 (fun w' : World => Below w2.heap.size w2 w') (by kernel_rfl) (by kernel_rfl) ((Below.refl _ _).drew) (fun hT => ?_)
    refine wpAnyW_take (i := 0) (some 32) rfl rfl (by kernel_rfl) (by kernel_rfl) (by kernel_rfl) (by kernel_rfl) (fun _ _ _ h => h) (v := ?_) (.inl ⟨by rfl, ?_⟩) (.inr hT) ?_
    rotate_left
    · (intro wT _; go_simp <;> with_reducible rfl)
    simp only [Act.put, List.setIfInBounds_toArray, List.set_cons_zero, List.set_cons_succ]
    refine wpAnyW_load (i := 1) (some 33) rfl rfl (by kernel_rfl) (by kernel_rfl) (by kernel_rfl) (by kernel_rfl) (by kernel_rfl) (fun _ _ _ h => h) (v := ?_) (.inl ⟨by rfl, ?_⟩) hT ?_
    rotate_left
    · (intro wT hT; try dsimp only at hT); (obtain ⟨t0, t1⟩ := HPC.out _ hT; clear hT); (go_simp <;> with_reducible rfl)
    simp only [Act.put, List.setIfInBounds_toArray, List.set_cons_zero, List.set_cons_succ]
    refine wpAnyW_take (i := 2) (some 34) rfl rfl (by kernel_rfl) (by kernel_rfl) (by kernel_rfl) (by kernel_rfl) (fun _ _ _ h => h) (v := ?_) (.inl ⟨by rfl, ?_⟩) (.inr hT) ?_
    rotate_left
    · (intro wT _; go_simp <;> with_reducible rfl)
    simp only [Act.put, List.setIfInBounds_toArray, List.set_cons_zero, List.set_cons_succ]
    refine wpAnyW_take (i := 3) (some 35) rfl rfl (by kernel_rfl) (by kernel_rfl) (by kernel_rfl) (by kernel_rfl) (fun _ _ _ h => h) (v := ?_) (.inl ⟨by rfl, ?_⟩) (.inr hT) ?_
    rotate_left
    · (intro wT _; go_simp <;> with_reducible rfl)
    simp only [Act.put, List.setIfInBounds_toArray, List.set_cons_zero, List.set_cons_succ]
    refine wpAnyW_load (i := 4) (some 36) rfl rfl (by kernel_rfl) (by kernel_rfl) (by kernel_rfl) (by kernel_rfl) (by kernel_rfl) (fun _ _ _ h => h) (v := ?_) (.inl ⟨by rfl, ?_⟩) hT ?_
    rotate_left
    · (intro wT hT; try dsimp only at hT); (obtain ⟨t0, t1⟩ := HPC.out _ hT; clear hT); (go_simp <;> with_reducible rfl)
    simp only [Act.put, List.setIfInBounds_toArray, List.set_cons_zero, List.set_cons_succ]
    refine wpAnyW_two (i := 5) (j := 7) (by kernel_rfl) rfl rfl (fun K hK => ?_) (fun K hK => ?_)
    · go_simp
      refine (HFI.out (w2.drew) ((Below.refl w2.heap.size w2).drew)).mono ?_
      rintro e W5 ⟨rfl, hq5⟩
      dsimp only
      have hb5 : Below w2.heap.size w2 W5 := Below.trans ((Below.refl w2.heap.size w2).drew) (hq5.mono ((Below.refl w2.heap.size w2).drew).size)
      refine step_owe hK ?_ (fun hT => ?_)
      · first | exact hb5 | exact hb7
      clear hK K
      refine wpAnyW_take (i := 6) (some 38) rfl rfl (by kernel_rfl) (by kernel_rfl) (by kernel_rfl) (by kernel_rfl) (fun _ _ _ h => h) (v := ?_) (.inl ⟨by rfl, ?_⟩) (.inr hT) ?_
      rotate_left
      · (intro wT _; go_simp <;> with_reducible rfl)
      simp only [Act.put, List.setIfInBounds_toArray, List.set_cons_zero, List.set_cons_succ]
      refine wpAnyW_one (i := 7) (by kernel_rfl) rfl (fun K hK => ?_)
      go_simp
      refine name_world2 (fun W7 hW7 => ?_)
      obtain ⟨xb, hxbe⟩ : ∃ xb, xb = (W5).heap.size := ⟨_, rfl⟩
      have hxb : w2.heap.size ≤ xb := by rw [hxbe]; exact Below.size (hb5)
      have hb7 : Below w2.heap.size w2 W7 := by rw [hW7]; first | exact Below.alloc (hb5) (Below.size (hb5)) _ | exact (Below.alloc (Below.refl _ _) (Nat.le_refl _) _).drew
      have hx7 : W7.heap[xb]? = some (.cells (enCells zE).toArray 28 (0, 0)) := by rw [hW7, hxbe]; exact heap_alloc_new (W5) _
      rw [← hxbe]
      clear hW7 hxbe
      refine step_owe hK ?_ (fun hT => ?_)
      · first | exact hb5 | exact hb7
      clear hK K
      refine wpAnyW_one (i := 8) (by kernel_rfl) rfl (fun K hK => ?_)
      have z0 : W7.frozen? ⟨xb, 0, none⟩ = false := blk_free hx7 0
      have y0 : W7.cell? ⟨xb, 0, none⟩ = some (.int .i64 0) := blk_cell hx7 0
      have z1 : W7.frozen? ⟨xb, 1, none⟩ = false := blk_free hx7 1
      have y1 : W7.cell? ⟨xb, 1, none⟩ = some (.int .i64 0) := blk_cell hx7 1
      have z2 : W7.frozen? ⟨xb, 2, none⟩ = false := blk_free hx7 2
      have y2 : W7.cell? ⟨xb, 2, none⟩ = some (.int .i64 0) := blk_cell hx7 2
      have z3 : W7.frozen? ⟨xb, 3, none⟩ = false := blk_free hx7 3
      have y3 : W7.cell? ⟨xb, 3, none⟩ = some (.int .i64 0) := blk_cell hx7 3
      have z4 : W7.frozen? ⟨xb, 4, none⟩ = false := blk_free hx7 4
      have y4 : W7.cell? ⟨xb, 4, none⟩ = some (.int .i64 0) := blk_cell hx7 4
      have z5 : W7.frozen? ⟨xb, 5, none⟩ = false := blk_free hx7 5
      have y5 : W7.cell? ⟨xb, 5, none⟩ = some (.int .i64 0) := blk_cell hx7 5
      have z6 : W7.frozen? ⟨xb, 6, none⟩ = false := blk_free hx7 6
      have y6 : W7.cell? ⟨xb, 6, none⟩ = some (.int .i64 0) := blk_cell hx7 6
      have HXF := Lib.hid hx7
      have HBF := Lib.hid hb7
      have HXB := Lib.hid hxb
      go_simp
      refine name_world2 (fun WF hWF => ?_)
      have hxf : WF.heap[xb]? = some (.cells (enCells ⟨2, f1, 0, 0, 0, 0, 0⟩).toArray 28 (0, 0)) := by rw [hWF]; exact en_put HXF.out _ _ _ _ _ _ _
      have hbf : Below w2.heap.size w2 WF := by rw [hWF]; exact en_putB HBF.out HXB.out _ _ _ _ _ _ _
      clear hWF z0 z1 z2 z3 z4 z5 z6 y0 y1 y2 y3 y4 y5 y6
      refine step_paid hK (by kernel_rfl) ?_
      clear hK K
      refine wpAnyW_done (by kernel_rfl) ?_
      go_wp2_with fail
      go_meet
      exact ⟨xb, rfl, hxf, hbf, HXB.out⟩
    · go_simp
      refine name_world2 (fun W7 hW7 => ?_)
      obtain ⟨xb, hxbe⟩ : ∃ xb, xb = (w2.drew).heap.size := ⟨_, rfl⟩
      have hxb : w2.heap.size ≤ xb := by rw [hxbe]; exact Below.size ((Below.refl w2.heap.size w2).drew)
      have hb7 : Below w2.heap.size w2 W7 := by rw [hW7]; first | exact Below.alloc ((Below.refl w2.heap.size w2).drew) (Below.size ((Below.refl w2.heap.size w2).drew)) _ | exact (Below.alloc (Below.refl _ _) (Nat.le_refl _) _).drew
      have hx7 : W7.heap[xb]? = some (.cells (enCells zE).toArray 28 (0, 0)) := by rw [hW7, hxbe]; exact heap_alloc_new (w2.drew) _
      rw [show w2.heap.size = xb from hxbe.symm]
      clear hW7 hxbe
      refine step_owe hK ?_ (fun hT => ?_)
      · first | exact hb5 | exact hb7
      clear hK K
      refine wpAnyW_one (i := 5) (by kernel_rfl) rfl (fun K hK => ?_)
      go_simp
      refine (HFI.out (W7) (hb7)).mono ?_
      rintro e W5 ⟨rfl, hq5⟩
      dsimp only
      have hb5 : Below w2.heap.size w2 W5 := Below.trans (hb7) (hq5.mono (hb7).size)
      have hx5 : W5.heap[xb]? = some (.cells (enCells zE).toArray 28 (0, 0)) := (hq5.block _ (lt_of_block hx7)).trans hx7
      refine step_owe hK ?_ (fun hT => ?_)
      · first | exact hb5 | exact hb7
      clear hK K
      refine wpAnyW_take (i := 6) (some 38) rfl rfl (by kernel_rfl) (by kernel_rfl) (by kernel_rfl) (by kernel_rfl) (fun _ _ _ h => h) (v := ?_) (.inl ⟨by rfl, ?_⟩) (.inr hT) ?_
      rotate_left
      · (intro wT _; go_simp <;> with_reducible rfl)
      simp only [Act.put, List.setIfInBounds_toArray, List.set_cons_zero, List.set_cons_succ]
      refine wpAnyW_one (i := 8) (by kernel_rfl) rfl (fun K hK => ?_)
      have z0 : W5.frozen? ⟨xb, 0, none⟩ = false := blk_free hx5 0
      have y0 : W5.cell? ⟨xb, 0, none⟩ = some (.int .i64 0) := blk_cell hx5 0
      have z1 : W5.frozen? ⟨xb, 1, none⟩ = false := blk_free hx5 1
      have y1 : W5.cell? ⟨xb, 1, none⟩ = some (.int .i64 0) := blk_cell hx5 1
      have z2 : W5.frozen? ⟨xb, 2, none⟩ = false := blk_free hx5 2
      have y2 : W5.cell? ⟨xb, 2, none⟩ = some (.int .i64 0) := blk_cell hx5 2
      have z3 : W5.frozen? ⟨xb, 3, none⟩ = false := blk_free hx5 3
      have y3 : W5.cell? ⟨xb, 3, none⟩ = some (.int .i64 0) := blk_cell hx5 3
      have z4 : W5.frozen? ⟨xb, 4, none⟩ = false := blk_free hx5 4
      have y4 : W5.cell? ⟨xb, 4, none⟩ = some (.int .i64 0) := blk_cell hx5 4
      have z5 : W5.frozen? ⟨xb, 5, none⟩ = false := blk_free hx5 5
      have y5 : W5.cell? ⟨xb, 5, none⟩ = some (.int .i64 0) := blk_cell hx5 5
      have z6 : W5.frozen? ⟨xb, 6, none⟩ = false := blk_free hx5 6
      have y6 : W5.cell? ⟨xb, 6, none⟩ = some (.int .i64 0) := blk_cell hx5 6
      have HXF := Lib.hid hx5
      have HBF := Lib.hid hb5
      have HXB := Lib.hid hxb
      go_simp
      refine name_world2 (fun WF hWF => ?_)
      have hxf : WF.heap[xb]? = some (.cells (enCells ⟨2, f1, 0, 0, 0, 0, 0⟩).toArray 28 (0, 0)) := by rw [hWF]; exact en_put HXF.out _ _ _ _ _ _ _
      have hbf : Below w2.heap.size w2 WF := by rw [hWF]; exact en_putB HBF.out HXB.out _ _ _ _ _ _ _
      clear hWF z0 z1 z2 z3 z4 z5 z6 y0 y1 y2 y3 y4 y5 y6
      refine step_paid hK (by kernel_rfl) ?_
      clear hK K
      refine wpAnyW_done (by kernel_rfl) ?_
      go_wp2_with fail
      go_meet
      exact ⟨xb, rfl, hxf, hbf, HXB.out⟩
  case rest =>
  obtain ⟨xb, rfl, hxb, hbc, hxg⟩ := hcut
  have HX4 := Lib.hid hxb
  have HB4 := Lib.hid (HB2.out.trans (hbc.mono HB2.out.size))
  have HR4 := Lib.hid ((hbc.block rb (lt_of_block HR0.out)).trans HR0.out)
  have HXG := Lib.hid (Nat.le_trans HB2.out.size hxg)
  have HNE := Lib.hid (show rb ≠ xb from fun e => by have := lt_of_block HR0.out; omega)
  have d1 : wc.cell? ⟨xb, 1, none⟩ = some (.int .i64 f1) := blk_cell HX4.out 1
  clear hxb hbc hxg k0 HFI HPC HP0 HR0
  by_cases hf0 : f1 < 0
  · have HV := Lib.hid (show entM D [x0, x1, x2, x3, x4, x5, x6] = (zE, 4) by rw [HE.out, if_pos hf0])
    have z0 : wc.frozen? ⟨rb, 0, none⟩ = false := blk_free HR4.out 0
    have y0 : wc.cell? ⟨rb, 0, none⟩ = some (.int .i64 0) := blk_cell HR4.out 0
    have z1 : wc.frozen? ⟨rb, 1, none⟩ = false := blk_free HR4.out 1
    have y1 : wc.cell? ⟨rb, 1, none⟩ = some (.int .i64 0) := blk_cell HR4.out 1
    have z2 : wc.frozen? ⟨rb, 2, none⟩ = false := blk_free HR4.out 2
    have y2 : wc.cell? ⟨rb, 2, none⟩ = some (.int .i64 0) := blk_cell HR4.out 2
    have z3 : wc.frozen? ⟨rb, 3, none⟩ = false := blk_free HR4.out 3
    have y3 : wc.cell? ⟨rb, 3, none⟩ = some (.int .i64 0) := blk_cell HR4.out 3
    have z4 : wc.frozen? ⟨rb, 4, none⟩ = false := blk_free HR4.out 4
    have y4 : wc.cell? ⟨rb, 4, none⟩ = some (.int .i64 0) := blk_cell HR4.out 4
    have z5 : wc.frozen? ⟨rb, 5, none⟩ = false := blk_free HR4.out 5
    have y5 : wc.cell? ⟨rb, 5, none⟩ = some (.int .i64 0) := blk_cell HR4.out 5
    have z6 : wc.frozen? ⟨rb, 6, none⟩ = false := blk_free HR4.out 6
    have y6 : wc.cell? ⟨rb, 6, none⟩ = some (.int .i64 0) := blk_cell HR4.out 6
    go_wp2_with fail
    refine bodyPost_ret (en_ret rfl _ _ _ _ rfl (en_put HR4.out _ _ _ _ _ _ _)) rfl ?_
    rw [HV.out]
    exact ⟨rfl, en_putB HB4.out HRB.out _ _ _ _ _ _ _⟩
  have HE2 := Lib.hid (show entM D [x0, x1, x2, x3, x4, x5, x6] = if opIx x3 < 0 then ((zE, 2) : En × Int) else match numsT x2 x4 x5 x6 with | some (a, b, c, d) => (⟨2, f1, a, 1 + opIx x3, b, c, d⟩, 0) | none => (zE, 2) by rw [HE.out, if_neg hf0])
  clear HE
  go_wp2_with fail
  clear d1
  go_loopw [7] (fun u wr => ∃ j : Nat, u = .int .i64 (j : Int) ∧ 1 ≤ j ∧ j ≤ 35 ∧ Below w.heap.size w wr ∧ wr.heap[rb]? = some (.cells (enCells zE).toArray 28 (0, 0)) ∧ wr.heap[xb]? = some (.cells (enCells ⟨2, f1, 0, oAt x3 j, 0, 0, 0⟩).toArray 28 (0, 0))) (fun u _ => 35 - (intOf u).toNat)
  case atStart => exact ⟨1, rfl, Nat.le_refl _, by omega, HB4.out, HR4.out, by
    have : oAt x3 1 = 0 := by unfold oAt; rw [if_neg (by omega)]
    rw [this]
    exact HX4.out⟩
  case round =>
    obtain ⟨j, rfl, hj0, hj1, hb, hrr, hxx⟩ := hrel
    have HB := Lib.hid hb
    have HR := Lib.hid hrr
    have HX := Lib.hid hxx
    have hjz : (0 : Int) ≤ (j : Int) := Int.natCast_nonneg _
    clear hb hrr hxx HB4 HR4 HX4
    by_cases hj : j ≤ 34
    · have hj' : (j : Int) ≤ 34 := by omega
      have HW := Lib.hid (fun u : World => word_calls (j : Int) u)
      have HIX := Lib.hid (word_ix hj0 hj x3)
      generalize wordT (j : Int) = t at HW HIX
      have HTL := Lib.hid (tl_eq t x3)
      have f0 : ∀ u : BW wr, u.at_.cell? ⟨bw, ow + 3, none⟩ = some (.string x3) := bw_cell (Nat.lt_of_lt_of_le HBW.out HB.out.size) (HWC.out wr HB.out 3 x3 rfl)
      go_upto_region 11 with (fail)
      refine wp_region_quiet_bw (by kernel_rfl) (by kernel_rfl) ?_
      repeat (go_big_quiet_step ((go_at_call 18; refine Calls.bw _ (HW.out _))))
      refine wpQuiet_nil ?_
      intro _ hw'
      obtain ⟨tq, rfl⟩ := hw'
      have HB6 := Lib.hid (HB.out.trans (tq.ok.mono HB.out.size))
      have HR6 := Lib.hid ((tq.ok.block rb (lt_of_block HR.out)).trans HR.out)
      have HX6 := Lib.hid ((tq.ok.block xb (lt_of_block HX.out)).trans HX.out)
      generalize tq.at_ = w6 at HB6 HR6 HX6 ⊢
      clear f0 HW
      cases hts : (t.toList == x3.toList) with
      | true =>
        have HO := Lib.hid (show oAt x3 (j + 1) = (j : Int) from oAt_hit hj0 (HIX.out.1 (by have := HTL.out; rw [hts] at this; exact of_decide_eq_true this.symm)))
        have z3 : w6.frozen? ⟨xb, 3, none⟩ = false := blk_free HX6.out 3
        have y3 : w6.cell? ⟨xb, 3, none⟩ = some (.int .i64 (oAt x3 j)) := blk_cell HX6.out 3
        have HX7 := Lib.hid (en_set3 HX6.out (j : Int))
        have HR7 := Lib.hid (show (w6.setCell ⟨xb, 3, none⟩ (.int .i64 (j : Int))).heap[rb]? = some (.cells (enCells zE).toArray 28 (0, 0)) from (heap_setCell_other _ _ _ _ HNE.out).trans HR6.out)
        have HB7 := Lib.hid (HB6.out.setCell (p := ⟨xb, 3, none⟩) HXG.out (.int .i64 (j : Int)))
        generalize oAt x3 j = oo at y3
        go_wp2_with fail
        go_roundw
        case rel => exact ⟨j + 1, by go_num, by omega, by omega, HB7.out, HR7.out, by rw [HO.out]; exact HX7.out⟩
        case measure => simp [intOf]; omega
      | false =>
        have HO := Lib.hid (show oAt x3 (j + 1) = oAt x3 j from oAt_no (fun h => by have := HTL.out; rw [hts] at this; exact of_decide_eq_false this.symm (HIX.out.2 h)))
        go_wp2_with fail
        go_roundw
        case rel => exact ⟨j + 1, by go_num, by omega, by omega, HB6.out, HR6.out, by rw [HO.out]; exact HX6.out⟩
        case measure => simp [intOf]; omega
    obtain rfl : j = 35 := by omega
    have hj' : ¬ ((35 : Nat) : Int) ≤ 34 := by omega
    have HOE := Lib.hid (oAt_end x3)
    obtain ⟨o, ho⟩ : ∃ o, o = oAt x3 35 := ⟨_, rfl⟩
    rw [← ho] at HX HOE
    have k2 : wr.cell? ⟨bw, ow + 2, none⟩ = some (.string x2) := HWC.out wr HB.out 2 x2 rfl
    have HN2 := Lib.hid (rnumber_calls x2 (HS.out x2 (by simp)) wr)
    have HN4 := Lib.hid (fun u : World => rnumber_calls x4 (HS.out x4 (by simp)) u)
    have HN5 := Lib.hid (fun u : World => rnumber_calls x5 (HS.out x5 (by simp)) u)
    have HN6 := Lib.hid (fun u : World => rnumber_calls x6 (HS.out x6 (by simp)) u)
    obtain ⟨b2, hb2⟩ : ∃ b, b = (numT x2).isSome := ⟨_, rfl⟩
    obtain ⟨b4, hb4⟩ : ∃ b, b = (numT x4).isSome := ⟨_, rfl⟩
    obtain ⟨b5, hb5⟩ : ∃ b, b = (numT x5).isSome := ⟨_, rfl⟩
    obtain ⟨b6, hb6⟩ : ∃ b, b = (numT x6).isSome := ⟨_, rfl⟩
    rw [← hb2] at HN2
    rw [← hb4] at HN4
    rw [← hb5] at HN5
    rw [← hb6] at HN6
    have HBB := Lib.hid (And.intro hb2 (And.intro hb4 (And.intro hb5 hb6)))
    clear ho hb2 hb4 hb5 hb6 hj hj0 hj1
    go_wp2_with fail
    refine HN2.out.mono ?_
    rintro e w7 ⟨m2, rfl, hz2, hb7⟩
    have HZ2 := Lib.hid hz2
    have HB7 := Lib.hid (HB.out.trans (hb7.mono HB.out.size))
    have HR7 := Lib.hid ((hb7.block rb (lt_of_block HR.out)).trans HR.out)
    have HX7 := Lib.hid ((hb7.block xb (lt_of_block HX.out)).trans HX.out)
    clear hz2 hb7 k2 HB HR HX HN2
    have zz : w7.frozen? ⟨xb, 2, none⟩ = false := blk_free HX7.out 2
    have yy : w7.cell? ⟨xb, 2, none⟩ = some (.int .i64 0) := blk_cell HX7.out 2
    have HX8 := Lib.hid (en_set2 HX7.out m2)
    have HR8 := Lib.hid (show (w7.setCell ⟨xb, 2, none⟩ (.int .i64 m2)).heap[rb]? = some (.cells (enCells zE).toArray 28 (0, 0)) from (heap_setCell_other _ _ _ _ HNE.out).trans HR7.out)
    have HB8 := Lib.hid (HB7.out.setCell (p := ⟨xb, 2, none⟩) HXG.out (.int .i64 m2))
    have k4 : (w7.setCell ⟨xb, 2, none⟩ (.int .i64 m2)).cell? ⟨bw, ow + 4, none⟩ = some (.string x4) := HWC.out _ HB8.out 4 x4 rfl
    go_upto_region 15 with (fail)
    generalize w7.setCell ⟨xb, 2, none⟩ (.int .i64 m2) = w8 at HX8 HR8 HB8 k4 ⊢
    clear zz yy HX7 HR7 HB7
    go_wp2_with fail
    refine (HN4.out w8).mono ?_
    rintro e w9 ⟨m4, rfl, hz4, hb9⟩
    have HZ4 := Lib.hid hz4
    have HB9 := Lib.hid (HB8.out.trans (hb9.mono HB8.out.size))
    have HR9 := Lib.hid ((hb9.block rb (lt_of_block HR8.out)).trans HR8.out)
    have HX9 := Lib.hid ((hb9.block xb (lt_of_block HX8.out)).trans HX8.out)
    clear hz4 hb9 k4 HB8 HR8 HX8 HN4
    have zz : w9.frozen? ⟨xb, 4, none⟩ = false := blk_free HX9.out 4
    have yy : w9.cell? ⟨xb, 4, none⟩ = some (.int .i64 0) := blk_cell HX9.out 4
    have HX10 := Lib.hid (en_set4 HX9.out m4)
    have HR10 := Lib.hid (show (w9.setCell ⟨xb, 4, none⟩ (.int .i64 m4)).heap[rb]? = some (.cells (enCells zE).toArray 28 (0, 0)) from (heap_setCell_other _ _ _ _ HNE.out).trans HR9.out)
    have HB10 := Lib.hid (HB9.out.setCell (p := ⟨xb, 4, none⟩) HXG.out (.int .i64 m4))
    have k5 : (w9.setCell ⟨xb, 4, none⟩ (.int .i64 m4)).cell? ⟨bw, ow + 5, none⟩ = some (.string x5) := HWC.out _ HB10.out 5 x5 rfl
    go_upto_region 16 with (fail)
    generalize w9.setCell ⟨xb, 4, none⟩ (.int .i64 m4) = w10 at HX10 HR10 HB10 k5 ⊢
    clear zz yy HX9 HR9 HB9
    go_wp2_with fail
    refine (HN5.out w10).mono ?_
    rintro e w11 ⟨m5, rfl, hz5, hb11⟩
    have HZ5 := Lib.hid hz5
    have HB11 := Lib.hid (HB10.out.trans (hb11.mono HB10.out.size))
    have HR11 := Lib.hid ((hb11.block rb (lt_of_block HR10.out)).trans HR10.out)
    have HX11 := Lib.hid ((hb11.block xb (lt_of_block HX10.out)).trans HX10.out)
    clear hz5 hb11 k5 HB10 HR10 HX10 HN5
    have zz : w11.frozen? ⟨xb, 5, none⟩ = false := blk_free HX11.out 5
    have yy : w11.cell? ⟨xb, 5, none⟩ = some (.int .i64 0) := blk_cell HX11.out 5
    have HX12 := Lib.hid (en_set5 HX11.out m5)
    have HR12 := Lib.hid (show (w11.setCell ⟨xb, 5, none⟩ (.int .i64 m5)).heap[rb]? = some (.cells (enCells zE).toArray 28 (0, 0)) from (heap_setCell_other _ _ _ _ HNE.out).trans HR11.out)
    have HB12 := Lib.hid (HB11.out.setCell (p := ⟨xb, 5, none⟩) HXG.out (.int .i64 m5))
    have k6 : (w11.setCell ⟨xb, 5, none⟩ (.int .i64 m5)).cell? ⟨bw, ow + 6, none⟩ = some (.string x6) := HWC.out _ HB12.out 6 x6 rfl
    go_upto_region 17 with (fail)
    generalize w11.setCell ⟨xb, 5, none⟩ (.int .i64 m5) = w12 at HX12 HR12 HB12 k6 ⊢
    clear zz yy HX11 HR11 HB11
    go_wp2_with fail
    refine (HN6.out w12).mono ?_
    rintro e w13 ⟨m6, rfl, hz6, hb13⟩
    have HZ6 := Lib.hid hz6
    have HB13 := Lib.hid (HB12.out.trans (hb13.mono HB12.out.size))
    have HR13 := Lib.hid ((hb13.block rb (lt_of_block HR12.out)).trans HR12.out)
    have HX13 := Lib.hid ((hb13.block xb (lt_of_block HX12.out)).trans HX12.out)
    clear hz6 hb13 k6 HB12 HR12 HX12 HN6
    have zz : w13.frozen? ⟨xb, 6, none⟩ = false := blk_free HX13.out 6
    have yy : w13.cell? ⟨xb, 6, none⟩ = some (.int .i64 0) := blk_cell HX13.out 6
    have HX14 := Lib.hid (en_set6 HX13.out m6)
    have HR14 := Lib.hid (show (w13.setCell ⟨xb, 6, none⟩ (.int .i64 m6)).heap[rb]? = some (.cells (enCells zE).toArray 28 (0, 0)) from (heap_setCell_other _ _ _ _ HNE.out).trans HR13.out)
    have HB14 := Lib.hid (HB13.out.setCell (p := ⟨xb, 6, none⟩) HXG.out (.int .i64 m6))
    go_upto_region 18 with (fail)
    generalize w13.setCell ⟨xb, 6, none⟩ (.int .i64 m6) = w14 at HX14 HR14 HB14 ⊢
    clear zz yy HX13 HR13 HB13
    have e0 : w14.cell? ⟨xb, 0, none⟩ = some (.int .i64 2) := blk_cell HX14.out 0
    have e1 : w14.cell? ⟨xb, 1, none⟩ = some (.int .i64 f1) := blk_cell HX14.out 1
    have e2 : w14.cell? ⟨xb, 2, none⟩ = some (.int .i64 m2) := blk_cell HX14.out 2
    have e3 : w14.cell? ⟨xb, 3, none⟩ = some (.int .i64 o) := blk_cell HX14.out 3
    have e4 : w14.cell? ⟨xb, 4, none⟩ = some (.int .i64 m4) := blk_cell HX14.out 4
    have e5 : w14.cell? ⟨xb, 5, none⟩ = some (.int .i64 m5) := blk_cell HX14.out 5
    have e6 : w14.cell? ⟨xb, 6, none⟩ = some (.int .i64 m6) := blk_cell HX14.out 6
    have z0 : w14.frozen? ⟨rb, 0, none⟩ = false := blk_free HR14.out 0
    have y0 : w14.cell? ⟨rb, 0, none⟩ = some (.int .i64 0) := blk_cell HR14.out 0
    have z1 : w14.frozen? ⟨rb, 1, none⟩ = false := blk_free HR14.out 1
    have y1 : w14.cell? ⟨rb, 1, none⟩ = some (.int .i64 0) := blk_cell HR14.out 1
    have z2 : w14.frozen? ⟨rb, 2, none⟩ = false := blk_free HR14.out 2
    have y2 : w14.cell? ⟨rb, 2, none⟩ = some (.int .i64 0) := blk_cell HR14.out 2
    have z3 : w14.frozen? ⟨rb, 3, none⟩ = false := blk_free HR14.out 3
    have y3 : w14.cell? ⟨rb, 3, none⟩ = some (.int .i64 0) := blk_cell HR14.out 3
    have z4 : w14.frozen? ⟨rb, 4, none⟩ = false := blk_free HR14.out 4
    have y4 : w14.cell? ⟨rb, 4, none⟩ = some (.int .i64 0) := blk_cell HR14.out 4
    have z5 : w14.frozen? ⟨rb, 5, none⟩ = false := blk_free HR14.out 5
    have y5 : w14.cell? ⟨rb, 5, none⟩ = some (.int .i64 0) := blk_cell HR14.out 5
    have z6 : w14.frozen? ⟨rb, 6, none⟩ = false := blk_free HR14.out 6
    have y6 : w14.cell? ⟨rb, 6, none⟩ = some (.int .i64 0) := blk_cell HR14.out 6
    by_cases hox : opIx x3 < 0
    · have HV := Lib.hid (show entM D [x0, x1, x2, x3, x4, x5, x6] = (zE, 2) by rw [HE2.out, if_pos hox])
      have ho0 : o = 0 := by rw [HOE.out, if_pos hox]
      subst ho0
      clear hox
      go_wp2_with fail
      refine bodyPost_ret (en_ret rfl _ _ _ _ rfl (en_put HR14.out _ _ _ _ _ _ _)) rfl ?_
      rw [HV.out]
      exact ⟨rfl, en_putB HB14.out HRB.out _ _ _ _ _ _ _⟩
    have HE3 := Lib.hid (show entM D [x0, x1, x2, x3, x4, x5, x6] = match numsT x2 x4 x5 x6 with | some (a, b, c, d) => ((⟨2, f1, a, 1 + opIx x3, b, c, d⟩, 0) : En × Int) | none => (zE, 2) by rw [HE2.out, if_neg hox])
    have HOO := Lib.hid (show o = 1 + opIx x3 by rw [HOE.out, if_neg hox])
    have ho0 : ¬ o = 0 := by have := HOO.out; omega
    have HNN := Lib.hid (fun h : b2 = false ∨ b4 = false ∨ b5 = false ∨ b6 = false => show entM D [x0, x1, x2, x3, x4, x5, x6] = (zE, 2) from by
      obtain ⟨q2, q4, q5, q6⟩ := HBB.out
      have hnn : numsT x2 x4 x5 x6 = none := by
        unfold numsT
        cases h2 : numT x2 with
        | none => rfl
        | some _ => cases h4 : numT x4 with
          | none => rfl
          | some _ => cases h5 : numT x5 with
            | none => rfl
            | some _ => cases h6 : numT x6 with
              | none => rfl
              | some _ =>
                rw [h2] at q2; rw [h4] at q4; rw [h5] at q5; rw [h6] at q6
                rcases h with h | h | h | h
                · rw [h] at q2; cases q2
                · rw [h] at q4; cases q4
                · rw [h] at q5; cases q5
                · rw [h] at q6; cases q6
      rw [HE3.out, hnn])
    have HYY := Lib.hid (fun h : b2 = true ∧ b4 = true ∧ b5 = true ∧ b6 = true => show entM D [x0, x1, x2, x3, x4, x5, x6] = (⟨2, f1, m2, o, m4, m5, m6⟩, 0) from by
      obtain ⟨q2, q4, q5, q6⟩ := HBB.out
      obtain ⟨rfl, rfl, rfl, rfl⟩ := h
      obtain ⟨v2, hv2⟩ := Option.isSome_iff_exists.1 q2.symm
      obtain ⟨v4, hv4⟩ := Option.isSome_iff_exists.1 q4.symm
      obtain ⟨v5, hv5⟩ := Option.isSome_iff_exists.1 q5.symm
      obtain ⟨v6, hv6⟩ := Option.isSome_iff_exists.1 q6.symm
      have hnn : numsT x2 x4 x5 x6 = some (v2, v4, v5, v6) := by unfold numsT; rw [hv2, hv4, hv5, hv6]
      rw [HE3.out, hnn]
      simp only
      rw [HZ2.out v2 hv2, HZ4.out v4 hv4, HZ5.out v5 hv5, HZ6.out v6 hv6, HOO.out])
    clear hox
    cases b2 with
    | false =>
      have HV := Lib.hid (HNN.out (.inl rfl))
      go_wp2_with fail
      refine bodyPost_ret (en_ret rfl _ _ _ _ rfl (en_put HR14.out _ _ _ _ _ _ _)) rfl ?_
      rw [HV.out]
      exact ⟨rfl, en_putB HB14.out HRB.out _ _ _ _ _ _ _⟩
    | true =>
    cases b4 with
    | false =>
      have HV := Lib.hid (HNN.out (.inr (.inl rfl)))
      go_wp2_with fail
      refine bodyPost_ret (en_ret rfl _ _ _ _ rfl (en_put HR14.out _ _ _ _ _ _ _)) rfl ?_
      rw [HV.out]
      exact ⟨rfl, en_putB HB14.out HRB.out _ _ _ _ _ _ _⟩
    | true =>
    cases b5 with
    | false =>
      have HV := Lib.hid (HNN.out (.inr (.inr (.inl rfl))))
      go_wp2_with fail
      refine bodyPost_ret (en_ret rfl _ _ _ _ rfl (en_put HR14.out _ _ _ _ _ _ _)) rfl ?_
      rw [HV.out]
      exact ⟨rfl, en_putB HB14.out HRB.out _ _ _ _ _ _ _⟩
    | true =>
    cases b6 with
    | false =>
      have HV := Lib.hid (HNN.out (.inr (.inr (.inr rfl))))
      go_wp2_with fail
      refine bodyPost_ret (en_ret rfl _ _ _ _ rfl (en_put HR14.out _ _ _ _ _ _ _)) rfl ?_
      rw [HV.out]
      exact ⟨rfl, en_putB HB14.out HRB.out _ _ _ _ _ _ _⟩
    | true =>
    have HV := Lib.hid (HYY.out ⟨rfl, rfl, rfl, rfl⟩)
    go_wp2_with fail
    refine bodyPost_ret (en_ret rfl _ _ _ _ rfl (en_put HR14.out _ _ _ _ _ _ _)) rfl ?_
    rw [HV.out]
    exact ⟨rfl, en_putB HB14.out HRB.out _ _ _ _ _ _ _⟩
end Go.Proofs.YtbgpniepgbmkaaaDoor
