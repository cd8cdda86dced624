/- What tale.entry does. Conditions: the policy and the words can be read, no word is longer than 2^47 bytes, the library's table and its two errors are laid (TabT). -/
import Derived.Test.YtbgpniepgbmkaaaDoorTalB
import Derived.Test.YtbgpniepgbmkaaaDoorTail
namespace Go.Proofs.YtbgpniepgbmkaaaDoor
open Go.RowKit BigFrame Go.BigFrame

theorem drew_heap (w : World) : w.drew.heap = w.heap := rfl
theorem en_load {w : World} {b : Nat} {x : En} (h : w.heap[b]? = some (.cells (enCells x).toArray 28 (0, 0))) : (loadVar 28 ⟨b, 0, none⟩).run Tryd.prog w = .ok (enVal x) w :=
  run_loadVar_row w b _ _ _ _ _ h Tryd.underlying28 rfl (by kernel_rfl)
set_option maxRecDepth 100000 in
theorem en_ret {fn : Func} {p u : Tmp} (h : fn.results = #[.cell p 28, .tmp u]) (tmps : Array Value) (w : World) (b : Nat) (x : En) (hp : tmps.getD p undef = .pointer (some ⟨b, 0, none⟩)) (hb : w.heap[b]? = some (.cells (enCells x).toArray 28 (0, 0))) :
    (results fn tmps).run Tryd.prog w = .ok (.tuple #[enVal x, tmps.getD u undef]) w := by
  rw [results_cell_tmp h, hp]
  show ((loadVar 28 ⟨b, 0, none⟩).run Tryd.prog w).andThen _ = _
  rw [en_load hb]
  rfl
theorem en_put {w : World} {b : Nat} {x : En} {T : TypeId} (h : w.heap[b]? = some (.cells (enCells x).toArray T (0, 0))) (v0 v1 v2 v3 v4 v5 v6 : Int) :
    (((((((w.setCell ⟨b, 0, none⟩ (.int .i64 v0)).setCell ⟨b, 1, none⟩ (.int .i64 v1)).setCell ⟨b, 2, none⟩ (.int .i64 v2)).setCell ⟨b, 3, none⟩ (.int .i64 v3)).setCell ⟨b, 4, none⟩ (.int .i64 v4)).setCell ⟨b, 5, none⟩ (.int .i64 v5)).setCell ⟨b, 6, none⟩ (.int .i64 v6)).heap[b]? = some (.cells (enCells ⟨v0, v1, v2, v3, v4, v5, v6⟩).toArray T (0, 0)) := by
  have := blk_set (blk_set (blk_set (blk_set (blk_set (blk_set (blk_set h 0 (.int .i64 v0)) 1 (.int .i64 v1)) 2 (.int .i64 v2)) 3 (.int .i64 v3)) 4 (.int .i64 v4)) 5 (.int .i64 v5)) 6 (.int .i64 v6)
  simpa [enCells] using this
theorem en_putB {w0 w : World} {B b : Nat} (h : Below B w0 w) (hb : B ≤ b) (v0 v1 v2 v3 v4 v5 v6 : Value) :
    Below B w0 (((((((w.setCell ⟨b, 0, none⟩ v0).setCell ⟨b, 1, none⟩ v1).setCell ⟨b, 2, none⟩ v2).setCell ⟨b, 3, none⟩ v3).setCell ⟨b, 4, none⟩ v4).setCell ⟨b, 5, none⟩ v5).setCell ⟨b, 6, none⟩ v6) :=
  ((((((h.setCell (p := ⟨b, 0, none⟩) hb v0).setCell (p := ⟨b, 1, none⟩) hb v1).setCell (p := ⟨b, 2, none⟩) hb v2).setCell (p := ⟨b, 3, none⟩) hb v3).setCell (p := ⟨b, 4, none⟩) hb v4).setCell (p := ⟨b, 5, none⟩) hb v5).setCell (p := ⟨b, 6, none⟩) hb v6
theorem opsR_calls (w : World) :
    Calls Tryd.prog 14 #[] w fun e w' => ∃ b, e = .returned (.slice (some ⟨b, 0, none⟩) 34 34) ∧ Reads w' 1 (.slice (some ⟨b, 0, none⟩) 34 34) 34 ((opsB.map (fun b => (⟨b.toArray⟩ : ByteArray))).map Value.string) ∧ Below w.heap.size w w' :=
  (ops_calls w).mono fun e w' ⟨h1, h2⟩ => ⟨_, h1, by rw [h2]; exact ops_reads w, by rw [h2]; exact plus_one1 w _⟩
theorem opsIdx_calls {w : World} {v : Value} (h : Reads w 1 v 34 ((opsB.map (fun b => (⟨b.toArray⟩ : ByteArray))).map Value.string)) (s : ByteArray) :
    Calls Tryd.prog 46 #[v, .string s] w fun e w' => e = .returned (.int .i64 (opIx s)) ∧ w = w' :=
  (idxS_calls h (by omega) s).mono fun e w' ⟨h1, h2⟩ => ⟨by
    rw [h1]
    have := idx_ops opsB s 0
    unfold Lib.idxOfS
    rw [this]
    unfold opIx
    cases opsB.findIdx? (fun x => decide (x = s.data.toList)) with
    | none => rfl
    | some k => simp, h2.symm⟩
/-- What entry's own closure needs. -/
def EC (w : World) (nb bw ow n cw : Nat) (s : ByteArray) : Prop := w.cell? ⟨nb, 0, none⟩ = some (.slice (some ⟨bw, ow, none⟩) n cw) ∧ w.cell? ⟨bw, ow + 1, none⟩ = some (.string s)
theorem EC.below {w w' : World} {nb bw ow n cw : Nat} {s : ByteArray} (h : EC w nb bw ow n cw s) (hb : Below w.heap.size w w') : EC w' nb bw ow n cw s :=
  ⟨below_cell1 hb (block_lt_of_cell h.1) h.1, below_cell1 hb (block_lt_of_cell h.2) h.2⟩
set_option maxRecDepth 100000 in
set_option maxHeartbeats 4000000 in
theorem entry1_calls (d : Dm) (s : ByteArray) {nb bw ow n cw : Nat} (hn : 2 ≤ n) (hm : n ≤ 9223372036854775807) (w : World) (hc : EC w nb bw ow n cw s) :
    Calls Tryd.prog 45 #[d.val, .pointer (some ⟨nb, 0, none⟩)] w fun e w' => e = .returned (.bool (decide (d.nm = s))) ∧ Below w.heap.size w w' := by
  have HC := Lib.hid (hc.below (plus_one1 w (.cells #[.string d.nm, .int .i64 d.lv, .int .i64 d.ct, .int .i64 d.ta, .int .i64 d.ob, .int .i64 d.ri] 51)))
  obtain ⟨nm, lv, ct, ta, ob, ri⟩ := d
  have HT := Lib.hid (tl_eq nm s)
  have hn1 : (1 : Int) < (n : Int) := by omega
  have HX := Lib.hid (heap_alloc_new w (.cells #[.string nm, .int .i64 lv, .int .i64 ct, .int .i64 ta, .int .i64 ob, .int .i64 ri] 51))
  have HB := Lib.hid (plus_one1 w (.cells #[.string nm, .int .i64 lv, .int .i64 ct, .int .i64 ta, .int .i64 ob, .int .i64 ri] 51))
  simp only at HC
  unfold Dm.val
  simp only
  clear hc
  go_enter Tryd.func45, Tryd.ntmps45
  go_upto_region 1 with (fail)
  obtain ⟨db, hdb⟩ : ∃ db, db = w.heap.size := ⟨_, rfl⟩
  rw [← hdb] at HX ⊢
  generalize w.alloc (.cells #[.string nm, .int .i64 lv, .int .i64 ct, .int .i64 ta, .int .i64 ob, .int .i64 ri] 51) = w1 at HX HB HC ⊢
  clear hdb
  have f0 : ∀ t : BW w1, t.at_.cell? ⟨db, 0, none⟩ = some (.string nm) := bw_cell (lt_of_block HX.out) (blk_cell HX.out 0)
  have f1 : ∀ t : BW w1, t.at_.cell? ⟨nb, 0, none⟩ = some (.slice (some ⟨bw, ow, none⟩) n cw) := bw_cell (block_lt_of_cell HC.out.1) HC.out.1
  have f2 : ∀ t : BW w1, t.at_.cell? ⟨bw, ow + 1, none⟩ = some (.string s) := bw_cell (block_lt_of_cell HC.out.2) HC.out.2
  refine wp_region_quiet_bw (by kernel_rfl) (by kernel_rfl) ?_
  repeat (go_big_quiet_step (fail))
  refine wpQuiet_nil ?_
  intro _ hw'
  obtain ⟨tq, rfl⟩ := hw'
  have HB6 := Lib.hid (HB.out.trans (tq.ok.mono HB.out.size))
  clear f0 f1 f2
  go_wp2_with fail
  go_ret
  rw [← HT.out]
  exact ⟨rfl, HB6.out⟩
set_option maxRecDepth 100000 in
set_option maxHeartbeats 4000000 in
theorem indexFuncE_calls {w : World} {v : Value} {n : Nat} {D : List Dm} (h : Reads w 6 v n (D.flatMap Dm.cells)) (s : ByteArray) {nb bw ow k cw : Nat} (hk2 : 2 ≤ k) (hkm : k ≤ 9223372036854775807) (hc : EC w nb bw ow k cw s) :
    Calls Tryd.prog 44 #[v, .func (.func 45) #[] #[.pointer (some ⟨nb, 0, none⟩)]] w fun e w' => e = .returned (.int .i64 (findD D s)) ∧ Below w.heap.size w w' := by
  obtain ⟨hl, a, c, rfl, h2, h3, h4⟩ := doms_open h
  unfold maxLen at h3
  have HL := Lib.hid hl
  have H4 := Lib.hid h4
  have HC := Lib.hid hc
  clear h hl h4 hc
  go_enter Tryd.func44, Tryd.ntmps44
  go_wp2_with fail
  go_loopw [8] (fun u wr => ∃ j : Nat, u = .int .i64 j ∧ j ≤ n ∧ (∀ d ∈ D.take j, decide (d.nm = s) = false) ∧ Below w.heap.size w wr) (fun u _ => n - (intOf u).toNat)
  case atStart => exact ⟨0, rfl, Nat.zero_le _, by simp, Below.refl _ _⟩
  case round =>
    obtain ⟨j, rfl, hj, hno, hb⟩ := hrel
    have HNO := Lib.hid hno
    have HB := Lib.hid hb
    have hjz : (0 : Int) ≤ (j : Int) := Int.natCast_nonneg _
    clear hno hb
    by_cases hc : j < n
    · have hc' : (j : Int) < (n : Int) := by omega
      obtain ⟨d, hd⟩ : ∃ d, D[j]? = some d := ⟨_, List.getElem?_eq_getElem (by rw [HL.out]; exact hc)⟩
      obtain ⟨bl, o, rfl, hbl, hcx⟩ := H4.out (by omega)
      obtain ⟨k0, k1, k2, k3, k4, k5⟩ := hcx j d hd
      have k0 := below_cell1 HB.out hbl k0
      have k1 := below_cell1 HB.out hbl k1
      have k2 := below_cell1 HB.out hbl k2
      have k3 := below_cell1 HB.out hbl k3
      have k4 := below_cell1 HB.out hbl k4
      have k5 := below_cell1 HB.out hbl k5
      have HD := Lib.hid hd
      have hf := entry1_calls d s hk2 hkm wr (HC.out.below HB.out)
      have HX := Lib.hid (fun h : decide (d.nm = s) = true => findD_hit HNO.out HD.out h)
      have HY := Lib.hid (fun h : decide (d.nm = s) = false => take_no HNO.out HD.out h)
      obtain ⟨nm, lv, ct, ta, ob, ri⟩ := d
      unfold Dm.val at hf
      simp only at k0 k1 k2 k3 k4 k5 hf HX HY
      have HF := Lib.hid hf
      clear hcx hd hf
      cases hx : decide (nm = s) with
      | true =>
        rw [hx] at HF HX
        have HV := Lib.hid (HX.out rfl)
        clear hx
        go_wp2_with fail
        refine HF.out.mono ?_
        rintro e w4 ⟨rfl, hb4⟩
        have HB4 := Lib.hid (HB.out.trans (hb4.mono HB.out.size))
        clear hb4
        go_wp2_with fail
        go_ret
        rw [HV.out]
        exact ⟨rfl, HB4.out⟩
      | false =>
        rw [hx] at HF HY
        have HV := Lib.hid (HY.out rfl)
        clear hx
        go_wp2_with fail
        refine HF.out.mono ?_
        rintro e w4 ⟨rfl, hb4⟩
        have HB4 := Lib.hid (HB.out.trans (hb4.mono HB.out.size))
        clear hb4
        go_wp2_with fail
        go_roundw
        case rel => exact ⟨j + 1, by go_num, by omega, HV.out, HB4.out⟩
        case measure => simp [intOf]; omega
    · obtain rfl : j = n := by omega
      have hc' : ¬ (j : Int) < (j : Int) := by omega
      have HV := Lib.hid (findD_none (D := D) (s := s) (by
        have := HNO.out
        rwa [List.take_of_length_le (by rw [HL.out]; exact Nat.le_refl _)] at this))
      go_wp2_with fail
      go_ret
      rw [HV.out]
      exact ⟨rfl, HB.out⟩
theorem opIx_b (s : ByteArray) : -1 ≤ opIx s ∧ opIx s < 34 := by
  unfold opIx
  cases h : opsB.findIdx? (fun x => decide (x = s.data.toList)) with
  | none => exact ⟨Int.le_refl _, by decide⟩
  | some k =>
    have := (List.findIdx?_eq_some_iff_findIdx_eq.1 h).1
    rw [ops_len] at this
    constructor <;> simp <;> omega
/-- Words' numbers: all are, or one is none. -/
theorem nums_none {x2 x4 x5 x6 : ByteArray} (h : numsT x2 x4 x5 x6 = none) : numAllT [x2, x4, x5, x6] = false := by
  unfold numsT at h
  unfold numAllT
  simp only [List.all_cons, List.all_nil, Bool.and_true]
  cases h2 : numT x2 <;> cases h4 : numT x4 <;> cases h5 : numT x5 <;> cases h6 : numT x6 <;> rw [h2, h4, h5, h6] at h <;> simp at h ⊢
theorem nums_some {x2 x4 x5 x6 : ByteArray} {a b c d : Int} (h : numsT x2 x4 x5 x6 = some (a, b, c, d)) : numAllT [x2, x4, x5, x6] = true ∧ [x2, x4, x5, x6].filterMap numT = [a, b, c, d] := by
  unfold numsT at h
  unfold numAllT
  cases h2 : numT x2 <;> cases h4 : numT x4 <;> cases h5 : numT x5 <;> cases h6 : numT x6 <;> rw [h2, h4, h5, h6] at h <;> simp at h
  obtain ⟨rfl, rfl, rfl, rfl⟩ := h
  simp [h2, h4, h5, h6]
theorem entM_bad {D : List Dm} {x0 : ByteArray} {R : List ByteArray} (h1 : ¬ (x0 = sTick ∧ R = [])) (h2 : ¬ (x0 = sDo ∧ R.length = 6)) : entM D (x0 :: R) = (zE, 2) := by
  match R with
  | [] => unfold entM; simp only; rw [if_neg (fun h => h1 ⟨h, rfl⟩)]
  | [_] => rfl
  | [_, _] => rfl
  | [_, _, _] => rfl
  | [_, _, _, _] => rfl
  | [_, _, _, _, _] => rfl
  | [_, _, _, _, _, _] => unfold entM; simp only; rw [if_neg (fun h => h2 ⟨h, rfl⟩)]
  | _ :: _ :: _ :: _ :: _ :: _ :: _ :: _ => rfl
theorem six_list {R : List ByteArray} (h : R.length = 6) : ∃ x1 x2 x3 x4 x5 x6, R = [x1, x2, x3, x4, x5, x6] := by
  match R, h with
  | [a, b, c, d, e, f], _ => exact ⟨a, b, c, d, e, f, rfl⟩
set_option maxRecDepth 100000 in
set_option maxHeartbeats 16000000 in
theorem entry_calls {w : World} (ht : TabT w) {vd vs vl : Value} {nd : Nat} {D : List Dm} (hd : Reads w 6 vd nd (D.flatMap Dm.cells)) {vw : Value} {n : Nat} {W : List ByteArray} (hw : Reads w 1 vw n (W.map Value.string)) (hn : 0 < n) (hsz : ∀ x ∈ W, x.size ≤ 140737488351232) :
    Calls Tryd.prog 23 #[.agg #[vd, vs, vl], vw] w fun e w' => e = .returned (.tuple #[enVal (entM D W).1, .int .i64 (entM D W).2]) ∧ Below w.heap.size w w' := by
  have hlw : W.length = n := by have := hw.1; simpa using this
  have hlt := hw.lt hn (by omega)
  obtain ⟨_, aw, cw, rfl, hw2, hw3, hw4⟩ := hw
  obtain ⟨bw, ow, rfl, hwc⟩ := hw4 hn
  unfold maxLen at hw3
  obtain ⟨x0, R, rfl⟩ : ∃ x0 R, W = x0 :: R := by
    cases W with
    | nil => simp at hlw; omega
    | cons a b => exact ⟨a, b, rfl⟩
  have hbw : bw < w.heap.size := hlt bw rfl
  have HB3 := Lib.hid (((plus_one1 w (.cells #[vd, vs, vl] 26)).trans ((plus_one1 (w.alloc (.cells #[vd, vs, vl] 26)) (.cells #[.slice (some ⟨bw, ow, none⟩) n cw] 46)).mono (by simp))).trans ((plus_one1 ((w.alloc (.cells #[vd, vs, vl] 26)).alloc (.cells #[.slice (some ⟨bw, ow, none⟩) n cw] 46)) (.cells #[.int .i64 0, .int .i64 0, .int .i64 0, .int .i64 0, .int .i64 0, .int .i64 0, .int .i64 0] 28)).mono (by simp; omega)))
  have HP0 := Lib.hid (show (((w.alloc (.cells #[vd, vs, vl] 26)).alloc (.cells #[.slice (some ⟨bw, ow, none⟩) n cw] 46)).alloc (.cells #[.int .i64 0, .int .i64 0, .int .i64 0, .int .i64 0, .int .i64 0, .int .i64 0, .int .i64 0] 28)).heap[w.heap.size]? = some (.cells #[vd, vs, vl] 26 (0, 0)) from
    (Below.heap_alloc _ _ _ (by simp; omega)).trans ((Below.heap_alloc _ _ _ (by simp)).trans (heap_alloc_new w _)))
  have HC0 := Lib.hid (show (((w.alloc (.cells #[vd, vs, vl] 26)).alloc (.cells #[.slice (some ⟨bw, ow, none⟩) n cw] 46)).alloc (.cells #[.int .i64 0, .int .i64 0, .int .i64 0, .int .i64 0, .int .i64 0, .int .i64 0, .int .i64 0] 28)).heap[w.heap.size + 1]? = some (.cells #[.slice (some ⟨bw, ow, none⟩) n cw] 46 (0, 0)) from
    (Below.heap_alloc _ _ _ (by simp)).trans (heap_alloc2_new w _ _))
  have HR0 := Lib.hid (show (((w.alloc (.cells #[vd, vs, vl] 26)).alloc (.cells #[.slice (some ⟨bw, ow, none⟩) n cw] 46)).alloc (.cells #[.int .i64 0, .int .i64 0, .int .i64 0, .int .i64 0, .int .i64 0, .int .i64 0, .int .i64 0] 28)).heap[w.heap.size + 2]? = some (.cells (enCells zE).toArray 28 (0, 0)) from by
    have h0 := heap_alloc_new ((w.alloc (.cells #[vd, vs, vl] 26)).alloc (.cells #[.slice (some ⟨bw, ow, none⟩) n cw] 46)) (.cells #[.int .i64 0, .int .i64 0, .int .i64 0, .int .i64 0, .int .i64 0, .int .i64 0, .int .i64 0] 28)
    rw [show ((w.alloc (.cells #[vd, vs, vl] 26)).alloc (.cells #[.slice (some ⟨bw, ow, none⟩) n cw] 46)).heap.size = w.heap.size + 2 by simp] at h0
    exact h0)
  have HWC := Lib.hid (fun (u : World) (hu : Below w.heap.size w u) (j : Nat) (x : ByteArray) (hx : (x0 :: R)[j]? = some x) => below_cell1 hu hbw (hwc j (.string x) (by rw [List.getElem?_map, hx]; rfl)))
  have HT := Lib.hid ht
  have HD := Lib.hid hd
  have HS := Lib.hid hsz
  have HL := Lib.hid hlw
  have hn1 : (0 : Int) < (n : Int) := by omega
  clear hwc hw4 hlt hlw ht hd hsz
  go_enter Tryd.func23, Tryd.ntmps23
  go_upto_region 1 with (fail)
  obtain ⟨pb, hpb⟩ : ∃ b, b = w.heap.size := ⟨_, rfl⟩
  obtain ⟨cb, hcb⟩ : ∃ b, b = w.heap.size + 1 := ⟨_, rfl⟩
  obtain ⟨rb, hrb⟩ : ∃ b, b = w.heap.size + 2 := ⟨_, rfl⟩
  have HRB := Lib.hid (show w.heap.size ≤ rb by omega)
  rw [← hrb] at HR0 ⊢
  rw [← hcb] at HC0 ⊢
  rw [← hpb] at HP0 ⊢
  generalize ((w.alloc (.cells #[vd, vs, vl] 26)).alloc (.cells #[.slice (some ⟨bw, ow, none⟩) n cw] 46)).alloc (.cells #[.int .i64 0, .int .i64 0, .int .i64 0, .int .i64 0, .int .i64 0, .int .i64 0, .int .i64 0] 28) = w3 at HB3 HP0 HC0 HR0 ⊢
  clear hpb hcb hrb hbw
  have c0 : w3.cell? ⟨cb, 0, none⟩ = some (.slice (some ⟨bw, ow, none⟩) n cw) := blk_cell HC0.out 0
  have k0 : w3.cell? ⟨bw, ow, none⟩ = some (.string x0) := HWC.out w3 HB3.out 0 x0 rfl
  by_cases hA : x0 = sTick ∧ n = 1
  · obtain ⟨hx0, rfl⟩ := hA
    have hR : R = [] := List.eq_nil_of_length_eq_zero (by have := HL.out; simpa using this)
    subst hR
    have t1 : x0.toList = [116, 105, 99, 107] := by rw [hx0]; exact tl_lit _
    have HV := Lib.hid (show entM D [x0] = (tkE, 0) by unfold entM; simp only; rw [if_pos hx0])
    clear hx0
    have z0 : w3.frozen? ⟨rb, 0, none⟩ = false := blk_free HR0.out 0
    have y0 : w3.cell? ⟨rb, 0, none⟩ = some (.int .i64 0) := blk_cell HR0.out 0
    have z1 : w3.frozen? ⟨rb, 1, none⟩ = false := blk_free HR0.out 1
    have y1 : w3.cell? ⟨rb, 1, none⟩ = some (.int .i64 0) := blk_cell HR0.out 1
    have z2 : w3.frozen? ⟨rb, 2, none⟩ = false := blk_free HR0.out 2
    have y2 : w3.cell? ⟨rb, 2, none⟩ = some (.int .i64 0) := blk_cell HR0.out 2
    have z3 : w3.frozen? ⟨rb, 3, none⟩ = false := blk_free HR0.out 3
    have y3 : w3.cell? ⟨rb, 3, none⟩ = some (.int .i64 0) := blk_cell HR0.out 3
    have z4 : w3.frozen? ⟨rb, 4, none⟩ = false := blk_free HR0.out 4
    have y4 : w3.cell? ⟨rb, 4, none⟩ = some (.int .i64 0) := blk_cell HR0.out 4
    have z5 : w3.frozen? ⟨rb, 5, none⟩ = false := blk_free HR0.out 5
    have y5 : w3.cell? ⟨rb, 5, none⟩ = some (.int .i64 0) := blk_cell HR0.out 5
    have z6 : w3.frozen? ⟨rb, 6, none⟩ = false := blk_free HR0.out 6
    have y6 : w3.cell? ⟨rb, 6, none⟩ = some (.int .i64 0) := blk_cell HR0.out 6
    go_wp2_with fail
    refine bodyPost_ret (en_ret rfl _ _ _ _ rfl (en_put HR0.out _ _ _ _ _ _ _)) rfl ?_
    rw [HV.out]
    exact ⟨rfl, en_putB HB3.out HRB.out _ _ _ _ _ _ _⟩
  by_cases hB : x0 = sDo ∧ n = 7
  rotate_left
  · have HV := Lib.hid (show entM D (x0 :: R) = (zE, 2) from entM_bad (fun h => hA ⟨h.1, by have := HL.out; rw [h.2] at this; simpa using this.symm⟩) (fun h => hB ⟨h.1, by have := HL.out; rw [List.length_cons, h.2] at this; omega⟩))
    have z0 : w3.frozen? ⟨rb, 0, none⟩ = false := blk_free HR0.out 0
    have y0 : w3.cell? ⟨rb, 0, none⟩ = some (.int .i64 0) := blk_cell HR0.out 0
    have z1 : w3.frozen? ⟨rb, 1, none⟩ = false := blk_free HR0.out 1
    have y1 : w3.cell? ⟨rb, 1, none⟩ = some (.int .i64 0) := blk_cell HR0.out 1
    have z2 : w3.frozen? ⟨rb, 2, none⟩ = false := blk_free HR0.out 2
    have y2 : w3.cell? ⟨rb, 2, none⟩ = some (.int .i64 0) := blk_cell HR0.out 2
    have z3 : w3.frozen? ⟨rb, 3, none⟩ = false := blk_free HR0.out 3
    have y3 : w3.cell? ⟨rb, 3, none⟩ = some (.int .i64 0) := blk_cell HR0.out 3
    have z4 : w3.frozen? ⟨rb, 4, none⟩ = false := blk_free HR0.out 4
    have y4 : w3.cell? ⟨rb, 4, none⟩ = some (.int .i64 0) := blk_cell HR0.out 4
    have z5 : w3.frozen? ⟨rb, 5, none⟩ = false := blk_free HR0.out 5
    have y5 : w3.cell? ⟨rb, 5, none⟩ = some (.int .i64 0) := blk_cell HR0.out 5
    have z6 : w3.frozen? ⟨rb, 6, none⟩ = false := blk_free HR0.out 6
    have y6 : w3.cell? ⟨rb, 6, none⟩ = some (.int .i64 0) := blk_cell HR0.out 6
    have t0 : (x0.toList = [116, 105, 99, 107] ∧ ¬ (n : Int) = 1) ∨ (x0.toList = [100, 111] ∧ ¬ (n : Int) = 7) ∨ (¬ x0.toList = [116, 105, 99, 107] ∧ ¬ x0.toList = [100, 111]) := by
      by_cases e1 : x0.toList = [116, 105, 99, 107]
      · exact .inl ⟨e1, fun e => hA ⟨tl_of (by rw [e1]; exact (tl_lit _).symm), by omega⟩⟩
      by_cases e2 : x0.toList = [100, 111]
      · exact .inr (.inl ⟨e2, fun e => hB ⟨tl_of (by rw [e2]; exact (tl_lit _).symm), by omega⟩⟩)
      exact .inr (.inr ⟨e1, e2⟩)
    clear hA hB
    rcases t0 with ⟨t1, t2⟩ | ⟨t1, t2⟩ | ⟨t1, t2⟩
    all_goals
      go_wp2_with fail
      refine bodyPost_ret (en_ret rfl _ _ _ _ rfl (en_put HR0.out _ _ _ _ _ _ _)) rfl ?_
      rw [HV.out]
      exact ⟨rfl, en_putB HB3.out HRB.out _ _ _ _ _ _ _⟩
  obtain ⟨hx0, rfl⟩ := hB
  clear hA
  obtain ⟨x1, x2, x3, x4, x5, x6, rfl⟩ := six_list (R := R) (by have := HL.out; simpa using this)
  have t1 : x0.toList = [100, 111] := by rw [hx0]; exact tl_lit _
  have HE := Lib.hid (show entM D [x0, x1, x2, x3, x4, x5, x6] = if findD D x1 < 0 then ((zE, 4) : En × Int) else if opIx x3 < 0 then (zE, 2) else match numsT x2 x4 x5 x6 with | some (a, b, c, d) => (⟨2, findD D x1, a, 1 + opIx x3, b, c, d⟩, 0) | none => (zE, 2) by
    show (if x0 = sDo then _ else _) = _
    rw [if_pos hx0]
    rfl)
  clear hx0
  have HIF := Lib.hid (indexFuncE_calls (HD.out.below (by omega) HB3.out) x1 (nb := cb) (bw := bw) (ow := ow) (k := 7) (cw := cw) (by omega) (by omega) ⟨c0, HWC.out w3 HB3.out 1 x1 rfl⟩)
  have p0 : w3.cell? ⟨pb, 0, none⟩ = some vd := blk_cell HP0.out 0
  have HVD := Lib.hid (show ∃ a c, vd = .slice a nd c from by obtain ⟨_, a, c, h, _⟩ := HD.out; exact ⟨a, c, h⟩)
  obtain ⟨vda, vdc, rfl⟩ := HVD.out
  obtain ⟨f1, hf1⟩ : ∃ f, f = findD D x1 := ⟨_, rfl⟩
  rw [← hf1] at HIF HE
  have HF1 := Lib.hid (show f1 = findD D x1 from hf1)
  have hmf : ∀ (fn : Fn) (first cap : Array Value) (w : World), (Instr.makeFunc fn first cap).run Tryd.prog w = .ok (.func fn first cap) w := fun _ _ _ _ => rfl
  clear hf1
  go_wp2_with fail
  refine HIF.out.mono ?_
  rintro e w4 ⟨rfl, hb4⟩
  have HB4 := Lib.hid (HB3.out.trans (hb4.mono HB3.out.size))
  have HR4 := Lib.hid ((hb4.block rb (lt_of_block HR0.out)).trans HR0.out)
  have HC4 := Lib.hid ((hb4.block cb (lt_of_block HC0.out)).trans HC0.out)
  clear hb4 c0 k0 p0 HIF hmf
  by_cases hf0 : f1 < 0
  · have HV := Lib.hid (show entM D [x0, x1, x2, x3, x4, x5, x6] = (zE, 4) by rw [HE.out, if_pos hf0])
    have z0 : w4.frozen? ⟨rb, 0, none⟩ = false := blk_free HR4.out 0
    have y0 : w4.cell? ⟨rb, 0, none⟩ = some (.int .i64 0) := blk_cell HR4.out 0
    have z1 : w4.frozen? ⟨rb, 1, none⟩ = false := blk_free HR4.out 1
    have y1 : w4.cell? ⟨rb, 1, none⟩ = some (.int .i64 0) := blk_cell HR4.out 1
    have z2 : w4.frozen? ⟨rb, 2, none⟩ = false := blk_free HR4.out 2
    have y2 : w4.cell? ⟨rb, 2, none⟩ = some (.int .i64 0) := blk_cell HR4.out 2
    have z3 : w4.frozen? ⟨rb, 3, none⟩ = false := blk_free HR4.out 3
    have y3 : w4.cell? ⟨rb, 3, none⟩ = some (.int .i64 0) := blk_cell HR4.out 3
    have z4 : w4.frozen? ⟨rb, 4, none⟩ = false := blk_free HR4.out 4
    have y4 : w4.cell? ⟨rb, 4, none⟩ = some (.int .i64 0) := blk_cell HR4.out 4
    have z5 : w4.frozen? ⟨rb, 5, none⟩ = false := blk_free HR4.out 5
    have y5 : w4.cell? ⟨rb, 5, none⟩ = some (.int .i64 0) := blk_cell HR4.out 5
    have z6 : w4.frozen? ⟨rb, 6, none⟩ = false := blk_free HR4.out 6
    have y6 : w4.cell? ⟨rb, 6, none⟩ = some (.int .i64 0) := blk_cell HR4.out 6
    go_wp2_with fail
    refine bodyPost_ret (en_ret rfl _ _ _ _ rfl (en_put HR4.out _ _ _ _ _ _ _)) rfl ?_
    rw [HV.out]
    exact ⟨rfl, en_putB HB4.out HRB.out _ _ _ _ _ _ _⟩
  have HE2 := Lib.hid (show entM D [x0, x1, x2, x3, x4, x5, x6] = if opIx x3 < 0 then ((zE, 2) : En × Int) else match numsT x2 x4 x5 x6 with | some (a, b, c, d) => (⟨2, f1, a, 1 + opIx x3, b, c, d⟩, 0) | none => (zE, 2) by rw [HE.out, if_neg hf0])
  have HT4 := Lib.hid (HT.out.below HB4.out)
  have HSZ := Lib.hid (show ∀ x ∈ [x2, x4, x5, x6], x.size ≤ 140737488351232 from fun x hx => HS.out x (by simp only [List.mem_cons, List.not_mem_nil, or_false] at hx ⊢; rcases hx with h | h | h | h <;> simp [h]))
  have HCC := Lib.hid (fun (u : World) (hu : Below w4.heap.size w4 u) => show u.cell? ⟨cb, 0, none⟩ = some (.slice (some ⟨bw, ow, none⟩) 7 cw) ∧ u.cell? ⟨bw, ow + 2, none⟩ = some (.string x2) ∧ u.cell? ⟨bw, ow + 3, none⟩ = some (.string x3) ∧ u.cell? ⟨bw, ow + 4, none⟩ = some (.string x4) ∧ u.cell? ⟨bw, ow + 5, none⟩ = some (.string x5) ∧ u.cell? ⟨bw, ow + 6, none⟩ = some (.string x6) from by
    have hu2 := HB4.out.trans (hu.mono HB4.out.size)
    exact ⟨below_cell1 hu (lt_of_block HC4.out) (blk_cell HC4.out 0), HWC.out u hu2 2 x2 rfl, HWC.out u hu2 3 x3 rfl, HWC.out u hu2 4 x4 rfl, HWC.out u hu2 5 x5 rfl, HWC.out u hu2 6 x6 rfl⟩)
  clear HE
  go_upto_region 8 with (fail)
  refine wp_region_W 6 5 (fun w' : World => Below w4.heap.size w4 w') (by kernel_rfl) (by kernel_rfl) ((Below.refl _ _).drew) (fun hT => ?_)
  refine wpAnyW_load (i := 1) (some 40) rfl rfl (by kernel_rfl) (by kernel_rfl) (by kernel_rfl) (by kernel_rfl) (by kernel_rfl) (fun _ _ _ h => h) (v := ?_) (.inl ⟨by rfl, ?_⟩) hT ?_
  rotate_left
  · (intro wT hT; try dsimp only at hT); (obtain ⟨t0, t2, t3, t4, t5, t6⟩ := HCC.out _ hT; clear hT); (go_simp <;> with_reducible rfl)
  simp only [Act.put, List.setIfInBounds_toArray, List.set_cons_zero, List.set_cons_succ]
  refine wpAnyW_take (i := 2) (some 41) rfl rfl (by kernel_rfl) (by kernel_rfl) (by kernel_rfl) (by kernel_rfl) (fun _ _ _ h => h) (v := ?_) (.inl ⟨by rfl, ?_⟩) (.inr hT) ?_
  rotate_left
  · (intro wT _; go_simp <;> with_reducible rfl)
  simp only [Act.put, List.setIfInBounds_toArray, List.set_cons_zero, List.set_cons_succ]
  refine wpAnyW_load (i := 3) (some 42) rfl rfl (by kernel_rfl) (by kernel_rfl) (by kernel_rfl) (by kernel_rfl) (by kernel_rfl) (fun _ _ _ h => h) (v := ?_) (.inl ⟨by rfl, ?_⟩) hT ?_
  rotate_left
  · (intro wT hT; try dsimp only at hT); (obtain ⟨t0, t2, t3, t4, t5, t6⟩ := HCC.out _ hT; clear hT); (go_simp <;> with_reducible rfl)
  simp only [Act.put, List.setIfInBounds_toArray, List.set_cons_zero, List.set_cons_succ]
  refine wpAnyW_one (i := 0) (by kernel_rfl) rfl (fun K hK => ?_)
  go_simp
  refine (opsR_calls w4.drew).mono ?_
  rintro e W0 ⟨b0, rfl, hr0, hq0⟩
  dsimp only
  have hb0 : Below w4.heap.size w4 W0 := Below.trans ((Below.refl w4.heap.size w4).drew) (hq0.mono ((Below.refl w4.heap.size w4).drew).size)
  refine step_owe hK ?_ (fun hT => ?_)
  · first | exact hb0
  clear hK K
  refine wpAnyW_one (i := 4) (by kernel_rfl) rfl (fun K hK => ?_)
  go_simp
  refine (opsIdx_calls hr0 x3).mono ?_
  rintro e W4 ⟨rfl, rfl⟩
  dsimp only
  refine step_owe hK ?_ (fun hT => ?_)
  · first | exact hb0
  clear hK K
  refine wpAnyW_one (i := 5) (by kernel_rfl) rfl (fun K hK => ?_)
  go_simp
  refine step_paid hK (by kernel_rfl) ?_
  clear hK K
  refine wpAnyW_done (by kernel_rfl) ?_
  have HB0 := Lib.hid hb0
  clear hr0 hq0 hb0
  go_upto_region 9 with (fail)
  refine wp_region_W 19 18 (fun w' : World => Below w4.heap.size w4 w') (by kernel_rfl) (by kernel_rfl) HB0.out.drew (fun hT => ?_)
  refine wpAnyW_load (i := 0) (some 45) rfl rfl (by kernel_rfl) (by kernel_rfl) (by kernel_rfl) (by kernel_rfl) (by kernel_rfl) (fun _ _ _ h => h) (v := ?_) (.inl ⟨by rfl, ?_⟩) hT ?_
  rotate_left
  · (intro wT hT; try dsimp only at hT); (obtain ⟨t0, t2, t3, t4, t5, t6⟩ := HCC.out _ hT; clear hT); (go_simp <;> with_reducible rfl)
  simp only [Act.put, List.setIfInBounds_toArray, List.set_cons_zero, List.set_cons_succ]
  refine wpAnyW_take (i := 1) (some 46) rfl rfl (by kernel_rfl) (by kernel_rfl) (by kernel_rfl) (by kernel_rfl) (fun _ _ _ h => h) (v := ?_) (.inl ⟨by rfl, ?_⟩) (.inr hT) ?_
  rotate_left
  · (intro wT _; go_simp <;> with_reducible rfl)
  simp only [Act.put, List.setIfInBounds_toArray, List.set_cons_zero, List.set_cons_succ]
  refine wpAnyW_load (i := 2) (some 47) rfl rfl (by kernel_rfl) (by kernel_rfl) (by kernel_rfl) (by kernel_rfl) (by kernel_rfl) (fun _ _ _ h => h) (v := ?_) (.inl ⟨by rfl, ?_⟩) hT ?_
  rotate_left
  · (intro wT hT; try dsimp only at hT); (obtain ⟨t0, t2, t3, t4, t5, t6⟩ := HCC.out _ hT; clear hT); (go_simp <;> with_reducible rfl)
  simp only [Act.put, List.setIfInBounds_toArray, List.set_cons_zero, List.set_cons_succ]
  refine wpAnyW_load (i := 3) (some 48) rfl rfl (by kernel_rfl) (by kernel_rfl) (by kernel_rfl) (by kernel_rfl) (by kernel_rfl) (fun _ _ _ h => h) (v := ?_) (.inl ⟨by rfl, ?_⟩) hT ?_
  rotate_left
  · (intro wT hT; try dsimp only at hT); (obtain ⟨t0, t2, t3, t4, t5, t6⟩ := HCC.out _ hT; clear hT); (go_simp <;> with_reducible rfl)
  simp only [Act.put, List.setIfInBounds_toArray, List.set_cons_zero, List.set_cons_succ]
  refine wpAnyW_take (i := 4) (some 49) rfl rfl (by kernel_rfl) (by kernel_rfl) (by kernel_rfl) (by kernel_rfl) (fun _ _ _ h => h) (v := ?_) (.inl ⟨by rfl, ?_⟩) (.inr hT) ?_
  rotate_left
  · (intro wT _; go_simp <;> with_reducible rfl)
  simp only [Act.put, List.setIfInBounds_toArray, List.set_cons_zero, List.set_cons_succ]
  refine wpAnyW_load (i := 5) (some 50) rfl rfl (by kernel_rfl) (by kernel_rfl) (by kernel_rfl) (by kernel_rfl) (by kernel_rfl) (fun _ _ _ h => h) (v := ?_) (.inl ⟨by rfl, ?_⟩) hT ?_
  rotate_left
  · (intro wT hT; try dsimp only at hT); (obtain ⟨t0, t2, t3, t4, t5, t6⟩ := HCC.out _ hT; clear hT); (go_simp <;> with_reducible rfl)
  simp only [Act.put, List.setIfInBounds_toArray, List.set_cons_zero, List.set_cons_succ]
  refine wpAnyW_load (i := 6) (some 51) rfl rfl (by kernel_rfl) (by kernel_rfl) (by kernel_rfl) (by kernel_rfl) (by kernel_rfl) (fun _ _ _ h => h) (v := ?_) (.inl ⟨by rfl, ?_⟩) hT ?_
  rotate_left
  · (intro wT hT; try dsimp only at hT); (obtain ⟨t0, t2, t3, t4, t5, t6⟩ := HCC.out _ hT; clear hT); (go_simp <;> with_reducible rfl)
  simp only [Act.put, List.setIfInBounds_toArray, List.set_cons_zero, List.set_cons_succ]
  refine wpAnyW_take (i := 7) (some 52) rfl rfl (by kernel_rfl) (by kernel_rfl) (by kernel_rfl) (by kernel_rfl) (fun _ _ _ h => h) (v := ?_) (.inl ⟨by rfl, ?_⟩) (.inr hT) ?_
  rotate_left
  · (intro wT _; go_simp <;> with_reducible rfl)
  simp only [Act.put, List.setIfInBounds_toArray, List.set_cons_zero, List.set_cons_succ]
  refine wpAnyW_load (i := 8) (some 53) rfl rfl (by kernel_rfl) (by kernel_rfl) (by kernel_rfl) (by kernel_rfl) (by kernel_rfl) (fun _ _ _ h => h) (v := ?_) (.inl ⟨by rfl, ?_⟩) hT ?_
  rotate_left
  · (intro wT hT; try dsimp only at hT); (obtain ⟨t0, t2, t3, t4, t5, t6⟩ := HCC.out _ hT; clear hT); (go_simp <;> with_reducible rfl)
  simp only [Act.put, List.setIfInBounds_toArray, List.set_cons_zero, List.set_cons_succ]
  refine wpAnyW_load (i := 9) (some 54) rfl rfl (by kernel_rfl) (by kernel_rfl) (by kernel_rfl) (by kernel_rfl) (by kernel_rfl) (fun _ _ _ h => h) (v := ?_) (.inl ⟨by rfl, ?_⟩) hT ?_
  rotate_left
  · (intro wT hT; try dsimp only at hT); (obtain ⟨t0, t2, t3, t4, t5, t6⟩ := HCC.out _ hT; clear hT); (go_simp <;> with_reducible rfl)
  simp only [Act.put, List.setIfInBounds_toArray, List.set_cons_zero, List.set_cons_succ]
  refine wpAnyW_take (i := 10) (some 55) rfl rfl (by kernel_rfl) (by kernel_rfl) (by kernel_rfl) (by kernel_rfl) (fun _ _ _ h => h) (v := ?_) (.inl ⟨by rfl, ?_⟩) (.inr hT) ?_
  rotate_left
  · (intro wT _; go_simp <;> with_reducible rfl)
  simp only [Act.put, List.setIfInBounds_toArray, List.set_cons_zero, List.set_cons_succ]
  refine wpAnyW_load (i := 11) (some 56) rfl rfl (by kernel_rfl) (by kernel_rfl) (by kernel_rfl) (by kernel_rfl) (by kernel_rfl) (fun _ _ _ h => h) (v := ?_) (.inl ⟨by rfl, ?_⟩) hT ?_
  rotate_left
  · (intro wT hT; try dsimp only at hT); (obtain ⟨t0, t2, t3, t4, t5, t6⟩ := HCC.out _ hT; clear hT); (go_simp <;> with_reducible rfl)
  simp only [Act.put, List.setIfInBounds_toArray, List.set_cons_zero, List.set_cons_succ]
  refine wpAnyW_one (i := 12) (by kernel_rfl) rfl (fun K hK => ?_)
  go_simp
  refine name_world2 (fun W12 hW12 => ?_)
  have hb12 : Below w4.heap.size w4 W12 := by rw [hW12]; first | exact Below.alloc HB0.out.drew HB0.out.size _ | exact (Below.alloc HB0.out HB0.out.size _).drew
  have hr12 : Reads W12 1 (.slice (some ⟨W0.heap.size, 0, none⟩) 4 4) 4 ([x2, x4, x5, x6].map Value.string) := by rw [hW12]; exact reads_new W0.drew [.string x2, .string x4, .string x5, .string x6] _ rfl (by unfold maxLen; omega) (by omega)
  clear hW12
  refine step_owe hK ?_ (fun hT => ?_)
  · first | exact hb13 | exact hb12
  clear hK K
  refine wpAnyW_one (i := 13) (by kernel_rfl) rfl (fun K hK => ?_)
  go_simp
  refine (tnumbers_calls (HT4.out.below hb12) hr12 HSZ.out (by omega)).mono ?_
  rintro e W13 ⟨vo, rfl, hq13, hv13⟩
  dsimp only
  have hb13 : Below w4.heap.size w4 W13 := hb12.trans (hq13.mono hb12.size)
  refine step_owe hK ?_ (fun hT => ?_)
  · first | exact hb13 | exact hb12
  clear hK K
  refine wpAnyW_take (i := 14) (some 44) rfl rfl (by kernel_rfl) (by kernel_rfl) (by kernel_rfl) (by kernel_rfl) (fun _ _ _ h => h) (v := ?_) (.inl ⟨by rfl, ?_⟩) (.inr hT) ?_
  rotate_left
  · (intro wT _; go_simp <;> with_reducible rfl)
  simp only [Act.put, List.setIfInBounds_toArray, List.set_cons_zero, List.set_cons_succ]
  refine wpAnyW_take (i := 15) (some 59) rfl rfl (by kernel_rfl) (by kernel_rfl) (by kernel_rfl) (by kernel_rfl) (fun _ _ _ h => h) (v := ?_) (.inl ⟨by rfl, ?_⟩) (.inr hT) ?_
  rotate_left
  · (intro wT _; go_simp <;> with_reducible rfl)
  simp only [Act.put, List.setIfInBounds_toArray, List.set_cons_zero, List.set_cons_succ]
  refine wpAnyW_take (i := 16) (some 60) rfl rfl (by kernel_rfl) (by kernel_rfl) (by kernel_rfl) (by kernel_rfl) (fun _ _ _ h => h) (v := ?_) (.inl ⟨by rfl, ?_⟩) (.inr hT) ?_
  rotate_left
  · (intro wT _; go_simp <;> with_reducible rfl)
  simp only [Act.put, List.setIfInBounds_toArray, List.set_cons_zero, List.set_cons_succ]
  refine wpAnyW_take (i := 17) (some 8) rfl rfl (by kernel_rfl) (by kernel_rfl) (by kernel_rfl) (by kernel_rfl) (fun _ _ _ h => h) (v := ?_) (.inl ⟨by rfl, ?_⟩) (.inr hT) ?_
  rotate_left
  · (intro wT _; go_simp <;> with_reducible rfl)
  simp only [Act.put, List.setIfInBounds_toArray, List.set_cons_zero, List.set_cons_succ]
  refine wpAnyW_one (i := 18) (by kernel_rfl) rfl (fun K hK => ?_)
  go_simp
  refine step_paid hK (by kernel_rfl) ?_
  clear hK K
  refine wpAnyW_done (by kernel_rfl) ?_
  have HB13 := Lib.hid hb13
  have HV13 := Lib.hid hv13
  clear hr12 hq13 hb13 hb12 hv13
  have HW13 := Lib.hid (HB4.out.trans (HB13.out.mono HB4.out.size))
  have HR13 := Lib.hid ((HB13.out.block rb (lt_of_block HR4.out)).trans HR4.out)
  have HOX := Lib.hid (opIx_b x3)
  obtain ⟨ox, hox⟩ : ∃ o, o = opIx x3 := ⟨_, rfl⟩
  rw [← hox] at HE2 HOX ⊢
  clear hox
  by_cases ho : ox < 0
  · have HV := Lib.hid (show entM D [x0, x1, x2, x3, x4, x5, x6] = (zE, 2) by rw [HE2.out, if_pos ho])
    have z0 : W13.frozen? ⟨rb, 0, none⟩ = false := blk_free HR13.out 0
    have y0 : W13.cell? ⟨rb, 0, none⟩ = some (.int .i64 0) := blk_cell HR13.out 0
    have z1 : W13.frozen? ⟨rb, 1, none⟩ = false := blk_free HR13.out 1
    have y1 : W13.cell? ⟨rb, 1, none⟩ = some (.int .i64 0) := blk_cell HR13.out 1
    have z2 : W13.frozen? ⟨rb, 2, none⟩ = false := blk_free HR13.out 2
    have y2 : W13.cell? ⟨rb, 2, none⟩ = some (.int .i64 0) := blk_cell HR13.out 2
    have z3 : W13.frozen? ⟨rb, 3, none⟩ = false := blk_free HR13.out 3
    have y3 : W13.cell? ⟨rb, 3, none⟩ = some (.int .i64 0) := blk_cell HR13.out 3
    have z4 : W13.frozen? ⟨rb, 4, none⟩ = false := blk_free HR13.out 4
    have y4 : W13.cell? ⟨rb, 4, none⟩ = some (.int .i64 0) := blk_cell HR13.out 4
    have z5 : W13.frozen? ⟨rb, 5, none⟩ = false := blk_free HR13.out 5
    have y5 : W13.cell? ⟨rb, 5, none⟩ = some (.int .i64 0) := blk_cell HR13.out 5
    have z6 : W13.frozen? ⟨rb, 6, none⟩ = false := blk_free HR13.out 6
    have y6 : W13.cell? ⟨rb, 6, none⟩ = some (.int .i64 0) := blk_cell HR13.out 6
    go_wp2_with fail
    refine bodyPost_ret (en_ret rfl _ _ _ _ rfl (en_put HR13.out _ _ _ _ _ _ _)) rfl ?_
    rw [HV.out]
    exact ⟨rfl, en_putB HW13.out HRB.out _ _ _ _ _ _ _⟩
  have HE3 := Lib.hid (show entM D [x0, x1, x2, x3, x4, x5, x6] = match numsT x2 x4 x5 x6 with | some (a, b, c, d) => ((⟨2, f1, a, 1 + ox, b, c, d⟩, 0) : En × Int) | none => (zE, 2) by rw [HE2.out, if_neg ho])
  clear HE2
  cases hnu : numsT x2 x4 x5 x6 with
  | none =>
    have HV := Lib.hid (show entM D [x0, x1, x2, x3, x4, x5, x6] = (zE, 2) by rw [HE3.out, hnu])
    have hnn := nums_none hnu
    have z0 : W13.frozen? ⟨rb, 0, none⟩ = false := blk_free HR13.out 0
    have y0 : W13.cell? ⟨rb, 0, none⟩ = some (.int .i64 0) := blk_cell HR13.out 0
    have z1 : W13.frozen? ⟨rb, 1, none⟩ = false := blk_free HR13.out 1
    have y1 : W13.cell? ⟨rb, 1, none⟩ = some (.int .i64 0) := blk_cell HR13.out 1
    have z2 : W13.frozen? ⟨rb, 2, none⟩ = false := blk_free HR13.out 2
    have y2 : W13.cell? ⟨rb, 2, none⟩ = some (.int .i64 0) := blk_cell HR13.out 2
    have z3 : W13.frozen? ⟨rb, 3, none⟩ = false := blk_free HR13.out 3
    have y3 : W13.cell? ⟨rb, 3, none⟩ = some (.int .i64 0) := blk_cell HR13.out 3
    have z4 : W13.frozen? ⟨rb, 4, none⟩ = false := blk_free HR13.out 4
    have y4 : W13.cell? ⟨rb, 4, none⟩ = some (.int .i64 0) := blk_cell HR13.out 4
    have z5 : W13.frozen? ⟨rb, 5, none⟩ = false := blk_free HR13.out 5
    have y5 : W13.cell? ⟨rb, 5, none⟩ = some (.int .i64 0) := blk_cell HR13.out 5
    have z6 : W13.frozen? ⟨rb, 6, none⟩ = false := blk_free HR13.out 6
    have y6 : W13.cell? ⟨rb, 6, none⟩ = some (.int .i64 0) := blk_cell HR13.out 6
    rw [hnn]
    go_wp2_with fail
    refine bodyPost_ret (en_ret rfl _ _ _ _ rfl (en_put HR13.out _ _ _ _ _ _ _)) rfl ?_
    rw [HV.out]
    exact ⟨rfl, en_putB HW13.out HRB.out _ _ _ _ _ _ _⟩
  | some q =>
    obtain ⟨a, b, c, d⟩ := q
    have HV := Lib.hid (show entM D [x0, x1, x2, x3, x4, x5, x6] = (⟨2, f1, a, 1 + ox, b, c, d⟩, 0) by rw [HE3.out, hnu])
    obtain ⟨hn1', hn2⟩ := nums_some hnu
    have hrv := HV13.out hn1'
    rw [hn2] at hrv
    rw [hn1']
    have hvl := hrv.lt (by omega) (by omega)
    obtain ⟨_, va, vc, rfl, _, hvm, hv4⟩ := hrv
    obtain ⟨vb, vo', rfl, hvc⟩ := hv4 (by omega)
    have HVO := Lib.hid (fun (u : World) (hu : Below W13.heap.size W13 u) => show u.cell? ⟨vb, vo', none⟩ = some (.int .i64 a) ∧ u.cell? ⟨vb, vo' + 1, none⟩ = some (.int .i64 b) ∧ u.cell? ⟨vb, vo' + 2, none⟩ = some (.int .i64 c) ∧ u.cell? ⟨vb, vo' + 3, none⟩ = some (.int .i64 d) from
      ⟨below_cell1 hu (hvl vb rfl) (hvc 0 _ rfl), below_cell1 hu (hvl vb rfl) (hvc 1 _ rfl), below_cell1 hu (hvl vb rfl) (hvc 2 _ rfl), below_cell1 hu (hvl vb rfl) (hvc 3 _ rfl)⟩)
    have hox2 : IntKind.i64.wrap (1 + ox) = 1 + ox := by
      have := HOX.out
      rw [IntKind.wrap_i64]; omega
    clear hnu hn1' hn2 hvl hv4 hvc HV13 HE3
    go_upto_region 12 with (fail)
    refine wp_region_W 18 16 (fun w' : World => Below W13.heap.size W13 w') (by kernel_rfl) (by kernel_rfl) ((Below.refl _ _).drew) (fun hT => ?_)
    refine wpAnyW_take (i := 0) (some 68) rfl rfl (by kernel_rfl) (by kernel_rfl) (by kernel_rfl) (by kernel_rfl) (fun _ _ _ h => h) (v := ?_) (.inl ⟨by rfl, ?_⟩) (.inr hT) ?_
    rotate_left
    · (intro wT _; go_simp <;> with_reducible rfl)
    simp only [Act.put, List.setIfInBounds_toArray, List.set_cons_zero, List.set_cons_succ]
    refine wpAnyW_take (i := 1) (some 69) rfl rfl (by kernel_rfl) (by kernel_rfl) (by kernel_rfl) (by kernel_rfl) (fun _ _ _ h => h) (v := ?_) (.inl ⟨by rfl, ?_⟩) (.inr hT) ?_
    rotate_left
    · (intro wT _; go_simp <;> with_reducible rfl)
    simp only [Act.put, List.setIfInBounds_toArray, List.set_cons_zero, List.set_cons_succ]
    refine wpAnyW_take (i := 2) (some 70) rfl rfl (by kernel_rfl) (by kernel_rfl) (by kernel_rfl) (by kernel_rfl) (fun _ _ _ h => h) (v := ?_) (.inl ⟨by rfl, ?_⟩) (.inr hT) ?_
    rotate_left
    · (intro wT _; go_simp <;> with_reducible rfl)
    simp only [Act.put, List.setIfInBounds_toArray, List.set_cons_zero, List.set_cons_succ]
    refine wpAnyW_load (i := 3) (some 71) rfl rfl (by kernel_rfl) (by kernel_rfl) (by kernel_rfl) (by kernel_rfl) (by kernel_rfl) (fun _ _ _ h => h) (v := ?_) (.inl ⟨by rfl, ?_⟩) hT ?_
    rotate_left
    · (intro wT hT; try dsimp only at hT); (obtain ⟨t0, t1, t2, t3⟩ := HVO.out _ hT; clear hT); (go_simp <;> with_reducible rfl)
    simp only [Act.put, List.setIfInBounds_toArray, List.set_cons_zero, List.set_cons_succ]
    refine wpAnyW_take (i := 4) (some 72) rfl rfl (by kernel_rfl) (by kernel_rfl) (by kernel_rfl) (by kernel_rfl) (fun _ _ _ h => h) (v := ?_) (.inl ⟨by rfl, ?_⟩) (.inr hT) ?_
    rotate_left
    · (intro wT _; go_simp <;> with_reducible rfl)
    simp only [Act.put, List.setIfInBounds_toArray, List.set_cons_zero, List.set_cons_succ]
    refine wpAnyW_take (i := 5) (some 73) rfl rfl (by kernel_rfl) (by kernel_rfl) (by kernel_rfl) (by kernel_rfl) (fun _ _ _ h => h) (v := ?_) (.inl ⟨by rfl, ?_⟩) (.inr hT) ?_
    rotate_left
    · (intro wT _; go_simp <;> with_reducible rfl)
    simp only [Act.put, List.setIfInBounds_toArray, List.set_cons_zero, List.set_cons_succ]
    refine wpAnyW_take (i := 6) (some 74) rfl rfl (by kernel_rfl) (by kernel_rfl) (by kernel_rfl) (by kernel_rfl) (fun _ _ _ h => h) (v := ?_) (.inl ⟨by rfl, ?_⟩) (.inr hT) ?_
    rotate_left
    · (intro wT _; go_simp <;> with_reducible rfl)
    simp only [Act.put, List.setIfInBounds_toArray, List.set_cons_zero, List.set_cons_succ]
    refine wpAnyW_take (i := 7) (some 75) rfl rfl (by kernel_rfl) (by kernel_rfl) (by kernel_rfl) (by kernel_rfl) (fun _ _ _ h => h) (v := ?_) (.inl ⟨by rfl, ?_⟩) (.inr hT) ?_
    rotate_left
    · (intro wT _; go_simp <;> with_reducible rfl)
    simp only [Act.put, List.setIfInBounds_toArray, List.set_cons_zero, List.set_cons_succ]
    refine wpAnyW_load (i := 8) (some 76) rfl rfl (by kernel_rfl) (by kernel_rfl) (by kernel_rfl) (by kernel_rfl) (by kernel_rfl) (fun _ _ _ h => h) (v := ?_) (.inl ⟨by rfl, ?_⟩) hT ?_
    rotate_left
    · (intro wT hT; try dsimp only at hT); (obtain ⟨t0, t1, t2, t3⟩ := HVO.out _ hT; clear hT); (go_simp <;> with_reducible rfl)
    simp only [Act.put, List.setIfInBounds_toArray, List.set_cons_zero, List.set_cons_succ]
    refine wpAnyW_take (i := 9) (some 77) rfl rfl (by kernel_rfl) (by kernel_rfl) (by kernel_rfl) (by kernel_rfl) (fun _ _ _ h => h) (v := ?_) (.inl ⟨by rfl, ?_⟩) (.inr hT) ?_
    rotate_left
    · (intro wT _; go_simp <;> with_reducible rfl)
    simp only [Act.put, List.setIfInBounds_toArray, List.set_cons_zero, List.set_cons_succ]
    refine wpAnyW_take (i := 10) (some 78) rfl rfl (by kernel_rfl) (by kernel_rfl) (by kernel_rfl) (by kernel_rfl) (fun _ _ _ h => h) (v := ?_) (.inl ⟨by rfl, ?_⟩) (.inr hT) ?_
    rotate_left
    · (intro wT _; go_simp <;> with_reducible rfl)
    simp only [Act.put, List.setIfInBounds_toArray, List.set_cons_zero, List.set_cons_succ]
    refine wpAnyW_load (i := 11) (some 79) rfl rfl (by kernel_rfl) (by kernel_rfl) (by kernel_rfl) (by kernel_rfl) (by kernel_rfl) (fun _ _ _ h => h) (v := ?_) (.inl ⟨by rfl, ?_⟩) hT ?_
    rotate_left
    · (intro wT hT; try dsimp only at hT); (obtain ⟨t0, t1, t2, t3⟩ := HVO.out _ hT; clear hT); (go_simp <;> with_reducible rfl)
    simp only [Act.put, List.setIfInBounds_toArray, List.set_cons_zero, List.set_cons_succ]
    refine wpAnyW_take (i := 12) (some 80) rfl rfl (by kernel_rfl) (by kernel_rfl) (by kernel_rfl) (by kernel_rfl) (fun _ _ _ h => h) (v := ?_) (.inl ⟨by rfl, ?_⟩) (.inr hT) ?_
    rotate_left
    · (intro wT _; go_simp <;> with_reducible rfl)
    simp only [Act.put, List.setIfInBounds_toArray, List.set_cons_zero, List.set_cons_succ]
    refine wpAnyW_take (i := 13) (some 81) rfl rfl (by kernel_rfl) (by kernel_rfl) (by kernel_rfl) (by kernel_rfl) (fun _ _ _ h => h) (v := ?_) (.inl ⟨by rfl, ?_⟩) (.inr hT) ?_
    rotate_left
    · (intro wT _; go_simp <;> with_reducible rfl)
    simp only [Act.put, List.setIfInBounds_toArray, List.set_cons_zero, List.set_cons_succ]
    refine wpAnyW_load (i := 14) (some 82) rfl rfl (by kernel_rfl) (by kernel_rfl) (by kernel_rfl) (by kernel_rfl) (by kernel_rfl) (fun _ _ _ h => h) (v := ?_) (.inl ⟨by rfl, ?_⟩) hT ?_
    rotate_left
    · (intro wT hT; try dsimp only at hT); (obtain ⟨t0, t1, t2, t3⟩ := HVO.out _ hT; clear hT); (go_simp <;> with_reducible rfl)
    simp only [Act.put, List.setIfInBounds_toArray, List.set_cons_zero, List.set_cons_succ]
    refine wpAnyW_take (i := 15) (some 83) rfl rfl (by kernel_rfl) (by kernel_rfl) (by kernel_rfl) (by kernel_rfl) (fun _ _ _ h => h) (v := ?_) (.inl ⟨by rfl, ?_⟩) (.inr hT) ?_
    rotate_left
    · (intro wT _; go_simp <;> with_reducible rfl)
    simp only [Act.put, List.setIfInBounds_toArray, List.set_cons_zero, List.set_cons_succ]
    refine wpAnyW_one (i := 16) (by kernel_rfl) rfl (fun K hK => ?_)
    have z0 : W13.frozen? ⟨rb, 0, none⟩ = false := blk_free HR13.out 0
    have z1 : W13.frozen? ⟨rb, 1, none⟩ = false := blk_free HR13.out 1
    have z2 : W13.frozen? ⟨rb, 2, none⟩ = false := blk_free HR13.out 2
    have z3 : W13.frozen? ⟨rb, 3, none⟩ = false := blk_free HR13.out 3
    have z4 : W13.frozen? ⟨rb, 4, none⟩ = false := blk_free HR13.out 4
    have z5 : W13.frozen? ⟨rb, 5, none⟩ = false := blk_free HR13.out 5
    have z6 : W13.frozen? ⟨rb, 6, none⟩ = false := blk_free HR13.out 6
    have y0 : W13.cell? ⟨rb, 0, none⟩ = some (.int .i64 0) := blk_cell HR13.out 0
    have y1 : W13.cell? ⟨rb, 1, none⟩ = some (.int .i64 0) := blk_cell HR13.out 1
    have y2 : W13.cell? ⟨rb, 2, none⟩ = some (.int .i64 0) := blk_cell HR13.out 2
    have y3 : W13.cell? ⟨rb, 3, none⟩ = some (.int .i64 0) := blk_cell HR13.out 3
    have y4 : W13.cell? ⟨rb, 4, none⟩ = some (.int .i64 0) := blk_cell HR13.out 4
    have y5 : W13.cell? ⟨rb, 5, none⟩ = some (.int .i64 0) := blk_cell HR13.out 5
    have y6 : W13.cell? ⟨rb, 6, none⟩ = some (.int .i64 0) := blk_cell HR13.out 6
    go_simp
    refine name_world2 (fun WF hWF => ?_)
    have hxf : WF.heap[rb]? = some (.cells (enCells ⟨2, f1, a, 1 + ox, b, c, d⟩).toArray 28 (0, 0)) := by rw [hWF, drew_heap]; exact en_put HR13.out _ _ _ _ _ _ _
    have hbf : Below w.heap.size w WF := by rw [hWF]; exact (en_putB HW13.out HRB.out _ _ _ _ _ _ _).drew
    clear hWF z0 z1 z2 z3 z4 z5 z6 y0 y1 y2 y3 y4 y5 y6
    refine step_paid hK (by kernel_rfl) ?_
    clear hK K
    refine wpAnyW_take (i := 17) (some 5) rfl rfl (by kernel_rfl) (by kernel_rfl) (by kernel_rfl) (by kernel_rfl) (fun _ _ _ h => h) (v := ?_) (.inl ⟨by rfl, ?_⟩) (.inl (by kernel_rfl)) ?_
    rotate_left
    · (intro wT _; go_simp <;> with_reducible rfl)
    simp only [Act.put, List.setIfInBounds_toArray, List.set_cons_zero, List.set_cons_succ]
    refine wpAnyW_done (by kernel_rfl) ?_
    go_wp2_with fail
    refine bodyPost_ret (en_ret rfl _ _ _ _ rfl hxf) rfl ?_
    rw [HV.out]
    exact ⟨rfl, hbf⟩
