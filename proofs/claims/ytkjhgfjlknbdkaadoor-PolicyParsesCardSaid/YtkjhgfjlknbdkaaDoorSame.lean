/- What the document's Same answers of a policy and itself (parcloseref04.Same): true. Condition: both can be read. -/
import Derived.Test.YtkjhgfjlknbdkaaDoorAwake4
import Derived.Test.YtkjhgfjlknbdkaaDoorRef04b
import Derived.Laws.StructEq
namespace Go.Proofs.YtkjhgfjlknbdkaaDoor
open Go.RowKit BigFrame Go.BigFrame

theorem same_dm (nm : ByteArray) (lv ct ta ob ri : Int) (w : World) : (Op.equalIn 10000 37 (.agg #[.string nm, .int .i64 lv, .int .i64 ct, .int .i64 ta, .int .i64 ob, .int .i64 ri]) (.agg #[.string nm, .int .i64 lv, .int .i64 ct, .int .i64 ta, .int .i64 ob, .int .i64 ri])).run Tryd.prog w = .ok true w := by
  go_simp
theorem same_sl (a b : Int) (w : World) : (Op.equalIn 10000 39 (.agg #[.int .i64 a, .int .i64 b]) (.agg #[.int .i64 a, .int .i64 b])).run Tryd.prog w = .ok true w := by
  go_simp
theorem same_lk (a b c d : Int) (w : World) : (Op.equalIn 10000 32 (.agg #[.int .i64 a, .int .i64 b, .int .i64 c, .int .i64 d]) (.agg #[.int .i64 a, .int .i64 b, .int .i64 c, .int .i64 d])).run Tryd.prog w = .ok true w := by
  go_simp
set_option maxRecDepth 100000 in
set_option maxHeartbeats 16000000 in
theorem rsame_calls {w : World} {va vs vl vb vt vm : Value} {p : P3} (h1 : PR w va vs vl p) (h2 : PR w vb vt vm p) :
    Calls Tryd.prog 17 #[.agg #[va, vs, vl], .agg #[vb, vt, vm]] w fun e w' => e = .returned (.bool true) ∧ Below w.heap.size w w' := by
  obtain ⟨D, S, K⟩ := p
  obtain ⟨nd, hnd⟩ : ∃ n, n = D.length := ⟨_, rfl⟩
  obtain ⟨ns, hns⟩ : ∃ n, n = S.length := ⟨_, rfl⟩
  obtain ⟨nl, hnl⟩ : ∃ n, n = K.length := ⟨_, rfl⟩
  have hd := h1.d
  have hs := h1.s
  have hk := h1.k
  have gd := h2.d
  have gs := h2.s
  have gk := h2.k
  simp only at hd hs hk gd gs gk
  rw [← hnd] at hd gd
  rw [← hns] at hs gs
  rw [← hnl] at hk gk
  obtain ⟨hl1, a1, c1, rfl, _, h13, hdc⟩ := doms_open hd
  obtain ⟨hl2, a2, c2, rfl, _, h23, hsc⟩ := rows_open hs (fun _ => rfl) (by omega)
  obtain ⟨hl3, a3, c3, rfl, _, h33, hkc⟩ := rows_open hk (fun _ => rfl) (by omega)
  obtain ⟨_, b1, e1, rfl, _, g13, gdc⟩ := doms_open gd
  obtain ⟨_, b2, e2, rfl, _, g23, gsc⟩ := rows_open gs (fun _ => rfl) (by omega)
  obtain ⟨_, b3, e3, rfl, _, g33, gkc⟩ := rows_open gk (fun _ => rfl) (by omega)
  unfold maxLen at h13 h23 h33 g13 g23 g33
  have m1 : (nd : Int) ≤ 9223372036854775807 := by omega
  have m2 : (ns : Int) ≤ 9223372036854775807 := by omega
  have m3 : (nl : Int) ≤ 9223372036854775807 := by omega
  have HL1 := Lib.hid hl1
  have HL2 := Lib.hid hl2
  have HL3 := Lib.hid hl3
  have HDC := Lib.hid hdc
  have HSC := Lib.hid hsc
  have HKC := Lib.hid hkc
  have GDC := Lib.hid gdc
  have GSC := Lib.hid gsc
  have GKC := Lib.hid gkc
  have HW1 := Lib.hid (((plus_one1 w (.cells #[.slice a1 nd c1, .slice a2 ns c2, .slice a3 nl c3] 26))).trans ((plus_one1 (w.alloc (.cells #[.slice a1 nd c1, .slice a2 ns c2, .slice a3 nl c3] 26)) (.cells #[.slice b1 nd e1, .slice b2 ns e2, .slice b3 nl e3] 26)).mono (by simp)))
  have HP0 := Lib.hid (show BoxP w.heap.size (.slice a1 nd c1) (.slice a2 ns c2) (.slice a3 nl c3) ((w.alloc (.cells #[.slice a1 nd c1, .slice a2 ns c2, .slice a3 nl c3] 26)).alloc (.cells #[.slice b1 nd e1, .slice b2 ns e2, .slice b3 nl e3] 26)) from (Below.heap_alloc _ _ _ (by simp)).trans (heap_alloc_new w _))
  have HQ0 := Lib.hid (show BoxP (w.heap.size + 1) (.slice b1 nd e1) (.slice b2 ns e2) (.slice b3 nl e3) ((w.alloc (.cells #[.slice a1 nd c1, .slice a2 ns c2, .slice a3 nl c3] 26)).alloc (.cells #[.slice b1 nd e1, .slice b2 ns e2, .slice b3 nl e3] 26)) from heap_alloc2_new w _ _)
  clear hl1 hl2 hl3 hdc hsc hkc gdc gsc gkc hd hs hk gd gs gk h1 h2 hnd hns hnl h13 h23 h33 g13 g23 g33
  go_enter Tryd.func17, Tryd.ntmps17
  go_upto_region 1 with (fail)
  obtain ⟨pb, hpb⟩ : ∃ b, b = w.heap.size := ⟨_, rfl⟩
  obtain ⟨qb, hqb⟩ : ∃ b, b = w.heap.size + 1 := ⟨_, rfl⟩
  rw [← hqb] at HQ0 ⊢
  rw [← hpb] at HP0 ⊢
  generalize (w.alloc (.cells #[.slice a1 nd c1, .slice a2 ns c2, .slice a3 nl c3] 26)).alloc (.cells #[.slice b1 nd e1, .slice b2 ns e2, .slice b3 nl e3] 26) = w1 at HP0 HQ0 HW1 ⊢
  clear hpb hqb
  have p0 : w1.cell? ⟨pb, 0, none⟩ = some (.slice a1 nd c1) := blk_cell HP0.out 0
  have p1 : w1.cell? ⟨pb, 1, none⟩ = some (.slice a2 ns c2) := blk_cell HP0.out 1
  have p2 : w1.cell? ⟨pb, 2, none⟩ = some (.slice a3 nl c3) := blk_cell HP0.out 2
  have q0 : w1.cell? ⟨qb, 0, none⟩ = some (.slice b1 nd e1) := blk_cell HQ0.out 0
  have q1 : w1.cell? ⟨qb, 1, none⟩ = some (.slice b2 ns e2) := blk_cell HQ0.out 1
  have q2 : w1.cell? ⟨qb, 2, none⟩ = some (.slice b3 nl e3) := blk_cell HQ0.out 2
  go_wp2_with fail
  clear p0 p1 p2 q0 q1 q2
  go_loopw [5] (fun u wz => ∃ j : Nat, u = .int .i64 j ∧ j ≤ nd ∧ Below w.heap.size w wz ∧ BoxP pb (.slice a1 nd c1) (.slice a2 ns c2) (.slice a3 nl c3) wz ∧ BoxP qb (.slice b1 nd e1) (.slice b2 ns e2) (.slice b3 nl e3) wz) (fun u _ => nd - (intOf u).toNat)
  case atStart => exact ⟨0, rfl, Nat.zero_le _, HW1.out, HP0.out, HQ0.out⟩
  case round =>
    clear HW1 HP0 HQ0
    obtain ⟨j0, rfl, hj0, hb, hp, hq⟩ := hrel
    have HB := Lib.hid hb
    have HP := Lib.hid hp
    have HQ := Lib.hid hq
    have j0z : (0 : Int) ≤ (j0 : Int) := Int.natCast_nonneg _
    have p0 : wr.cell? ⟨pb, 0, none⟩ = some (.slice a1 nd c1) := blk_cell HP.out 0
    clear hb hp hq
    by_cases hc : j0 < nd
    · have hc' : (j0 : Int) < (nd : Int) := by omega
      obtain ⟨x, hx⟩ : ∃ x, D[j0]? = some x := ⟨_, List.getElem?_eq_getElem (by rw [HL1.out]; exact hc)⟩
      obtain ⟨ba, oa, rfl, hba, hax⟩ := HDC.out (by omega)
      obtain ⟨bb, ob', rfl, hbb, hbx⟩ := GDC.out (by omega)
      obtain ⟨s0, s1, s2, s3, s4, s5⟩ := hax j0 x hx
      obtain ⟨t0, t1, t2, t3, t4, t5⟩ := hbx j0 x hx
      obtain ⟨nm, lv, ct, ta, ob, ri⟩ := x
      simp only at s0 t0 s1 t1 s2 t2 s3 t3 s4 t4 s5 t5
      have HSM := same_dm nm lv ct ta ob ri
      go_upto_region 6 with (fail)
      have f0 : ∀ t : BW wr, t.at_.cell? ⟨pb, 0, none⟩ = some (.slice (some ⟨ba, oa, none⟩) nd c1) := bw_cell (lt_of_block HP.out) (blk_cell HP.out 0)
      have f1 : ∀ t : BW wr, t.at_.cell? ⟨qb, 0, none⟩ = some (.slice (some ⟨bb, ob', none⟩) nd e1) := bw_cell (lt_of_block HQ.out) (blk_cell HQ.out 0)
      have u0 : ∀ t : BW wr, t.at_.cell? ⟨ba, oa + j0 * 6, none⟩ = some (.string nm) := bw_cell (Nat.lt_of_lt_of_le hba HB.out.size) (below_cell1 HB.out hba s0)
      have v0 : ∀ t : BW wr, t.at_.cell? ⟨bb, ob' + j0 * 6, none⟩ = some (.string nm) := bw_cell (Nat.lt_of_lt_of_le hbb HB.out.size) (below_cell1 HB.out hbb t0)
      have u1 : ∀ t : BW wr, t.at_.cell? ⟨ba, oa + j0 * 6 + 1, none⟩ = some (.int .i64 lv) := bw_cell (Nat.lt_of_lt_of_le hba HB.out.size) (below_cell1 HB.out hba s1)
      have v1 : ∀ t : BW wr, t.at_.cell? ⟨bb, ob' + j0 * 6 + 1, none⟩ = some (.int .i64 lv) := bw_cell (Nat.lt_of_lt_of_le hbb HB.out.size) (below_cell1 HB.out hbb t1)
      have u2 : ∀ t : BW wr, t.at_.cell? ⟨ba, oa + j0 * 6 + 2, none⟩ = some (.int .i64 ct) := bw_cell (Nat.lt_of_lt_of_le hba HB.out.size) (below_cell1 HB.out hba s2)
      have v2 : ∀ t : BW wr, t.at_.cell? ⟨bb, ob' + j0 * 6 + 2, none⟩ = some (.int .i64 ct) := bw_cell (Nat.lt_of_lt_of_le hbb HB.out.size) (below_cell1 HB.out hbb t2)
      have u3 : ∀ t : BW wr, t.at_.cell? ⟨ba, oa + j0 * 6 + 3, none⟩ = some (.int .i64 ta) := bw_cell (Nat.lt_of_lt_of_le hba HB.out.size) (below_cell1 HB.out hba s3)
      have v3 : ∀ t : BW wr, t.at_.cell? ⟨bb, ob' + j0 * 6 + 3, none⟩ = some (.int .i64 ta) := bw_cell (Nat.lt_of_lt_of_le hbb HB.out.size) (below_cell1 HB.out hbb t3)
      have u4 : ∀ t : BW wr, t.at_.cell? ⟨ba, oa + j0 * 6 + 4, none⟩ = some (.int .i64 ob) := bw_cell (Nat.lt_of_lt_of_le hba HB.out.size) (below_cell1 HB.out hba s4)
      have v4 : ∀ t : BW wr, t.at_.cell? ⟨bb, ob' + j0 * 6 + 4, none⟩ = some (.int .i64 ob) := bw_cell (Nat.lt_of_lt_of_le hbb HB.out.size) (below_cell1 HB.out hbb t4)
      have u5 : ∀ t : BW wr, t.at_.cell? ⟨ba, oa + j0 * 6 + 5, none⟩ = some (.int .i64 ri) := bw_cell (Nat.lt_of_lt_of_le hba HB.out.size) (below_cell1 HB.out hba s5)
      have v5 : ∀ t : BW wr, t.at_.cell? ⟨bb, ob' + j0 * 6 + 5, none⟩ = some (.int .i64 ri) := bw_cell (Nat.lt_of_lt_of_le hbb HB.out.size) (below_cell1 HB.out hbb t5)
      clear s0 t0 s1 t1 s2 t2 s3 t3 s4 t4 s5 t5 hx hax hbx p0
      refine wp_region_quiet_bw (by kernel_rfl) (by kernel_rfl) ?_
      repeat (go_big_quiet_step (fail))
      refine wpQuiet_nil ?_
      intro _ hw'
      obtain ⟨tq, rfl⟩ := hw'
      have HB6 := Lib.hid (HB.out.trans (tq.ok.mono HB.out.size))
      have HP6 := Lib.hid (HP.out.below tq.ok)
      have HQ6 := Lib.hid (HQ.out.below tq.ok)
      clear f0 f1 HSM u0 v0 u1 v1 u2 v2 u3 v3 u4 v4 u5 v5
      go_wp2_with fail
      go_roundw
      case rel => exact ⟨j0 + 1, by go_num, by omega, HB6.out, HP6.out, HQ6.out⟩
      case measure => simp [intOf]; omega
    have hc' : ¬ (j0 : Int) < (nd : Int) := by omega
    clear hc
    go_wp2_with fail
    clear hc' j0z p0
    obtain ⟨wo1, hwo1⟩ : ∃ wo, wo = wr := ⟨_, rfl⟩
    subst hwo1
    go_loopw [6] (fun u wz => ∃ j : Nat, u = .int .i64 j ∧ j ≤ ns ∧ Below w.heap.size w wz ∧ BoxP pb (.slice a1 nd c1) (.slice a2 ns c2) (.slice a3 nl c3) wz ∧ BoxP qb (.slice b1 nd e1) (.slice b2 ns e2) (.slice b3 nl e3) wz) (fun u _ => ns - (intOf u).toNat)
    case atStart => exact ⟨0, rfl, Nat.zero_le _, HB.out, HP.out, HQ.out⟩
    case round =>
      clear HB HP HQ
      obtain ⟨j1, rfl, hj1, hb, hp, hq⟩ := hrel
      have HB := Lib.hid hb
      have HP := Lib.hid hp
      have HQ := Lib.hid hq
      have j1z : (0 : Int) ≤ (j1 : Int) := Int.natCast_nonneg _
      have p1 : wr.cell? ⟨pb, 1, none⟩ = some (.slice a2 ns c2) := blk_cell HP.out 1
      clear hb hp hq
      by_cases hc : j1 < ns
      · have hc' : (j1 : Int) < (ns : Int) := by omega
        obtain ⟨x, hx⟩ : ∃ x, S[j1]? = some x := ⟨_, List.getElem?_eq_getElem (by rw [HL2.out]; exact hc)⟩
        obtain ⟨ba, oa, rfl, hba, hax⟩ := HSC.out (by omega)
        obtain ⟨bb, ob', rfl, hbb, hbx⟩ := GSC.out (by omega)
        have s0 := hax j1 x hx 0 _ rfl
        have t0 := hbx j1 x hx 0 _ rfl
        have s1 := hax j1 x hx 1 _ rfl
        have t1 := hbx j1 x hx 1 _ rfl
        rw [Nat.add_zero] at s0 t0
        obtain ⟨sd, sz⟩ := x
        simp only at s0 t0 s1 t1
        have HSM := same_sl sd sz
        go_upto_region 11 with (fail)
        have f0 : ∀ t : BW wr, t.at_.cell? ⟨pb, 1, none⟩ = some (.slice (some ⟨ba, oa, none⟩) ns c2) := bw_cell (lt_of_block HP.out) (blk_cell HP.out 1)
        have f1 : ∀ t : BW wr, t.at_.cell? ⟨qb, 1, none⟩ = some (.slice (some ⟨bb, ob', none⟩) ns e2) := bw_cell (lt_of_block HQ.out) (blk_cell HQ.out 1)
        have u0 : ∀ t : BW wr, t.at_.cell? ⟨ba, oa + j1 * 2, none⟩ = some (.int .i64 sd) := bw_cell (Nat.lt_of_lt_of_le hba HB.out.size) (below_cell1 HB.out hba s0)
        have v0 : ∀ t : BW wr, t.at_.cell? ⟨bb, ob' + j1 * 2, none⟩ = some (.int .i64 sd) := bw_cell (Nat.lt_of_lt_of_le hbb HB.out.size) (below_cell1 HB.out hbb t0)
        have u1 : ∀ t : BW wr, t.at_.cell? ⟨ba, oa + j1 * 2 + 1, none⟩ = some (.int .i64 sz) := bw_cell (Nat.lt_of_lt_of_le hba HB.out.size) (below_cell1 HB.out hba s1)
        have v1 : ∀ t : BW wr, t.at_.cell? ⟨bb, ob' + j1 * 2 + 1, none⟩ = some (.int .i64 sz) := bw_cell (Nat.lt_of_lt_of_le hbb HB.out.size) (below_cell1 HB.out hbb t1)
        clear s0 t0 s1 t1 hx hax hbx p1
        refine wp_region_quiet_bw (by kernel_rfl) (by kernel_rfl) ?_
        repeat (go_big_quiet_step (fail))
        refine wpQuiet_nil ?_
        intro _ hw'
        obtain ⟨tq, rfl⟩ := hw'
        have HB6 := Lib.hid (HB.out.trans (tq.ok.mono HB.out.size))
        have HP6 := Lib.hid (HP.out.below tq.ok)
        have HQ6 := Lib.hid (HQ.out.below tq.ok)
        clear f0 f1 HSM u0 v0 u1 v1
        go_wp2_with fail
        go_roundw
        case rel => exact ⟨j1 + 1, by go_num, by omega, HB6.out, HP6.out, HQ6.out⟩
        case measure => simp [intOf]; omega
      have hc' : ¬ (j1 : Int) < (ns : Int) := by omega
      clear hc
      go_wp2_with fail
      clear hc' j1z p1
      obtain ⟨wo2, hwo2⟩ : ∃ wo, wo = wr := ⟨_, rfl⟩
      subst hwo2
      go_loopw [7] (fun u wz => ∃ j : Nat, u = .int .i64 j ∧ j ≤ nl ∧ Below w.heap.size w wz ∧ BoxP pb (.slice a1 nd c1) (.slice a2 ns c2) (.slice a3 nl c3) wz ∧ BoxP qb (.slice b1 nd e1) (.slice b2 ns e2) (.slice b3 nl e3) wz) (fun u _ => nl - (intOf u).toNat)
      case atStart => exact ⟨0, rfl, Nat.zero_le _, HB.out, HP.out, HQ.out⟩
      case round =>
        clear HB HP HQ
        obtain ⟨j2, rfl, hj2, hb, hp, hq⟩ := hrel
        have HB := Lib.hid hb
        have HP := Lib.hid hp
        have HQ := Lib.hid hq
        have j2z : (0 : Int) ≤ (j2 : Int) := Int.natCast_nonneg _
        have p2 : wr.cell? ⟨pb, 2, none⟩ = some (.slice a3 nl c3) := blk_cell HP.out 2
        clear hb hp hq
        by_cases hc : j2 < nl
        · have hc' : (j2 : Int) < (nl : Int) := by omega
          obtain ⟨x, hx⟩ : ∃ x, K[j2]? = some x := ⟨_, List.getElem?_eq_getElem (by rw [HL3.out]; exact hc)⟩
          obtain ⟨ba, oa, rfl, hba, hax⟩ := HKC.out (by omega)
          obtain ⟨bb, ob', rfl, hbb, hbx⟩ := GKC.out (by omega)
          have s0 := hax j2 x hx 0 _ rfl
          have t0 := hbx j2 x hx 0 _ rfl
          have s1 := hax j2 x hx 1 _ rfl
          have t1 := hbx j2 x hx 1 _ rfl
          have s2 := hax j2 x hx 2 _ rfl
          have t2 := hbx j2 x hx 2 _ rfl
          have s3 := hax j2 x hx 3 _ rfl
          have t3 := hbx j2 x hx 3 _ rfl
          rw [Nat.add_zero] at s0 t0
          obtain ⟨kd, fr, tt, sz⟩ := x
          simp only at s0 t0 s1 t1 s2 t2 s3 t3
          have HSM := same_lk kd fr tt sz
          go_upto_region 16 with (fail)
          have f0 : ∀ t : BW wr, t.at_.cell? ⟨pb, 2, none⟩ = some (.slice (some ⟨ba, oa, none⟩) nl c3) := bw_cell (lt_of_block HP.out) (blk_cell HP.out 2)
          have f1 : ∀ t : BW wr, t.at_.cell? ⟨qb, 2, none⟩ = some (.slice (some ⟨bb, ob', none⟩) nl e3) := bw_cell (lt_of_block HQ.out) (blk_cell HQ.out 2)
          have u0 : ∀ t : BW wr, t.at_.cell? ⟨ba, oa + j2 * 4, none⟩ = some (.int .i64 kd) := bw_cell (Nat.lt_of_lt_of_le hba HB.out.size) (below_cell1 HB.out hba s0)
          have v0 : ∀ t : BW wr, t.at_.cell? ⟨bb, ob' + j2 * 4, none⟩ = some (.int .i64 kd) := bw_cell (Nat.lt_of_lt_of_le hbb HB.out.size) (below_cell1 HB.out hbb t0)
          have u1 : ∀ t : BW wr, t.at_.cell? ⟨ba, oa + j2 * 4 + 1, none⟩ = some (.int .i64 fr) := bw_cell (Nat.lt_of_lt_of_le hba HB.out.size) (below_cell1 HB.out hba s1)
          have v1 : ∀ t : BW wr, t.at_.cell? ⟨bb, ob' + j2 * 4 + 1, none⟩ = some (.int .i64 fr) := bw_cell (Nat.lt_of_lt_of_le hbb HB.out.size) (below_cell1 HB.out hbb t1)
          have u2 : ∀ t : BW wr, t.at_.cell? ⟨ba, oa + j2 * 4 + 2, none⟩ = some (.int .i64 tt) := bw_cell (Nat.lt_of_lt_of_le hba HB.out.size) (below_cell1 HB.out hba s2)
          have v2 : ∀ t : BW wr, t.at_.cell? ⟨bb, ob' + j2 * 4 + 2, none⟩ = some (.int .i64 tt) := bw_cell (Nat.lt_of_lt_of_le hbb HB.out.size) (below_cell1 HB.out hbb t2)
          have u3 : ∀ t : BW wr, t.at_.cell? ⟨ba, oa + j2 * 4 + 3, none⟩ = some (.int .i64 sz) := bw_cell (Nat.lt_of_lt_of_le hba HB.out.size) (below_cell1 HB.out hba s3)
          have v3 : ∀ t : BW wr, t.at_.cell? ⟨bb, ob' + j2 * 4 + 3, none⟩ = some (.int .i64 sz) := bw_cell (Nat.lt_of_lt_of_le hbb HB.out.size) (below_cell1 HB.out hbb t3)
          clear s0 t0 s1 t1 s2 t2 s3 t3 hx hax hbx p2
          refine wp_region_quiet_bw (by kernel_rfl) (by kernel_rfl) ?_
          repeat (go_big_quiet_step (fail))
          refine wpQuiet_nil ?_
          intro _ hw'
          obtain ⟨tq, rfl⟩ := hw'
          have HB6 := Lib.hid (HB.out.trans (tq.ok.mono HB.out.size))
          have HP6 := Lib.hid (HP.out.below tq.ok)
          have HQ6 := Lib.hid (HQ.out.below tq.ok)
          clear f0 f1 HSM u0 v0 u1 v1 u2 v2 u3 v3
          go_wp2_with fail
          go_roundw
          case rel => exact ⟨j2 + 1, by go_num, by omega, HB6.out, HP6.out, HQ6.out⟩
          case measure => simp [intOf]; omega
        have hc' : ¬ (j2 : Int) < (nl : Int) := by omega
        clear hc
        go_wp2_with fail
        clear hc' j2z p2
        go_ret
        exact ⟨rfl, HB.out⟩
end Go.Proofs.YtkjhgfjlknbdkaaDoor
