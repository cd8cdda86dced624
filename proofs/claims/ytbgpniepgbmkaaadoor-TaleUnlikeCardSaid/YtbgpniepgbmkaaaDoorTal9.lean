/- What the document's Line (parcloseref28.Line) does: what tale.Line does. Conditions: the policy can be read, its names are not longer than 2^47 bytes and its numbers int64s, the entry's numbers are int64s. -/
import Derived.Test.YtbgpniepgbmkaaaDoorTal8
namespace Go.Proofs.YtbgpniepgbmkaaaDoor
open Go.RowKit BigFrame Go.BigFrame

theorem lst_empty {t : ByteArray} (h : t.data.toList = []) : t.toList.isEmpty = true := by rw [ByteArray.toList_eq, h]; rfl
theorem lst_some {t : ByteArray} (h : t.data.toList ≠ []) : t.toList.isEmpty = false := by
  rw [ByteArray.toList_eq]
  cases hl : t.data.toList with
  | nil => exact absurd hl h
  | cons => rfl
set_option maxRecDepth 100000 in
set_option maxHeartbeats 32000000 in
theorem rline28_calls {w : World} {vd vs vl : Value} {p : P3} (h : PR w vd vs vl p) (hz : ∀ d ∈ p.D, d.nm.size ≤ 140737488351232) (hct : ∀ d ∈ p.D, -9223372036854775808 ≤ d.ct ∧ d.ct ≤ 9223372036854775807) (x : En) (hx : enB x) :
    Calls Tryd.prog 8 #[.agg #[vd, vs, vl], enVal x] w fun e w' => e = .returned (.tuple #[.string (lnT p x).1, .int .i64 (lnT p x).2]) ∧ Below w.heap.size w w' := by
  obtain ⟨nd, hnd⟩ : ∃ n, n = p.D.length := ⟨_, rfl⟩
  have HPR := Lib.hid h
  have hd := h.d
  rw [← hnd] at hd
  obtain ⟨hl1, a1, c1, rfl, h12, h13, hdc⟩ := doms_open hd
  unfold maxLen at h13
  have HL1 := Lib.hid hl1
  have HDC := Lib.hid hdc
  have HZ := Lib.hid hz
  have HCT := Lib.hid hct
  obtain ⟨kd, dom, pick, op, a, b, c⟩ := x
  obtain ⟨_, b1, b2, b3, b4, b5, b6⟩ := hx
  simp only at b1 b2 b3 b4 b5 b6
  have HX := Lib.hid (And.intro b1 (And.intro b2 (And.intro b3 (And.intro b4 (And.intro b5 b6)))))
  have HB2 := Lib.hid ((plus_one1 w (.cells #[.slice a1 nd c1, vs, vl] 26)).trans ((plus_one1 (w.alloc (.cells #[.slice a1 nd c1, vs, vl] 26)) (.cells #[.int .i64 kd, .int .i64 dom, .int .i64 pick, .int .i64 op, .int .i64 a, .int .i64 b, .int .i64 c] 28)).mono (by simp)))
  have HP0 := Lib.hid (show ((w.alloc (.cells #[.slice a1 nd c1, vs, vl] 26)).alloc (.cells #[.int .i64 kd, .int .i64 dom, .int .i64 pick, .int .i64 op, .int .i64 a, .int .i64 b, .int .i64 c] 28)).heap[w.heap.size]? = some (.cells #[.slice a1 nd c1, vs, vl] 26 (0, 0)) from
    (Below.heap_alloc _ _ _ (by simp)).trans (heap_alloc_new w _))
  have HX0 := Lib.hid (show ((w.alloc (.cells #[.slice a1 nd c1, vs, vl] 26)).alloc (.cells #[.int .i64 kd, .int .i64 dom, .int .i64 pick, .int .i64 op, .int .i64 a, .int .i64 b, .int .i64 c] 28)).heap[w.heap.size + 1]? = some (.cells #[.int .i64 kd, .int .i64 dom, .int .i64 pick, .int .i64 op, .int .i64 a, .int .i64 b, .int .i64 c] 28 (0, 0)) from heap_alloc2_new w _ _)
  have HCH := Lib.hid (fun (u : World) (hu : Below w.heap.size w u) => rcheck_calls (HPR.out.d.below (by omega) hu) (HPR.out.s.below (by omega) hu) (HPR.out.k.below (by omega) hu) HZ.out HCT.out)
  obtain ⟨ch, hch⟩ : ∃ c, c = checkM p.D p.S p.K := ⟨_, rfl⟩
  rw [← hch] at HCH
  have HC := Lib.hid hch
  have HND := Lib.hid hnd
  clear hl1 hdc hd hz hct h hnd hch b1 b2 b3 b4 b5 b6 h12
  unfold enVal
  simp only
  go_enter Tryd.func8, Tryd.ntmps8
  go_upto_region 1 with (fail)
  obtain ⟨pb, hpb⟩ : ∃ b, b = w.heap.size := ⟨_, rfl⟩
  obtain ⟨xb, hxb⟩ : ∃ b, b = w.heap.size + 1 := ⟨_, rfl⟩
  rw [← hxb] at HX0 ⊢
  rw [← hpb] at HP0 ⊢
  generalize (w.alloc (.cells #[.slice a1 nd c1, vs, vl] 26)).alloc (.cells #[.int .i64 kd, .int .i64 dom, .int .i64 pick, .int .i64 op, .int .i64 a, .int .i64 b, .int .i64 c] 28) = w2 at HB2 HP0 HX0 ⊢
  clear hpb hxb
  have q0 : w2.cell? ⟨pb, 0, none⟩ = some (.slice a1 nd c1) := blk_cell HP0.out 0
  have q1 : w2.cell? ⟨pb, 1, none⟩ = some vs := blk_cell HP0.out 1
  have q2 : w2.cell? ⟨pb, 2, none⟩ = some vl := blk_cell HP0.out 2
  go_wp2_with fail
  refine (HCH.out w2 HB2.out).mono ?_
  rintro e w4 ⟨rfl, hb3⟩
  have HB4 := Lib.hid (HB2.out.trans (hb3.mono HB2.out.size))
  have HP4 := Lib.hid ((hb3.block pb (lt_of_block HP0.out)).trans HP0.out)
  have HX4 := Lib.hid ((hb3.block xb (lt_of_block HX0.out)).trans HX0.out)
  clear hb3 q0 q1 q2 HP0 HX0 HB2 HCH
  by_cases hc0 : ch = 0
  rotate_left
  · have HV := Lib.hid (show lnT p ⟨kd, dom, pick, op, a, b, c⟩ = (⟨#[]⟩, ch) by rw [HC.out]; exact ln_check (by rw [← HC.out]; exact hc0))
    have he' : (ch == 0) = false := by simpa using hc0
    have hen : (ch != 0) = true := by simpa using hc0
    clear hc0
    go_wp2_with fail
    go_ret2
    rw [HV.out]
    exact ⟨rfl, HB4.out⟩
  subst hc0
  have e0 : w4.cell? ⟨xb, 0, none⟩ = some (.int .i64 kd) := blk_cell HX4.out 0
  have e1 : w4.cell? ⟨xb, 1, none⟩ = some (.int .i64 dom) := blk_cell HX4.out 1
  have e2 : w4.cell? ⟨xb, 2, none⟩ = some (.int .i64 pick) := blk_cell HX4.out 2
  have e3 : w4.cell? ⟨xb, 3, none⟩ = some (.int .i64 op) := blk_cell HX4.out 3
  have e4 : w4.cell? ⟨xb, 4, none⟩ = some (.int .i64 a) := blk_cell HX4.out 4
  have e5 : w4.cell? ⟨xb, 5, none⟩ = some (.int .i64 b) := blk_cell HX4.out 5
  have e6 : w4.cell? ⟨xb, 6, none⟩ = some (.int .i64 c) := blk_cell HX4.out 6
  have p0 : w4.cell? ⟨pb, 0, none⟩ = some (.slice a1 nd c1) := blk_cell HP4.out 0
  by_cases htk : (⟨kd, dom, pick, op, a, b, c⟩ : En) = tkE
  · have HV := Lib.hid (show lnT p ⟨kd, dom, pick, op, a, b, c⟩ = (⟨#[116, 105, 99, 107]⟩, 0) by rw [htk]; exact ln_tick HC.out.symm)
    unfold tkE at htk
    simp only [En.mk.injEq] at htk
    obtain ⟨rfl, rfl, rfl, rfl, rfl, rfl, rfl⟩ := htk
    go_wp2_with fail
    go_ret2
    rw [HV.out]
    exact ⟨rfl, HB4.out⟩
  have HTK := Lib.hid htk
  have HBD := Lib.hid (fun hb => ln_bad (p := p) (x := ⟨kd, dom, pick, op, a, b, c⟩) HC.out.symm htk hb)
  simp only at HBD
  rw [← HND.out] at HBD
  by_cases hk1 : kd = 1
  · subst hk1
    have HV := Lib.hid (HBD.out (.inl (by decide)))
    have hne : ¬ dom = 0 ∨ (dom = 0 ∧ ¬ pick = 0) ∨ (dom = 0 ∧ pick = 0 ∧ ¬ op = 0) ∨ (dom = 0 ∧ pick = 0 ∧ op = 0 ∧ ¬ a = 0) ∨ (dom = 0 ∧ pick = 0 ∧ op = 0 ∧ a = 0 ∧ ¬ b = 0) ∨ (dom = 0 ∧ pick = 0 ∧ op = 0 ∧ a = 0 ∧ b = 0 ∧ ¬ c = 0) := by
      by_cases h1 : dom = 0
      · by_cases h2 : pick = 0
        · by_cases h3 : op = 0
          · by_cases h4 : a = 0
            · by_cases h5 : b = 0
              · by_cases h6 : c = 0
                · exact absurd (by unfold tkE; rw [h1, h2, h3, h4, h5, h6]) htk
                · exact .inr (.inr (.inr (.inr (.inr ⟨h1, h2, h3, h4, h5, h6⟩))))
              · exact .inr (.inr (.inr (.inr (.inl ⟨h1, h2, h3, h4, h5⟩))))
            · exact .inr (.inr (.inr (.inl ⟨h1, h2, h3, h4⟩)))
          · exact .inr (.inr (.inl ⟨h1, h2, h3⟩))
        · exact .inr (.inl ⟨h1, h2⟩)
      · exact .inl h1
    clear htk
    rcases hne with h1 | ⟨rfl, h1⟩ | ⟨rfl, rfl, h1⟩ | ⟨rfl, rfl, rfl, h1⟩ | ⟨rfl, rfl, rfl, rfl, h1⟩ | ⟨rfl, rfl, rfl, rfl, rfl, h1⟩
    all_goals
      go_wp2_with fail
      go_ret2
      rw [HV.out]
      exact ⟨rfl, HB4.out⟩
  clear htk
  by_cases hk2 : kd = 2
  rotate_left
  · have HV := Lib.hid (HBD.out (.inl hk2))
    go_wp2_with fail
    go_ret2
    rw [HV.out]
    exact ⟨rfl, HB4.out⟩
  subst hk2
  by_cases hd0 : dom < 0
  · have HV := Lib.hid (HBD.out (.inr (.inl hd0)))
    go_wp2_with fail
    go_ret2
    rw [HV.out]
    exact ⟨rfl, HB4.out⟩
  obtain ⟨i, rfl⟩ : ∃ i : Nat, dom = (i : Int) := ⟨dom.toNat, by omega⟩
  have hiz : (0 : Int) ≤ (i : Int) := Int.natCast_nonneg _
  by_cases hd1 : i < nd
  rotate_left
  · have hd1' : ¬ (i : Int) < (nd : Int) := by omega
    have hd1'' : (nd : Int) ≤ (i : Int) := by omega
    have HV := Lib.hid (HBD.out (.inr (.inr (.inl hd1'))))
    go_wp2_with fail
    go_ret2
    rw [HV.out]
    exact ⟨rfl, HB4.out⟩
  have hd1' : (i : Int) < (nd : Int) := by omega
  have hd1'' : ¬ (nd : Int) ≤ (i : Int) := by omega
  have HWD := Lib.hid (fun u : World => word_calls op u)
  by_cases hob : op < 1 ∨ 34 < op
  · have HV := Lib.hid (HBD.out (.inr (.inr (.inr hob))))
    have hw := show wordT op = ⟨#[]⟩ from by unfold wordT; rw [if_neg (by omega)]
    obtain ⟨wd, hwd⟩ : ∃ t, t = wordT op := ⟨_, rfl⟩
    rw [← hwd] at HWD hw
    have hwe := lst_empty (t := wd) (by rw [hw])
    clear hwd hw hob
    go_wp2_with fail
    refine (HWD.out w4).mono ?_
    rintro e w5 ⟨rfl, hb5⟩
    have HB5 := Lib.hid (HB4.out.trans (hb5.mono HB4.out.size))
    clear hb5
    go_wp2_with fail
    go_ret2
    rw [HV.out]
    exact ⟨rfl, HB5.out⟩
  obtain ⟨d, hd⟩ : ∃ d, p.D[i]? = some d := ⟨_, List.getElem?_eq_getElem (by rw [HL1.out]; exact hd1)⟩
  have HV := Lib.hid (ln_good (p := p) (x := ⟨2, (i : Int), pick, op, a, b, c⟩) HC.out.symm HTK.out rfl rfl hd (by show 1 ≤ op; omega) (by show op ≤ 34; omega))
  simp only at HV
  obtain ⟨bd, od, rfl, hbd, hcx⟩ := HDC.out (by omega)
  obtain ⟨g0, _⟩ := hcx i d hd
  have hns := nm_size (check_all HC.out.symm) (List.mem_of_getElem? hd)
  have hws := wordT_size (op := op)
  have hwn := show (wordT op).data.toList ≠ [] from by
    have := (ops_at (op := op) (by omega) (by omega)).2.1.1
    unfold wordT
    rw [if_pos (by omega)]
    simpa using this
  obtain ⟨nm, hnm⟩ : ∃ t, t = d.nm := ⟨_, rfl⟩
  rw [← hnm] at HV g0 hns
  obtain ⟨wd, hwd⟩ : ∃ t, t = wordT op := ⟨_, rfl⟩
  rw [← hwd] at HV HWD hws hwn
  have hwe := lst_some hwn
  have HPI := Lib.hid (fun u : World => num25_calls pick HX.out.2.1 u)
  have HA := Lib.hid (fun u : World => num25_calls a HX.out.2.2.2.1 u)
  have HBN := Lib.hid (fun u : World => num25_calls b HX.out.2.2.2.2.1 u)
  have HCN := Lib.hid (fun u : World => num25_calls c HX.out.2.2.2.2.2 u)
  obtain ⟨sp, hsp⟩ : ∃ t : ByteArray, t = ⟨(Lib.itoa pick).toArray⟩ := ⟨_, rfl⟩
  obtain ⟨ta, hta⟩ : ∃ t : ByteArray, t = ⟨(Lib.itoa a).toArray⟩ := ⟨_, rfl⟩
  obtain ⟨tb, htb⟩ : ∃ t : ByteArray, t = ⟨(Lib.itoa b).toArray⟩ := ⟨_, rfl⟩
  obtain ⟨tc, htc⟩ : ∃ t : ByteArray, t = ⟨(Lib.itoa c).toArray⟩ := ⟨_, rfl⟩
  have s1 : sp.data.toList.length ≤ 20 := by rw [hsp]; simpa using itoa_len20 HX.out.2.1
  have s2 : ta.data.toList.length ≤ 20 := by rw [hta]; simpa using itoa_len20 HX.out.2.2.2.1
  have s3 : tb.data.toList.length ≤ 20 := by rw [htb]; simpa using itoa_len20 HX.out.2.2.2.2.1
  have s4 : tc.data.toList.length ≤ 20 := by rw [htc]; simpa using itoa_len20 HX.out.2.2.2.2.2
  rw [← hsp] at HPI HV
  rw [← hta] at HA HV
  rw [← htb] at HBN HV
  rw [← htc] at HCN HV
  rw [ba_size] at hns hws s1 s2 s3 s4
  have e32 : (⟨#[32]⟩ : ByteArray).size = 1 := rfl
  have e33 : (⟨#[100, 111, 32]⟩ : ByteArray).size = 3 := rfl
  obtain ⟨y1, hy1, hl1, hs1⟩ := cat_ex ⟨#[100, 111, 32]⟩ nm (by omega)
  obtain ⟨y2, hy2, hl2, hs2⟩ := cat_ex y1 ⟨#[32]⟩ (by omega)
  obtain ⟨y3, hy3, hl3, hs3⟩ := cat_ex y2 sp (by omega)
  obtain ⟨y4, hy4, hl4, hs4⟩ := cat_ex y3 ⟨#[32]⟩ (by omega)
  obtain ⟨y5, hy5, hl5, hs5⟩ := cat_ex y4 wd (by omega)
  obtain ⟨y6, hy6, hl6, hs6⟩ := cat_ex y5 ⟨#[32]⟩ (by omega)
  obtain ⟨y7, hy7, hl7, hs7⟩ := cat_ex y6 ta (by omega)
  obtain ⟨y8, hy8, hl8, hs8⟩ := cat_ex y7 ⟨#[32]⟩ (by omega)
  obtain ⟨y9, hy9, hl9, hs9⟩ := cat_ex y8 tb (by omega)
  obtain ⟨y10, hy10, hl10, hs10⟩ := cat_ex y9 ⟨#[32]⟩ (by omega)
  obtain ⟨y11, hy11, hl11, hs11⟩ := cat_ex y10 tc (by omega)
  have HY := Lib.hid (show y11 = ⟨(Lib.join ([sDo, nm, sp, wd, ta, tb, tc].map (fun b => b.data.toList)) [32]).toArray⟩ from ba_ext (by
    rw [hl11, hl10, hl9, hl8, hl7, hl6, hl5, hl4, hl3, hl2, hl1]
    simp [Lib.join, List.intercalate, sDo]))
  rw [← HY.out] at HV
  clear hl1 hl2 hl3 hl4 hl5 hl6 hl7 hl8 hl9 hl10 hl11 hs1 hs2 hs3 hs4 hs5 hs6 hs7 hs8 hs9 hs10 hs11 hnm hwd hwn hsp hta htb htc s1 s2 s3 s4 hns hws hd hcx e32 e33
  go_wp2_with fail
  refine (HWD.out w4).mono ?_
  rintro e w5 ⟨rfl, hb5⟩
  have HB5 := Lib.hid (HB4.out.trans (hb5.mono HB4.out.size))
  have HP5 := Lib.hid ((hb5.block pb (lt_of_block HP4.out)).trans HP4.out)
  have HX5 := Lib.hid ((hb5.block xb (lt_of_block HX4.out)).trans HX4.out)
  have HG5 := Lib.hid (And.intro (Nat.lt_of_lt_of_le hbd HB5.out.size) (below_cell1 HB5.out hbd g0))
  clear hb5 g0 e0 e1 e2 e3 e4 e5 e6 p0
  go_upto_region 10 with (fail)
  have f0 : ∀ t : BW w5, t.at_.cell? ⟨pb, 0, none⟩ = some (.slice (some ⟨bd, od, none⟩) nd c1) := bw_cell (lt_of_block HP5.out) (blk_cell HP5.out 0)
  have f1 : ∀ t : BW w5, t.at_.cell? ⟨xb, 1, none⟩ = some (.int .i64 (i : Int)) := bw_cell (lt_of_block HX5.out) (blk_cell HX5.out 1)
  have f2 : ∀ t : BW w5, t.at_.cell? ⟨xb, 2, none⟩ = some (.int .i64 pick) := bw_cell (lt_of_block HX5.out) (blk_cell HX5.out 2)
  have f3 : ∀ t : BW w5, t.at_.cell? ⟨xb, 3, none⟩ = some (.int .i64 op) := bw_cell (lt_of_block HX5.out) (blk_cell HX5.out 3)
  have f4 : ∀ t : BW w5, t.at_.cell? ⟨xb, 4, none⟩ = some (.int .i64 a) := bw_cell (lt_of_block HX5.out) (blk_cell HX5.out 4)
  have f5 : ∀ t : BW w5, t.at_.cell? ⟨xb, 5, none⟩ = some (.int .i64 b) := bw_cell (lt_of_block HX5.out) (blk_cell HX5.out 5)
  have f6 : ∀ t : BW w5, t.at_.cell? ⟨xb, 6, none⟩ = some (.int .i64 c) := bw_cell (lt_of_block HX5.out) (blk_cell HX5.out 6)
  have f7 : ∀ t : BW w5, t.at_.cell? ⟨bd, od + i * 6, none⟩ = some (.string nm) := bw_cell HG5.out.1 HG5.out.2
  refine wp_region_quiet_bw (by kernel_rfl) (by kernel_rfl) ?_
  repeat (go_big_quiet_step (first | (go_at_call 18; with_reducible refine Calls.bw _ (HWD.out _)) | (go_at_call 19; with_reducible refine Calls.bw _ (HPI.out _)) | (go_at_call 19; with_reducible refine Calls.bw _ (HA.out _)) | (go_at_call 19; with_reducible refine Calls.bw _ (HBN.out _)) | (go_at_call 19; with_reducible refine Calls.bw _ (HCN.out _))))
  refine wpQuiet_nil ?_
  intro _ hw'
  obtain ⟨tq, rfl⟩ := hw'
  have HB6 := Lib.hid (HB5.out.trans (tq.ok.mono HB5.out.size))
  clear f0 f1 f2 f3 f4 f5 f6 f7
  go_wp2_with fail
  go_ret2
  rw [HV.out]
  exact ⟨rfl, HB6.out⟩
end Go.Proofs.YtbgpniepgbmkaaaDoor
