/- What policy.Print does. Conditions: the policy can be read, the names are not too long, the library's table is laid (Tab). -/
import Derived.Test.YtkjhgfjlknbdkaaDoorTail
import Derived.Test.YtkjhgfjlknbdkaaDoorPrt1
import Derived.Test.YtkjhgfjlknbdkaaDoorPrt3
import Derived.Test.YtkjhgfjlknbdkaaDoorRef04b
import Derived.Test.YtkjhgfjlknbdkaaDoorParse
namespace Go.Proofs.YtkjhgfjlknbdkaaDoor
open Go.RowKit BigFrame Go.BigFrame

theorem itoa_ba5 {n : Int} (h0 : 0 ≤ n) (h1 : n ≤ 16) : ∃ s : ByteArray, s = ⟨(Lib.itoa n).toArray⟩ ∧ s.data.toList = Lib.itoa n ∧ s.size ≤ 21 :=
  ⟨_, rfl, by simp, by rw [ByteArray.size_mk', List.size_toArray]; exact itoa_len h0 h1⟩
theorem nmAt_at5 {D : List Dm} {i : Nat} {d : Dm} (h : D[i]? = some d) : nmAt D (i : Int) = bsL d.nm := by
  unfold nmAt
  rw [Int.toNat_natCast, h]
set_option maxRecDepth 100000 in
set_option maxHeartbeats 32000000 in
theorem print_calls {w : World} (hT : Tab w) {vd vs vl : Value} {p : P3} (h : PR w vd vs vl p) (hz : ∀ d ∈ p.D, d.nm.size ≤ 140737488351232) :
    Calls Tryd.prog 18 #[.agg #[vd, vs, vl]] w fun e w' => e = .returned (.tuple #[.string (printM p).1, .int .i64 (printM p).2]) ∧ Below w.heap.size w w' := by
  obtain ⟨nd, hnd⟩ : ∃ n, n = p.D.length := ⟨_, rfl⟩
  obtain ⟨ns, hns⟩ : ∃ n, n = p.S.length := ⟨_, rfl⟩
  obtain ⟨nl, hnl⟩ : ∃ n, n = p.K.length := ⟨_, rfl⟩
  have hd := h.d
  have hs := h.s
  have hk := h.k
  rw [← hnd] at hd
  rw [← hns] at hs
  rw [← hnl] at hk
  obtain ⟨hl1, a1, c1, rfl, h12, h13, hdc⟩ := doms_open hd
  obtain ⟨hl2, a2, c2, rfl, h22, h23, hsc⟩ := rows_open hs (fun _ => rfl) (by omega)
  obtain ⟨hl3, a3, c3, rfl, h32, h33, hkc⟩ := rows_open hk (fun _ => rfl) (by omega)
  unfold maxLen at h13 h23 h33
  have HTAB := Lib.hid hT
  have HL1 := Lib.hid hl1
  have HL2 := Lib.hid hl2
  have HL3 := Lib.hid hl3
  have HDC := Lib.hid hdc
  have HSC := Lib.hid hsc
  have HKC := Lib.hid hkc
  have HP0 := Lib.hid (show BoxP w.heap.size (.slice a1 nd c1) (.slice a2 ns c2) (.slice a3 nl c3) (w.alloc (.cells #[.slice a1 nd c1, .slice a2 ns c2, .slice a3 nl c3] 26)) from heap_alloc_new w _)
  have HW1 := Lib.hid (plus_one1 w (.cells #[.slice a1 nd c1, .slice a2 ns c2, .slice a3 nl c3] 26))
  have HCH := Lib.hid (check_calls (h.d.below (by omega) HW1.out) (h.s.below (by omega) HW1.out) (h.k.below (by omega) HW1.out) hz)
  have HUP := Lib.hid (fun h : checkM p.D p.S p.K = 0 => check_all h)
  have HPM := Lib.hid (show printM p = if checkM p.D p.S p.K = 0 then (⟨(printL p).toArray⟩, 0) else (⟨#[]⟩, checkM p.D p.S p.K) from rfl)
  generalize checkM p.D p.S p.K = ch at HCH HUP HPM
  obtain ⟨D, S, K⟩ := p
  simp only at HL1 HL2 HL3 HDC HSC HKC HUP
  clear hl1 hl2 hl3 hdc hsc hkc hd hs hk hz h hnd hns hnl hT
  go_enter Tryd.func18, Tryd.ntmps18
  go_upto_region 1 with (fail)
  obtain ⟨pb, hpb⟩ : ∃ pb, pb = w.heap.size := ⟨_, rfl⟩
  have hpw : w.heap.size ≤ pb := by omega
  rw [← hpb] at HP0 ⊢
  generalize w.alloc (.cells #[.slice a1 nd c1, .slice a2 ns c2, .slice a3 nl c3] 26) = w1 at HP0 HW1 HCH ⊢
  have HPW := Lib.hid hpw
  clear hpb hpw
  have e0 : w1.cell? ⟨pb, 0, none⟩ = some (.slice a1 nd c1) := blk_cell HP0.out 0
  have e1 : w1.cell? ⟨pb, 1, none⟩ = some (.slice a2 ns c2) := blk_cell HP0.out 1
  have e2 : w1.cell? ⟨pb, 2, none⟩ = some (.slice a3 nl c3) := blk_cell HP0.out 2
  go_wp2_with fail
  refine HCH.out.mono ?_
  rintro e w2 ⟨rfl, hb2⟩
  have HB2 := Lib.hid (HW1.out.trans (hb2.mono HW1.out.size))
  have HP2 := Lib.hid (HP0.out.below hb2)
  clear hb2 e0 e1 e2 HP0 HW1 HCH
  by_cases hc : ch = 0
  case neg =>
    have he' : (ch == 0) = false := by simpa using hc
    have hen : (ch != 0) = true := by simpa using hc
    have HV := Lib.hid (show printM ⟨D, S, K⟩ = (⟨#[]⟩, ch) by rw [HPM.out, if_neg hc])
    clear hc HUP HPM
    go_wp2_with fail
    go_ret2
    rw [HV.out]
    exact ⟨rfl, HB2.out⟩
  case pos =>
  subst hc
  have HU := Lib.hid (HUP.out rfl)
  have HV := Lib.hid (show printM ⟨D, S, K⟩ = (⟨(printL ⟨D, S, K⟩).toArray⟩, 0) from HPM.out)
  have hn8 : nd ≤ 8 := by have := HU.out.d8; rw [HL1.out] at this; exact this
  have hs16 : ns ≤ 16 := by have := HU.out.s16; rw [HL2.out] at this; exact this
  have hk8 : nl ≤ 8 := by have := HU.out.k8; rw [HL3.out] at this; exact this
  have hx0 : (w2.alloc (.cells #[.pointer none, .slice none 0 0] 74)).heap[w2.heap.size]? = some (.cells #[.pointer none, .slice none 0 0] 74 (0, 0)) := heap_alloc_new w2 _
  have HBU := Lib.hid (show Lib.IsBuilderF 74 5 w2.heap.size w2.heap.size (Lib.byteCells ([].flatMap lineD)) (w2.alloc (.cells #[.pointer none, .slice none 0 0] 74)) from .inl ⟨Nat.le_refl _, _, hx0, World.ownsRowF_nil _ _ _ _, by simp [Value.ownBlock]⟩)
  have HWB := Lib.hid HB2.out.size
  have HPBL := Lib.hid (lt_of_block HP2.out)
  have HB3 := Lib.hid (HB2.out.trans ((plus_one1 w2 (.cells #[.pointer none, .slice none 0 0] 74)).mono HB2.out.size))
  have HP3 := Lib.hid (HP2.out.below (plus_one1 w2 (.cells #[.pointer none, .slice none 0 0] 74)))
  clear HUP HPM hx0
  go_upto_region 6 with (fail)
  obtain ⟨b, hb⟩ : ∃ b, b = w2.heap.size := ⟨_, rfl⟩
  rw [← hb] at HBU HWB HPBL ⊢
  generalize w2.alloc (.cells #[.pointer none, .slice none 0 0] 74) = w3 at HBU HB3 HP3 ⊢
  clear hb HB2 HP2
  have e0 : w3.cell? ⟨pb, 0, none⟩ = some (.slice a1 nd c1) := blk_cell HP3.out 0
  go_wp2_with fail
  go_loopw [25] (fun u wr => ∃ j : Nat, u = .int .i64 j ∧ j ≤ nd ∧ Lib.IsBuilderF 74 5 b b (Lib.byteCells ((D.take j).flatMap lineD)) wr ∧ Below w.heap.size w wr ∧ BoxP pb (.slice a1 nd c1) (.slice a2 ns c2) (.slice a3 nl c3) wr) (fun u _ => nd - (intOf u).toNat)
  case atStart => exact ⟨0, rfl, Nat.zero_le _, HBU.out, HB3.out, HP3.out⟩
  case round =>
    clear HBU HB3 HP3 e0
    obtain ⟨j, rfl, hj, hbu, hb, hp⟩ := hrel
    have HBU0 := Lib.hid hbu
    have HB := Lib.hid hb
    have HP := Lib.hid hp
    have hjz : (0 : Int) ≤ (j : Int) := Int.natCast_nonneg _
    clear hbu hb hp
    by_cases hc : j < nd
    · have hc' : (j : Int) < (nd : Int) := by omega
      obtain ⟨d, hd⟩ : ∃ d, D[j]? = some d := ⟨_, List.getElem?_eq_getElem (by rw [HL1.out]; exact hc)⟩
      obtain ⟨bl', o, rfl, hbl, hcx⟩ := HDC.out (by omega)
      obtain ⟨g0, g1, g2, g3, g4, g5⟩ := hcx j d hd
      have k0 := below_cell1 HB.out hbl g0
      have k1 := below_cell1 HB.out hbl g1
      have k2 := below_cell1 HB.out hbl g2
      have k3 := below_cell1 HB.out hbl g3
      have k4 := below_cell1 HB.out hbl g4
      have k5 := below_cell1 HB.out hbl g5
      clear g0 g1 g2 g3 g4 g5
      have HT := Lib.hid (flat_take (f := lineD) hd)
      obtain ⟨u1, _, u2, u3, u4⟩ := HU.out.dm d (List.mem_of_getElem? hd)
      have HPR := Lib.hid (fun u : World => signPrint_calls d.lv d.ct u)
      have hlz := print_size d.lv d.ct
      unfold lab at HPR
      obtain ⟨tas, ht1, ht2, ht3⟩ := itoa_ba5 (n := d.ta) (by omega) (by omega)
      obtain ⟨obs, ho1, ho2, ho3⟩ := itoa_ba5 (n := d.ob) (by omega) (by omega)
      obtain ⟨ris, hr1, hr2, hr3⟩ := itoa_ba5 (n := d.ri) (by omega) (by omega)
      have hnz := nameB_size u1
      have haz : ((D.take j).flatMap lineD).length ≤ 1096 := flatD_len HU.out j
      have hlnz := lineD_len HU.out (List.mem_of_getElem? hd)
      have hline : lineD d = Lib.join [[100, 111, 109, 97, 105, 110], d.nm.data.toList, (printV d.lv d.ct).1.data.toList, tas.data.toList, obs.data.toList, ris.data.toList] [32] ++ [10] := by rw [ht2, ho2, hr2]; simp [Lib.join, List.intercalate, lineD, labT, bsL]
      have hx0 : BoxD wr.heap.size d (wr.alloc (.cells #[.string d.nm, .int .i64 d.lv, .int .i64 d.ct, .int .i64 d.ta, .int .i64 d.ob, .int .i64 d.ri] 37)) := heap_alloc_new wr _
      have HX0 := Lib.hid hx0
      have HP1 := Lib.hid (HP.out.below (plus_one1 wr (.cells #[.string d.nm, .int .i64 d.lv, .int .i64 d.ct, .int .i64 d.ta, .int .i64 d.ob, .int .i64 d.ri] 37)))
      have HB1 := Lib.hid (HB.out.trans ((plus_one1 wr (.cells #[.string d.nm, .int .i64 d.lv, .int .i64 d.ct, .int .i64 d.ta, .int .i64 d.ob, .int .i64 d.ri] 37)).mono HB.out.size))
      have HBU1 := Lib.hid (IsBuilderF_below HBU0.out (plus_one1 wr (.cells #[.string d.nm, .int .i64 d.lv, .int .i64 d.ct, .int .i64 d.ta, .int .i64 d.ob, .int .i64 d.ri] 37)))
      generalize printV d.lv d.ct = pv at HPR hlz hline
      obtain ⟨lab', pe⟩ := pv
      simp only at HPR hlz hline
      obtain ⟨lab, hlab⟩ : ∃ l, l = lab' := ⟨_, rfl⟩
      rw [← hlab] at HPR hlz hline
      have HLEN := Lib.hid (show (Lib.join ([(⟨#[100, 111, 109, 97, 105, 110]⟩ : ByteArray), d.nm, lab, tas, obs, ris].map (fun x : ByteArray => x.data.toList)) [32]).length + ((D.take j).flatMap lineD).length ≤ 1000000 by
        have h1 : (Lib.join ([(⟨#[100, 111, 109, 97, 105, 110]⟩ : ByteArray), d.nm, lab, tas, obs, ris].map (fun x : ByteArray => x.data.toList)) [32] ++ [10]).length ≤ 137 := by rw [hline] at hlnz; exact hlnz
        rw [List.length_append] at h1
        omega)
      have HLINE := Lib.hid (show (D.take j).flatMap lineD ++ (Lib.join ([(⟨#[100, 111, 109, 97, 105, 110]⟩ : ByteArray), d.nm, lab, tas, obs, ris].map (fun x : ByteArray => x.data.toList)) [32] ++ [10]) = (D.take (j + 1)).flatMap lineD by rw [HT.out, hline]; rfl)
      have HTA := Lib.hid (fun (u : World) (hu : Tab u) => itoa_calls d.ta (by omega) (by omega) u hu)
      have HOB := Lib.hid (fun (u : World) (hu : Tab u) => itoa_calls d.ob (by omega) (by omega) u hu)
      have HRI := Lib.hid (fun (u : World) (hu : Tab u) => itoa_calls d.ri (by omega) (by omega) u hu)
      rw [← ht1] at HTA
      rw [← ho1] at HOB
      rw [← hr1] at HRI
      obtain ⟨nm, lv, ct, ta, ob, ri⟩ := d
      simp only at k0 k1 k2 k3 k4 k5 HPR HTA HOB HRI HLEN HLINE
      clear hlab hcx hd u1 u2 u3 u4 ht1 ho1 hr1 ht2 ho2 hr2 ht3 ho3 hr3 hx0 hline hlnz haz hnz hlz HT HBU0
      go_upto_region 9 with (fail)
      obtain ⟨db, hdb⟩ : ∃ db, db = wr.heap.size := ⟨_, rfl⟩
      rw [← hdb] at HX0 ⊢
      generalize wr.alloc (.cells #[.string nm, .int .i64 lv, .int .i64 ct, .int .i64 ta, .int .i64 ob, .int .i64 ri] 37) = w4' at HX0 HB1 HP1 HBU1 ⊢
      clear hdb k0 k1 k2 k3 k4 k5 HB HP
      have k1 : w4'.cell? ⟨db, 1, none⟩ = some (.int .i64 lv) := blk_cell HX0.out 1
      have k2 : w4'.cell? ⟨db, 2, none⟩ = some (.int .i64 ct) := blk_cell HX0.out 2
      go_wp2_with fail
      refine (HPR.out _).mono ?_
      rintro e w4 ⟨rfl, hb4⟩
      have HB4 := Lib.hid (HB1.out.trans (hb4.mono HB1.out.size))
      have HP4 := Lib.hid (HP1.out.below hb4)
      have HX4 := Lib.hid (HX0.out.below hb4)
      have HBU := Lib.hid (IsBuilderF_below HBU1.out hb4)
      have HBL := Lib.hid (show b < w4.heap.size from by rcases HBU.out with h | h <;> exact h.lt)
      have HTA4 := Lib.hid (fun t : BW w4 => HTA.out t.at_ ((HTAB.out.below HB4.out).below t.ok))
      have HOB4 := Lib.hid (fun t : BW w4 => HOB.out t.at_ ((HTAB.out.below HB4.out).below t.ok))
      have HRI4 := Lib.hid (fun t : BW w4 => HRI.out t.at_ ((HTAB.out.below HB4.out).below t.ok))
      clear hb4 k1 k2 HB1 HP1 HX0 HBU1 HPR HTA HOB HRI
      have HTA := HTA4
      have HOB := HOB4
      have HRI := HRI4
      clear HTA4 HOB4 HRI4
      go_upto_region 10 with (fail)
      have f0 : ∀ t : BW w4, t.at_.cell? ⟨db, 0, none⟩ = some (.string nm) := bw_cell (lt_of_block HX4.out) (blk_cell HX4.out 0)
      have f3 : ∀ t : BW w4, t.at_.cell? ⟨db, 3, none⟩ = some (.int .i64 ta) := bw_cell (lt_of_block HX4.out) (blk_cell HX4.out 3)
      have f4 : ∀ t : BW w4, t.at_.cell? ⟨db, 4, none⟩ = some (.int .i64 ob) := bw_cell (lt_of_block HX4.out) (blk_cell HX4.out 4)
      have f5 : ∀ t : BW w4, t.at_.cell? ⟨db, 5, none⟩ = some (.int .i64 ri) := bw_cell (lt_of_block HX4.out) (blk_cell HX4.out 5)
      refine wp_region_W 15 99 (fun _ => True) (by kernel_rfl) (by kernel_rfl) trivial (fun _ => ?_)
      refine wpAnyW_take (i := 0) (some 35) rfl rfl (by kernel_rfl) (by kernel_rfl) (by kernel_rfl) (by kernel_rfl) (fun _ _ _ h => h) (v := ?_) (.inl ⟨by rfl, ?_⟩) (.inr trivial) ?_
      rotate_left
      · (intro wT _; go_simp <;> with_reducible rfl)
      simp only [Act.put, List.setIfInBounds_toArray, List.set_cons_zero, List.set_cons_succ]
      refine wpAnyW_phase (w0 := w4) (fuel := 1) 1 12 13 (by kernel_rfl) (by kernel_rfl) (by kernel_rfl) (by kernel_rfl) (by kernel_rfl) (by kernel_rfl) ((Below.refl _ _).drew) ?_
      simp only [List.drop_succ_cons, List.drop_zero, List.take_succ_cons, List.take_zero]
      repeat (go_big_quiet_step (first | (go_at_call 37; with_reducible refine Calls.bw _ (HTA.out _)) | (go_at_call 37; with_reducible refine Calls.bw _ (HOB.out _)) | (go_at_call 37; with_reducible refine Calls.bw _ (HRI.out _))))
      refine wpQuiet_nil ?_
      intro _ hw'
      obtain ⟨tq, rfl⟩ := hw'
      clear f0 f3 f4 f5
      refine wpAnyW_one (i := 13) (by kernel_rfl) rfl (fun KK hKK => ?_)
      go_simp
      refine name_world2 (fun W7 hW7 => ?_)
      obtain ⟨sb, hsbe⟩ : ∃ sb, sb = tq.at_.heap.size := ⟨_, rfl⟩
      have hq7 : Below w4.heap.size w4 W7 := by rw [hW7]; exact Below.alloc tq.ok (Below.size tq.ok) _
      have hx7 : W7.heap[sb]? = some (.cells #[.string ⟨#[100, 111, 109, 97, 105, 110]⟩, .string nm, .string lab, .string tas, .string obs, .string ris] 9 (0, 0)) := by rw [hW7, hsbe]; exact heap_alloc_new tq.at_ _
      rw [← hsbe]
      have HQ7 := Lib.hid hq7
      have HX7 := Lib.hid hx7
      clear hW7 hsbe hq7 hx7
      refine step_owe hKK trivial (fun _ => ?_)
      clear hKK KK
      refine wpAnyW_one (i := 14) (by kernel_rfl) rfl (fun KK hKK => ?_)
      go_simp
      have HS := Lib.hid (say_calls b sb 6 ((D.take j).flatMap lineD) [⟨#[100, 111, 109, 97, 105, 110]⟩, nm, lab, tas, obs, ris] W7 (IsBuilderF_below HBU.out HQ7.out) (Nat.lt_of_lt_of_le HBL.out HQ7.out.size) (fun j x hj => by
        have hlt : j < 6 := (List.getElem?_eq_some_iff.1 hj).1
        rw [Nat.zero_add]
        match j, hlt, hj with
        | 0, _, hj => injection hj with hj; subst hj; exact blk_cell HX7.out 0
        | 1, _, hj => injection hj with hj; subst hj; exact blk_cell HX7.out 1
        | 2, _, hj => injection hj with hj; subst hj; exact blk_cell HX7.out 2
        | 3, _, hj => injection hj with hj; subst hj; exact blk_cell HX7.out 3
        | 4, _, hj => injection hj with hj; subst hj; exact blk_cell HX7.out 4
        | 5, _, hj => injection hj with hj; subst hj; exact blk_cell HX7.out 5) (lt_of_block HX7.out) (Nat.le_refl _) (by simp) HLEN.out)
      refine (show Calls Tryd.prog 33 #[.slice (some ⟨sb, 0, none⟩) 6 6, .pointer (some ⟨b, 0, none⟩)] W7 _ from HS.out).mono ?_
      rintro e W8 ⟨rfl, hbd8, hb8⟩
      dsimp only
      have HBU8 := Lib.hid (show Lib.IsBuilderF 74 5 b b (Lib.byteCells ((D.take (j + 1)).flatMap lineD)) W8 by rw [← HLINE.out]; exact hbd8)
      have HB8 := Lib.hid ((HB4.out.trans (HQ7.out.mono HB4.out.size)).trans (hb8.mono HWB.out))
      have HP8 := Lib.hid (show BoxP pb _ _ _ W8 from (hb8.block pb HPBL.out).trans (HP4.out.below HQ7.out))
      clear hbd8 hb8 HS HX7 HQ7
      refine step_owe hKK trivial (fun _ => ?_)
      clear hKK KK
      refine wpAnyW_done (by kernel_rfl) ?_
      go_wp2_with fail
      go_roundw
      case rel => exact ⟨j + 1, by go_num, by omega, HBU8.out, HB8.out, HP8.out⟩
      case measure => simp [intOf]; omega
    have hc' : ¬ (j : Int) < (nd : Int) := by omega
    have HBU := Lib.hid (show Lib.IsBuilderF 74 5 b b (Lib.byteCells (D.flatMap lineD ++ (S.take 0).flatMap (lineS D))) wr by
      have := HBU0.out
      rw [List.take_of_length_le (by rw [HL1.out]; omega)] at this
      rw [List.take_zero, List.flatMap_nil, List.append_nil]
      exact this)
    have e1 : wr.cell? ⟨pb, 1, none⟩ = some (.slice a2 ns c2) := blk_cell HP.out 1
    clear hc HBU0
    go_wp2_with fail
    clear hc' hjz e1
    obtain ⟨wo, hwo⟩ : ∃ wo, wo = wr := ⟨_, rfl⟩
    subst hwo
    go_loopw [54] (fun u wz => ∃ k : Nat, u = .int .i64 k ∧ k ≤ ns ∧ Lib.IsBuilderF 74 5 b b (Lib.byteCells (D.flatMap lineD ++ (S.take k).flatMap (lineS D))) wz ∧ Below w.heap.size w wz ∧ BoxP pb (.slice a1 nd c1) (.slice a2 ns c2) (.slice a3 nl c3) wz) (fun u _ => ns - (intOf u).toNat)
    case atStart => exact ⟨0, rfl, Nat.zero_le _, HBU.out, HB.out, HP.out⟩
    case round =>
      clear HBU HB HP
      obtain ⟨k, rfl, hk, hbu, hb, hp⟩ := hrel
      have HBU0 := Lib.hid hbu
      have HB := Lib.hid hb
      have HP := Lib.hid hp
      have hkz : (0 : Int) ≤ (k : Int) := Int.natCast_nonneg _
      clear hbu hb hp
      by_cases hc : k < ns
      · have hc' : (k : Int) < (ns : Int) := by omega
        obtain ⟨s, hs⟩ : ∃ s, S[k]? = some s := ⟨_, List.getElem?_eq_getElem (by rw [HL2.out]; exact hc)⟩
        obtain ⟨bs, os, rfl, hbs, hsx⟩ := HSC.out (by omega)
        have k0 := below_cell1 HB.out hbs (hsx k s hs 0 _ rfl)
        have k1 := below_cell1 HB.out hbs (hsx k s hs 1 _ rfl)
        rw [Nat.add_zero] at k0
        have HT := Lib.hid (flat_take (f := lineS D) hs)
        obtain ⟨⟨u1, u2⟩, u3, u4⟩ := HU.out.sl s (List.mem_of_getElem? hs)
        have hsl : lineS D s = [115, 108, 111, 116, 32] ++ nmAt D s.1 ++ [32] ++ Lib.itoa s.2 ++ [10] := rfl
        have hlnz := lineS_len HU.out (List.mem_of_getElem? hs)
        generalize lineS D s = ls at hsl HT hlnz
        obtain ⟨sd, sz⟩ := s
        simp only at k0 k1 u1 u2 u3 u4 hsl
        obtain ⟨i, rfl⟩ : ∃ i : Nat, sd = i := ⟨sd.toNat, by omega⟩
        rw [HL1.out] at u2
        obtain ⟨d, hd⟩ : ∃ d, D[i]? = some d := ⟨_, List.getElem?_eq_getElem (by rw [HL1.out]; omega)⟩
        rw [nmAt_at5 hd] at hsl
        obtain ⟨bd, od, rfl, hbd, hdx⟩ := HDC.out (by omega)
        have d0 := below_cell1 HB.out hbd (hdx i d hd).1
        obtain ⟨szs, ht1, ht2, ht3⟩ := itoa_ba5 (n := sz) (by omega) u4
        have HSZ0 := Lib.hid (fun (u : World) (hu : Tab u) => itoa_calls sz (by omega) (by omega) u hu)
        rw [← ht1] at HSZ0
        have hline : ls = Lib.join ([(⟨#[115, 108, 111, 116]⟩ : ByteArray), d.nm, szs].map (fun x : ByteArray => x.data.toList)) [32] ++ [10] := by rw [hsl, ← ht2]; simp [Lib.join, List.intercalate, bsL]
        have haz : (D.flatMap lineD ++ (S.take k).flatMap (lineS D)).length ≤ 1096 + 832 := by
          have e1 := flatD_len HU.out D.length
          rw [List.take_length] at e1
          have e2 := flatS_len HU.out k
          rw [List.length_append]; omega
        have HLEN := Lib.hid (show (Lib.join ([(⟨#[115, 108, 111, 116]⟩ : ByteArray), d.nm, szs].map (fun x : ByteArray => x.data.toList)) [32]).length + (D.flatMap lineD ++ (S.take k).flatMap (lineS D)).length ≤ 1000000 by
          have h1 : (Lib.join ([(⟨#[115, 108, 111, 116]⟩ : ByteArray), d.nm, szs].map (fun x : ByteArray => x.data.toList)) [32] ++ [10]).length ≤ 52 := by rw [hline] at hlnz; exact hlnz
          rw [List.length_append] at h1
          omega)
        have HLINE := Lib.hid (show (D.flatMap lineD ++ (S.take k).flatMap (lineS D)) ++ (Lib.join ([(⟨#[115, 108, 111, 116]⟩ : ByteArray), d.nm, szs].map (fun x : ByteArray => x.data.toList)) [32] ++ [10]) = D.flatMap lineD ++ (S.take (k + 1)).flatMap (lineS D) by rw [HT.out, ← hline, List.append_assoc])
        have hiz : (0 : Int) ≤ (i : Int) := Int.natCast_nonneg _
        generalize d.nm = nm at d0 HLEN HLINE
        have HX0 := Lib.hid (show (wr.alloc (.cells #[.int .i64 i, .int .i64 sz] 39)).heap[wr.heap.size]? = some (.cells #[.int .i64 i, .int .i64 sz] 39 (0, 0)) from heap_alloc_new wr _)
        have HB1 := Lib.hid (HB.out.trans ((plus_one1 wr (.cells #[.int .i64 i, .int .i64 sz] 39)).mono HB.out.size))
        have HP1 := Lib.hid (HP.out.below (plus_one1 wr (.cells #[.int .i64 i, .int .i64 sz] 39)))
        have HBU := Lib.hid (IsBuilderF_below HBU0.out (plus_one1 wr (.cells #[.int .i64 i, .int .i64 sz] 39)))
        have HD0 := Lib.hid (below_cell1 (plus_one1 wr (.cells #[.int .i64 i, .int .i64 sz] 39)) (Nat.lt_of_lt_of_le hbd HB.out.size) d0)
        clear hsx hs hdx hd d ht1 ht2 ht3 u1 u3 u4 hline hsl HT haz hlnz HBU0 d0
        go_upto_region 15 with (fail)
        obtain ⟨lb, hlb⟩ : ∃ lb, lb = wr.heap.size := ⟨_, rfl⟩
        rw [← hlb] at HX0 ⊢
        generalize wr.alloc (.cells #[.int .i64 i, .int .i64 sz] 39) = w3 at HX0 HB1 HP1 HBU HD0 ⊢
        clear hlb k0 k1 HB HP
        have HBL := Lib.hid (show b < w3.heap.size from by rcases HBU.out with h | h <;> exact h.lt)
        have HSZ := Lib.hid (fun t : BW w3 => HSZ0.out t.at_ ((HTAB.out.below HB1.out).below t.ok))
        clear HSZ0
        have f0 : ∀ t : BW w3, t.at_.cell? ⟨pb, 0, none⟩ = some (.slice (some ⟨bd, od, none⟩) nd c1) := bw_cell (lt_of_block HP1.out) (blk_cell HP1.out 0)
        have f1 : ∀ t : BW w3, t.at_.cell? ⟨lb, 0, none⟩ = some (.int .i64 i) := bw_cell (lt_of_block HX0.out) (blk_cell HX0.out 0)
        have f2 : ∀ t : BW w3, t.at_.cell? ⟨lb, 1, none⟩ = some (.int .i64 sz) := bw_cell (lt_of_block HX0.out) (blk_cell HX0.out 1)
        have f3 : ∀ t : BW w3, t.at_.cell? ⟨bd, od + i * 6, none⟩ = some (.string nm) := bw_cell (Nat.lt_of_lt_of_le hbd HB1.out.size) HD0.out
        refine wp_region_W 13 99 (fun _ => True) (by kernel_rfl) (by kernel_rfl) trivial (fun _ => ?_)
        refine wpAnyW_take (i := 0) (some 58) rfl rfl (by kernel_rfl) (by kernel_rfl) (by kernel_rfl) (by kernel_rfl) (fun _ _ _ h => h) (v := ?_) (.inl ⟨by rfl, ?_⟩) (.inr trivial) ?_
        rotate_left
        · (intro wT _; go_simp <;> with_reducible rfl)
        simp only [Act.put, List.setIfInBounds_toArray, List.set_cons_zero, List.set_cons_succ]
        refine wpAnyW_phase (w0 := w3) (fuel := 1) 1 10 11 (by kernel_rfl) (by kernel_rfl) (by kernel_rfl) (by kernel_rfl) (by kernel_rfl) (by kernel_rfl) ((Below.refl _ _).drew) ?_
        simp only [List.drop_succ_cons, List.drop_zero, List.take_succ_cons, List.take_zero]
        repeat (go_big_quiet_step ((go_at_call 37; with_reducible refine Calls.bw _ (HSZ.out _))))
        refine wpQuiet_nil ?_
        intro _ hw'
        obtain ⟨tq, rfl⟩ := hw'
        clear f0 f1 f2 f3
        refine wpAnyW_one (i := 11) (by kernel_rfl) rfl (fun KK hKK => ?_)
        go_simp
        refine name_world2 (fun W7 hW7 => ?_)
        obtain ⟨sb, hsbe⟩ : ∃ sb, sb = tq.at_.heap.size := ⟨_, rfl⟩
        have hq7 : Below w3.heap.size w3 W7 := by rw [hW7]; exact Below.alloc tq.ok (Below.size tq.ok) _
        have hx7 : W7.heap[sb]? = some (.cells #[.string ⟨#[115, 108, 111, 116]⟩, .string nm, .string szs] 9 (0, 0)) := by rw [hW7, hsbe]; exact heap_alloc_new tq.at_ _
        rw [← hsbe]
        have HQ7 := Lib.hid hq7
        have HX7 := Lib.hid hx7
        clear hW7 hsbe hq7 hx7
        refine step_owe hKK trivial (fun _ => ?_)
        clear hKK KK
        refine wpAnyW_one (i := 12) (by kernel_rfl) rfl (fun KK hKK => ?_)
        go_simp
        have HS := Lib.hid (say_calls b sb 3 (D.flatMap lineD ++ (S.take k).flatMap (lineS D)) [⟨#[115, 108, 111, 116]⟩, nm, szs] W7 (IsBuilderF_below HBU.out HQ7.out) (Nat.lt_of_lt_of_le HBL.out HQ7.out.size) (fun j x hj => by
          have hlt : j < 3 := (List.getElem?_eq_some_iff.1 hj).1
          rw [Nat.zero_add]
          match j, hlt, hj with
          | 0, _, hj => injection hj with hj; subst hj; exact blk_cell HX7.out 0
          | 1, _, hj => injection hj with hj; subst hj; exact blk_cell HX7.out 1
          | 2, _, hj => injection hj with hj; subst hj; exact blk_cell HX7.out 2) (lt_of_block HX7.out) (Nat.le_refl _) (by simp) HLEN.out)
        refine (show Calls Tryd.prog 33 #[.slice (some ⟨sb, 0, none⟩) 3 3, .pointer (some ⟨b, 0, none⟩)] W7 _ from HS.out).mono ?_
        rintro e W8 ⟨rfl, hbd8, hb8⟩
        dsimp only
        have HBU8 := Lib.hid (show Lib.IsBuilderF 74 5 b b (Lib.byteCells (D.flatMap lineD ++ (S.take (k + 1)).flatMap (lineS D))) W8 by rw [← HLINE.out]; exact hbd8)
        have HB8 := Lib.hid ((HB1.out.trans (HQ7.out.mono HB1.out.size)).trans (hb8.mono HWB.out))
        have HP8 := Lib.hid (show BoxP pb _ _ _ W8 from (hb8.block pb HPBL.out).trans (HP1.out.below HQ7.out))
        clear hbd8 hb8 HS HX7 HQ7
        refine step_owe hKK trivial (fun _ => ?_)
        clear hKK KK
        refine wpAnyW_done (by kernel_rfl) ?_
        go_wp2_with fail
        go_roundw
        case rel => exact ⟨k + 1, by go_num, by omega, HBU8.out, HB8.out, HP8.out⟩
        case measure => simp [intOf]; omega
      have hc' : ¬ (k : Int) < (ns : Int) := by omega
      have HBU := Lib.hid (show Lib.IsBuilderF 74 5 b b (Lib.byteCells (D.flatMap lineD ++ S.flatMap (lineS D) ++ (K.take 0).flatMap (lineK D))) wr by
        have := HBU0.out
        rw [List.take_of_length_le (by rw [HL2.out]; omega)] at this
        rw [List.take_zero, List.flatMap_nil, List.append_nil]
        exact this)
      have e2 : wr.cell? ⟨pb, 2, none⟩ = some (.slice a3 nl c3) := blk_cell HP.out 2
      clear hc HBU0
      go_wp2_with fail
      clear hc' hkz e2
      obtain ⟨wo2, hwo2⟩ : ∃ wo, wo = wr := ⟨_, rfl⟩
      subst hwo2
      go_loopw [75] (fun u wz => ∃ m : Nat, u = .int .i64 m ∧ m ≤ nl ∧ Lib.IsBuilderF 74 5 b b (Lib.byteCells (D.flatMap lineD ++ S.flatMap (lineS D) ++ (K.take m).flatMap (lineK D))) wz ∧ Below w.heap.size w wz ∧ BoxP pb (.slice a1 nd c1) (.slice a2 ns c2) (.slice a3 nl c3) wz) (fun u _ => nl - (intOf u).toNat)
      case atStart => exact ⟨0, rfl, Nat.zero_le _, HBU.out, HB.out, HP.out⟩
      case round =>
        clear HBU HB HP
        obtain ⟨m, rfl, hm, hbu, hb, hp⟩ := hrel
        have HBU0 := Lib.hid hbu
        have HB := Lib.hid hb
        have HP := Lib.hid hp
        have hmz : (0 : Int) ≤ (m : Int) := Int.natCast_nonneg _
        clear hbu hb hp
        by_cases hc : m < nl
        · have hc' : (m : Int) < (nl : Int) := by omega
          obtain ⟨l, hl⟩ : ∃ l, K[m]? = some l := ⟨_, List.getElem?_eq_getElem (by rw [HL3.out]; exact hc)⟩
          obtain ⟨bl', o, rfl, hbl, hlx⟩ := HKC.out (by omega)
          have k0 := below_cell1 HB.out hbl (hlx m l hl 0 _ rfl)
          have k1 := below_cell1 HB.out hbl (hlx m l hl 1 _ rfl)
          have k2 := below_cell1 HB.out hbl (hlx m l hl 2 _ rfl)
          have k3 := below_cell1 HB.out hbl (hlx m l hl 3 _ rfl)
          rw [Nat.add_zero] at k0
          have HT := Lib.hid (flat_take (f := lineK D) hl)
          obtain ⟨⟨u1, u2⟩, ⟨u3, u4⟩, _, u5, ⟨u6, u7⟩, _⟩ := HU.out.lk l (List.mem_of_getElem? hl)
          have u8 := most_le l.kd
          have hsl : lineK D l = kindW l.kd ++ [32] ++ nmAt D l.fr ++ [32] ++ nmAt D l.tt ++ [32] ++ Lib.itoa l.sz ++ [10] := rfl
          have hlnz := lineK_len HU.out (List.mem_of_getElem? hl)
          generalize lineK D l = ll at hsl HT hlnz
          obtain ⟨kd, fr, tt, sz⟩ := l
          simp only at k0 k1 k2 k3 u1 u2 u3 u4 u5 u6 u7 u8 hsl
          obtain ⟨i, rfl⟩ : ∃ i : Nat, fr = i := ⟨fr.toNat, by omega⟩
          obtain ⟨i2, rfl⟩ : ∃ i : Nat, tt = i := ⟨tt.toNat, by omega⟩
          rw [HL1.out] at u2 u4
          obtain ⟨d, hd⟩ : ∃ d, D[i]? = some d := ⟨_, List.getElem?_eq_getElem (by rw [HL1.out]; omega)⟩
          obtain ⟨dd, hdd⟩ : ∃ d, D[i2]? = some d := ⟨_, List.getElem?_eq_getElem (by rw [HL1.out]; omega)⟩
          rw [nmAt_at5 hd, nmAt_at5 hdd] at hsl
          obtain ⟨bd, od, rfl, hbd, hdx⟩ := HDC.out (by omega)
          have d0 := below_cell1 HB.out hbd (hdx i d hd).1
          have d1 := below_cell1 HB.out hbd (hdx i2 dd hdd).1
          obtain ⟨szs, ht1, ht2, ht3⟩ := itoa_ba5 (n := sz) (by omega) (by omega)
          have HSZ0 := Lib.hid (fun (u : World) (hu : Tab u) => itoa_calls sz (by omega) (by omega) u hu)
          rw [← ht1] at HSZ0
          have hiz : (0 : Int) ≤ (i : Int) := Int.natCast_nonneg _
          have hiz2 : (0 : Int) ≤ (i2 : Int) := Int.natCast_nonneg _
          obtain ⟨kw, hkw, hkl⟩ : ∃ kw : ByteArray, kw = (if kd = 2 then ⟨#[112, 117, 109, 112]⟩ else ⟨#[99, 101, 108, 108]⟩) ∧ kw.data.toList = kindW kd := by
            refine ⟨_, rfl, ?_⟩
            unfold kindW
            split <;> rfl
          have hline : ll = Lib.join ([kw, d.nm, dd.nm, szs].map (fun x : ByteArray => x.data.toList)) [32] ++ [10] := by rw [hsl, ← ht2, ← hkl]; simp [Lib.join, List.intercalate, bsL]
          have haz : (D.flatMap lineD ++ S.flatMap (lineS D) ++ (K.take m).flatMap (lineK D)).length ≤ 1096 + 832 + 616 := by
            have e1 := flatD_len HU.out D.length
            rw [List.take_length] at e1
            have e2 := flatS_len HU.out S.length
            rw [List.take_length] at e2
            have e3 := flatK_len HU.out m
            rw [List.length_append, List.length_append]; omega
          have HLEN := Lib.hid (show (Lib.join ([kw, d.nm, dd.nm, szs].map (fun x : ByteArray => x.data.toList)) [32]).length + (D.flatMap lineD ++ S.flatMap (lineS D) ++ (K.take m).flatMap (lineK D)).length ≤ 1000000 by
            have h1 : (Lib.join ([kw, d.nm, dd.nm, szs].map (fun x : ByteArray => x.data.toList)) [32] ++ [10]).length ≤ 77 := by rw [hline] at hlnz; exact hlnz
            rw [List.length_append] at h1
            omega)
          have HLINE := Lib.hid (show (D.flatMap lineD ++ S.flatMap (lineS D) ++ (K.take m).flatMap (lineK D)) ++ (Lib.join ([kw, d.nm, dd.nm, szs].map (fun x : ByteArray => x.data.toList)) [32] ++ [10]) = D.flatMap lineD ++ S.flatMap (lineS D) ++ (K.take (m + 1)).flatMap (lineK D) by rw [HT.out, ← hline, List.append_assoc (D.flatMap lineD ++ S.flatMap (lineS D))])
          generalize d.nm = nm1 at d0 HLEN HLINE
          generalize dd.nm = nm2 at d1 HLEN HLINE
          have HKW := Lib.hid hkw
          have HX0 := Lib.hid (show (wr.alloc (.cells #[.int .i64 kd, .int .i64 i, .int .i64 i2, .int .i64 sz] 32)).heap[wr.heap.size]? = some (.cells #[.int .i64 kd, .int .i64 i, .int .i64 i2, .int .i64 sz] 32 (0, 0)) from heap_alloc_new wr _)
          have HB1 := Lib.hid (HB.out.trans ((plus_one1 wr (.cells #[.int .i64 kd, .int .i64 i, .int .i64 i2, .int .i64 sz] 32)).mono HB.out.size))
          have HP1 := Lib.hid (HP.out.below (plus_one1 wr (.cells #[.int .i64 kd, .int .i64 i, .int .i64 i2, .int .i64 sz] 32)))
          have HBU := Lib.hid (IsBuilderF_below HBU0.out (plus_one1 wr (.cells #[.int .i64 kd, .int .i64 i, .int .i64 i2, .int .i64 sz] 32)))
          have HD0 := Lib.hid (below_cell1 (plus_one1 wr (.cells #[.int .i64 kd, .int .i64 i, .int .i64 i2, .int .i64 sz] 32)) (Nat.lt_of_lt_of_le hbd HB.out.size) d0)
          have HD1 := Lib.hid (below_cell1 (plus_one1 wr (.cells #[.int .i64 kd, .int .i64 i, .int .i64 i2, .int .i64 sz] 32)) (Nat.lt_of_lt_of_le hbd HB.out.size) d1)
          clear hlx hl hdx hd hdd d dd ht1 ht2 ht3 u1 u3 u5 u6 u7 u8 hkl hkw hline hsl HT haz hlnz HBU0 d0 d1
          go_upto_region 20 with (fail)
          obtain ⟨lb, hlb⟩ : ∃ lb, lb = wr.heap.size := ⟨_, rfl⟩
          rw [← hlb] at HX0 ⊢
          generalize wr.alloc (.cells #[.int .i64 kd, .int .i64 i, .int .i64 i2, .int .i64 sz] 32) = w3 at HX0 HB1 HP1 HBU HD0 HD1 ⊢
          clear hlb k0 k1 k2 k3 HB HP
          have k0 : w3.cell? ⟨lb, 0, none⟩ = some (.int .i64 kd) := blk_cell HX0.out 0
          go_upto_if 81 with (fail)
          go_cut [15] (fun u wx => u = .string kw ∧ wx = w3)
          case first => as_aux_lemma =>
            by_cases hk2 : kd = 2
            · have hm := HKW.out
              rw [if_pos hk2] at hm
              subst hm
              subst hk2
              go_wp2_with fail
              go_meet
              exact ⟨rfl, rfl⟩
            · have hm := HKW.out
              rw [if_neg hk2] at hm
              subst hm
              have hk3 : (kd == 2) = false := by simpa using hk2
              clear hk2
              go_wp2_with fail
              go_meet
              exact ⟨rfl, rfl⟩
          case rest =>
          obtain ⟨rfl, rfl⟩ := hcut
          clear HKW k0
          have HBL := Lib.hid (show b < wc.heap.size from by rcases HBU.out with h | h <;> exact h.lt)
          have HSZ := Lib.hid (fun t : BW wc => HSZ0.out t.at_ ((HTAB.out.below HB1.out).below t.ok))
          clear HSZ0
          go_upto_region 23 with (fail)
          have f0 : ∀ t : BW wc, t.at_.cell? ⟨pb, 0, none⟩ = some (.slice (some ⟨bd, od, none⟩) nd c1) := bw_cell (lt_of_block HP1.out) (blk_cell HP1.out 0)
          have f1 : ∀ t : BW wc, t.at_.cell? ⟨lb, 1, none⟩ = some (.int .i64 i) := bw_cell (lt_of_block HX0.out) (blk_cell HX0.out 1)
          have f2 : ∀ t : BW wc, t.at_.cell? ⟨lb, 2, none⟩ = some (.int .i64 i2) := bw_cell (lt_of_block HX0.out) (blk_cell HX0.out 2)
          have f3 : ∀ t : BW wc, t.at_.cell? ⟨lb, 3, none⟩ = some (.int .i64 sz) := bw_cell (lt_of_block HX0.out) (blk_cell HX0.out 3)
          have f4 : ∀ t : BW wc, t.at_.cell? ⟨bd, od + i * 6, none⟩ = some (.string nm1) := bw_cell (Nat.lt_of_lt_of_le hbd HB1.out.size) HD0.out
          have f5 : ∀ t : BW wc, t.at_.cell? ⟨bd, od + i2 * 6, none⟩ = some (.string nm2) := bw_cell (Nat.lt_of_lt_of_le hbd HB1.out.size) HD1.out
          refine wp_region_W 21 99 (fun _ => True) (by kernel_rfl) (by kernel_rfl) trivial (fun _ => ?_)
          refine wpAnyW_take (i := 0) (some 82) rfl rfl (by kernel_rfl) (by kernel_rfl) (by kernel_rfl) (by kernel_rfl) (fun _ _ _ h => h) (v := ?_) (.inl ⟨by rfl, ?_⟩) (.inr trivial) ?_
          rotate_left
          · (intro wT _; go_simp <;> with_reducible rfl)
          simp only [Act.put, List.setIfInBounds_toArray, List.set_cons_zero, List.set_cons_succ]
          refine wpAnyW_phase (w0 := wc) (fuel := 1) 1 18 19 (by kernel_rfl) (by kernel_rfl) (by kernel_rfl) (by kernel_rfl) (by kernel_rfl) (by kernel_rfl) ((Below.refl _ _).drew) ?_
          simp only [List.drop_succ_cons, List.drop_zero, List.take_succ_cons, List.take_zero]
          repeat (go_big_quiet_step ((go_at_call 37; with_reducible refine Calls.bw _ (HSZ.out _))))
          refine wpQuiet_nil ?_
          intro _ hw'
          obtain ⟨tq, rfl⟩ := hw'
          clear f0 f1 f2 f3 f4 f5
          refine wpAnyW_one (i := 19) (by kernel_rfl) rfl (fun KK hKK => ?_)
          go_simp
          refine name_world2 (fun W7 hW7 => ?_)
          obtain ⟨sb, hsbe⟩ : ∃ sb, sb = tq.at_.heap.size := ⟨_, rfl⟩
          have hq7 : Below wc.heap.size wc W7 := by rw [hW7]; exact Below.alloc tq.ok (Below.size tq.ok) _
          have hx7 : W7.heap[sb]? = some (.cells #[.string kw, .string nm1, .string nm2, .string szs] 9 (0, 0)) := by rw [hW7, hsbe]; exact heap_alloc_new tq.at_ _
          rw [← hsbe]
          have HQ7 := Lib.hid hq7
          have HX7 := Lib.hid hx7
          clear hW7 hsbe hq7 hx7
          refine step_owe hKK trivial (fun _ => ?_)
          clear hKK KK
          refine wpAnyW_one (i := 20) (by kernel_rfl) rfl (fun KK hKK => ?_)
          go_simp
          have HS := Lib.hid (say_calls b sb 4 (D.flatMap lineD ++ S.flatMap (lineS D) ++ (K.take m).flatMap (lineK D)) [kw, nm1, nm2, szs] W7 (IsBuilderF_below HBU.out HQ7.out) (Nat.lt_of_lt_of_le HBL.out HQ7.out.size) (fun j x hj => by
            have hlt : j < 4 := (List.getElem?_eq_some_iff.1 hj).1
            rw [Nat.zero_add]
            match j, hlt, hj with
            | 0, _, hj => injection hj with hj; subst hj; exact blk_cell HX7.out 0
            | 1, _, hj => injection hj with hj; subst hj; exact blk_cell HX7.out 1
            | 2, _, hj => injection hj with hj; subst hj; exact blk_cell HX7.out 2
            | 3, _, hj => injection hj with hj; subst hj; exact blk_cell HX7.out 3) (lt_of_block HX7.out) (Nat.le_refl _) (by simp) HLEN.out)
          refine (show Calls Tryd.prog 33 #[.slice (some ⟨sb, 0, none⟩) 4 4, .pointer (some ⟨b, 0, none⟩)] W7 _ from HS.out).mono ?_
          rintro e W8 ⟨rfl, hbd8, hb8⟩
          dsimp only
          have HBU8 := Lib.hid (show Lib.IsBuilderF 74 5 b b (Lib.byteCells (D.flatMap lineD ++ S.flatMap (lineS D) ++ (K.take (m + 1)).flatMap (lineK D))) W8 by rw [← HLINE.out]; exact hbd8)
          have HB8 := Lib.hid ((HB1.out.trans (HQ7.out.mono HB1.out.size)).trans (hb8.mono HWB.out))
          have HP8 := Lib.hid (show BoxP pb _ _ _ W8 from (hb8.block pb HPBL.out).trans (HP1.out.below HQ7.out))
          clear hbd8 hb8 HS HX7 HQ7
          refine step_owe hKK trivial (fun _ => ?_)
          clear hKK KK
          refine wpAnyW_done (by kernel_rfl) ?_
          go_wp2_with fail
          go_roundw
          case rel => exact ⟨m + 1, by go_num, by omega, HBU8.out, HB8.out, HP8.out⟩
          case measure => simp [intOf]; omega
        have hc' : ¬ (m : Int) < (nl : Int) := by omega
        have HEND := Lib.hid (show Lib.IsBuilderF 74 5 b b (Lib.byteCells (printL ⟨D, S, K⟩)) wr by
          have := HBU0.out
          rw [List.take_of_length_le (by rw [HL3.out]; omega), List.append_assoc] at this
          exact this)
        have HSB := Lib.hid (Tryd.Builder_String_any_f b b (printL ⟨D, S, K⟩) wr HEND.out (by rcases HEND.out with h | h <;> exact Nat.le_of_lt h.lt))
        clear hc HBU0
        go_wp2_with fail
        refine HSB.out.mono ?_
        rintro e w9 ⟨rfl, _, hb9⟩
        have HB9 := Lib.hid (HB.out.trans (hb9.mono HWB.out))
        clear hb9
        go_wp2_with fail
        go_ret2
        rw [HV.out]
        exact ⟨rfl, HB9.out⟩
end Go.Proofs.YtkjhgfjlknbdkaaDoor
