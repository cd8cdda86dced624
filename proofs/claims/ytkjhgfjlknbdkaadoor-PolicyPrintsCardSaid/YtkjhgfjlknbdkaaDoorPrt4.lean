/- What the document's Print of a policy does (parcloseref04.Print). Conditions: the policy can be read, the names are not too long, the labels' sets are int64s. -/
import Derived.Test.YtkjhgfjlknbdkaaDoorPrt2
import Derived.Test.YtkjhgfjlknbdkaaDoorPrt3
import Derived.Test.YtkjhgfjlknbdkaaDoorSignRef3
import Derived.Test.YtkjhgfjlknbdkaaDoorRef04b
import Derived.Test.YtkjhgfjlknbdkaaDoorParse
namespace Go.Proofs.YtkjhgfjlknbdkaaDoor
open Go.RowKit BigFrame Go.BigFrame

theorem rnum2 (n : Int) (h0 : 0 ≤ n) (h1 : n ≤ 9999) (w : World) : Calls Tryd.prog 40 #[.int .i64 n] w fun e w' => e = .returned (.string ⟨(Lib.itoa n).toArray⟩) ∧ Below w.heap.size w w' := by
  obtain ⟨m, rfl⟩ : ∃ m : Nat, n = m := ⟨n.toNat, by omega⟩
  exact rnum_calls 10000 m (by omega) (by omega) w
theorem itoa_ba {n : Int} (h0 : 0 ≤ n) (h1 : n ≤ 16) : ∃ s : ByteArray, s = ⟨(Lib.itoa n).toArray⟩ ∧ s.data.toList = Lib.itoa n ∧ s.size ≤ 21 :=
  ⟨_, rfl, by simp, by rw [ByteArray.size_mk', List.size_toArray]; exact itoa_len h0 h1⟩
theorem nmAt_at {D : List Dm} {i : Nat} {d : Dm} (h : D[i]? = some d) : nmAt D (i : Int) = bsL d.nm := by
  unfold nmAt
  rw [Int.toNat_natCast, h]
set_option maxRecDepth 100000 in
set_option maxHeartbeats 32000000 in
theorem rprint_calls {w : World} {vd vs vl : Value} {p : P3} (h : PR w vd vs vl p) (hz : ∀ d ∈ p.D, d.nm.size ≤ 140737488351232) (hct : ∀ d ∈ p.D, -9223372036854775808 ≤ d.ct ∧ d.ct ≤ 9223372036854775807) :
    Calls Tryd.prog 19 #[.agg #[vd, vs, vl]] w fun e w' => e = .returned (.tuple #[.string (printM p).1, .int .i64 (printM p).2]) ∧ Below w.heap.size w w' := by
  obtain ⟨nd, hnd⟩ : ∃ n, n = p.D.length := ⟨_, rfl⟩
  obtain ⟨ns, hns⟩ : ∃ n, n = p.S.length := ⟨_, rfl⟩
  obtain ⟨nl, hnl⟩ : ∃ n, n = p.K.length := ⟨_, rfl⟩
  have hd := h.d
  have hs := h.s
  have hk := h.k
  rw [← hnd] at hd
  rw [← hns] at hs
  rw [← hnl] at hk
  obtain ⟨hl1, a1, c1, rfl, h12, h13, hdc⟩ := doms_open hd
  obtain ⟨hl2, a2, c2, rfl, h22, h23, hsc⟩ := rows_open hs (fun _ => rfl) (by omega)
  obtain ⟨hl3, a3, c3, rfl, h32, h33, hkc⟩ := rows_open hk (fun _ => rfl) (by omega)
  unfold maxLen at h13 h23 h33
  have HL1 := Lib.hid hl1
  have HL2 := Lib.hid hl2
  have HL3 := Lib.hid hl3
  have HDC := Lib.hid hdc
  have HSC := Lib.hid hsc
  have HKC := Lib.hid hkc
  have HCT := Lib.hid hct
  have HP0 := Lib.hid (show BoxP w.heap.size (.slice a1 nd c1) (.slice a2 ns c2) (.slice a3 nl c3) (w.alloc (.cells #[.slice a1 nd c1, .slice a2 ns c2, .slice a3 nl c3] 26)) from heap_alloc_new w _)
  have HW1 := Lib.hid (plus_one1 w (.cells #[.slice a1 nd c1, .slice a2 ns c2, .slice a3 nl c3] 26))
  have HCH := Lib.hid (rcheck_calls (h.d.below (by omega) HW1.out) (h.s.below (by omega) HW1.out) (h.k.below (by omega) HW1.out) hz hct)
  have HUP := Lib.hid (fun h : checkM p.D p.S p.K = 0 => check_all h)
  have HPM := Lib.hid (show printM p = if checkM p.D p.S p.K = 0 then (⟨(printL p).toArray⟩, 0) else (⟨#[]⟩, checkM p.D p.S p.K) from rfl)
  generalize checkM p.D p.S p.K = ch at HCH HUP HPM
  obtain ⟨D, S, K⟩ := p
  simp only at HL1 HL2 HL3 HDC HSC HKC HCT HUP
  clear hl1 hl2 hl3 hdc hsc hkc hd hs hk hz hct h hnd hns hnl
  go_enter Tryd.func19, Tryd.ntmps19
  go_upto_region 1 with (fail)
  obtain ⟨pb, hpb⟩ : ∃ pb, pb = w.heap.size := ⟨_, rfl⟩
  rw [← hpb] at HP0 ⊢
  generalize w.alloc (.cells #[.slice a1 nd c1, .slice a2 ns c2, .slice a3 nl c3] 26) = w1 at HP0 HW1 HCH ⊢
  clear hpb
  have e0 : w1.cell? ⟨pb, 0, none⟩ = some (.slice a1 nd c1) := blk_cell HP0.out 0
  have e1 : w1.cell? ⟨pb, 1, none⟩ = some (.slice a2 ns c2) := blk_cell HP0.out 1
  have e2 : w1.cell? ⟨pb, 2, none⟩ = some (.slice a3 nl c3) := blk_cell HP0.out 2
  go_wp2_with fail
  refine HCH.out.mono ?_
  rintro e w2 ⟨rfl, hb2⟩
  have HB2 := Lib.hid (HW1.out.trans (hb2.mono HW1.out.size))
  have HP2 := Lib.hid (HP0.out.below hb2)
  clear hb2 e0 e1 e2 HP0 HW1 HCH
  by_cases hc : ch = 0
  case neg =>
    have he' : (ch == 0) = false := by simpa using hc
    have hen : (ch != 0) = true := by simpa using hc
    have HV := Lib.hid (show printM ⟨D, S, K⟩ = (⟨#[]⟩, ch) by rw [HPM.out, if_neg hc])
    clear hc HUP HPM
    go_wp2_with fail
    go_ret2
    rw [HV.out]
    exact ⟨rfl, HB2.out⟩
  case pos =>
  subst hc
  have HU := Lib.hid (HUP.out rfl)
  have HV := Lib.hid (show printM ⟨D, S, K⟩ = (⟨(printL ⟨D, S, K⟩).toArray⟩, 0) from HPM.out)
  have hn8 : nd ≤ 8 := by have := HU.out.d8; rw [HL1.out] at this; exact this
  have hs16 : ns ≤ 16 := by have := HU.out.s16; rw [HL2.out] at this; exact this
  have hk8 : nl ≤ 8 := by have := HU.out.k8; rw [HL3.out] at this; exact this
  clear HUP HPM
  go_wp2_with fail
  go_loopw [5, 6] (fun u v wr => ∃ (j : Nat) (acc : ByteArray), v = .int .i64 j ∧ u = .string acc ∧ j ≤ nd ∧ bsL acc = (D.take j).flatMap lineD ∧ Below w.heap.size w wr ∧ BoxP pb (.slice a1 nd c1) (.slice a2 ns c2) (.slice a3 nl c3) wr) (fun _ v _ => nd - (intOf v).toNat)
  case atStart => exact ⟨0, _, rfl, rfl, Nat.zero_le _, rfl, HB2.out, HP2.out⟩
  case round =>
    clear HB2 HP2
    obtain ⟨j, acc, rfl, rfl, hj, hacc, hb, hp⟩ := hrel
    have HA := Lib.hid hacc
    have HB := Lib.hid hb
    have HP := Lib.hid hp
    have hjz : (0 : Int) ≤ (j : Int) := Int.natCast_nonneg _
    have e0 : wr.cell? ⟨pb, 0, none⟩ = some (.slice a1 nd c1) := blk_cell HP.out 0
    clear hacc hb hp
    by_cases hc : j < nd
    · have hc' : (j : Int) < (nd : Int) := by omega
      obtain ⟨d, hd⟩ : ∃ d, D[j]? = some d := ⟨_, List.getElem?_eq_getElem (by rw [HL1.out]; exact hc)⟩
      obtain ⟨bl', o, rfl, hbl, hcx⟩ := HDC.out (by omega)
      obtain ⟨g0, g1, g2, g3, g4, g5⟩ := hcx j d hd
      have k0 := below_cell1 HB.out hbl g0
      have k1 := below_cell1 HB.out hbl g1
      have k2 := below_cell1 HB.out hbl g2
      have k3 := below_cell1 HB.out hbl g3
      have k4 := below_cell1 HB.out hbl g4
      have k5 := below_cell1 HB.out hbl g5
      clear g0 g1 g2 g3 g4 g5
      have HT := Lib.hid (flat_take (f := lineD) hd)
      obtain ⟨u1, _, u2, u3, u4⟩ := HU.out.dm d (List.mem_of_getElem? hd)
      have hcd := HCT.out d (List.mem_of_getElem? hd)
      have HPR := Lib.hid (fun u : World => rPrint_calls d.lv d.ct hcd.1 hcd.2 u)
      have hlab : bsL (printV d.lv d.ct).1 = labT d := rfl
      have hlz := print_size d.lv d.ct
      unfold lab at HPR
      obtain ⟨tas, ht1, ht2, ht3⟩ := itoa_ba (n := d.ta) (by omega) (by omega)
      obtain ⟨obs, ho1, ho2, ho3⟩ := itoa_ba (n := d.ob) (by omega) (by omega)
      obtain ⟨ris, hr1, hr2, hr3⟩ := itoa_ba (n := d.ri) (by omega) (by omega)
      have HTA := Lib.hid (fun u : World => rnum2 d.ta (by omega) (by omega) u)
      have HOB := Lib.hid (fun u : World => rnum2 d.ob (by omega) (by omega) u)
      have HRI := Lib.hid (fun u : World => rnum2 d.ri (by omega) (by omega) u)
      rw [← ht1] at HTA
      rw [← ho1] at HOB
      rw [← hr1] at HRI
      have hnz := nameB_size u1
      have haz : acc.size ≤ 1096 := by rw [← bsL_len, HA.out]; exact flatD_len HU.out j
      have hline : lineD d = [100, 111, 109, 97, 105, 110, 32] ++ d.nm.data.toList ++ [32] ++ (printV d.lv d.ct).1.data.toList ++ [32] ++ tas.data.toList ++ [32] ++ obs.data.toList ++ [32] ++ ris.data.toList ++ [10] := by rw [ht2, ho2, hr2]; rfl
      generalize lineD d = ld at hline HT
      have hx0 : BoxD wr.heap.size d (wr.alloc (.cells #[.string d.nm, .int .i64 d.lv, .int .i64 d.ct, .int .i64 d.ta, .int .i64 d.ob, .int .i64 d.ri] 37)) := heap_alloc_new wr _
      have HX0 := Lib.hid hx0
      have HP1 := Lib.hid (HP.out.below (plus_one1 wr (.cells #[.string d.nm, .int .i64 d.lv, .int .i64 d.ct, .int .i64 d.ta, .int .i64 d.ob, .int .i64 d.ri] 37)))
      have HB1 := Lib.hid (HB.out.trans ((plus_one1 wr (.cells #[.string d.nm, .int .i64 d.lv, .int .i64 d.ct, .int .i64 d.ta, .int .i64 d.ob, .int .i64 d.ri] 37)).mono HB.out.size))
      clear hcd u2 u3 u4 u1 hlab ht1 ho1 hr1 ht2 ho2 hr2 hx0
      generalize printV d.lv d.ct = pv at HPR hlz hline
      obtain ⟨lab', pe⟩ := pv
      simp only at HPR hlz hline
      obtain ⟨nm, lv, ct, ta, ob, ri⟩ := d
      simp only at k0 k1 k2 k3 k4 k5 HPR HTA HOB HRI hnz hline
      obtain ⟨lab, hlab⟩ : ∃ l, l = lab' := ⟨_, rfl⟩
      rw [← hlab] at HPR hlz hline
      clear hlab hcx hd
      have z_lit7 : (⟨#[100, 111, 109, 97, 105, 110, 32]⟩ : ByteArray).size = 7 := rfl
      have z_nl : (⟨#[10]⟩ : ByteArray).size = 1 := rfl
      have z_sp : (⟨#[32]⟩ : ByteArray).size = 1 := rfl
      obtain ⟨x1, y1, l1, s1⟩ := cat_ex ⟨#[100, 111, 109, 97, 105, 110, 32]⟩ nm (by omega)
      obtain ⟨x2, y2, l2, s2⟩ := cat_ex x1 ⟨#[32]⟩ (by omega)
      obtain ⟨x3, y3, l3, s3⟩ := cat_ex x2 lab (by omega)
      obtain ⟨x4, y4, l4, s4⟩ := cat_ex x3 ⟨#[32]⟩ (by omega)
      obtain ⟨x5, y5, l5, s5⟩ := cat_ex x4 tas (by omega)
      obtain ⟨x6, y6, l6, s6⟩ := cat_ex x5 ⟨#[32]⟩ (by omega)
      obtain ⟨x7, y7, l7, s7⟩ := cat_ex x6 obs (by omega)
      obtain ⟨x8, y8, l8, s8⟩ := cat_ex x7 ⟨#[32]⟩ (by omega)
      obtain ⟨x9, y9, l9, s9⟩ := cat_ex x8 ris (by omega)
      obtain ⟨x10, y10, l10, s10⟩ := cat_ex x9 ⟨#[10]⟩ (by omega)
      obtain ⟨x11, y11, l11, s11⟩ := cat_ex acc x10 (by omega)
      have HACC := Lib.hid (show bsL x11 = (D.take (j + 1)).flatMap lineD by
        rw [HT.out, ← HA.out, hline]
        unfold bsL
        rw [l11, l10, l9, l8, l7, l6, l5, l4, l3, l2, l1])
      clear l1 s1 l2 s2 l3 s3 l4 s4 l5 s5 l6 s6 l7 s7 l8 s8 l9 s9 l10 s10 l11 s11 z_lit7 z_nl z_sp hline HT hnz haz hlz ht3 ho3 hr3
      go_upto_region 9 with (fail)
      obtain ⟨db, hdb⟩ : ∃ db, db = wr.heap.size := ⟨_, rfl⟩
      rw [← hdb] at HX0 ⊢
      generalize wr.alloc (.cells #[.string nm, .int .i64 lv, .int .i64 ct, .int .i64 ta, .int .i64 ob, .int .i64 ri] 37) = w3 at HX0 HB1 HP1 ⊢
      clear hdb k0 k1 k2 k3 k4 k5 HB HP e0
      have k1 : w3.cell? ⟨db, 1, none⟩ = some (.int .i64 lv) := blk_cell HX0.out 1
      have k2 : w3.cell? ⟨db, 2, none⟩ = some (.int .i64 ct) := blk_cell HX0.out 2
      go_wp2_with fail
      refine (HPR.out _).mono ?_
      rintro e w4 ⟨rfl, hb4⟩
      have HB4 := Lib.hid (HB1.out.trans (hb4.mono HB1.out.size))
      have HP4 := Lib.hid (HP1.out.below hb4)
      have HX4 := Lib.hid (HX0.out.below hb4)
      clear hb4 k1 k2 HB1 HP1 HX0 HPR
      go_upto_region 10 with (fail)
      have f0 : ∀ t : BW w4, t.at_.cell? ⟨db, 0, none⟩ = some (.string nm) := bw_cell (lt_of_block HX4.out) (blk_cell HX4.out 0)
      have f3 : ∀ t : BW w4, t.at_.cell? ⟨db, 3, none⟩ = some (.int .i64 ta) := bw_cell (lt_of_block HX4.out) (blk_cell HX4.out 3)
      have f4 : ∀ t : BW w4, t.at_.cell? ⟨db, 4, none⟩ = some (.int .i64 ob) := bw_cell (lt_of_block HX4.out) (blk_cell HX4.out 4)
      have f5 : ∀ t : BW w4, t.at_.cell? ⟨db, 5, none⟩ = some (.int .i64 ri) := bw_cell (lt_of_block HX4.out) (blk_cell HX4.out 5)
      refine wp_region_quiet_bw (by kernel_rfl) (by kernel_rfl) ?_
      repeat (go_big_quiet_step (first | (go_at_call 40; with_reducible refine Calls.bw _ (HTA.out _)) | (go_at_call 40; with_reducible refine Calls.bw _ (HOB.out _)) | (go_at_call 40; with_reducible refine Calls.bw _ (HRI.out _))))
      refine wpQuiet_nil ?_
      intro _ hw'
      obtain ⟨tq, rfl⟩ := hw'
      have HB6 := Lib.hid (HB4.out.trans (tq.ok.mono HB4.out.size))
      have HP6 := Lib.hid (HP4.out.below tq.ok)
      clear f0 f3 f4 f5 y1 y2 y3 y4 y5 y6 y7 y8 y9 y10 y11
      go_wp2_with fail
      go_roundw
      case rel => exact ⟨j + 1, x11, by go_num, rfl, by omega, HACC.out, HB6.out, HP6.out⟩
      case measure => simp [intOf]; omega
    have hc' : ¬ (j : Int) < (nd : Int) := by omega
    have HAD := Lib.hid (show bsL acc = D.flatMap lineD by rw [HA.out, List.take_of_length_le (by rw [HL1.out]; omega)])
    have hacd : acc.size ≤ 1096 := by rw [← bsL_len, HA.out]; exact flatD_len HU.out j
    have e1 : wr.cell? ⟨pb, 1, none⟩ = some (.slice a2 ns c2) := blk_cell HP.out 1
    clear HA hc
    obtain ⟨accD, haD⟩ : ∃ a, a = acc := ⟨_, rfl⟩
    rw [← haD] at HAD hacd ⊢
    clear haD
    go_wp2_with fail
    clear hc' hjz
    obtain ⟨wo, hwo⟩ : ∃ wo, wo = wr := ⟨_, rfl⟩
    subst hwo
    go_loopw [5, 10] (fun u v wz => ∃ (k : Nat) (acc : ByteArray), v = .int .i64 k ∧ u = .string acc ∧ k ≤ ns ∧ bsL acc = bsL accD ++ (S.take k).flatMap (lineS D) ∧ Below w.heap.size w wz ∧ BoxP pb (.slice a1 nd c1) (.slice a2 ns c2) (.slice a3 nl c3) wz) (fun _ v _ => ns - (intOf v).toNat)
    case atStart => exact ⟨0, _, rfl, rfl, Nat.zero_le _, by simp, HB.out, HP.out⟩
    case round =>
      clear HB HP e0 e1
      obtain ⟨k, acc, rfl, rfl, hk, hacc, hb, hp⟩ := hrel
      have HA := Lib.hid hacc
      have HB := Lib.hid hb
      have HP := Lib.hid hp
      have hkz : (0 : Int) ≤ (k : Int) := Int.natCast_nonneg _
      have e1 : wr.cell? ⟨pb, 1, none⟩ = some (.slice a2 ns c2) := blk_cell HP.out 1
      clear hacc hb hp
      by_cases hc : k < ns
      · have hc' : (k : Int) < (ns : Int) := by omega
        obtain ⟨s, hs⟩ : ∃ s, S[k]? = some s := ⟨_, List.getElem?_eq_getElem (by rw [HL2.out]; exact hc)⟩
        obtain ⟨bs, os, rfl, hbs, hsx⟩ := HSC.out (by omega)
        have k0 := below_cell1 HB.out hbs (hsx k s hs 0 _ rfl)
        have k1 := below_cell1 HB.out hbs (hsx k s hs 1 _ rfl)
        rw [Nat.add_zero] at k0
        have HT := Lib.hid (flat_take (f := lineS D) hs)
        obtain ⟨⟨u1, u2⟩, u3, u4⟩ := HU.out.sl s (List.mem_of_getElem? hs)
        have hsl : lineS D s = [115, 108, 111, 116, 32] ++ nmAt D s.1 ++ [32] ++ Lib.itoa s.2 ++ [10] := rfl
        generalize lineS D s = ls at hsl HT
        obtain ⟨sd, sz⟩ := s
        simp only at k0 k1 u1 u2 u3 u4 hsl
        obtain ⟨i, rfl⟩ : ∃ i : Nat, sd = i := ⟨sd.toNat, by omega⟩
        rw [HL1.out] at u2
        obtain ⟨d, hd⟩ : ∃ d, D[i]? = some d := ⟨_, List.getElem?_eq_getElem (by rw [HL1.out]; omega)⟩
        rw [nmAt_at hd] at hsl
        obtain ⟨bd, od, rfl, hbd, hdx⟩ := HDC.out (by omega)
        have d0 := below_cell1 HB.out hbd (hdx i d hd).1
        have hnz := nameB_size (HU.out.dm d (List.mem_of_getElem? hd)).1
        obtain ⟨szs, ht1, ht2, ht3⟩ := itoa_ba (n := sz) (by omega) u4
        have HSZ := Lib.hid (fun u : World => rnum2 sz (by omega) (by omega) u)
        rw [← ht1] at HSZ
        rw [← ht2] at hsl
        have haz : acc.size ≤ 1096 + 832 := by rw [← bsL_len, HA.out, List.length_append, bsL_len]; have := flatS_len HU.out k; omega
        have hiz : (0 : Int) ≤ (i : Int) := Int.natCast_nonneg _
        generalize d.nm = nm at d0 hnz hsl
        clear hsx hs hdx hd d ht1 ht2 u1 u3 u4
        have z_lit5 : (⟨#[115, 108, 111, 116, 32]⟩ : ByteArray).size = 5 := rfl
        have z_nl : (⟨#[10]⟩ : ByteArray).size = 1 := rfl
        have z_sp : (⟨#[32]⟩ : ByteArray).size = 1 := rfl
        obtain ⟨x1, y1, l1, s1⟩ := cat_ex ⟨#[115, 108, 111, 116, 32]⟩ nm (by omega)
        obtain ⟨x2, y2, l2, s2⟩ := cat_ex x1 ⟨#[32]⟩ (by omega)
        obtain ⟨x3, y3, l3, s3⟩ := cat_ex x2 szs (by omega)
        obtain ⟨x4, y4, l4, s4⟩ := cat_ex x3 ⟨#[10]⟩ (by omega)
        obtain ⟨x5, y5, l5, s5⟩ := cat_ex acc x4 (by omega)
        have HACC := Lib.hid (show bsL x5 = bsL accD ++ (S.take (k + 1)).flatMap (lineS D) by
          rw [HT.out, ← List.append_assoc, ← HA.out, hsl]
          unfold bsL
          rw [l5, l4, l3, l2, l1])
        clear l1 s1 l2 s2 l3 s3 l4 s4 l5 s5 z_lit5 z_nl z_sp hsl HT hnz haz ht3
        have e0 : wr.cell? ⟨pb, 0, none⟩ = some (.slice (some ⟨bd, od, none⟩) nd c1) := blk_cell HP.out 0
        go_upto_region 14 with (fail)
        have f0 : ∀ t : BW wr, t.at_.cell? ⟨pb, 0, none⟩ = some (.slice (some ⟨bd, od, none⟩) nd c1) := bw_cell (lt_of_block HP.out) e0
        have f1 : ∀ t : BW wr, t.at_.cell? ⟨pb, 1, none⟩ = some (.slice (some ⟨bs, os, none⟩) ns c2) := bw_cell (lt_of_block HP.out) e1
        have f2 : ∀ t : BW wr, t.at_.cell? ⟨bs, os + k * 2, none⟩ = some (.int .i64 i) := bw_cell (Nat.lt_of_lt_of_le hbs HB.out.size) k0
        have f3 : ∀ t : BW wr, t.at_.cell? ⟨bs, os + k * 2 + 1, none⟩ = some (.int .i64 sz) := bw_cell (Nat.lt_of_lt_of_le hbs HB.out.size) k1
        have f4 : ∀ t : BW wr, t.at_.cell? ⟨bd, od + i * 6, none⟩ = some (.string nm) := bw_cell (Nat.lt_of_lt_of_le hbd HB.out.size) d0
        clear e0 e1 k0 k1 d0
        refine wp_region_quiet_bw (by kernel_rfl) (by kernel_rfl) ?_
        repeat (go_big_quiet_step ((go_at_call 40; refine Calls.bw _ (HSZ.out _))))
        refine wpQuiet_nil ?_
        intro _ hw'
        obtain ⟨tq, rfl⟩ := hw'
        have HB6 := Lib.hid (HB.out.trans (tq.ok.mono HB.out.size))
        have HP6 := Lib.hid (HP.out.below tq.ok)
        clear f0 f1 f2 f3 f4 y1 y2 y3 y4 y5
        go_wp2_with fail
        go_roundw
        case rel => exact ⟨k + 1, x5, by go_num, rfl, by omega, HACC.out, HB6.out, HP6.out⟩
        case measure => simp [intOf]; omega
      have hc' : ¬ (k : Int) < (ns : Int) := by omega
      have HAS := Lib.hid (show bsL acc = D.flatMap lineD ++ S.flatMap (lineS D) by rw [HA.out, HAD.out, List.take_of_length_le (by rw [HL2.out]; omega)])
      have hacs : acc.size ≤ 1096 + 832 := by rw [← bsL_len, HA.out, List.length_append, bsL_len]; have := flatS_len HU.out k; omega
      have e2 : wr.cell? ⟨pb, 2, none⟩ = some (.slice a3 nl c3) := blk_cell HP.out 2
      clear HA hc
      obtain ⟨accS, haS⟩ : ∃ a, a = acc := ⟨_, rfl⟩
      rw [← haS] at HAS hacs ⊢
      clear haS
      go_wp2_with fail
      clear hc' hkz
      obtain ⟨wo2, hwo⟩ : ∃ wo, wo = wr := ⟨_, rfl⟩
      subst hwo
      go_loopw [5, 11] (fun u v wz => ∃ (k : Nat) (acc : ByteArray), v = .int .i64 k ∧ u = .string acc ∧ k ≤ nl ∧ bsL acc = bsL accS ++ (K.take k).flatMap (lineK D) ∧ Below w.heap.size w wz ∧ BoxP pb (.slice a1 nd c1) (.slice a2 ns c2) (.slice a3 nl c3) wz) (fun _ v _ => nl - (intOf v).toNat)
      case atStart => exact ⟨0, _, rfl, rfl, Nat.zero_le _, by simp, HB.out, HP.out⟩
      case round =>
        clear HB HP e1 e2
        obtain ⟨m, acc, rfl, rfl, hm, hacc, hb, hp⟩ := hrel
        have HA := Lib.hid hacc
        have HB := Lib.hid hb
        have HP := Lib.hid hp
        have hmz : (0 : Int) ≤ (m : Int) := Int.natCast_nonneg _
        have e2 : wr.cell? ⟨pb, 2, none⟩ = some (.slice a3 nl c3) := blk_cell HP.out 2
        clear hacc hb hp
        by_cases hc : m < nl
        · have hc' : (m : Int) < (nl : Int) := by omega
          obtain ⟨l, hl⟩ : ∃ l, K[m]? = some l := ⟨_, List.getElem?_eq_getElem (by rw [HL3.out]; exact hc)⟩
          obtain ⟨bl', o, rfl, hbl, hlx⟩ := HKC.out (by omega)
          have k0 := below_cell1 HB.out hbl (hlx m l hl 0 _ rfl)
          have k1 := below_cell1 HB.out hbl (hlx m l hl 1 _ rfl)
          have k2 := below_cell1 HB.out hbl (hlx m l hl 2 _ rfl)
          have k3 := below_cell1 HB.out hbl (hlx m l hl 3 _ rfl)
          rw [Nat.add_zero] at k0
          have HT := Lib.hid (flat_take (f := lineK D) hl)
          obtain ⟨⟨u1, u2⟩, ⟨u3, u4⟩, _, u5, ⟨u6, u7⟩, _⟩ := HU.out.lk l (List.mem_of_getElem? hl)
          have u8 := most_le l.kd
          have hsl : lineK D l = kindW l.kd ++ [32] ++ nmAt D l.fr ++ [32] ++ nmAt D l.tt ++ [32] ++ Lib.itoa l.sz ++ [10] := rfl
          generalize lineK D l = ll at hsl HT
          obtain ⟨kd, fr, tt, sz⟩ := l
          simp only at k0 k1 k2 k3 u1 u2 u3 u4 u5 u6 u7 u8 hsl
          obtain ⟨i, rfl⟩ : ∃ i : Nat, fr = i := ⟨fr.toNat, by omega⟩
          obtain ⟨i2, rfl⟩ : ∃ i : Nat, tt = i := ⟨tt.toNat, by omega⟩
          rw [HL1.out] at u2 u4
          obtain ⟨d, hd⟩ : ∃ d, D[i]? = some d := ⟨_, List.getElem?_eq_getElem (by rw [HL1.out]; omega)⟩
          obtain ⟨dd, hdd⟩ : ∃ d, D[i2]? = some d := ⟨_, List.getElem?_eq_getElem (by rw [HL1.out]; omega)⟩
          rw [nmAt_at hd, nmAt_at hdd] at hsl
          obtain ⟨bd, od, rfl, hbd, hdx⟩ := HDC.out (by omega)
          have d0 := below_cell1 HB.out hbd (hdx i d hd).1
          have d1 := below_cell1 HB.out hbd (hdx i2 dd hdd).1
          have hnz1 := nameB_size (HU.out.dm d (List.mem_of_getElem? hd)).1
          have hnz2 := nameB_size (HU.out.dm dd (List.mem_of_getElem? hdd)).1
          obtain ⟨szs, ht1, ht2, ht3⟩ := itoa_ba (n := sz) (by omega) (by omega)
          have HSZ := Lib.hid (fun u : World => rnum2 sz (by omega) (by omega) u)
          rw [← ht1] at HSZ
          rw [← ht2] at hsl
          have haz : acc.size ≤ 1096 + 832 + 616 := by rw [← bsL_len, HA.out, List.length_append, bsL_len]; have := flatK_len HU.out m; omega
          have hiz : (0 : Int) ≤ (i : Int) := Int.natCast_nonneg _
          have hiz2 : (0 : Int) ≤ (i2 : Int) := Int.natCast_nonneg _
          obtain ⟨kw, hkw, hkz5, hkl⟩ : ∃ kw : ByteArray, kw = (if kd = 2 then ⟨#[112, 117, 109, 112, 32]⟩ else ⟨#[99, 101, 108, 108, 32]⟩) ∧ kw.size = 5 ∧ kw.data.toList = kindW kd ++ [32] := by
            refine ⟨_, rfl, ?_, ?_⟩
            · split <;> rfl
            · unfold kindW; split <;> rfl
          rw [← hkl] at hsl
          generalize d.nm = nm1 at d0 hnz1 hsl
          generalize dd.nm = nm2 at d1 hnz2 hsl
          clear hlx hl hdx hd hdd d dd ht1 ht2 u1 u3 u5 u6 u7 u8 hkl
          have z_nl : (⟨#[10]⟩ : ByteArray).size = 1 := rfl
          have z_sp : (⟨#[32]⟩ : ByteArray).size = 1 := rfl
          obtain ⟨x1, y1, l1, s1⟩ := cat_ex kw nm1 (by omega)
          obtain ⟨x2, y2, l2, s2⟩ := cat_ex x1 ⟨#[32]⟩ (by omega)
          obtain ⟨x3, y3, l3, s3⟩ := cat_ex x2 nm2 (by omega)
          obtain ⟨x4, y4, l4, s4⟩ := cat_ex x3 ⟨#[32]⟩ (by omega)
          obtain ⟨x5, y5, l5, s5⟩ := cat_ex x4 szs (by omega)
          obtain ⟨x6, y6, l6, s6⟩ := cat_ex x5 ⟨#[10]⟩ (by omega)
          obtain ⟨x7, y7, l7, s7⟩ := cat_ex acc x6 (by omega)
          have HACC := Lib.hid (show bsL x7 = bsL accS ++ (K.take (m + 1)).flatMap (lineK D) by
            rw [HT.out, ← List.append_assoc, ← HA.out, hsl]
            unfold bsL
            rw [l7, l6, l5, l4, l3, l2, l1])
          clear l1 s1 l2 s2 l3 s3 l4 s4 l5 s5 l6 s6 l7 s7 z_nl z_sp hsl HT hnz1 hnz2 haz ht3 hkz5
          have HKW := Lib.hid hkw
          have HX0 := Lib.hid (show (wr.alloc (.cells #[.int .i64 kd, .int .i64 i, .int .i64 i2, .int .i64 sz] 32)).heap[wr.heap.size]? = some (.cells #[.int .i64 kd, .int .i64 i, .int .i64 i2, .int .i64 sz] 32 (0, 0)) from heap_alloc_new wr _)
          have HB1 := Lib.hid (HB.out.trans ((plus_one1 wr (.cells #[.int .i64 kd, .int .i64 i, .int .i64 i2, .int .i64 sz] 32)).mono HB.out.size))
          have HP1 := Lib.hid (HP.out.below (plus_one1 wr (.cells #[.int .i64 kd, .int .i64 i, .int .i64 i2, .int .i64 sz] 32)))
          have HD0 := Lib.hid (below_cell1 (plus_one1 wr (.cells #[.int .i64 kd, .int .i64 i, .int .i64 i2, .int .i64 sz] 32)) (Nat.lt_of_lt_of_le hbd HB.out.size) d0)
          have HD1 := Lib.hid (below_cell1 (plus_one1 wr (.cells #[.int .i64 kd, .int .i64 i, .int .i64 i2, .int .i64 sz] 32)) (Nat.lt_of_lt_of_le hbd HB.out.size) d1)
          clear hkw d0 d1
          go_upto_region 19 with (fail)
          obtain ⟨lb, hlb⟩ : ∃ lb, lb = wr.heap.size := ⟨_, rfl⟩
          rw [← hlb] at HX0 ⊢
          generalize wr.alloc (.cells #[.int .i64 kd, .int .i64 i, .int .i64 i2, .int .i64 sz] 32) = w3 at HX0 HB1 HP1 HD0 HD1 ⊢
          clear hlb k0 k1 k2 k3 HB HP e2
          have k0 : w3.cell? ⟨lb, 0, none⟩ = some (.int .i64 kd) := blk_cell HX0.out 0
          go_upto_if 106 with (fail)
          go_cut [13] (fun u wx => u = .string kw ∧ wx = w3)
          case first => as_aux_lemma =>
            by_cases hk2 : kd = 2
            · have hm := HKW.out
              rw [if_pos hk2] at hm
              subst hm
              subst hk2
              go_wp2_with fail
              go_meet
              exact ⟨rfl, rfl⟩
            · have hm := HKW.out
              rw [if_neg hk2] at hm
              subst hm
              have hk3 : (kd == 2) = false := by simpa using hk2
              clear hk2
              go_wp2_with fail
              go_meet
              exact ⟨rfl, rfl⟩
          case rest =>
          obtain ⟨rfl, rfl⟩ := hcut
          clear HKW
          go_upto_region 22 with (fail)
          have f0 : ∀ t : BW wc, t.at_.cell? ⟨pb, 0, none⟩ = some (.slice (some ⟨bd, od, none⟩) nd c1) := bw_cell (lt_of_block HP1.out) (blk_cell HP1.out 0)
          have f1 : ∀ t : BW wc, t.at_.cell? ⟨lb, 1, none⟩ = some (.int .i64 i) := bw_cell (lt_of_block HX0.out) (blk_cell HX0.out 1)
          have f2 : ∀ t : BW wc, t.at_.cell? ⟨lb, 2, none⟩ = some (.int .i64 i2) := bw_cell (lt_of_block HX0.out) (blk_cell HX0.out 2)
          have f3 : ∀ t : BW wc, t.at_.cell? ⟨lb, 3, none⟩ = some (.int .i64 sz) := bw_cell (lt_of_block HX0.out) (blk_cell HX0.out 3)
          have f4 : ∀ t : BW wc, t.at_.cell? ⟨bd, od + i * 6, none⟩ = some (.string nm1) := bw_cell (Nat.lt_of_lt_of_le hbd HB1.out.size) HD0.out
          have f5 : ∀ t : BW wc, t.at_.cell? ⟨bd, od + i2 * 6, none⟩ = some (.string nm2) := bw_cell (Nat.lt_of_lt_of_le hbd HB1.out.size) HD1.out
          clear k0
          refine wp_region_quiet_bw (by kernel_rfl) (by kernel_rfl) ?_
          repeat (go_big_quiet_step ((go_at_call 40; refine Calls.bw _ (HSZ.out _))))
          refine wpQuiet_nil ?_
          intro _ hw'
          obtain ⟨tq, rfl⟩ := hw'
          have HB6 := Lib.hid (HB1.out.trans (tq.ok.mono HB1.out.size))
          have HP6 := Lib.hid (HP1.out.below tq.ok)
          clear f0 f1 f2 f3 f4 f5 y1 y2 y3 y4 y5 y6 y7
          go_wp2_with fail
          go_roundw
          case rel => exact ⟨m + 1, x7, by go_num, rfl, by omega, HACC.out, HB6.out, HP6.out⟩
          case measure => simp [intOf]; omega
        have hc' : ¬ (m : Int) < (nl : Int) := by omega
        have HEND := Lib.hid (show acc = ⟨(printL ⟨D, S, K⟩).toArray⟩ from ba_ext (by
          have := HA.out
          rw [HAS.out, List.take_of_length_le (by rw [HL3.out]; omega)] at this
          unfold bsL at this
          rw [this]
          simp [printL]))
        clear HA hc
        go_wp2_with fail
        go_ret2
        rw [HV.out, HEND.out]
        exact ⟨rfl, HB.out⟩
end Go.Proofs.YtkjhgfjlknbdkaaDoor
