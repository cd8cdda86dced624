/- What the document's Check of a policy answers (parcloseref04.Check): its walk. Conditions: the lists can be read, the names are not too long, the labels' sets are int64s. -/
import Derived.Test.YtbgpniepgbmkaaaDoorRef04
namespace Go.Proofs.YtbgpniepgbmkaaaDoor
open Go.RowKit BigFrame Go.BigFrame

/-- A policy's box. -/
def BoxP (pb : Nat) (x y z : Value) (w : World) : Prop := w.heap[pb]? = some (.cells #[x, y, z] 26 (0, 0))
theorem BoxP.below {pb : Nat} {x y z : Value} {w w' : World} (h : BoxP pb x y z w) (hb : Below w.heap.size w w') : BoxP pb x y z w' := (hb.block pb (lt_of_block h)).trans h
set_option maxRecDepth 100000 in
set_option maxHeartbeats 32000000 in
theorem rcheck_calls {w : World} {vd vs vl : Value} {nd ns nl : Nat} {D : List Dm} {S : List (Int × Int)} {K : List Lk} (hd : Reads w 6 vd nd (D.flatMap Dm.cells)) (hs : Reads w 2 vs ns (S.flatMap slCells)) (hk : Reads w 4 vl nl (K.flatMap lkCells)) (hz : ∀ d ∈ D, d.nm.size ≤ 140737488351232) (hct : ∀ d ∈ D, -9223372036854775808 ≤ d.ct ∧ d.ct ≤ 9223372036854775807) :
    Calls Tryd.prog 17 #[.agg #[vd, vs, vl]] w fun e w' => e = .returned (.int .i64 (checkM D S K)) ∧ Below w.heap.size w w' := by
  obtain ⟨hl1, a1, c1, rfl, h12, h13, hdc⟩ := doms_open hd
  obtain ⟨hl2, a2, c2, rfl, h22, h23, hsc⟩ := rows_open hs (fun _ => rfl) (by omega)
  obtain ⟨hl3, a3, c3, rfl, h32, h33, hkc⟩ := rows_open hk (fun _ => rfl) (by omega)
  unfold maxLen at h13 h23 h33
  have HL1 := Lib.hid hl1
  have HL2 := Lib.hid hl2
  have HL3 := Lib.hid hl3
  have HDC := Lib.hid hdc
  have HSC := Lib.hid hsc
  have HKC := Lib.hid hkc
  have HRD := Lib.hid hd
  have HP0 := Lib.hid (show BoxP w.heap.size (.slice a1 nd c1) (.slice a2 ns c2) (.slice a3 nl c3) (w.alloc (.cells #[.slice a1 nd c1, .slice a2 ns c2, .slice a3 nl c3] 26)) from heap_alloc_new w _)
  have HW1 := Lib.hid (plus_one1 w (.cells #[.slice a1 nd c1, .slice a2 ns c2, .slice a3 nl c3] 26))
  have HZ := Lib.hid hz
  have HCT := Lib.hid hct
  have HIN0 := Lib.hid (show (inB D.length 1 8 && (inB S.length 1 16 && decide (K.length ≤ 8))) = (inB nd 1 8 && (inB ns 1 16 && decide (nl ≤ 8))) by rw [hl1, hl2, hl3])
  have I1 := fun u : World => rin_calls (nd : Int) 1 8 u
  have I2 := fun u : World => rin_calls (ns : Int) 1 16 u
  have HIN := Lib.hid (fun h : inB nd 1 8 = true => show 1 ≤ nd ∧ nd ≤ 8 by have := of_decide_eq_true h; omega)
  generalize inB nd 1 8 = t1 at I1 HIN0 HIN
  generalize inB ns 1 16 = t2 at I2 HIN0
  have H1 := Lib.hid I1
  have H2 := Lib.hid I2
  have z1 : (0 : Int) ≤ (nd : Int) := Int.natCast_nonneg _
  have z2 : (0 : Int) ≤ (ns : Int) := Int.natCast_nonneg _
  have z3 : (0 : Int) ≤ (nl : Int) := Int.natCast_nonneg _
  clear hl1 hl2 hl3 hdc hsc hkc hd hs hk hz hct I1 I2
  go_enter Tryd.func17, Tryd.ntmps17
  go_upto_region 1 with (fail)
  obtain ⟨pb, hpb⟩ : ∃ pb, pb = w.heap.size := ⟨_, rfl⟩
  rw [← hpb] at HP0 ⊢
  generalize w.alloc (.cells #[.slice a1 nd c1, .slice a2 ns c2, .slice a3 nl c3] 26) = w1 at HP0 HW1 ⊢
  clear hpb
  have e0 : w1.cell? ⟨pb, 0, none⟩ = some (.slice a1 nd c1) := blk_cell HP0.out 0
  have e1 : w1.cell? ⟨pb, 1, none⟩ = some (.slice a2 ns c2) := blk_cell HP0.out 1
  have e2 : w1.cell? ⟨pb, 2, none⟩ = some (.slice a3 nl c3) := blk_cell HP0.out 2
  go_wp2_with fail
  refine (H1.out _).mono ?_
  rintro e w5 ⟨rfl, rfl⟩
  cases t1 with
  | false =>
    have HV := Lib.hid (checkM_arg HIN0.out)
    go_wp2_with fail
    go_ret
    rw [HV.out]
    exact ⟨rfl, HW1.out⟩
  | true =>
  obtain ⟨n1, n8⟩ := HIN.out rfl
  go_wp2_with fail
  refine (H2.out _).mono ?_
  rintro e w5 ⟨rfl, rfl⟩
  cases t2 with
  | false =>
    have HV := Lib.hid (checkM_arg HIN0.out)
    go_wp2_with fail
    go_ret
    rw [HV.out]
    exact ⟨rfl, HW1.out⟩
  | true =>
  by_cases h8 : nl ≤ 8
  case neg =>
    have h8' : (8 : Int) < (nl : Int) := by omega
    have HV := Lib.hid (checkM_arg (show (inB D.length 1 8 && (inB S.length 1 16 && decide (K.length ≤ 8))) = false by rw [HIN0.out, decide_eq_false h8]; rfl))
    clear HIN0 h8
    go_wp2_with fail
    go_ret
    rw [HV.out]
    exact ⟨rfl, HW1.out⟩
  case pos =>
  have h8' : ¬ (8 : Int) < (nl : Int) := by omega
  have HC := Lib.hid (show (inB D.length 1 8 && (inB S.length 1 16 && decide (K.length ≤ 8))) = true by rw [HIN0.out, decide_eq_true h8]; rfl)
  clear HIN0 HIN H1 H2
  go_wp2_with fail
  clear h8' e0 e1 e2
  go_loopw [4] (fun u wr => ∃ j : Nat, u = .int .i64 j ∧ j ≤ nd ∧ (∀ e ∈ (domErrs D).take j, e = 0) ∧ Below w.heap.size w wr ∧ BoxP pb (.slice a1 nd c1) (.slice a2 ns c2) (.slice a3 nl c3) wr) (fun u _ => nd - (intOf u).toNat)
  case atStart => exact ⟨0, rfl, Nat.zero_le _, by simp, HW1.out, HP0.out⟩
  case round =>
    clear HW1 HP0
    obtain ⟨j, rfl, hj, hno, hb, hp⟩ := hrel
    have HNO := Lib.hid hno
    have HB := Lib.hid hb
    have HP := Lib.hid hp
    have hjz : (0 : Int) ≤ (j : Int) := Int.natCast_nonneg _
    clear hno hb hp
    by_cases hc : j < nd
    · have hc' : (j : Int) < (nd : Int) := by omega
      obtain ⟨d, hd⟩ : ∃ d, D[j]? = some d := ⟨_, List.getElem?_eq_getElem (by rw [HL1.out]; exact hc)⟩
      obtain ⟨bl', o, rfl, hbl, hcx⟩ := HDC.out (by omega)
      obtain ⟨g0, g1, g2, g3, g4, g5⟩ := hcx j d hd
      have k0 := below_cell1 HB.out hbl g0
      have k1 := below_cell1 HB.out hbl g1
      have k2 := below_cell1 HB.out hbl g2
      have k3 := below_cell1 HB.out hbl g3
      have k4 := below_cell1 HB.out hbl g4
      have k5 := below_cell1 HB.out hbl g5
      have e0 : wr.cell? ⟨pb, 0, none⟩ = some (.slice (some ⟨bl', o, none⟩) nd c1) := blk_cell HP.out 0
      clear g0 g1 g2 g3 g4 g5
      have HE := Lib.hid (domErrs_at hd)
      have hx0 : BoxD wr.heap.size d (wr.alloc (.cells #[.string d.nm, .int .i64 d.lv, .int .i64 d.ct, .int .i64 d.ta, .int .i64 d.ob, .int .i64 d.ri] 51)) := heap_alloc_new wr _
      have HX0 := Lib.hid hx0
      have HP1 := Lib.hid (HP.out.below (plus_one1 wr (.cells #[.string d.nm, .int .i64 d.lv, .int .i64 d.ct, .int .i64 d.ta, .int .i64 d.ob, .int .i64 d.ri] 51)))
      have HB1 := Lib.hid (HB.out.trans ((plus_one1 wr (.cells #[.string d.nm, .int .i64 d.lv, .int .i64 d.ct, .int .i64 d.ta, .int .i64 d.ob, .int .i64 d.ri] 51)).mono HB.out.size))
      have HSZ := Lib.hid (HZ.out d (List.mem_of_getElem? hd))
      have HCD := Lib.hid (HCT.out d (List.mem_of_getElem? hd))
      have hfl := findD_le hd
      have HDE := Lib.hid (show domErr D j d = if (!(nameB (bl d.nm 0)) || decide (findD D d.nm < (j : Int))) = true then 4 else if goodL d.lv d.ct = false then 3 else if (inB d.ta 1 8 && (inB d.ob 0 8 && inB d.ri 1 16)) = false then 1 else 0 by
        rw [decide_eq_decide.2 hfl]
        rfl)
      clear hfl
      generalize domErr D j d = de at HE HDE
      have HNA := Lib.hid (fun u : World => rName_calls d.nm HSZ.out u)
      have HFI := Lib.hid (fun (u : World) (h : Below w.heap.size w u) => rFind_calls (HRD.out.below (by omega) h) d.nm)
      have HGO := Lib.hid (fun u : World => rgood_calls d.lv d.ct HCD.out.1 HCD.out.2 u)
      unfold lab at HGO
      have HT := Lib.hid (fun u : World => rin_calls d.ta 1 8 u)
      have HO := Lib.hid (fun u : World => rin_calls d.ob 0 8 u)
      have HR := Lib.hid (fun u : World => rin_calls d.ri 1 16 u)
      generalize nameB (bl d.nm 0) = b1 at HNA HDE
      generalize findD D d.nm = f at HFI HDE
      generalize goodL d.lv d.ct = b2 at HGO HDE
      generalize inB d.ta 1 8 = b3 at HT HDE
      generalize inB d.ob 0 8 = b4 at HO HDE
      generalize inB d.ri 1 16 = b5 at HR HDE
      obtain ⟨nm, lv, ct, ta, ob, ri⟩ := d
      simp only at k0 k1 k2 k3 k4 k5 HNA HFI HGO HT HO HR
      clear hcx hd hx0 HSZ HCD
      go_upto_region 8 with (fail)
      obtain ⟨db, hdb⟩ : ∃ db, db = wr.heap.size := ⟨_, rfl⟩
      rw [← hdb] at HX0 ⊢
      generalize wr.alloc (.cells #[.string nm, .int .i64 lv, .int .i64 ct, .int .i64 ta, .int .i64 ob, .int .i64 ri] 51) = w2 at HX0 HB1 HP1 ⊢
      clear hdb k0 k1 k2 k3 k4 k5 HB HP e0
      have k0 : w2.cell? ⟨db, 0, none⟩ = some (.string nm) := blk_cell HX0.out 0
      go_wp2_with fail
      refine (HNA.out _).mono ?_
      rintro e w3 ⟨rfl, hb3⟩
      have HB3 := Lib.hid (HB1.out.trans (hb3.mono HB1.out.size))
      have HP3 := Lib.hid (HP1.out.below hb3)
      have HX3 := Lib.hid (HX0.out.below hb3)
      clear hb3 k0 HB1 HP1 HX0 HNA
      have HHIT : ∀ e : Int, de = e → e ≠ 0 → checkM D S K = e := fun e he h0 => checkM_dom HC.out (firstE_hit HNO.out (he ▸ HE.out) h0) h0
      have HH := Lib.hid HHIT
      clear HHIT
      cases b1 with
      | false =>
        have HV := Lib.hid (HH.out 4 (by rw [HDE.out]; rfl) (by decide))
        go_wp2_with fail
        go_ret
        rw [HV.out]
        exact ⟨rfl, HB3.out⟩
      | true =>
      have k0 : w3.cell? ⟨db, 0, none⟩ = some (.string nm) := blk_cell HX3.out 0
      have k1 : w3.cell? ⟨db, 1, none⟩ = some (.int .i64 lv) := blk_cell HX3.out 1
      have k2 : w3.cell? ⟨db, 2, none⟩ = some (.int .i64 ct) := blk_cell HX3.out 2
      have e0 : w3.cell? ⟨pb, 0, none⟩ = some (.slice (some ⟨bl', o, none⟩) nd c1) := blk_cell HP3.out 0
      go_wp2_with fail
      refine (HFI.out _ HB3.out).mono ?_
      rintro e w' ⟨rfl, rfl⟩
      by_cases hf : f < (j : Int)
      · have HV := Lib.hid (HH.out 4 (by rw [HDE.out, decide_eq_true hf]; rfl) (by decide))
        go_wp2_with fail
        go_ret
        rw [HV.out]
        exact ⟨rfl, HB3.out⟩
      have HDE2 := Lib.hid (show de = if b2 = false then 3 else if (b3 && (b4 && b5)) = false then 1 else 0 by rw [HDE.out, decide_eq_false hf]; rfl)
      clear HDE
      go_wp2_with fail
      refine (HGO.out _).mono ?_
      rintro e w4 ⟨rfl, hb4⟩
      have HB4 := Lib.hid (HB3.out.trans (hb4.mono HB3.out.size))
      have HP4 := Lib.hid (HP3.out.below hb4)
      have HX4 := Lib.hid (HX3.out.below hb4)
      clear hb4 k0 k1 k2 e0 HB3 HP3 HX3 HGO HFI hf
      cases b2 with
      | false =>
        have HV := Lib.hid (HH.out 3 (by rw [HDE2.out]; rfl) (by decide))
        go_wp2_with fail
        go_ret
        rw [HV.out]
        exact ⟨rfl, HB4.out⟩
      | true =>
      have k3 : w4.cell? ⟨db, 3, none⟩ = some (.int .i64 ta) := blk_cell HX4.out 3
      have k4 : w4.cell? ⟨db, 4, none⟩ = some (.int .i64 ob) := blk_cell HX4.out 4
      have k5 : w4.cell? ⟨db, 5, none⟩ = some (.int .i64 ri) := blk_cell HX4.out 5
      go_wp2_with fail
      refine (HT.out _).mono ?_
      rintro e w' ⟨rfl, rfl⟩
      cases b3 with
      | false =>
        have HV := Lib.hid (HH.out 1 (by rw [HDE2.out]; rfl) (by decide))
        go_wp2_with fail
        go_ret
        rw [HV.out]
        exact ⟨rfl, HB4.out⟩
      | true =>
      go_wp2_with fail
      refine (HO.out _).mono ?_
      rintro e w' ⟨rfl, rfl⟩
      cases b4 with
      | false =>
        have HV := Lib.hid (HH.out 1 (by rw [HDE2.out]; rfl) (by decide))
        go_wp2_with fail
        go_ret
        rw [HV.out]
        exact ⟨rfl, HB4.out⟩
      | true =>
      go_wp2_with fail
      refine (HR.out _).mono ?_
      rintro e w' ⟨rfl, rfl⟩
      cases b5 with
      | false =>
        have HV := Lib.hid (HH.out 1 (by rw [HDE2.out]; rfl) (by decide))
        go_wp2_with fail
        go_ret
        rw [HV.out]
        exact ⟨rfl, HB4.out⟩
      | true =>
      have HV := Lib.hid (show (domErrs D)[j]? = some 0 by rw [HE.out, HDE2.out]; rfl)
      go_wp2_with fail
      go_roundw
      case rel => exact ⟨j + 1, by go_num, by omega, take_zero HNO.out HV.out, HB4.out, HP4.out⟩
      case measure => simp [intOf]; omega
    obtain rfl : j = nd := by omega
    have hc' : ¬ (j : Int) < (j : Int) := by omega
    have HDM := Lib.hid (show domsM D = 0 from firstE_zero (all_take (by unfold domErrs; rw [List.length_mapIdx, HL1.out]; exact Nat.le_refl _) HNO.out))
    obtain ⟨nd, hnd⟩ : ∃ n, n = j := ⟨_, rfl⟩
    have e1 : wr.cell? ⟨pb, 1, none⟩ = some (.slice a2 ns c2) := blk_cell HP.out 1
    clear HNO hc hj
    go_upto_region 14 with (fail)
    subst hnd
    clear hc' hjz
    go_wp2_with fail
    go_loop [6] (fun u => ∃ k : Nat, u = .int .i64 k ∧ k ≤ ns ∧ ∀ e ∈ (S.map (slotErr nd)).take k, e = 0) (fun u => ns - (intOf u).toNat)
    case atStart => exact ⟨0, rfl, Nat.zero_le _, by simp⟩
    case round =>
      obtain ⟨k, rfl, hk, hno⟩ := hrel
      have HNO := Lib.hid hno
      have hkz : (0 : Int) ≤ (k : Int) := Int.natCast_nonneg _
      clear hno
      by_cases hc : k < ns
      · have hc' : (k : Int) < (ns : Int) := by omega
        obtain ⟨s, hs⟩ : ∃ s, S[k]? = some s := ⟨_, List.getElem?_eq_getElem (by rw [HL2.out]; exact hc)⟩
        obtain ⟨bs, os, rfl, hbs, hsx⟩ := HSC.out (by omega)
        have k0 := below_cell1 HB.out hbs (hsx k s hs 0 _ rfl)
        have k1 := below_cell1 HB.out hbs (hsx k s hs 1 _ rfl)
        rw [Nat.add_zero] at k0
        have HE := Lib.hid (show (S.map (slotErr nd))[k]? = some (slotErr nd s) by rw [List.getElem?_map, hs]; rfl)
        have HDE := Lib.hid (show slotErr nd s = if (inB s.1 0 ((nd : Int) - 1) && inB s.2 1 16) = false then 1 else 0 from rfl)
        generalize slotErr nd s = de at HE HDE
        have H1 := Lib.hid (fun u : World => rin_calls s.1 0 ((nd : Int) - 1) u)
        have H2 := Lib.hid (fun u : World => rin_calls s.2 1 16 u)
        generalize inB s.1 0 ((nd : Int) - 1) = b1 at H1 HDE
        generalize inB s.2 1 16 = b2 at H2 HDE
        obtain ⟨sd, sl⟩ := s
        simp only at H1 H2 k0 k1
        have HH := Lib.hid (fun he : de = 1 => checkM_slot (K := K) HC.out HDM.out (by rw [HL1.out]; exact slotsM_arg HNO.out (he ▸ HE.out)) (by decide : (1 : Int) ≠ 0))
        clear hsx hs hc
        cases b1 with
        | false =>
          have HV := Lib.hid (HH.out (by rw [HDE.out]; rfl))
          go_wp2_with fail
          refine (H1.out _).mono ?_
          rintro e w' ⟨rfl, rfl⟩
          go_wp2_with fail
          go_ret
          rw [HV.out]
          exact ⟨rfl, HB.out⟩
        | true =>
        go_wp2_with fail
        refine (H1.out _).mono ?_
        rintro e w' ⟨rfl, rfl⟩
        go_wp2_with fail
        refine (H2.out _).mono ?_
        rintro e w' ⟨rfl, rfl⟩
        cases b2 with
        | false =>
          have HV := Lib.hid (HH.out (by rw [HDE.out]; rfl))
          go_wp2_with fail
          go_ret
          rw [HV.out]
          exact ⟨rfl, HB.out⟩
        | true =>
        have HV := Lib.hid (show (S.map (slotErr nd))[k]? = some 0 by rw [HE.out, HDE.out]; rfl)
        go_wp2_with fail
        go_round
        case rel => exact ⟨k + 1, by go_num, by omega, take_zero HNO.out HV.out⟩
        case measure => simp [intOf]; omega
      have hc' : ¬ (k : Int) < (ns : Int) := by omega
      have HSM := Lib.hid (show ∀ e ∈ S.map (slotErr nd), e = 0 from all_take (n := k) (by rw [List.length_map, HL2.out]; omega) HNO.out)
      clear HNO hc
      go_wp2_with fail
      clear hc' hk hkz
      obtain ⟨wo, hwo⟩ : ∃ wo, wo = wr := ⟨_, rfl⟩
      subst hwo
      go_loopw [7, 8] (fun u _ wz => ∃ i : Nat, u = .int .i64 i ∧ i ≤ nd ∧ wz = wo ∧ ∀ m : Nat, m < i → S.any (fun s => decide (s.1 = (m : Int))) = true) (fun u _ _ => nd - (intOf u).toNat)
      case atStart => exact ⟨0, rfl, Nat.zero_le _, rfl, fun m h => by omega⟩
      case round =>
        obtain ⟨i, rfl, hi, rfl, hall⟩ := hrel
        have HA := Lib.hid hall
        have hiz : (0 : Int) ≤ (i : Int) := Int.natCast_nonneg _
        clear hall
        by_cases hin : i < nd
        · have hin' : (i : Int) < (nd : Int) := by omega
          have hin9 : (i : Int) + 1 ≤ 8 := by omega
          go_wp2_with fail
          go_loop [8, 9] (fun u v => ∃ k : Nat, v = .int .i64 k ∧ k ≤ ns ∧ u = .bool ((S.take k).any (fun s => decide (s.1 = (i : Int))))) (fun _ v => ns - (intOf v).toNat)
          case atStart => exact ⟨0, rfl, Nat.zero_le _, rfl⟩
          case round =>
            obtain ⟨k, rfl, hk, rfl⟩ := hrel
            have hkz : (0 : Int) ≤ (k : Int) := Int.natCast_nonneg _
            by_cases hc : k < ns
            · have hc' : (k : Int) < (ns : Int) := by omega
              obtain ⟨s, hs⟩ : ∃ s, S[k]? = some s := ⟨_, List.getElem?_eq_getElem (by rw [HL2.out]; exact hc)⟩
              obtain ⟨bs, os, rfl, hbs, hsx⟩ := HSC.out (by omega)
              have k0 := below_cell1 HB.out hbs (hsx k s hs 0 _ rfl)
              rw [Nat.add_zero] at k0
              have HT := Lib.hid (any_take (p := fun s : Int × Int => decide (s.1 = (i : Int))) hs)
              obtain ⟨h0, hh0⟩ : ∃ h, h = (S.take k).any (fun s => decide (s.1 = (i : Int))) := ⟨_, rfl⟩
              rw [← hh0] at HT ⊢
              obtain ⟨sd, sl⟩ := s
              simp only at HT k0
              clear hh0 hsx hs hc
              cases h0 with
              | true =>
                go_wp2_with fail
                go_round
                case rel => exact ⟨k + 1, by go_num, by omega, by rw [HT.out]; rfl⟩
                case measure => simp [intOf]; omega
              | false =>
                by_cases hsd : sd = (i : Int)
                · have HV := Lib.hid (show (S.take (k + 1)).any (fun s => decide (s.1 = (i : Int))) = true by rw [HT.out, decide_eq_true hsd]; rfl)
                  subst hsd
                  go_wp2_with fail
                  go_round
                  case rel => exact ⟨k + 1, by go_num, by omega, by rw [HV.out]⟩
                  case measure => simp [intOf]; omega
                · have HV := Lib.hid (show (S.take (k + 1)).any (fun s => decide (s.1 = (i : Int))) = false by rw [HT.out, decide_eq_false hsd]; rfl)
                  have hsd2 : (sd == (i : Int)) = false := by simpa using hsd
                  clear hsd HT
                  go_wp2_with fail
                  go_round
                  case rel => exact ⟨k + 1, by go_num, by omega, by rw [HV.out]⟩
                  case measure => simp [intOf]; omega
            have hc' : ¬ (k : Int) < (ns : Int) := by omega
            have HT := Lib.hid (show S.take k = S from List.take_of_length_le (by rw [HL2.out]; omega))
            rw [HT.out]
            obtain ⟨h0, hh0⟩ : ∃ h, h = S.any (fun s => decide (s.1 = (i : Int))) := ⟨_, rfl⟩
            rw [← hh0]
            have HH0 := Lib.hid hh0
            clear hh0 hc HT
            cases h0 with
            | false =>
              have HV := Lib.hid (checkM_slot (K := K) HC.out HDM.out (by rw [HL1.out]; exact slotsM_no HSM.out hin HH0.out.symm) (by decide : (5 : Int) ≠ 0))
              go_wp2_with fail
              go_ret
              rw [HV.out]
              exact ⟨rfl, HB.out⟩
            | true =>
              go_wp2_with fail
              go_roundw
              case rel => exact ⟨i + 1, by go_num, by omega, by first | rfl | trivial, fun m hm => by
                by_cases h : m = i
                · rw [h]; exact HH0.out.symm
                · exact HA.out m (by omega)⟩
              case measure => simp [intOf]; omega
        have hin' : ¬ (i : Int) < (nd : Int) := by omega
        have HSO := Lib.hid (show slotsM S D.length = 0 by rw [HL1.out]; exact slotsM_ok HSM.out (fun m hm => HA.out m (by omega)))
        have HCL := Lib.hid (checkM_link (K := K) HC.out HDM.out HSO.out)
        clear HA HSM HSO HDM
        obtain ⟨w0, hw0⟩ : ∃ x, x = wr := ⟨_, rfl⟩
        subst hw0
        have e2 : w0.cell? ⟨pb, 2, none⟩ = some (.slice a3 nl c3) := blk_cell HP.out 2
        clear e1
        go_wp2_with fail
        clear hin' hin hi hiz
        go_loopw [10] (fun u wz => ∃ k : Nat, u = .int .i64 k ∧ k ≤ nl ∧ (∀ e ∈ (K.map (linkErr D)).take k, e = 0) ∧ Below w.heap.size w wz ∧ BoxP pb (.slice a1 nd c1) (.slice a2 ns c2) (.slice a3 nl c3) wz) (fun u _ => nl - (intOf u).toNat)
        case atStart => exact ⟨0, rfl, Nat.zero_le _, by simp, HB.out, HP.out⟩
        case round =>
          clear HB HP e2
          obtain ⟨k, rfl, hk, hno, hb, hp⟩ := hrel
          have HNO := Lib.hid hno
          have HB := Lib.hid hb
          have HP := Lib.hid hp
          have hkz : (0 : Int) ≤ (k : Int) := Int.natCast_nonneg _
          have e0 : wr.cell? ⟨pb, 0, none⟩ = some (.slice a1 nd c1) := blk_cell HP.out 0
          have e2 : wr.cell? ⟨pb, 2, none⟩ = some (.slice a3 nl c3) := blk_cell HP.out 2
          clear hno hb hp
          by_cases hc : k < nl
          · have hc' : (k : Int) < (nl : Int) := by omega
            obtain ⟨l, hl⟩ : ∃ l, K[k]? = some l := ⟨_, List.getElem?_eq_getElem (by rw [HL3.out]; exact hc)⟩
            obtain ⟨bl', o, rfl, hbl, hlx⟩ := HKC.out (by omega)
            have k0 := below_cell1 HB.out hbl (hlx k l hl 0 _ rfl)
            have k1 := below_cell1 HB.out hbl (hlx k l hl 1 _ rfl)
            have k2 := below_cell1 HB.out hbl (hlx k l hl 2 _ rfl)
            have k3 := below_cell1 HB.out hbl (hlx k l hl 3 _ rfl)
            rw [Nat.add_zero] at k0
            have HE := Lib.hid (show (K.map (linkErr D))[k]? = some (linkErr D l) by rw [List.getElem?_map, hl]; rfl)
            have HLE := Lib.hid (link_open (D := D) (l := l) HL1.out)
            have HH := Lib.hid (fun (e : Int) (he : linkErr D l = e) (h0 : e ≠ 0) => HCL.out.trans (firstE_hit HNO.out (he ▸ HE.out) h0))
            generalize linkErr D l = de at HE HLE HH
            obtain ⟨kd, fr, tt, sz⟩ := l
            simp only at k0 k1 k2 k3 HLE
            have HX0 := Lib.hid (show (wr.alloc (.cells #[.int .i64 kd, .int .i64 fr, .int .i64 tt, .int .i64 sz] 89)).heap[wr.heap.size]? = some (.cells #[.int .i64 kd, .int .i64 fr, .int .i64 tt, .int .i64 sz] 89 (0, 0)) from heap_alloc_new wr _)
            have HB1 := Lib.hid (HB.out.trans ((plus_one1 wr (.cells #[.int .i64 kd, .int .i64 fr, .int .i64 tt, .int .i64 sz] 89)).mono HB.out.size))
            have HP1 := Lib.hid (HP.out.below (plus_one1 wr (.cells #[.int .i64 kd, .int .i64 fr, .int .i64 tt, .int .i64 sz] 89)))
            clear hlx hl hc
            go_upto_region 33 with (fail)
            obtain ⟨lb, hlb⟩ : ∃ lb, lb = wr.heap.size := ⟨_, rfl⟩
            rw [← hlb] at HX0 ⊢
            generalize wr.alloc (.cells #[.int .i64 kd, .int .i64 fr, .int .i64 tt, .int .i64 sz] 89) = w2 at HX0 HB1 HP1 ⊢
            clear hlb k0 k1 k2 k3 HB HP e0 e2
            have k0 : w2.cell? ⟨lb, 0, none⟩ = some (.int .i64 kd) := blk_cell HX0.out 0
            have k1 : w2.cell? ⟨lb, 1, none⟩ = some (.int .i64 fr) := blk_cell HX0.out 1
            have k2 : w2.cell? ⟨lb, 2, none⟩ = some (.int .i64 tt) := blk_cell HX0.out 2
            have k3 : w2.cell? ⟨lb, 3, none⟩ = some (.int .i64 sz) := blk_cell HX0.out 3
            have e0 : w2.cell? ⟨pb, 0, none⟩ = some (.slice a1 nd c1) := blk_cell HP1.out 0
            have HI1 := Lib.hid (fun u : World => rin_calls kd 1 2 u)
            have HI2 := Lib.hid (fun u : World => rin_calls fr 0 ((nd : Int) - 1) u)
            have HI3 := Lib.hid (fun u : World => rin_calls tt 0 ((nd : Int) - 1) u)
            obtain ⟨mo, hmo⟩ : ∃ m : Int, m = if kd = 2 then 8 else 4 := ⟨_, rfl⟩
            rw [← hmo] at HLE
            have HI4 := Lib.hid (fun u : World => rin_calls sz 1 mo u)
            have HFR := Lib.hid (fun h : inB fr 0 ((nd : Int) - 1) = true => show 0 ≤ fr ∧ fr < nd by have := of_decide_eq_true h; omega)
            have HTT := Lib.hid (fun h : inB tt 0 ((nd : Int) - 1) = true => show 0 ≤ tt ∧ tt < nd by have := of_decide_eq_true h; omega)
            generalize inB kd 1 2 = b1 at HI1 HLE
            generalize inB fr 0 ((nd : Int) - 1) = b2 at HI2 HLE HFR
            generalize inB tt 0 ((nd : Int) - 1) = b3 at HI3 HLE HTT
            generalize inB sz 1 mo = b4 at HI4 HLE
            have HMO := Lib.hid hmo
            clear hmo
            go_upto_if 141 with (fail)
            go_cut [12] (fun u wx => u = .int .i64 mo ∧ wx = w2)
            case first => as_aux_lemma =>
              by_cases hk2 : kd = 2
              · have hm := HMO.out
                rw [if_pos hk2] at hm
                subst hm
                subst hk2
                go_wp2_with fail
                go_meet
                exact ⟨rfl, rfl⟩
              · have hm := HMO.out
                rw [if_neg hk2] at hm
                subst hm
                have hk3 : (kd == 2) = false := by simpa using hk2
                clear hk2
                go_wp2_with fail
                go_meet
                exact ⟨rfl, rfl⟩
            case rest =>
            obtain ⟨rfl, rfl⟩ := hcut
            clear HMO
            go_wp2_with fail
            refine (HI1.out _).mono ?_
            rintro e w' ⟨rfl, rfl⟩
            cases b1 with
            | false =>
              have HV := Lib.hid (HH.out 1 (by rw [HLE.out]; rfl) (by decide))
              go_wp2_with fail
              go_ret
              rw [HV.out]
              exact ⟨rfl, HB1.out⟩
            | true =>
            go_wp2_with fail
            refine (HI2.out _).mono ?_
            rintro e w' ⟨rfl, rfl⟩
            cases b2 with
            | false =>
              have HV := Lib.hid (HH.out 1 (by rw [HLE.out]; rfl) (by decide))
              go_wp2_with fail
              go_ret
              rw [HV.out]
              exact ⟨rfl, HB1.out⟩
            | true =>
            go_wp2_with fail
            refine (HI3.out _).mono ?_
            rintro e w' ⟨rfl, rfl⟩
            cases b3 with
            | false =>
              have HV := Lib.hid (HH.out 1 (by rw [HLE.out]; rfl) (by decide))
              go_wp2_with fail
              go_ret
              rw [HV.out]
              exact ⟨rfl, HB1.out⟩
            | true =>
            obtain ⟨hf0, hf1⟩ := HFR.out (by first | rfl | trivial)
            obtain ⟨ht0, ht1⟩ := HTT.out (by first | rfl | trivial)
            by_cases hft : fr = tt
            · have HV := Lib.hid (HH.out 1 (by rw [HLE.out, show (fr == tt) = true by simpa using hft]; rfl) (by decide))
              subst hft
              clear HFR HTT HI1 HI2 HI3
              go_wp2_with fail
              go_ret
              rw [HV.out]
              exact ⟨rfl, HB1.out⟩
            have hft2 : (fr == tt) = false := by simpa using hft
            have HLE2 := Lib.hid (show de = if b4 = false then 1 else if leqAt D fr.toNat tt.toNat = false then 10 else 0 by rw [HLE.out, hft2]; rfl)
            clear HLE HI1 HI2 HI3 HFR HTT
            go_wp2_with fail
            refine (HI4.out _).mono ?_
            rintro e w' ⟨rfl, rfl⟩
            cases b4 with
            | false =>
              have HV := Lib.hid (HH.out 1 (by rw [HLE2.out]; rfl) (by decide))
              go_wp2_with fail
              go_ret
              rw [HV.out]
              exact ⟨rfl, HB1.out⟩
            | true =>
            have HLE3 := Lib.hid (show de = if leqAt D fr.toNat tt.toNat = false then 10 else 0 by rw [HLE2.out]; rfl)
            clear HLE2 hft hft2
            obtain ⟨fi, rfl⟩ : ∃ i : Nat, fr = i := ⟨fr.toNat, by omega⟩
            obtain ⟨ti, rfl⟩ : ∃ i : Nat, tt = i := ⟨tt.toNat, by omega⟩
            obtain ⟨a, ha⟩ : ∃ a, D[fi]? = some a := ⟨_, List.getElem?_eq_getElem (by rw [HL1.out]; omega)⟩
            obtain ⟨b, hb⟩ : ∃ b, D[ti]? = some b := ⟨_, List.getElem?_eq_getElem (by rw [HL1.out]; omega)⟩
            have hla : leqAt D (fi : Int).toNat (ti : Int).toNat = leqB a.lv a.ct b.lv b.ct := by
              rw [Int.toNat_natCast, Int.toNat_natCast]
              unfold leqAt
              rw [ha, hb]
            have HLE4 := Lib.hid (show de = if leqB a.lv a.ct b.lv b.ct = false then 10 else 0 by rw [HLE3.out, hla])
            clear HLE3 hla
            obtain ⟨bd, od, rfl, hbd, hdx⟩ := HDC.out (by omega)
            have da1 := below_cell1 HB1.out hbd (hdx fi a ha).2.1
            have da2 := below_cell1 HB1.out hbd (hdx fi a ha).2.2.1
            have db1 := below_cell1 HB1.out hbd (hdx ti b hb).2.1
            have db2 := below_cell1 HB1.out hbd (hdx ti b hb).2.2.1
            have HCA := Lib.hid (HCT.out a (List.mem_of_getElem? ha))
            have HCB := Lib.hid (HCT.out b (List.mem_of_getElem? hb))
            have HLQ := Lib.hid (fun u : World => rleq_calls a.lv a.ct b.lv b.ct HCA.out.1 HCA.out.2 HCB.out.1 HCB.out.2 u)
            unfold lab at HLQ
            generalize leqB a.lv a.ct b.lv b.ct = lq at HLQ HLE4
            generalize a.lv = alv at da1 HLQ
            generalize a.ct = act at da2 HLQ HCA
            generalize b.lv = blv at db1 HLQ
            generalize b.ct = bct at db2 HLQ HCB
            have HLB := Lib.hid (lt_of_block HX0.out)
            have HPB := Lib.hid (lt_of_block HP1.out)
            have HS1 := Lib.hid HB1.out.size
            clear hdx ha hb a b HCA HCB
            go_upto_region 38 with (fail)
            have f1 : ∀ t : BW wc, t.at_.cell? ⟨lb, 1, none⟩ = some (.int .i64 fi) := bw_cell HLB.out k1
            have f2 : ∀ t : BW wc, t.at_.cell? ⟨lb, 2, none⟩ = some (.int .i64 ti) := bw_cell HLB.out k2
            have g0 : ∀ t : BW wc, t.at_.cell? ⟨pb, 0, none⟩ = some (.slice (some ⟨bd, od, none⟩) nd c1) := bw_cell HPB.out e0
            have g1 : ∀ t : BW wc, t.at_.cell? ⟨bd, od + fi * 6 + 1, none⟩ = some (.int .i64 alv) := bw_cell (Nat.lt_of_lt_of_le hbd HS1.out) da1
            have g2 : ∀ t : BW wc, t.at_.cell? ⟨bd, od + fi * 6 + 2, none⟩ = some (.int .i64 act) := bw_cell (Nat.lt_of_lt_of_le hbd HS1.out) da2
            have g3 : ∀ t : BW wc, t.at_.cell? ⟨bd, od + ti * 6 + 1, none⟩ = some (.int .i64 blv) := bw_cell (Nat.lt_of_lt_of_le hbd HS1.out) db1
            have g4 : ∀ t : BW wc, t.at_.cell? ⟨bd, od + ti * 6 + 2, none⟩ = some (.int .i64 bct) := bw_cell (Nat.lt_of_lt_of_le hbd HS1.out) db2
            clear k0 k1 k2 k3 e0 da1 da2 db1 db2
            refine wp_region_quiet_bw (by kernel_rfl) (by kernel_rfl) ?_
            repeat (go_big_quiet_step ((go_at_call 39; refine Calls.bw _ (HLQ.out _))))
            refine wpQuiet_nil ?_
            intro _ hw'
            obtain ⟨tq, rfl⟩ := hw'
            have HB6 := Lib.hid (HB1.out.trans (tq.ok.mono HB1.out.size))
            have HP6 := Lib.hid (HP1.out.below tq.ok)
            clear f1 f2 g0 g1 g2 g3 g4
            cases lq with
            | false =>
              have HV := Lib.hid (HH.out 10 (by rw [HLE4.out]; rfl) (by decide))
              go_wp2_with fail
              go_ret
              rw [HV.out]
              exact ⟨rfl, HB6.out⟩
            | true =>
            have HV := Lib.hid (show (K.map (linkErr D))[k]? = some 0 by rw [HE.out, HLE4.out]; rfl)
            go_wp2_with fail
            go_roundw
            case rel => exact ⟨k + 1, by go_num, by omega, take_zero HNO.out HV.out, HB6.out, HP6.out⟩
            case measure => simp [intOf]; omega
          have hc' : ¬ (k : Int) < (nl : Int) := by omega
          have HV := Lib.hid (show checkM D S K = 0 by rw [HCL.out]; exact firstE_zero (all_take (n := k) (by rw [List.length_map, HL3.out]; omega) HNO.out))
          clear hc HNO
          go_wp2_with fail
          go_ret
          rw [HV.out]
          exact ⟨rfl, HB.out⟩
end Go.Proofs.YtbgpniepgbmkaaaDoor
