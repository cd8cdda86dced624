/- What policy.Check does. Conditions: the lists can be read, the names are not too long. -/
import Derived.Test.YtbgpniepgbmkaaaDoorPol5
namespace Go.Proofs.YtbgpniepgbmkaaaDoor
open Go.RowKit BigFrame

def checkM (D : List Dm) (S : List (Int × Int)) (K : List Lk) : Int := if (inB D.length 1 8 && (inB S.length 1 16 && decide (K.length ≤ 8))) = false then 1 else if domsM D = 0 then (if slotsM S D.length = 0 then linksM D K else slotsM S D.length) else domsM D
set_option maxRecDepth 100000 in
set_option maxHeartbeats 16000000 in
theorem check_calls {w : World} {vd vs vl : Value} {nd ns nl : Nat} {D : List Dm} {S : List (Int × Int)} {K : List Lk} (hd : Reads w 6 vd nd (D.flatMap Dm.cells)) (hs : Reads w 2 vs ns (S.flatMap slCells)) (hk : Reads w 4 vl nl (K.flatMap lkCells)) (hz : ∀ d ∈ D, d.nm.size ≤ 140737488351232) :
    Calls Tryd.prog 13 #[.agg #[vd, vs, vl]] w fun e w' => e = .returned (.int .i64 (checkM D S K)) ∧ Below w.heap.size w w' := by
  obtain ⟨hl1, a1, c1, rfl, h12, h13, _⟩ := doms_open hd
  obtain ⟨hl2, a2, c2, rfl, h22, h23, _⟩ := rows_open hs (fun _ => rfl) (by omega)
  obtain ⟨hl3, a3, c3, rfl, h32, h33, _⟩ := rows_open hk (fun _ => rfl) (by omega)
  unfold maxLen at h13 h23 h33
  have HCM := Lib.hid (show checkM D S K = if (inB nd 1 8 && (inB ns 1 16 && decide (nl ≤ 8))) = false then 1 else if domsM D = 0 then (if slotsM S nd = 0 then linksM D K else slotsM S nd) else domsM D by unfold checkM; rw [hl1, hl2, hl3])
  have HP0 := Lib.hid (show (w.alloc (.cells #[.slice a1 nd c1, .slice a2 ns c2, .slice a3 nl c3] 26)).heap[w.heap.size]? = some (.cells #[.slice a1 nd c1, .slice a2 ns c2, .slice a3 nl c3] 26 (0, 0)) from heap_alloc_new w _)
  have HW1 := Lib.hid (plus_one1 w (.cells #[.slice a1 nd c1, .slice a2 ns c2, .slice a3 nl c3] 26))
  have HRD := Lib.hid (hd.below (by omega) HW1.out)
  have HRS := Lib.hid (hs.below (by omega) HW1.out)
  have HRK := Lib.hid (hk.below (by omega) HW1.out)
  have HZ := Lib.hid hz
  have I1 := fun u : World => in_calls (nd : Int) 1 8 u
  have I2 := fun u : World => in_calls (ns : Int) 1 16 u
  have HIN := Lib.hid (fun h : inB nd 1 8 = true => show 1 ≤ nd ∧ nd ≤ 8 by have := of_decide_eq_true h; omega)
  generalize inB nd 1 8 = t1 at I1 HCM HIN
  generalize inB ns 1 16 = t2 at I2 HCM
  have H1 := Lib.hid I1
  have H2 := Lib.hid I2
  have z1 : (0 : Int) ≤ (nd : Int) := Int.natCast_nonneg _
  have z2 : (0 : Int) ≤ (ns : Int) := Int.natCast_nonneg _
  have z3 : (0 : Int) ≤ (nl : Int) := Int.natCast_nonneg _
  clear hl1 hl2 hl3 hd hs hk hz I1 I2
  go_enter Tryd.func13, Tryd.ntmps13
  go_wp2_with fail
  obtain ⟨pb, hpb⟩ : ∃ pb, pb = w.heap.size := ⟨_, rfl⟩
  rw [← hpb] at HP0 ⊢
  generalize w.alloc (.cells #[.slice a1 nd c1, .slice a2 ns c2, .slice a3 nl c3] 26) = w1 at HP0 HW1 HRD HRS HRK ⊢
  clear hpb
  refine (H1.out _).mono ?_
  rintro e w5 ⟨rfl, rfl⟩
  have e0 : w1.cell? ⟨pb, 0, none⟩ = some (.slice a1 nd c1) := blk_cell HP0.out 0
  have e1 : w1.cell? ⟨pb, 1, none⟩ = some (.slice a2 ns c2) := blk_cell HP0.out 1
  have e2 : w1.cell? ⟨pb, 2, none⟩ = some (.slice a3 nl c3) := blk_cell HP0.out 2
  cases t1 with
  | false =>
    go_wp2_with fail
    go_ret
    rw [HCM.out]
    exact ⟨rfl, HW1.out⟩
  | true =>
    obtain ⟨n1, n8⟩ := HIN.out rfl
    go_wp2_with fail
    refine (H2.out _).mono ?_
    rintro e w5 ⟨rfl, rfl⟩
    cases t2 with
    | false =>
      go_wp2_with fail
      go_ret
      rw [HCM.out]
      exact ⟨rfl, HW1.out⟩
    | true =>
      by_cases h8 : nl ≤ 8
      · have h8' : ¬ (8 : Int) < (nl : Int) := by omega
        have HCM2 := Lib.hid (show checkM D S K = if domsM D = 0 then (if slotsM S nd = 0 then linksM D K else slotsM S nd) else domsM D by rw [HCM.out, decide_eq_true h8]; rfl)
        have HDO := Lib.hid (domains_calls HRD.out HZ.out)
        generalize domsM D = ed at HCM2 HDO
        clear HCM h8
        go_wp2_with fail
        refine HDO.out.mono ?_
        rintro e w6 ⟨rfl, hb6⟩
        have HP6 := Lib.hid ((hb6.block pb (lt_of_block HP0.out)).trans HP0.out)
        have HB6 := Lib.hid (HW1.out.trans (hb6.mono HW1.out.size))
        have HRD6 := Lib.hid (HRD.out.below (by omega) hb6)
        have HRS6 := Lib.hid (HRS.out.below (by omega) hb6)
        have HRK6 := Lib.hid (HRK.out.below (by omega) hb6)
        have g0 : w6.cell? ⟨pb, 0, none⟩ = some (.slice a1 nd c1) := blk_cell HP6.out 0
        have g1 : w6.cell? ⟨pb, 1, none⟩ = some (.slice a2 ns c2) := blk_cell HP6.out 1
        have g2 : w6.cell? ⟨pb, 2, none⟩ = some (.slice a3 nl c3) := blk_cell HP6.out 2
        clear hb6 e0 e1 e2 HRD HRS HRK HP0 HW1
        by_cases hed : ed = 0
        · have hed1 : (ed != 0) = false := by simp [hed]
          have HCM3 := Lib.hid (show checkM D S K = if slotsM S nd = 0 then linksM D K else slotsM S nd by rw [HCM2.out, if_pos hed])
          have HSL := Lib.hid (slots_calls HRS6.out nd n1 n8)
          generalize slotsM S nd = es at HCM3 HSL
          clear HCM2 hed
          go_wp2_with fail
          refine HSL.out.mono ?_
          rintro e w7 ⟨rfl, hb7⟩
          have HP7 := Lib.hid ((hb7.block pb (lt_of_block HP6.out)).trans HP6.out)
          have HB7 := Lib.hid (HB6.out.trans (hb7.mono HB6.out.size))
          have HRD7 := Lib.hid (HRD6.out.below (by omega) hb7)
          have HRK7 := Lib.hid (HRK6.out.below (by omega) hb7)
          have k0 : w7.cell? ⟨pb, 0, none⟩ = some (.slice a1 nd c1) := blk_cell HP7.out 0
          have k1 : w7.cell? ⟨pb, 1, none⟩ = some (.slice a2 ns c2) := blk_cell HP7.out 1
          have k2 : w7.cell? ⟨pb, 2, none⟩ = some (.slice a3 nl c3) := blk_cell HP7.out 2
          clear hb7 g0 g1 g2 HRD6 HRS6 HRK6 HP6
          by_cases hes : es = 0
          · have hes1 : (es != 0) = false := by simp [hes]
            have HCM4 := Lib.hid (show checkM D S K = linksM D K by rw [HCM3.out, if_pos hes])
            have HLI := Lib.hid (links_calls (sa := a2) (ls := ns) (cs := c2) HRD7.out HRK7.out n1 n8)
            clear hes HCM3
            go_wp2_with fail
            refine HLI.out.mono ?_
            rintro e w8 ⟨rfl, hb8⟩
            have HB8 := Lib.hid (HB7.out.trans (hb8.mono HB7.out.size))
            clear hb8
            go_wp2_with fail
            go_ret
            rw [HCM4.out]
            exact ⟨rfl, HB8.out⟩
          · have hes1 : (es != 0) = true := by simp [hes]
            have HCM4 := Lib.hid (show checkM D S K = es by rw [HCM3.out, if_neg hes])
            clear hes HCM3
            go_wp2_with fail
            go_ret
            rw [HCM4.out]
            exact ⟨rfl, HB7.out⟩
        · have hed1 : (ed != 0) = true := by simp [hed]
          have HCM3 := Lib.hid (show checkM D S K = ed by rw [HCM2.out, if_neg hed])
          clear HCM2 hed
          go_wp2_with fail
          go_ret
          rw [HCM3.out]
          exact ⟨rfl, HB6.out⟩
      · have h8' : (8 : Int) < (nl : Int) := by omega
        have HCM2 := Lib.hid (show checkM D S K = 1 by rw [HCM.out, decide_eq_false h8]; rfl)
        clear HCM h8
        go_wp2_with fail
        go_ret
        rw [HCM2.out]
        exact ⟨rfl, HW1.out⟩
end Go.Proofs.YtbgpniepgbmkaaaDoor
