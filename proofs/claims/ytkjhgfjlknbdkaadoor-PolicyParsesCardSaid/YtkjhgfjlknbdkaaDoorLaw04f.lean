/- The statement PolicyParses. Conditions: the text is at most 2^47 bytes, the library's table is laid (Tab). -/
import Derived.Test.YtkjhgfjlknbdkaaDoorR4g
import Derived.Test.YtkjhgfjlknbdkaaDoorSame
import Derived.Test.YtkjhgfjlknbdkaaDoorViewP
namespace Go.Proofs.YtkjhgfjlknbdkaaDoor
open Go.RowKit BigFrame Go.BigFrame

set_option maxRecDepth 100000 in
set_option maxHeartbeats 16000000 in
theorem policyParses_walk (w : World) (ht : Tab w) (s : ByteArray) (hsz : s.size ≤ 140737488351232) :
    Calls Tryd.prog 5 #[.string s] w fun e w' => e = .returned (.bool true) ∧ Below w.heap.size w w' := by
  have HT := Lib.hid ht
  have HA := Lib.hid (fun (u : World) (hu : Tab u) => parse_calls s hsz u hu)
  have HR := Lib.hid (fun (u : World) => rparse_calls s hsz u)
  obtain ⟨⟨p, ln, er⟩, hpm⟩ : ∃ r, r = parseM s := ⟨_, rfl⟩
  rw [← hpm] at HA HR
  simp only at HA HR
  obtain ⟨nd, hnd⟩ : ∃ n, n = p.D.length := ⟨_, rfl⟩
  obtain ⟨ns, hns⟩ : ∃ n, n = p.S.length := ⟨_, rfl⟩
  obtain ⟨nl, hnl⟩ : ∃ n, n = p.K.length := ⟨_, rfl⟩
  have HND := Lib.hid hnd
  have HNS := Lib.hid hns
  have HNL := Lib.hid hnl
  clear ht hsz hpm hnd hns hnl
  go_enter Tryd.func5, Tryd.ntmps5
  go_wp2_with fail
  refine (HA.out _ HT.out).mono ?_
  rintro _ w2 ⟨vd, vs, vl, rfl, hp, hb⟩
  obtain ⟨x1, x2, rfl, _, _⟩ := reads_shape hp.d HND.out.symm
  obtain ⟨x3, x4, rfl, _, _⟩ := reads_shape hp.s HNS.out.symm
  obtain ⟨x5, x6, rfl, _, _⟩ := reads_shape hp.k HNL.out.symm
  have HP2 := Lib.hid (hp.below (plus_one1 w2 (.cells #[.slice x1 nd x2, .slice x3 ns x4, .slice x5 nl x6] 26)))
  have HB2 := Lib.hid (hb.trans ((plus_one1 w2 (.cells #[.slice x1 nd x2, .slice x3 ns x4, .slice x5 nl x6] 26)).mono hb.size))
  have HX2 := Lib.hid (show BoxP w2.heap.size (.slice x1 nd x2) (.slice x3 ns x4) (.slice x5 nl x6) (w2.alloc (.cells #[.slice x1 nd x2, .slice x3 ns x4, .slice x5 nl x6] 26)) from heap_alloc_new w2 _)
  clear hp hb HA
  go_upto_region 2 with (fail)
  obtain ⟨pb, hpb⟩ : ∃ b, b = w2.heap.size := ⟨_, rfl⟩
  rw [← hpb] at HX2 ⊢
  generalize w2.alloc (.cells #[.slice x1 nd x2, .slice x3 ns x4, .slice x5 nl x6] 26) = w3 at HP2 HB2 HX2 ⊢
  clear hpb
  go_wp2_with fail
  refine (HR.out _).mono ?_
  rintro _ w4 ⟨vd, vs, vl, rfl, hp, hb⟩
  obtain ⟨y1, y2, rfl, _, _⟩ := reads_shape hp.d HND.out.symm
  obtain ⟨y3, y4, rfl, _, _⟩ := reads_shape hp.s HNS.out.symm
  obtain ⟨y5, y6, rfl, _, _⟩ := reads_shape hp.k HNL.out.symm
  have hq := plus_one1 w4 (.cells #[.slice y1 nd y2, .slice y3 ns y4, .slice y5 nl y6] 26)
  have HQ4 := Lib.hid (hp.below hq)
  have HP4 := Lib.hid ((HP2.out.below hb).below hq)
  have HX4 := Lib.hid ((HX2.out.below hb).below hq)
  have HB4 := Lib.hid (HB2.out.trans ((hb.trans (hq.mono hb.size)).mono HB2.out.size))
  have HY4 := Lib.hid (show BoxP w4.heap.size (.slice y1 nd y2) (.slice y3 ns y4) (.slice y5 nl y6) (w4.alloc (.cells #[.slice y1 nd y2, .slice y3 ns y4, .slice y5 nl y6] 26)) from heap_alloc_new w4 _)
  clear hp hb hq HR HP2 HX2 HB2
  go_upto_region 3 with (fail)
  obtain ⟨qb, hqb⟩ : ∃ b, b = w4.heap.size := ⟨_, rfl⟩
  rw [← hqb] at HY4 ⊢
  generalize w4.alloc (.cells #[.slice y1 nd y2, .slice y3 ns y4, .slice y5 nl y6] 26) = w5 at HQ4 HP4 HX4 HB4 HY4 ⊢
  clear hqb
  go_wp2_with fail
  refine (awake4_calls w5 (HT.out.below HB4.out)).mono ?_
  rintro _ w6 ⟨rfl, hb6⟩
  have HQ6 := Lib.hid (HQ4.out.below hb6)
  have HP6 := Lib.hid (HP4.out.below hb6)
  have HX6 := Lib.hid (HX4.out.below hb6)
  have HY6 := Lib.hid (HY4.out.below hb6)
  have HB6 := Lib.hid (HB4.out.trans (hb6.mono HB4.out.size))
  clear hb6 HQ4 HP4 HX4 HY4 HB4
  have r0 : w6.cell? ⟨pb, 0, none⟩ = some (.slice x1 nd x2) := blk_cell HX6.out 0
  have r1 : w6.cell? ⟨pb, 1, none⟩ = some (.slice x3 ns x4) := blk_cell HX6.out 1
  have r2 : w6.cell? ⟨pb, 2, none⟩ = some (.slice x5 nl x6) := blk_cell HX6.out 2
  have t0 : w6.cell? ⟨qb, 0, none⟩ = some (.slice y1 nd y2) := blk_cell HY6.out 0
  have t1 : w6.cell? ⟨qb, 1, none⟩ = some (.slice y3 ns y4) := blk_cell HY6.out 1
  have t2 : w6.cell? ⟨qb, 2, none⟩ = some (.slice y5 nl y6) := blk_cell HY6.out 2
  go_wp2_with fail
  refine (rsame_calls HP6.out HQ6.out).mono ?_
  rintro _ w7 ⟨rfl, hb7⟩
  have HB7 := Lib.hid (HB6.out.trans (hb7.mono HB6.out.size))
  clear hb7 r0 r1 r2 t0 t1 t2
  go_wp2_with fail
  go_ret
  exact ⟨rfl, HB7.out⟩
end Go.Proofs.YtkjhgfjlknbdkaaDoor
