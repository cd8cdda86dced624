/- The statement PolicyPrints. Conditions: the policy can be read, the names are not too long, its numbers are int64s, the library's table is laid (Tab). -/
import Derived.Test.YtkjhgfjlknbdkaaDoorPrt4
import Derived.Test.YtkjhgfjlknbdkaaDoorPrt5
import Derived.Test.YtkjhgfjlknbdkaaDoorViewP
namespace Go.Proofs.YtkjhgfjlknbdkaaDoor
open Go.RowKit BigFrame Go.BigFrame

set_option maxRecDepth 100000 in
set_option maxHeartbeats 16000000 in
theorem policyPrints_walk (w : World) (ht : Tab w) {vd vs vl : Value} {p : P3} (h : PR w vd vs vl p) (hd : ∀ d ∈ p.D, dmOk d) (_hs : ∀ s ∈ p.S, slOk s) (_hk : ∀ l ∈ p.K, lkOk l) (hz : ∀ d ∈ p.D, d.nm.size ≤ 140737488351232) :
    Calls Tryd.prog 6 #[.agg #[vd, vs, vl]] w fun e w' => e = .returned (.bool true) ∧ Below w.heap.size w w' := by
  have hct : ∀ d ∈ p.D, -9223372036854775808 ≤ d.ct ∧ d.ct ≤ 9223372036854775807 := fun d hm => (hd d hm).2.1
  have HT := Lib.hid ht
  have HZ := Lib.hid hz
  have HCT := Lib.hid hct
  have HPR := Lib.hid h
  have HW1 := Lib.hid (plus_one1 w (.cells #[vd, vs, vl] 26))
  have HP0 := Lib.hid (show BoxP w.heap.size vd vs vl (w.alloc (.cells #[vd, vs, vl] 26)) from heap_alloc_new w _)
  obtain ⟨nd, hnd⟩ : ∃ n, n = p.D.length := ⟨_, rfl⟩
  obtain ⟨ns, hns⟩ : ∃ n, n = p.S.length := ⟨_, rfl⟩
  obtain ⟨nl, hnl⟩ : ∃ n, n = p.K.length := ⟨_, rfl⟩
  obtain ⟨ad, cd, rfl, _, _⟩ := reads_shape h.d hnd.symm
  obtain ⟨sa, cs, rfl, _, _⟩ := reads_shape h.s hns.symm
  obtain ⟨al, cl, rfl, _, _⟩ := reads_shape h.k hnl.symm
  clear ht h hz hct hnd hns hnl hd _hs _hk
  go_enter Tryd.func6, Tryd.ntmps6
  go_upto_region 1 with (fail)
  obtain ⟨pb, hpb⟩ : ∃ b, b = w.heap.size := ⟨_, rfl⟩
  rw [← hpb] at HP0 ⊢
  generalize w.alloc (.cells #[.slice ad nd cd, .slice sa ns cs, .slice al nl cl] 26) = w1 at HW1 HP0 ⊢
  clear hpb
  have q0 : w1.cell? ⟨pb, 0, none⟩ = some (.slice ad nd cd) := blk_cell HP0.out 0
  have q1 : w1.cell? ⟨pb, 1, none⟩ = some (.slice sa ns cs) := blk_cell HP0.out 1
  have q2 : w1.cell? ⟨pb, 2, none⟩ = some (.slice al nl cl) := blk_cell HP0.out 2
  have HA := Lib.hid (print_calls (HT.out.below HW1.out) (HPR.out.below HW1.out) HZ.out)
  have HB := Lib.hid (fun (u : World) (hu : Below w.heap.size w u) => rprint_calls (HPR.out.below hu) HZ.out HCT.out)
  generalize printM p = pm at HA HB
  obtain ⟨s, pe⟩ := pm
  simp only at HA HB
  have HSS := (show (s.toList == s.toList) = true by simp)
  go_wp2_with fail
  refine HA.out.mono ?_
  rintro e w2 ⟨rfl, hb2⟩
  have HB2 := Lib.hid (HW1.out.trans (hb2.mono HW1.out.size))
  have HP2 := Lib.hid (HP0.out.below hb2)
  clear hb2 q0 q1 q2 HA
  have q0 : w2.cell? ⟨pb, 0, none⟩ = some (.slice ad nd cd) := blk_cell HP2.out 0
  have q1 : w2.cell? ⟨pb, 1, none⟩ = some (.slice sa ns cs) := blk_cell HP2.out 1
  have q2 : w2.cell? ⟨pb, 2, none⟩ = some (.slice al nl cl) := blk_cell HP2.out 2
  go_wp2_with fail
  refine (HB.out _ HB2.out).mono ?_
  rintro e w3 ⟨rfl, hb3⟩
  have HB3 := Lib.hid (HB2.out.trans (hb3.mono HB2.out.size))
  clear hb3 q0 q1 q2
  go_wp2_with fail
  refine (awake4_calls w3 (HT.out.below HB3.out)).mono ?_
  rintro e w4 ⟨rfl, hb4⟩
  have HB4 := Lib.hid (HB3.out.trans (hb4.mono HB3.out.size))
  clear hb4
  go_wp2_with fail
  go_ret
  exact ⟨rfl, HB4.out⟩
end Go.Proofs.YtkjhgfjlknbdkaaDoor
