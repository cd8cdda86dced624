/- The statement PolicyChecks. Conditions: the policy can be read, the names are not too long, the labels' sets are int64s, the library's table is laid (Tab). -/
import Derived.Test.YtkjhgfjlknbdkaaDoorRef04b
import Derived.Test.YtkjhgfjlknbdkaaDoorViewP
import Derived.Test.YtkjhgfjlknbdkaaDoorLaw04
namespace Go.Proofs.YtkjhgfjlknbdkaaDoor
open Go.RowKit BigFrame Go.BigFrame

set_option maxRecDepth 100000 in
set_option maxHeartbeats 16000000 in
theorem policyChecks_calls {w : World} (ht : Tab w) {vd vs vl : Value} {p : P3} (h : PR w vd vs vl p) (hz : ∀ d ∈ p.D, d.nm.size ≤ 140737488351232) (hct : ∀ d ∈ p.D, -9223372036854775808 ≤ d.ct ∧ d.ct ≤ 9223372036854775807) :
    Calls Tryd.prog 4 #[.agg #[vd, vs, vl]] w fun e w' => e = .returned (.bool true) ∧ Below w.heap.size w w' := by
  have HW1 := Lib.hid (plus_one1 w (.cells #[vd, vs, vl] 26))
  have c0 : (w.alloc (.cells #[vd, vs, vl] 26)).heap[w.heap.size]? = some (.cells #[vd, vs, vl] 26 (0, 0)) := heap_alloc_new w _
  have HT := Lib.hid (fun t : BW (w.alloc (.cells #[vd, vs, vl] 26)) => awake4_calls t.at_ ((ht.below HW1.out).below t.ok))
  have HP := Lib.hid (fun t : BW (w.alloc (.cells #[vd, vs, vl] 26)) => show PR t.at_ vd vs vl p from (h.below HW1.out).below t.ok)
  have HC := Lib.hid (fun t : BW (w.alloc (.cells #[vd, vs, vl] 26)) => check_calls (HP.out t).d (HP.out t).s (HP.out t).k hz)
  have HR := Lib.hid (fun t : BW (w.alloc (.cells #[vd, vs, vl] 26)) => rcheck_calls (HP.out t).d (HP.out t).s (HP.out t).k hz hct)
  generalize checkM p.D p.S p.K = ch at HC HR
  obtain ⟨nd, hnd⟩ : ∃ n, n = p.D.length := ⟨_, rfl⟩
  obtain ⟨ns, hns⟩ : ∃ n, n = p.S.length := ⟨_, rfl⟩
  obtain ⟨nl, hnl⟩ : ∃ n, n = p.K.length := ⟨_, rfl⟩
  obtain ⟨ad, cd, rfl, _, _⟩ := reads_shape h.d hnd.symm
  obtain ⟨sa, cs, rfl, _, _⟩ := reads_shape h.s hns.symm
  obtain ⟨al, cl, rfl, _, _⟩ := reads_shape h.k hnl.symm
  clear ht h hz hct hnd hns hnl HP
  go_enter Tryd.func4, Tryd.ntmps4
  go_upto_region 1 with (fail)
  obtain ⟨pb, hpb⟩ : ∃ b, b = w.heap.size := ⟨_, rfl⟩
  rw [← hpb] at c0 ⊢
  generalize w.alloc (.cells #[.slice ad nd cd, .slice sa ns cs, .slice al nl cl] 26) = w1 at HW1 HT HC HR c0 ⊢
  clear hpb
  have f0 : ∀ t : BW w1, t.at_.cell? ⟨pb, 0, none⟩ = some (.slice ad nd cd) := bw_cell (lt_of_block c0) (blk_cell c0 0)
  have f1 : ∀ t : BW w1, t.at_.cell? ⟨pb, 1, none⟩ = some (.slice sa ns cs) := bw_cell (lt_of_block c0) (blk_cell c0 1)
  have f2 : ∀ t : BW w1, t.at_.cell? ⟨pb, 2, none⟩ = some (.slice al nl cl) := bw_cell (lt_of_block c0) (blk_cell c0 2)
  clear c0
  refine wp_region_quiet_bw (by kernel_rfl) (by kernel_rfl) ?_
  repeat (go_big_quiet_step (first | (go_at_call 11; refine Calls.bw _ (HT.out _)) | (go_at_call 10; refine Calls.bw _ (HC.out _)) | (go_at_call 14; refine Calls.bw _ (HR.out _))))
  refine wpQuiet_nil ?_
  intro _ hw'
  obtain ⟨tq, rfl⟩ := hw'
  have HB2 := Lib.hid (HW1.out.trans (tq.ok.mono HW1.out.size))
  go_wp2_with fail
  go_ret
  exact ⟨rfl, HB2.out⟩
theorem policyUp_walk (w : World) (ht : Tab w) {vd vs vl : Value} {p : P3} (h : PR w vd vs vl p) (_hd : ∀ d ∈ p.D, dmOk d) (_hs : ∀ s ∈ p.S, slOk s) (_hk : ∀ l ∈ p.K, lkOk l) (hz : ∀ d ∈ p.D, d.nm.size ≤ 140737488351232) :
    Calls Tryd.prog 3 #[.agg #[vd, vs, vl]] w fun e w' => e = .returned (.bool true) ∧ Below w.heap.size w w' := policyUp_calls ht h hz
theorem policyChecks_walk (w : World) (ht : Tab w) {vd vs vl : Value} {p : P3} (h : PR w vd vs vl p) (hd : ∀ d ∈ p.D, dmOk d) (_hs : ∀ s ∈ p.S, slOk s) (_hk : ∀ l ∈ p.K, lkOk l) (hz : ∀ d ∈ p.D, d.nm.size ≤ 140737488351232) :
    Calls Tryd.prog 4 #[.agg #[vd, vs, vl]] w fun e w' => e = .returned (.bool true) ∧ Below w.heap.size w w' := policyChecks_calls ht h hz (fun d hm => (hd d hm).2.1)
end Go.Proofs.YtkjhgfjlknbdkaaDoor
