/- What policy.links and policy.Check do. Conditions: the lists can be read, the names are not too long. -/
import Derived.Test.YtbgpniepgbmkaaaDoorPol4
namespace Go.Proofs.YtbgpniepgbmkaaaDoor
open Go.RowKit BigFrame Go.BigFrame

structure Lk where
  kd : Int
  fr : Int
  tt : Int
  sz : Int
def lkCells (l : Lk) : List Value := [.int .i64 l.kd, .int .i64 l.fr, .int .i64 l.tt, .int .i64 l.sz]
def leqAt (D : List Dm) (i j : Nat) : Bool := match D[i]?, D[j]? with
  | some a, some b => leqB a.lv a.ct b.lv b.ct
  | _, _ => false
def linkBad (n : Nat) (l : Lk) : Bool := !(inB l.fr 0 ((n : Int) - 1) && (inB l.tt 0 ((n : Int) - 1) && (!(l.fr == l.tt) && inB l.sz 1 (mostM l.kd))))
def linkErr (D : List Dm) (l : Lk) : Int := if linkBad D.length l = true then 1 else if leqAt D l.fr.toNat l.tt.toNat = false then 10 else 0
def linksM (D : List Dm) (K : List Lk) : Int := firstE (K.map (linkErr D))
theorem linkBad_in {n : Nat} {l : Lk} (h : linkBad n l = false) : 0 ≤ l.fr ∧ l.fr < n ∧ 0 ≤ l.tt ∧ l.tt < n := by
  unfold linkBad inB at h
  simp only [Bool.not_eq_false', Bool.and_eq_true, decide_eq_true_eq] at h
  omega
set_option maxRecDepth 100000 in
set_option maxHeartbeats 16000000 in
theorem links_calls {w : World} {vd vl : Value} {sa : Option Addr} {ls cs nd nl : Nat} {D : List Dm} {K : List Lk} (hd : Reads w 6 vd nd (D.flatMap Dm.cells)) (hk : Reads w 4 vl nl (K.flatMap lkCells)) (hn1 : 1 ≤ nd) (hn8 : nd ≤ 8) :
    Calls Tryd.prog 30 #[.agg #[vd, .slice sa ls cs, vl]] w fun e w' => e = .returned (.int .i64 (linksM D K)) ∧ Below w.heap.size w w' := by
  obtain ⟨hl1, a1, c1, rfl, h12, h13, h14⟩ := doms_open hd
  obtain ⟨hl2, a2, c2, rfl, h22, h23, h24⟩ := rows_open hk (fun _ => rfl) (by omega)
  obtain ⟨bd, od, rfl, hbd, hcd⟩ := h14 (by omega)
  unfold maxLen at h13 h23
  have HL1 := Lib.hid hl1
  have HL2 := Lib.hid hl2
  have HCD := Lib.hid hcd
  have H24 := Lib.hid h24
  have hnz : (0 : Int) ≤ (nd : Int) := Int.natCast_nonneg _
  have hn1' : (1 : Int) ≤ (nd : Int) := by omega
  have hn8' : (nd : Int) ≤ 8 := by omega
  clear hd hk hl1 hl2 h14 h24 hcd
  go_enter Tryd.func30, Tryd.ntmps30
  go_wp2_with fail
  have HP0 := Lib.hid (show (w.alloc (.cells #[.slice (some ⟨bd, od, none⟩) nd c1, .slice sa ls cs, .slice a2 nl c2] 26)).heap[w.heap.size]? = some (.cells #[.slice (some ⟨bd, od, none⟩) nd c1, .slice sa ls cs, .slice a2 nl c2] 26 (0, 0)) from heap_alloc_new w _)
  have HW1 := Lib.hid (plus_one1 w (.cells #[.slice (some ⟨bd, od, none⟩) nd c1, .slice sa ls cs, .slice a2 nl c2] 26))
  obtain ⟨pb, hpb⟩ : ∃ pb, pb = w.heap.size := ⟨_, rfl⟩
  rw [← hpb] at HP0 ⊢
  generalize w.alloc (.cells #[.slice (some ⟨bd, od, none⟩) nd c1, .slice sa ls cs, .slice a2 nl c2] 26) = w1 at HP0 HW1 ⊢
  clear hpb
  go_loopw [13] (fun u wr => ∃ j : Nat, u = .int .i64 j ∧ j ≤ nl ∧ (∀ e ∈ (K.map (linkErr D)).take j, e = 0) ∧ Below w1.heap.size w1 wr) (fun u _ => nl - (intOf u).toNat)
  case atStart => exact ⟨0, rfl, Nat.zero_le _, by simp, Below.refl _ _⟩
  case round =>
    obtain ⟨j, rfl, hj, hno, hb⟩ := hrel
    have HNO := Lib.hid hno
    have HB := Lib.hid hb
    have hjz : (0 : Int) ≤ (j : Int) := Int.natCast_nonneg _
    clear hno hb
    by_cases hc : j < nl
    · have hc' : (j : Int) < (nl : Int) := by omega
      obtain ⟨l, hl⟩ : ∃ l, K[j]? = some l := ⟨_, List.getElem?_eq_getElem (by rw [HL2.out]; exact hc)⟩
      obtain ⟨bl, o, rfl, hbl, hcx⟩ := H24.out (by omega)
      have hbl1 := Nat.lt_of_lt_of_le hbl HW1.out.size
      have k0 := below_cell1 HB.out hbl1 (below_cell1 HW1.out hbl (hcx j l hl 0 _ rfl))
      have k1 := below_cell1 HB.out hbl1 (below_cell1 HW1.out hbl (hcx j l hl 1 _ rfl))
      have k2 := below_cell1 HB.out hbl1 (below_cell1 HW1.out hbl (hcx j l hl 2 _ rfl))
      have k3 := below_cell1 HB.out hbl1 (below_cell1 HW1.out hbl (hcx j l hl 3 _ rfl))
      rw [Nat.add_zero] at k0
      have HE := Lib.hid (show (K.map (linkErr D))[j]? = some (linkErr D l) by rw [List.getElem?_map, hl]; rfl)
      have HDE := Lib.hid (show linkErr D l = if linkBad nd l = true then 1 else if leqAt D l.fr.toNat l.tt.toNat = false then 10 else 0 by unfold linkErr; rw [HL1.out])
      have HIN := Lib.hid (fun h : linkBad nd l = false => linkBad_in h)
      have HLB := Lib.hid (show linkBad nd l = !(inB l.fr 0 ((nd : Int) - 1) && (inB l.tt 0 ((nd : Int) - 1) && (!(l.fr == l.tt) && inB l.sz 1 (mostM l.kd)))) from rfl)
      generalize linkErr D l = de at HE HDE
      generalize linkBad nd l = bad at HDE HIN HLB
      have HX0 := Lib.hid (show (wr.alloc (.cells #[.int .i64 l.kd, .int .i64 l.fr, .int .i64 l.tt, .int .i64 l.sz] 89)).heap[wr.heap.size]? = some (.cells #[.int .i64 l.kd, .int .i64 l.fr, .int .i64 l.tt, .int .i64 l.sz] 89 (0, 0)) from heap_alloc_new wr _)
      have HB0 := Lib.hid (HB.out.trans ((plus_one1 wr (.cells #[.int .i64 l.kd, .int .i64 l.fr, .int .i64 l.tt, .int .i64 l.sz] 89)).mono HB.out.size))
      obtain ⟨kd, fr, tt, sz⟩ := l
      simp only at k0 k1 k2 k3 HX0 HB0 HDE HIN HLB
      clear hcx hl
      go_upto_region 5 with (fail)
      obtain ⟨lb, hlb⟩ : ∃ lb, lb = wr.heap.size := ⟨_, rfl⟩
      rw [← hlb] at HX0 ⊢
      generalize wr.alloc (.cells #[.int .i64 kd, .int .i64 fr, .int .i64 tt, .int .i64 sz] 89) = w2 at HX0 HB0 ⊢
      clear hlb k0 k1 k2 k3 HB
      have f0 : ∀ t : BW w2, t.at_.cell? ⟨lb, 0, none⟩ = some (.int .i64 kd) := bw_cell (lt_of_block HX0.out) (blk_cell HX0.out 0)
      have f1 : ∀ t : BW w2, t.at_.cell? ⟨lb, 1, none⟩ = some (.int .i64 fr) := bw_cell (lt_of_block HX0.out) (blk_cell HX0.out 1)
      have f2 : ∀ t : BW w2, t.at_.cell? ⟨lb, 2, none⟩ = some (.int .i64 tt) := bw_cell (lt_of_block HX0.out) (blk_cell HX0.out 2)
      have f3 : ∀ t : BW w2, t.at_.cell? ⟨lb, 3, none⟩ = some (.int .i64 sz) := bw_cell (lt_of_block HX0.out) (blk_cell HX0.out 3)
      go_cut [44] (fun u wx => u = .bool bad ∧ Below w2.heap.size w2 wx)
      case first => as_aux_lemma =>
        have h1 := fun u : World => in_calls fr 0 ((nd : Int) - 1) u
        have h2 := fun u : World => in_calls tt 0 ((nd : Int) - 1) u
        have h4 := fun u : World => in_calls sz 1 (mostM kd) u
        generalize inB fr 0 ((nd : Int) - 1) = t1 at h1 HLB
        generalize inB tt 0 ((nd : Int) - 1) = t2 at h2 HLB
        generalize inB sz 1 (mostM kd) = t4 at h4 HLB
        have H1 := Lib.hid h1
        have H2 := Lib.hid h2
        have H4 := Lib.hid h4
        clear h1 h2 h4
        cases t1 with
        | false =>
          have HV := Lib.hid (show bad = true by rw [HLB.out]; rfl)
          go_wp2_with fail
          refine wp_region_quiet_bw (by kernel_rfl) (by kernel_rfl) ?_
          repeat (go_big_quiet_step (first | (go_at_call 27; first | with_reducible refine Calls.bw_same _ (H1.out _) | with_reducible refine Calls.bw_same _ (H2.out _) | with_reducible refine Calls.bw_same _ (H4.out _)) | (go_at_call 55; refine Calls.bw_same _ (most_calls _ _))))
          refine wpQuiet_nil ?_
          intro _ hw'
          obtain ⟨tq, rfl⟩ := hw'
          go_wp2_with fail
          go_meet
          exact ⟨by rw [HV.out], tq.ok⟩
        | true =>
          cases t2 with
          | false =>
            have HV := Lib.hid (show bad = true by rw [HLB.out]; rfl)
            go_wp2_with fail
            refine wp_region_quiet_bw (by kernel_rfl) (by kernel_rfl) ?_
            repeat (go_big_quiet_step (first | (go_at_call 27; first | with_reducible refine Calls.bw_same _ (H1.out _) | with_reducible refine Calls.bw_same _ (H2.out _) | with_reducible refine Calls.bw_same _ (H4.out _)) | (go_at_call 55; refine Calls.bw_same _ (most_calls _ _))))
            refine wpQuiet_nil ?_
            intro _ hw'
            obtain ⟨tq, rfl⟩ := hw'
            go_wp2_with fail
            go_meet
            exact ⟨by rw [HV.out], tq.ok⟩
          | true =>
            cases t3 : (fr == tt) with
            | true =>
              have HV := Lib.hid (show bad = true by rw [HLB.out, t3]; rfl)
              go_wp2_with fail
              refine wp_region_quiet_bw (by kernel_rfl) (by kernel_rfl) ?_
              repeat (go_big_quiet_step (first | (go_at_call 27; first | with_reducible refine Calls.bw_same _ (H1.out _) | with_reducible refine Calls.bw_same _ (H2.out _) | with_reducible refine Calls.bw_same _ (H4.out _)) | (go_at_call 55; refine Calls.bw_same _ (most_calls _ _))))
              refine wpQuiet_nil ?_
              intro _ hw'
              obtain ⟨tq, rfl⟩ := hw'
              go_wp2_with fail
              go_meet
              exact ⟨by rw [HV.out], tq.ok⟩
            | false =>
              cases t4 with
              | false =>
                have HV := Lib.hid (show bad = true by rw [HLB.out, t3]; rfl)
                go_wp2_with fail
                refine wp_region_quiet_bw (by kernel_rfl) (by kernel_rfl) ?_
                repeat (go_big_quiet_step (first | (go_at_call 27; first | with_reducible refine Calls.bw_same _ (H1.out _) | with_reducible refine Calls.bw_same _ (H2.out _) | with_reducible refine Calls.bw_same _ (H4.out _)) | (go_at_call 55; refine Calls.bw_same _ (most_calls _ _))))
                refine wpQuiet_nil ?_
                intro _ hw'
                obtain ⟨tq, rfl⟩ := hw'
                go_wp2_with fail
                go_meet
                exact ⟨by rw [HV.out], tq.ok⟩
              | true =>
                have HV := Lib.hid (show bad = false by rw [HLB.out, t3]; rfl)
                go_wp2_with fail
                refine wp_region_quiet_bw (by kernel_rfl) (by kernel_rfl) ?_
                repeat (go_big_quiet_step (first | (go_at_call 27; first | with_reducible refine Calls.bw_same _ (H1.out _) | with_reducible refine Calls.bw_same _ (H2.out _) | with_reducible refine Calls.bw_same _ (H4.out _)) | (go_at_call 55; refine Calls.bw_same _ (most_calls _ _))))
                refine wpQuiet_nil ?_
                intro _ hw'
                obtain ⟨tq, rfl⟩ := hw'
                go_wp2_with fail
                go_meet
                exact ⟨by rw [HV.out], tq.ok⟩
      case rest =>
      obtain ⟨rfl, hb2⟩ := hcut
      clear f0 f1 f2 f3
      have HB2 := Lib.hid (HB0.out.trans (hb2.mono HB0.out.size))
      have HX2 := Lib.hid ((hb2.block lb (lt_of_block HX0.out)).trans HX0.out)
      clear hb2 HX0 HB0
      cases bad with
      | true =>
        have HV := Lib.hid (show linksM D K = 1 from by
          have h1 := HE.out
          rw [HDE.out] at h1
          exact firstE_hit HNO.out h1 (by decide))
        go_wp2_with fail
        go_ret
        rw [HV.out]
        exact ⟨rfl, HW1.out.trans (HB2.out.mono HW1.out.size)⟩
      | false =>
        obtain ⟨g1, g2, g3, g4⟩ := HIN.out rfl
        try simp only at g1 g2 g3 g4
        obtain ⟨fk, rfl⟩ : ∃ k : Nat, fr = k := ⟨fr.toNat, by omega⟩
        obtain ⟨tk, rfl⟩ : ∃ k : Nat, tt = k := ⟨tt.toNat, by omega⟩
        obtain ⟨d1, hd1⟩ : ∃ d, D[fk]? = some d := ⟨_, List.getElem?_eq_getElem (by rw [HL1.out]; omega)⟩
        obtain ⟨d2, hd2⟩ : ∃ d, D[tk]? = some d := ⟨_, List.getElem?_eq_getElem (by rw [HL1.out]; omega)⟩
        have HLA := Lib.hid (show leqAt D fk tk = leqB d1.lv d1.ct d2.lv d2.ct by unfold leqAt; rw [hd1, hd2])
        obtain ⟨_, m1, m2, _⟩ := HCD.out fk d1 hd1
        obtain ⟨_, m3, m4, _⟩ := HCD.out tk d2 hd2
        have hbd1 := Nat.lt_of_lt_of_le hbd HW1.out.size
        have HWC := Lib.hid (HW1.out.trans (HB2.out.mono HW1.out.size))
        have q1 : ∀ t : BW wc, t.at_.cell? ⟨bd, od + fk * 6 + 1, none⟩ = some (.int .i64 d1.lv) := bw_cell (Nat.lt_of_lt_of_le hbd HWC.out.size) (below_cell1 HWC.out hbd m1)
        have q2 : ∀ t : BW wc, t.at_.cell? ⟨bd, od + fk * 6 + 2, none⟩ = some (.int .i64 d1.ct) := bw_cell (Nat.lt_of_lt_of_le hbd HWC.out.size) (below_cell1 HWC.out hbd m2)
        have q3 : ∀ t : BW wc, t.at_.cell? ⟨bd, od + tk * 6 + 1, none⟩ = some (.int .i64 d2.lv) := bw_cell (Nat.lt_of_lt_of_le hbd HWC.out.size) (below_cell1 HWC.out hbd m3)
        have q4 : ∀ t : BW wc, t.at_.cell? ⟨bd, od + tk * 6 + 2, none⟩ = some (.int .i64 d2.ct) := bw_cell (Nat.lt_of_lt_of_le hbd HWC.out.size) (below_cell1 HWC.out hbd m4)
        have HPC := Lib.hid ((HB2.out.block pb (lt_of_block HP0.out)).trans HP0.out)
        have q0 : ∀ t : BW wc, t.at_.cell? ⟨pb, 0, none⟩ = some (.slice (some ⟨bd, od, none⟩) nd c1) := bw_cell (lt_of_block HPC.out) (blk_cell HPC.out 0)
        have q5 : ∀ t : BW wc, t.at_.cell? ⟨lb, 1, none⟩ = some (.int .i64 fk) := bw_cell (lt_of_block HX2.out) (blk_cell HX2.out 1)
        have q6 : ∀ t : BW wc, t.at_.cell? ⟨lb, 2, none⟩ = some (.int .i64 tk) := bw_cell (lt_of_block HX2.out) (blk_cell HX2.out 2)
        have HLQ := Lib.hid (fun u : World => leq_calls d1.lv d1.ct d2.lv d2.ct u)
        have z1 : (0 : Int) ≤ (fk : Int) := Int.natCast_nonneg _
        have z2 : (0 : Int) ≤ (tk : Int) := Int.natCast_nonneg _
        have HDE := Lib.hid (show de = if false = true then 1 else if leqAt D fk tk = false then 10 else 0 by rw [HDE.out]; simp only [Int.toNat_natCast])
        rw [HLA.out] at HDE
        generalize leqB d1.lv d1.ct d2.lv d2.ct = ok at HLQ HDE
        generalize d1.lv = x1 at q1 HLQ
        generalize d1.ct = x2 at q2 HLQ
        generalize d2.lv = x3 at q3 HLQ
        generalize d2.ct = x4 at q4 HLQ
        unfold lab at HLQ
        clear m1 m2 m3 m4 hd1 hd2 HLA g1 g3
        cases ok with
        | true =>
          have HV := Lib.hid (show ∀ e ∈ (K.map (linkErr D)).take (j + 1), e = 0 from by
            have h1 := HE.out
            rw [HDE.out] at h1
            exact take_zero HNO.out h1)
          go_wp2_with fail
          refine wp_region_quiet_bw (by kernel_rfl) (by kernel_rfl) ?_
          repeat (go_big_quiet_step ((go_at_call 56; refine Calls.bw _ (HLQ.out _))))
          refine wpQuiet_nil ?_
          intro _ hw'
          obtain ⟨tq, rfl⟩ := hw'
          have HT := Lib.hid (HB2.out.trans (tq.ok.mono HB2.out.size))
          clear q0 q1 q2 q3 q4 q5 q6
          go_wp2_with fail
          go_roundw
          case rel => exact ⟨j + 1, by go_num, by omega, HV.out, HT.out⟩
          case measure => simp [intOf]; omega
        | false =>
          have HV := Lib.hid (show linksM D K = 10 from by
            have h1 := HE.out
            rw [HDE.out] at h1
            exact firstE_hit HNO.out h1 (by decide))
          go_wp2_with fail
          refine wp_region_quiet_bw (by kernel_rfl) (by kernel_rfl) ?_
          repeat (go_big_quiet_step ((go_at_call 56; refine Calls.bw _ (HLQ.out _))))
          refine wpQuiet_nil ?_
          intro _ hw'
          obtain ⟨tq, rfl⟩ := hw'
          have HT := Lib.hid (HWC.out.trans (tq.ok.mono HWC.out.size))
          clear q0 q1 q2 q3 q4 q5 q6
          go_wp2_with fail
          go_ret
          rw [HV.out]
          exact ⟨rfl, HT.out⟩
    · obtain rfl : j = nl := by omega
      have hc' : ¬ (j : Int) < (j : Int) := by omega
      have HV := Lib.hid (show linksM D K = 0 from firstE_zero (by
        have := HNO.out
        rwa [List.take_of_length_le (by rw [List.length_map, HL2.out]; exact Nat.le_refl _)] at this))
      go_wp2_with fail
      go_ret
      rw [HV.out]
      exact ⟨rfl, HW1.out.trans (HB.out.mono HW1.out.size)⟩
end Go.Proofs.YtbgpniepgbmkaaaDoor
