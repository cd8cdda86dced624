/- What policy.domain does. Conditions: the policy grows in memory, the line has six words that can be read. -/
import Derived.Test.YtkjhgfjlknbdkaaDoorPo
namespace Go.Proofs.YtkjhgfjlknbdkaaDoor
open Go.RowKit BigFrame Go.BigFrame

theorem lit_reads (w : World) (l : List Value) (t : TypeId) (hl : l.length ≤ 1000) : Reads (w.alloc (.cells l.toArray t)) 1 (.slice (some ⟨w.heap.size, 0, none⟩) l.length l.length) l.length l :=
  ⟨by omega, _, _, rfl, Nat.le_refl _, by unfold maxLen; omega, fun _ => ⟨_, _, rfl, fun j u hj => by rw [Nat.zero_add, blk_cell (heap_alloc_new w _)]; simpa using hj⟩⟩
theorem drop_reads {w : World} {b o n c : Nat} {xs : List Value} (m : Nat) (h : Reads w 1 (.slice (some ⟨b, o, none⟩) n c) n xs) (hm : m ≤ n) : Reads w 1 (.slice (some ⟨b, o + m, none⟩) (n - m) (c - m)) (n - m) (xs.drop m) := by
  obtain ⟨h1, a', c', e, h2, h3, h4⟩ := h
  injection e with e1 _ e3
  subst e1 e3
  refine ⟨by rw [List.length_drop, h1]; omega, _, _, rfl, by omega, by omega, fun hp => ?_⟩
  obtain ⟨b', o', e, hc⟩ := h4 (by omega)
  injection e with e
  injection e with e1 e2
  subst e1 e2
  refine ⟨_, _, rfl, fun j u hj => ?_⟩
  rw [List.getElem?_drop] at hj
  rw [Nat.add_assoc]
  exact hc _ _ hj
theorem Tryd.info_dom : (Tryd.prog.info? 37).map (fun i => (i.zero, i.size, i.bytes)) = some (some (.agg #[.string ByteArray.empty, .int .i64 0, .int .i64 0, .int .i64 0, .int .i64 0, .int .i64 0]), 6, 56) := by kernel_rfl
theorem dm_one (d : Dm) : ∀ u ∈ Dm.cells d, u.oneCell' = true := by
  intro u hu
  simp only [Dm.cells, List.mem_cons, List.not_mem_nil, or_false] at hu
  rcases hu with rfl | rfl | rfl | rfl | rfl | rfl <;> rfl
def domE (D : List Dm) (x1 x2 x3 x4 x5 : ByteArray) : Int :=
  if (!(nameB (bl x1 0)) || decide (0 ≤ findD D x1)) = true then 4
  else if (readV x2).2.2 = 0 then (if numAll [x3, x4, x5] = true then 0 else 2) else (readV x2).2.2
def domV (x1 x2 x3 x4 x5 : ByteArray) : Dm := ⟨x1, (readV x2).1, (readV x2).2.1, (numM x3).1, (numM x4).1, (numM x5).1⟩
def domD (D : List Dm) (x1 x2 x3 x4 x5 : ByteArray) : List Dm := if domE D x1 x2 x3 x4 x5 = 0 then D ++ [domV x1 x2 x3 x4 x5] else D
theorem domD_bad {D : List Dm} {x1 x2 x3 x4 x5 : ByteArray} {e : Int} (h : domE D x1 x2 x3 x4 x5 = e) (he : (e == 0) = false) : domD D x1 x2 x3 x4 x5 = D := by
  unfold domD
  rw [if_neg (by rw [h]; simpa using he)]
section
variable {w0 w : World} {pb : Nat} {D : List Dm} {S : List (Int × Int)} {K : List Lk} {vd vs vl : Value}
set_option maxRecDepth 100000 in
set_option maxHeartbeats 16000000 in
theorem domain_calls (h : PO w0 w pb D S K vd vs vl) (hT : Tab w0) {vw : Value} {x0 x1 x2 x3 x4 x5 : ByteArray} (hw : Reads w 1 vw 6 (List.map Value.string [x0, x1, x2, x3, x4, x5]))
    (hs1 : x1.size ≤ 140737488351232) (hs2 : x2.size ≤ 140737488351232) (hs3 : ∀ x ∈ [x3, x4, x5], x.size ≤ 140737488351232) (hD : D.length ≤ 5000) :
    Calls Tryd.prog 51 #[.pointer (some ⟨pb, 0, none⟩), vw] w fun e w' => e = .returned (.int .i64 (domE D x1 x2 x3 x4 x5)) ∧ POF w w' pb vd vs vl ∧ ∃ vd', PO w0 w' pb (domD D x1 x2 x3 x4 x5) S K vd' vs vl := by
  have hwr := hw
  obtain ⟨_, aw, cw, rfl, hw2, hw3, hw4⟩ := hw
  obtain ⟨bw, ow, rfl, hwc⟩ := hw4 (by omega)
  unfold maxLen at hw3
  have k1 : w.cell? ⟨bw, ow + 1, none⟩ = some (.string x1) := hwc 1 _ rfl
  have k2 : w.cell? ⟨bw, ow + 2, none⟩ = some (.string x2) := hwc 2 _ rfl
  have k3 : w.cell? ⟨bw, ow + 3, none⟩ = some (.string x3) := hwc 3 _ rfl
  have k4 : w.cell? ⟨bw, ow + 4, none⟩ = some (.string x4) := hwc 4 _ rfl
  have k5 : w.cell? ⟨bw, ow + 5, none⟩ = some (.string x5) := hwc 5 _ rfl
  have HW := Lib.hid (show w.cell? ⟨bw, ow + 1, none⟩ = some (.string x1) ∧ w.cell? ⟨bw, ow + 2, none⟩ = some (.string x2) ∧ w.cell? ⟨bw, ow + 3, none⟩ = some (.string x3) ∧ w.cell? ⟨bw, ow + 4, none⟩ = some (.string x4) ∧ w.cell? ⟨bw, ow + 5, none⟩ = some (.string x5) from ⟨k1, k2, k3, k4, k5⟩)
  have HBW := Lib.hid (block_lt_of_cell k1)
  have HP := Lib.hid h
  have HT := Lib.hid hT
  have HS1 := Lib.hid hs1
  have HS2 := Lib.hid hs2
  have HS3 := Lib.hid hs3
  have HR := Lib.hid (Reads.of_owns h.d)
  have HPB := Lib.hid (lt_of_block h.blk)
  obtain ⟨av, cv, rfl, hv1, hv2, _⟩ := owns_shape h.d
  have HC0 := Lib.hid (show w.cell? ⟨pb, 0, none⟩ = some (.slice av D.length cv) from blk_cell h.blk 0)
  have HW3 := Lib.hid hwr
  clear hwr h hT hwc hw4 k2 k3 k4 k5 hs1 hs2 hs3
  have HX0 := Lib.hid (show BoxD w.heap.size ⟨x1, 0, 0, 0, 0, 0⟩ (w.alloc (.cells #[.string x1, .int .i64 0, .int .i64 0, .int .i64 0, .int .i64 0, .int .i64 0] 37)) from heap_alloc_new w _)
  have HB0 := Lib.hid (plus_one1 w (.cells #[.string x1, .int .i64 0, .int .i64 0, .int .i64 0, .int .i64 0, .int .i64 0] 37))
  go_enter Tryd.func51, Tryd.ntmps51
  go_upto_region 2 with (fail)
  obtain ⟨db, hdb⟩ : ∃ db, db = w.heap.size := ⟨_, rfl⟩
  rw [← hdb] at HX0 ⊢
  generalize w.alloc (.cells #[.string x1, .int .i64 0, .int .i64 0, .int .i64 0, .int .i64 0, .int .i64 0] 37) = w1 at HX0 HB0 ⊢
  have HDB := Lib.hid hdb
  clear hdb
  have HDE := Lib.hid (show domE D x1 x2 x3 x4 x5 = if (!(nameB (bl x1 0)) || decide (0 ≤ findD D x1)) = true then 4
    else if (readV x2).2.2 = 0 then (if numAll [x3, x4, x5] = true then 0 else 2) else (readV x2).2.2 from rfl)
  obtain ⟨bad, hbad⟩ : ∃ bad, bad = (!(nameB (bl x1 0)) || decide (0 ≤ findD D x1)) := ⟨_, rfl⟩
  rw [← hbad] at HDE
  have HNB := Lib.hid hbad
  clear hbad
  go_cut [27] (fun u27 wx => u27 = .bool bad ∧ Below w1.heap.size w1 wx)
  case first => as_aux_lemma =>
    have hkj : ∀ t : BW w1, t.at_.cell? ⟨bw, ow + 1, none⟩ = some (.string x1) := bw_cell (Nat.lt_of_lt_of_le HBW.out HB0.out.size) (below_cell1 HB0.out HBW.out HW.out.1)
    have hkd : ∀ t : BW w1, t.at_.cell? ⟨pb, 0, none⟩ = some (.slice av D.length cv) := bw_cell (Nat.lt_of_lt_of_le HPB.out HB0.out.size) (below_cell1 HB0.out HPB.out HC0.out)
    have HNA := Lib.hid (fun u : World => signName_calls x1 HS1.out u)
    have HFI := Lib.hid (fun t : BW w1 => find_calls ((HR.out.below (by omega) HB0.out).below (by omega) t.ok) x1)
    obtain ⟨n, hn⟩ : ∃ n, n = D.length := ⟨_, rfl⟩
    rw [← hn] at hkd HFI
    clear k1 hn HR
    generalize nameB (bl x1 0) = b1 at HNA HNB
    generalize findD D x1 = f at HFI HNB
    cases b1 with
    | false =>
      have HV := Lib.hid (show bad = true by rw [HNB.out]; rfl)
      go_wp2_with fail
      refine wp_region_quiet_bw (by kernel_rfl) (by kernel_rfl) ?_
      repeat (go_big_quiet_step (first | (go_at_call 41; refine Calls.bw _ (HNA.out _)) | (go_at_call 42; refine Calls.bw _ (HFI.out _))))
      refine wpQuiet_nil ?_
      intro _ hw'
      obtain ⟨tq, rfl⟩ := hw'
      go_wp2_with fail
      go_meet
      exact ⟨by rw [HV.out], tq.ok⟩
    | true =>
      by_cases hf : 0 ≤ f
      · have HV := Lib.hid (show bad = true by rw [HNB.out, decide_eq_true hf]; rfl)
        go_wp2_with fail
        refine wp_region_quiet_bw (by kernel_rfl) (by kernel_rfl) ?_
        repeat (go_big_quiet_step (first | (go_at_call 41; refine Calls.bw _ (HNA.out _)) | (go_at_call 42; refine Calls.bw _ (HFI.out _))))
        refine wpQuiet_nil ?_
        intro _ hw'
        obtain ⟨tq, rfl⟩ := hw'
        go_wp2_with fail
        go_meet
        exact ⟨by rw [HV.out], tq.ok⟩
      · have HV := Lib.hid (show bad = false by rw [HNB.out, decide_eq_false hf]; rfl)
        have HF := Lib.hid (show decide (0 ≤ f) = bad by rw [HV.out, decide_eq_false hf])
        go_wp2_with fail
        refine wp_region_quiet_bw (by kernel_rfl) (by kernel_rfl) ?_
        repeat (go_big_quiet_step (first | (go_at_call 41; refine Calls.bw _ (HNA.out _)) | (go_at_call 42; refine Calls.bw _ (HFI.out _))))
        refine wpQuiet_nil ?_
        intro _ hw'
        obtain ⟨tq, rfl⟩ := hw'
        go_wp2_with fail
        go_meet
        exact ⟨by rw [HF.out], tq.ok⟩
  case rest =>
  obtain ⟨rfl, hb2⟩ := hcut
  have HX2 := Lib.hid (HX0.out.below hb2)
  have HB2 := Lib.hid (HB0.out.trans (hb2.mono HB0.out.size))
  clear hb2 HX0 HB0 HC0 HR k1 HNB
  cases bad with
  | true =>
    have HV := Lib.hid (show domE D x1 x2 x3 x4 x5 = 4 from HDE.out)
    clear HDE
    go_wp2_with fail
    go_ret
    rw [domD_bad HV.out rfl, HV.out]
    exact ⟨rfl, POF.of_below HB2.out, _, HP.out.below HB2.out⟩
  | false =>
    have HDE2 := Lib.hid (show domE D x1 x2 x3 x4 x5 = if (readV x2).2.2 = 0 then (if numAll [x3, x4, x5] = true then 0 else 2) else (readV x2).2.2 from HDE.out)
    have HRE := Lib.hid (fun u : World => signRead_calls x2 HS2.out u)
    have HDV := Lib.hid (show domV x1 x2 x3 x4 x5 = ⟨x1, (readV x2).1, (readV x2).2.1, (numM x3).1, (numM x4).1, (numM x5).1⟩ from rfl)
    unfold readOut lab at HRE
    obtain ⟨⟨l, c, e⟩, hv⟩ : ∃ p, readV x2 = p := ⟨_, rfl⟩
    rw [hv] at HDE2 HRE HDV
    simp only at HDE2 HRE HDV
    clear hv HDE
    have m2 := below_cell1 HB2.out HBW.out HW.out.2.1
    by_cases he : e = 0
    · subst he
      have HDE3 := Lib.hid (show domE D x1 x2 x3 x4 x5 = if numAll [x3, x4, x5] = true then 0 else 2 from HDE2.out)
      clear HDE2
      go_wp2_with fail
      refine (HRE.out _).mono ?_
      rintro e w4 ⟨rfl, hb4⟩
      have HX4 := Lib.hid (HX2.out.below hb4)
      have HB4 := Lib.hid (HB2.out.trans (hb4.mono HB2.out.size))
      clear hb4
      go_upto_region 7 with (fail)
      obtain ⟨lb, hlb⟩ : ∃ lb, lb = w4.heap.size := ⟨_, rfl⟩
      have q1 : (w4.alloc (.cells #[.int .i64 l, .int .i64 c] 35)).heap[lb]? = some (.cells #[.int .i64 l, .int .i64 c] 35 (0, 0)) := by rw [hlb]; exact heap_alloc_new w4 _
      have HX5 := Lib.hid (HX4.out.below (plus_one1 w4 (.cells #[.int .i64 l, .int .i64 c] 35)))
      have HB5 := Lib.hid (HB4.out.trans ((plus_one1 w4 (.cells #[.int .i64 l, .int .i64 c] 35)).mono HB4.out.size))
      rw [← hlb]
      generalize w4.alloc (.cells #[.int .i64 l, .int .i64 c] 35) = w5 at q1 HX5 HB5 ⊢
      clear hlb HX4 HB4 HX2 HB2 m2
      have l0 : w5.cell? ⟨lb, 0, none⟩ = some (.int .i64 l) := blk_cell q1 0
      have l1 : w5.cell? ⟨lb, 1, none⟩ = some (.int .i64 c) := blk_cell q1 1
      have d1 : w5.cell? ⟨db, 1, none⟩ = some (.int .i64 0) := blk_cell HX5.out 1
      have d2 : w5.cell? ⟨db, 2, none⟩ = some (.int .i64 0) := blk_cell HX5.out 2
      have z1 : w5.frozen? ⟨db, 1, none⟩ = false := blk_free HX5.out 1
      have z2 : w5.frozen? ⟨db, 2, none⟩ = false := blk_free HX5.out 2
      have HX6 := Lib.hid (show BoxD db ⟨x1, l, c, 0, 0, 0⟩ ((w5.setCell ⟨db, 1, none⟩ (.int .i64 l)).setCell ⟨db, 2, none⟩ (.int .i64 c)) from by
        have := blk_set (blk_set HX5.out 1 (.int .i64 l)) 2 (.int .i64 c)
        simpa [BoxD] using this)
      have HB6 := Lib.hid ((HB5.out.setCell (p := ⟨db, 1, none⟩) (Nat.le_of_eq HDB.out.symm) (.int .i64 l)).setCell (p := ⟨db, 2, none⟩) (Nat.le_of_eq HDB.out.symm) (.int .i64 c))
      go_upto_region 8 with (fail)
      generalize (w5.setCell ⟨db, 1, none⟩ (.int .i64 l)).setCell ⟨db, 2, none⟩ (.int .i64 c) = w6 at HX6 HB6 ⊢
      clear z1 z2 d1 d2 l0 l1 q1 HX5 HB5
      have hp6 := lt_of_block HX6.out
      have HNU := Lib.hid (numbers_calls (w0 := w0) (w := w6.alloc (.cells #[.pointer (some ⟨db, 3, none⟩), .pointer (some ⟨db, 4, none⟩), .pointer (some ⟨db, 5, none⟩)] 119)) HT.out ((HP.out.b.trans (HB6.out.mono HP.out.b.size)).alloc (by have := HP.out.b.size; have := HB6.out.size; omega) _) (tb := db) (by have := HP.out.b.size; have := HDB.out; omega) (W := [x3, x4, x5]) (offs := [3, 4, 5]) (vw := .slice (some ⟨bw, ow + 3, none⟩) 3 (cw - 3)) (n := 3)
        (drop_reads 3 ((HW3.out.below (by omega) HB6.out).below (by omega) (plus_one1 w6 _)) (by omega)) (by intro k hk; have := HDB.out; have := HBW.out; simp only [Value.ownBlock, Option.some.injEq] at hk; omega) (lit_reads w6 [.pointer (some ⟨db, 3, none⟩), .pointer (some ⟨db, 4, none⟩), .pointer (some ⟨db, 5, none⟩)] _ (by simp)) (by intro k hk; simp only [Value.ownBlock, Option.some.injEq] at hk; omega) (Nat.le_refl _) ((Below.heap_alloc _ _ _ hp6).trans HX6.out) (by simp) HS3.out)
      have HP6 := Lib.hid (HP.out.below (HB6.out.trans ((plus_one1 w6 (.cells #[.pointer (some ⟨db, 3, none⟩), .pointer (some ⟨db, 4, none⟩), .pointer (some ⟨db, 5, none⟩)] 119)).mono HB6.out.size)))
      have HB66 := Lib.hid (HB6.out.trans ((plus_one1 w6 (.cells #[.pointer (some ⟨db, 3, none⟩), .pointer (some ⟨db, 4, none⟩), .pointer (some ⟨db, 5, none⟩)] 119)).mono HB6.out.size))
      clear hp6 HX6 HB6
      generalize hall : numAll [x3, x4, x5] = all at HNU HDE3
      clear hall
      go_wp2_with fail
      refine HNU.out.mono ?_
      rintro e w7 ⟨rfl, hx7, cs, hcs, hc7, hal⟩
      have HP7 := Lib.hid (HP6.out.ext hx7 (by have := HP.out.b.size; have := HDB.out; omega) (fun k hk e => by have := HP.out.lt k hk; have := HDB.out; omega))
      have HB7 := Lib.hid (ext_below3 HB66.out hx7 (fun k hk => by rw [hk, HDB.out]; exact Nat.le_refl _))
      clear hx7 HP6 HB66 HNU
      cases all with
      | false =>
        have HV := Lib.hid (show domE D x1 x2 x3 x4 x5 = 2 from HDE3.out)
        clear HDE3 hal
        go_wp2_with fail
        go_ret
        rw [domD_bad HV.out rfl, HV.out]
        exact ⟨rfl, POF.of_below HB7.out, _, HP7.out⟩
      | true =>
        have HV := Lib.hid (show domE D x1 x2 x3 x4 x5 = 0 from HDE3.out)
        have HDD := Lib.hid (show domD D x1 x2 x3 x4 x5 = D ++ [⟨x1, l, c, (numM x3).1, (numM x4).1, (numM x5).1⟩] by unfold domD; rw [if_pos HV.out, HDV.out])
        have hal := hal rfl
        simp only [putN, List.map_cons, List.map_nil, List.getD_cons_zero, List.getD_cons_succ, List.setIfInBounds_toArray, List.set_cons_zero, List.set_cons_succ] at hal
        subst hal
        generalize (numM x3).1 = n3 at hc7 HDD
        generalize (numM x4).1 = n4 at hc7 HDD
        generalize (numM x5).1 = n5 at hc7 HDD
        have HX7 := Lib.hid hc7
        clear hc7 hcs HDE3 HDV
        have HPB7 := Lib.hid (lt_of_block HP7.out.blk)
        have HO := Lib.hid HP7.out.d
        have HNE := Lib.hid (fun (k : Nat) (hk : (Value.slice av D.length cv).ownBlock = some k) => show k ≠ db from by have := HP.out.lt k (.inr (.inl hk)); have := HDB.out; omega)
        obtain ⟨i0, hi0, hz0, hz1, hz2⟩ := info_parts Tryd.info_dom
        have HI0 := Lib.hid hi0
        obtain ⟨n, hn⟩ : ∃ n, n = D.length := ⟨_, rfl⟩
        have HN := Lib.hid hn
        unfold maxLen at hv2
        rw [← hn] at HNE HO hv1 hD
        have HPN := Lib.hid (show PO w0 w7 pb D S K (.slice av n cv) vs vl by rw [hn]; exact HP7.out)
        have HPF := Lib.hid (show (Value.slice av n cv).ownBlock = (Value.slice av D.length cv).ownBlock by rw [hn])
        clear hi0 HP7 hn
        go_upto_region 10 with (fail)
        refine wp_region_W 11 10 (fun w' : World => w'.heap[pb]? = some (.cells #[.slice av n cv, vs, vl] 26 (0, 0)) ∧ w'.heap[db]? = some (.cells #[.string x1, .int .i64 l, .int .i64 c, .int .i64 n3, .int .i64 n4, .int .i64 n5] 37 (0, 0))) (by kernel_rfl) (by kernel_rfl) ⟨HPN.out.blk, HX7.out⟩ (fun hT => ?_)
        refine wpAnyW_take (i := 0) (some 48) rfl rfl (by kernel_rfl) (by kernel_rfl) (by kernel_rfl) (by kernel_rfl) (fun _ _ _ h => h) (v := ?_) (.inl ⟨by rfl, ?_⟩) (.inr hT) ?_
        rotate_left
        · (intro wT _; go_simp <;> with_reducible rfl)
        simp only [Act.put, List.setIfInBounds_toArray, List.set_cons_zero, List.set_cons_succ]
        refine wpAnyW_take (i := 1) (some 49) rfl rfl (by kernel_rfl) (by kernel_rfl) (by kernel_rfl) (by kernel_rfl) (fun _ _ _ h => h) (v := ?_) (.inl ⟨by rfl, ?_⟩) (.inr hT) ?_
        rotate_left
        · (intro wT _; go_simp <;> with_reducible rfl)
        simp only [Act.put, List.setIfInBounds_toArray, List.set_cons_zero, List.set_cons_succ]
        refine wpAnyW_take (i := 2) (some 50) rfl rfl (by kernel_rfl) (by kernel_rfl) (by kernel_rfl) (by kernel_rfl) (fun _ _ _ h => h) (v := ?_) (.inl ⟨by rfl, ?_⟩) (.inr hT) ?_
        rotate_left
        · (intro wT _; go_simp <;> with_reducible rfl)
        simp only [Act.put, List.setIfInBounds_toArray, List.set_cons_zero, List.set_cons_succ]
        refine wpAnyW_take (i := 3) (some 51) rfl rfl (by kernel_rfl) (by kernel_rfl) (by kernel_rfl) (by kernel_rfl) (fun _ _ _ h => h) (v := ?_) (.inl ⟨by rfl, ?_⟩) (.inr hT) ?_
        rotate_left
        · (intro wT _; go_simp <;> with_reducible rfl)
        simp only [Act.put, List.setIfInBounds_toArray, List.set_cons_zero, List.set_cons_succ]
        refine wpAnyW_load (i := 4) (some 52) rfl rfl (by kernel_rfl) (by kernel_rfl) (by kernel_rfl) (by kernel_rfl) (by kernel_rfl) (fun _ _ _ h => h) (v := ?_) (.inl ⟨by rfl, ?_⟩) hT ?_
        rotate_left
        · (intro wT hT; try dsimp only at hT); (obtain ⟨hC, hD⟩ := hT; have t0 : wT.cell? ⟨pb, 0, none⟩ = some (.slice av n cv) := blk_cell hC 0; have e0 : wT.cell? ⟨db, 0, none⟩ = some (.string x1) := blk_cell hD 0; have e1 : wT.cell? ⟨db, 1, none⟩ = some (.int .i64 l) := blk_cell hD 1; have e2 : wT.cell? ⟨db, 2, none⟩ = some (.int .i64 c) := blk_cell hD 2; have e3 : wT.cell? ⟨db, 3, none⟩ = some (.int .i64 n3) := blk_cell hD 3; have e4 : wT.cell? ⟨db, 4, none⟩ = some (.int .i64 n4) := blk_cell hD 4; have e5 : wT.cell? ⟨db, 5, none⟩ = some (.int .i64 n5) := blk_cell hD 5; clear hC hD); (go_simp <;> with_reducible rfl)
        simp only [Act.put, List.setIfInBounds_toArray, List.set_cons_zero, List.set_cons_succ]
        refine wpAnyW_load (i := 5) (some 53) rfl rfl (by kernel_rfl) (by kernel_rfl) (by kernel_rfl) (by kernel_rfl) (by kernel_rfl) (fun _ _ _ h => h) (v := ?_) (.inl ⟨by rfl, ?_⟩) hT ?_
        rotate_left
        · (intro wT hT; try dsimp only at hT); (obtain ⟨hC, hD⟩ := hT; have t0 : wT.cell? ⟨pb, 0, none⟩ = some (.slice av n cv) := blk_cell hC 0; have e0 : wT.cell? ⟨db, 0, none⟩ = some (.string x1) := blk_cell hD 0; have e1 : wT.cell? ⟨db, 1, none⟩ = some (.int .i64 l) := blk_cell hD 1; have e2 : wT.cell? ⟨db, 2, none⟩ = some (.int .i64 c) := blk_cell hD 2; have e3 : wT.cell? ⟨db, 3, none⟩ = some (.int .i64 n3) := blk_cell hD 3; have e4 : wT.cell? ⟨db, 4, none⟩ = some (.int .i64 n4) := blk_cell hD 4; have e5 : wT.cell? ⟨db, 5, none⟩ = some (.int .i64 n5) := blk_cell hD 5; clear hC hD); (go_simp <;> with_reducible rfl)
        simp only [Act.put, List.setIfInBounds_toArray, List.set_cons_zero, List.set_cons_succ]
        refine wpAnyW_one (i := 6) (by kernel_rfl) rfl (fun K hK => ?_)
        go_simp
        refine name_world2 (fun W21 hW21 => ?_)
        have hb21 : W21.heap[pb]? = some (.cells #[.slice av n cv, vs, vl] 26 (0, 0)) := by rw [hW21]; exact (Below.heap_alloc _ _ _ HPB7.out).trans HPN.out.blk
        have hx21 : W21.heap[db]? = some (.cells #[.string x1, .int .i64 l, .int .i64 c, .int .i64 n3, .int .i64 n4, .int .i64 n5] 37 (0, 0)) := by rw [hW21]; exact (Below.heap_alloc _ _ _ (lt_of_block HX7.out)).trans HX7.out
        have own21 : W21.ownsRow w0.heap.size 37 6 (.slice av n cv) n (D.flatMap Dm.cells) := by
          rw [hW21]
          exact (owns_same HO.out (fun _ _ => rfl) : w7.drew.ownsRow w0.heap.size 37 6 (.slice av n cv) n (D.flatMap Dm.cells)).alloc _
        have bel21 : w0.heap.size ≤ W21.heap.size := by rw [hW21]; exact Nat.le_trans HPN.out.b.size (plus_one1 w7.drew _).size
        have news21 : ∀ (j : Nat) (u : Value), (Dm.cells ⟨x1, l, c, n3, n4, n5⟩)[j]? = some u → W21.cell? ((⟨w7.heap.size, 0, none⟩ : Addr).add j) = some u := by
          intro j u hj
          rw [hW21]
          exact news_cells w7.drew #[.string x1, .int .i64 l, .int .i64 c, .int .i64 n3, .int .i64 n4, .int .i64 n5] _ w7.heap.size rfl j u hj
        have HW21 := Lib.hid (show W21 = w7.drew.alloc (.cells #[.string x1, .int .i64 l, .int .i64 c, .int .i64 n3, .int .i64 n4, .int .i64 n5] 37) from hW21.trans rfl)
        clear hW21
        refine step_owe hK ?_ (fun hT => ?_)
        · first | exact ⟨hb21, hx21⟩ | exact ⟨hb22, hx22⟩
        clear hK K
        refine wpAnyW_one (i := 7) (by kernel_rfl) rfl (fun K hK => ?_)
        refine step_append_at (by rfl) (.tmp 52) (.tmp 54) 22 (by rfl) w0.heap.size 37 i0 (.agg #[.string ByteArray.empty, .int .i64 0, .int .i64 0, .int .i64 0, .int .i64 0, .int .i64 0]) 6 56 Tryd.underlying22 HI0.out hz0 hz1 hz2 rfl (by omega) (.slice av n cv) n (D.flatMap Dm.cells) (by rfl) own21 ⟨w7.heap.size, 0, none⟩ 1 1 (Dm.cells ⟨x1, l, c, n3, n4, n5⟩) (by rfl) rfl news21 (dm_one _) (by unfold maxLen; omega) (by omega) bel21 ?_
        intro v22 W22 own22 grow22 at22
        have HADD := Lib.hid (HPN.out.addD (o := .cells #[.string x1, .int .i64 l, .int .i64 c, .int .i64 n3, .int .i64 n4, .int .i64 n5] 37) (x := ⟨x1, l, c, n3, n4, n5⟩) (by rw [← HW21.out]; exact grow22) (v' := v22) (by rw [← HN.out]; exact own22) (by rw [← HW21.out]; exact at22))
        have hb22 := HADD.out.2
        have hx22 : W22.heap[db]? = some (.cells #[.string x1, .int .i64 l, .int .i64 c, .int .i64 n3, .int .i64 n4, .int .i64 n5] 37 (0, 0)) := (grow22.block db (lt_of_block hx21) (fun e => HNE.out _ e.symm rfl)).trans hx21
        obtain ⟨a22, c22, rfl, _, _, _⟩ := owns_shape own22
        have z22 : W22.frozen? ⟨pb, 0, none⟩ = false := blk_free hb22 0
        have m22 : W22.cell? ⟨pb, 0, none⟩ = some (.slice av n cv) := blk_cell hb22 0
        refine step_owe hK ?_ (fun hT => ?_)
        · first | exact ⟨hb21, hx21⟩ | exact ⟨hb22, hx22⟩
        clear hK K
        refine wpAnyW_take (i := 8) (some 56) rfl rfl (by kernel_rfl) (by kernel_rfl) (by kernel_rfl) (by kernel_rfl) (fun _ _ _ h => h) (v := ?_) (.inl ⟨by rfl, ?_⟩) (.inr hT) ?_
        rotate_left
        · (intro wT _; go_simp <;> with_reducible rfl)
        simp only [Act.put, List.setIfInBounds_toArray, List.set_cons_zero, List.set_cons_succ]
        refine wpAnyW_take (i := 9) (some 57) rfl rfl (by kernel_rfl) (by kernel_rfl) (by kernel_rfl) (by kernel_rfl) (fun _ _ _ h => h) (v := ?_) (.inl ⟨by rfl, ?_⟩) (.inr hT) ?_
        rotate_left
        · (intro wT _; go_simp <;> with_reducible rfl)
        simp only [Act.put, List.setIfInBounds_toArray, List.set_cons_zero, List.set_cons_succ]
        refine wpAnyW_one (i := 10) (by kernel_rfl) rfl (fun K hK => ?_)
        go_simp
        refine step_paid hK (by kernel_rfl) ?_
        clear hK K
        refine wpAnyW_done (by kernel_rfl) ?_
        have HA2 := Lib.hid HADD.out.1
        clear own22 grow22 at22 own21 bel21 news21 hb21 hx21 hx22 hb22 HADD HW21
        go_wp2_with fail
        go_ret
        rw [HV.out, HDD.out]
        exact ⟨rfl, POF.before HB7.out (by rw [← HN.out]; exact HA2.out.2), _, HA2.out.1⟩
    · have HV := Lib.hid (show domE D x1 x2 x3 x4 x5 = e by rw [HDE2.out, if_neg he])
      have he' : (e == 0) = false := by simpa using he
      have hen : (e != 0) = true := by simpa using he
      clear HDE2 he
      go_wp2_with fail
      refine (HRE.out _).mono ?_
      rintro e w4 ⟨rfl, hb4⟩
      have HB4 := Lib.hid (HB2.out.trans (hb4.mono HB2.out.size))
      clear hb4
      have HB5 := Lib.hid (HB4.out.trans ((plus_one1 w4 (.cells #[.int .i64 l, .int .i64 c] 35)).mono HB4.out.size))
      go_wp2_with fail
      go_ret
      rw [domD_bad HV.out he', HV.out]
      exact ⟨rfl, POF.of_below HB5.out, _, HP.out.below HB5.out⟩
end
end Go.Proofs.YtkjhgfjlknbdkaaDoor
