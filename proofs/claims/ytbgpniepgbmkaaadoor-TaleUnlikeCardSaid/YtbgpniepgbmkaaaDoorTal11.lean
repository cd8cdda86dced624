/- What tale.Read does. Conditions: the policy can be read, its names and the text are not longer than 2^47 bytes, the library's table and its two errors are laid (TabT). -/
import Derived.Test.YtbgpniepgbmkaaaDoorTal10
namespace Go.Proofs.YtbgpniepgbmkaaaDoor
open Go.RowKit BigFrame Go.BigFrame

def wlen : Option Value → Nat
  | some v => vlen v
  | none => 0
theorem wd_flat_len (L : List Wd) : (L.flatMap wdCells).length = L.length * 3 := by
  induction L with
  | nil => rfl
  | cons d L ih => rw [List.flatMap_cons, List.length_append, ih, wd_len, List.length_cons]; omega
/-- The words behind the first ones. -/
theorem words_drop {w : World} {bl o n c tn : Nat} {T R : List Wd} (h : Reads w 3 (.slice (some ⟨bl, o, none⟩) n c) n ((T ++ R).flatMap wdCells)) (hl : (T ++ R).length = n) (ht : T.length = tn) (hn : 0 < n) :
    (c = tn → Reads w 3 (.slice (some ⟨bl, o, none⟩) 0 0) R.length (R.flatMap wdCells)) ∧ (c ≠ tn → Reads w 3 (.slice (some ⟨bl, o + tn * 3, none⟩) (n - tn) (c - tn)) R.length (R.flatMap wdCells)) := by
  obtain ⟨h1, a, c', e, h2, h3, h4⟩ := h
  injection e with e1 _ e3
  subst e1 e3
  obtain ⟨b', o', e, hc⟩ := h4 hn
  injection e with e
  injection e with e1 e2
  subst e1 e2
  have hR : R.length = n - tn := by rw [← hl, List.length_append]; omega
  have hf := wd_flat_len R
  refine ⟨fun hct => ?_, fun hct => ⟨hf, _, _, by rw [hR], by omega, by omega, fun _ => ⟨_, _, rfl, fun j u hj => ?_⟩⟩⟩
  · have h0 : R = [] := List.eq_nil_of_length_eq_zero (by rw [List.length_append] at hl; omega)
    subst h0
    exact ⟨rfl, _, _, rfl, Nat.le_refl _, Nat.zero_le _, fun h => by simp at h⟩
  · rw [Nat.add_assoc]
    refine hc _ _ ?_
    have hT := wd_flat_len T
    rw [List.flatMap_append, List.getElem?_append_right (by rw [hT]; omega), hT, show tn * 3 + j - T.length * 3 = j by omega]
    exact hj
theorem reads_clip {w : World} {k n c : Nat} {a : Option Addr} {xs : List Value} (h : Reads w k (.slice a n c) n xs) : Reads w k (.slice a n n) n xs := by
  obtain ⟨h1, a', c', e, h2, h3, h4⟩ := h
  injection e with e1 _ e3
  subst e1 e3
  exact ⟨h1, _, _, rfl, Nat.le_refl _, Nat.le_trans h2 h3, h4⟩
theorem en_flat_len (L : List En) : (L.flatMap enCells).length = L.length * 7 := by
  induction L with
  | nil => rfl
  | cons d L ih => rw [List.flatMap_cons, List.length_append, ih, en_len, List.length_cons]; omega
set_option maxRecDepth 100000 in
set_option maxHeartbeats 64000000 in
theorem tread_calls {w : World} (ht : TabT w) {vd vs vl : Value} {p : P3} (h : PR w vd vs vl p) (hz : ∀ d ∈ p.D, d.nm.size ≤ 140737488351232) (s : ByteArray) (hs : s.size ≤ 140737488351232) :
    Calls Tryd.prog 10 #[.agg #[vd, vs, vl], .string s] w fun e w' => ∃ v, e = .returned (.tuple #[v, .int .i64 (readT p s).2.1, .int .i64 (readT p s).2.2]) ∧ Reads w' 7 v (readT p s).1.length ((readT p s).1.flatMap enCells) ∧ Below w.heap.size w w' := by
  have HPR := Lib.hid h
  have HT := Lib.hid ht
  have HZ := Lib.hid hz
  have HB1 := Lib.hid (plus_one1 w (.cells #[vd, vs, vl] 26))
  have HP1 := Lib.hid (heap_alloc_new w (.cells #[vd, vs, vl] 26))
  have HCH := Lib.hid (fun (u : World) (hu : Below w.heap.size w u) => check_calls (HPR.out.d.below (by omega) hu) (HPR.out.s.below (by omega) hu) (HPR.out.k.below (by omega) hu) HZ.out)
  have HM := Lib.hid (show readT p s = if checkM p.D p.S p.K = 0 then (if (lexM s).2.1 = 0 then readRun p.D (lexM s).1.length [] (lexM s).1 else ([], (lexM s).2.2.1, (lexM s).2.1)) else ([], 0, checkM p.D p.S p.K) from rfl)
  have HWO := Lib.hid (fun u : World => words_calls s hs u)
  have HSZ := Lib.hid (lexM_sz s)
  have HLE := Lib.hid (lexM_len s)
  obtain ⟨ch, hch⟩ : ∃ c, c = checkM p.D p.S p.K := ⟨_, rfl⟩
  rw [← hch] at HCH HM
  obtain ⟨⟨L, e, ln, co⟩, hl⟩ : ∃ q, lexM s = q := ⟨_, rfl⟩
  rw [hl] at HM HWO HSZ HLE
  simp only at HM HWO HSZ HLE
  clear hl hch h ht hz hs
  go_enter Tryd.func10, Tryd.ntmps10
  go_upto_region 1 with (fail)
  obtain ⟨pb, hpb⟩ : ∃ b, b = w.heap.size := ⟨_, rfl⟩
  rw [← hpb] at HP1 ⊢
  generalize w.alloc (.cells #[vd, vs, vl] 26) = w1 at HB1 HP1 ⊢
  clear hpb
  have q0 : w1.cell? ⟨pb, 0, none⟩ = some vd := blk_cell HP1.out 0
  have q1 : w1.cell? ⟨pb, 1, none⟩ = some vs := blk_cell HP1.out 1
  have q2 : w1.cell? ⟨pb, 2, none⟩ = some vl := blk_cell HP1.out 2
  go_wp2_with fail
  refine (HCH.out w1 HB1.out).mono ?_
  rintro e w2 ⟨rfl, hb2⟩
  have HB2 := Lib.hid (HB1.out.trans (hb2.mono HB1.out.size))
  have HP2 := Lib.hid ((hb2.block pb (lt_of_block HP1.out)).trans HP1.out)
  clear hb2 q0 q1 q2 HP1 HB1 HCH
  by_cases hc0 : ch = 0
  rotate_left
  · have HV := Lib.hid (show readT p s = ([], 0, ch) by rw [HM.out, if_neg hc0])
    have he' : (ch == 0) = false := by simpa using hc0
    have hen : (ch != 0) = true := by simpa using hc0
    clear hc0
    go_wp2_with fail
    go_ret3
    rw [HV.out]
    exact ⟨_, rfl, Reads.nil _ _, HB2.out⟩
  subst hc0
  go_wp2_with fail
  refine (HWO.out w2).mono ?_
  rintro e w3 ⟨v, rfl, hr3, hk3, hb3⟩
  obtain ⟨va, vcap, hv, _, _⟩ := reads_shape hr3 (m := L.length) rfl
  obtain ⟨vlen0, hvl⟩ : ∃ m, m = L.length := ⟨_, rfl⟩
  rw [← hvl] at hv
  subst hv
  have HB3 := Lib.hid (HB2.out.trans (hb3.mono HB2.out.size))
  have HP3 := Lib.hid ((hb3.block pb (lt_of_block HP2.out)).trans HP2.out)
  have HR3 := Lib.hid hr3
  have HK3 := Lib.hid (show WB w3 (.slice va vlen0 vcap) from fun k h => (hk3 k h).2)
  clear hr3 hk3 hb3 HP2 HB2 HWO hvl
  have HB4 := Lib.hid (HB3.out.trans ((plus_one1 w3 (.cells #[.slice va vlen0 vcap] 58)).mono HB3.out.size))
  have HW4 := Lib.hid (heap_alloc_new w3 (.cells #[.slice va vlen0 vcap] 58))
  have HX4 := Lib.hid (show ∀ k, k < w3.heap.size → (w3.alloc (.cells #[.slice va vlen0 vcap] 58)).heap[k]? = w3.heap[k]? from fun k hk => Below.heap_alloc w3 _ k hk)
  go_upto_region 5 with (fail)
  obtain ⟨wb, hwb⟩ : ∃ b, b = w3.heap.size := ⟨_, rfl⟩
  rw [← hwb] at HW4 HX4 ⊢
  have HWG := Lib.hid (show w.heap.size ≤ wb by have := HB3.out.size; omega)
  generalize w3.alloc (.cells #[.slice va vlen0 vcap] 58) = w4 at HB4 HW4 HX4 ⊢
  have HP4 := Lib.hid ((HX4.out pb (by have := lt_of_block HP3.out; omega)).trans HP3.out)
  have HR4 := Lib.hid (HR3.out.frame (fun k hk => HX4.out k (by
    obtain ⟨_, _, hc⟩ := HK3.out k hk
    have := lt_of_block hc
    omega)))
  have HK4 := Lib.hid (HK3.out.same (fun k hk => HX4.out k (by
    obtain ⟨_, _, hc⟩ := HK3.out k hk
    have := lt_of_block hc
    omega)))
  clear hwb HX4 HB3 HP3 HR3 HK3
  by_cases he0 : e = 0
  rotate_left
  · have HV := Lib.hid (show readT p s = ([], ln, e) by rw [HM.out, if_pos trivial, if_neg he0])
    have he' : (e == 0) = false := by simpa using he0
    have hen : (e != 0) = true := by simpa using he0
    clear he0
    go_wp2_with fail
    go_ret3
    rw [HV.out]
    exact ⟨_, rfl, Reads.nil _ _, HB4.out⟩
  subst he0
  have HM2 := Lib.hid (show readT p s = readRun p.D L.length [] L by rw [HM.out, if_pos trivial, if_pos rfl])
  clear HM
  go_wp2_with fail
  go_loopw [4] (fun u4 wr => ∃ (L' : List Wd) (out : List En) (v' : Value) (f : Nat), wr.heap[wb]? = some (.cells #[v'] 58 (0, 0)) ∧ Reads wr 3 v' L'.length (L'.flatMap wdCells) ∧ WB wr v' ∧ wr.ownsRow w.heap.size 28 7 u4 out.length (out.flatMap enCells) ∧ Below w.heap.size w wr ∧ wr.heap[pb]? = some (.cells #[vd, vs, vl] 26 (0, 0)) ∧ readRun p.D L.length [] L = readRun p.D f out L' ∧ L'.length ≤ f ∧ (∀ d ∈ L', d.tx.size ≤ 4096) ∧ out.length + L'.length ≤ 4097) (fun _ wr => wlen (wr.cell? ⟨wb, 0, none⟩))
  case atStart => exact ⟨L, [], _, L.length, HW4.out, HR4.out, HK4.out, World.ownsRow_nil _ _ _ _, HB4.out, HP4.out, rfl, Nat.le_refl _, HSZ.out, by simpa using HLE.out⟩
  case round =>
  obtain ⟨L', out, v', f, hwb, hrd, hkd, hown, hb, hpp, hrun, hf, hsz, hlen⟩ := hrel
  have HW := Lib.hid hwb
  have HR := Lib.hid hrd
  have HK := Lib.hid hkd
  have HO := Lib.hid hown
  have HB := Lib.hid hb
  have HP := Lib.hid hpp
  have HRU := Lib.hid hrun
  have HSZ2 := Lib.hid hsz
  have HLN := Lib.hid hlen
  have HF := Lib.hid hf
  have p0 : wr.cell? ⟨wb, 0, none⟩ = some v' := blk_cell HW.out 0
  have HML := Lib.hid (show wlen (wr.cell? ⟨wb, 0, none⟩) = L'.length by rw [p0]; exact reads_vlen HR.out)
  clear hwb hrd hkd hown hb hpp hrun hsz hlen hf HW4 HR4 HK4 HB4 HP4
  cases L' with
  | nil =>
    obtain ⟨_, a5, c5, rfl, _, _, _⟩ := HR.out
    have HV := Lib.hid (show readT p s = (out, 0, 0) by rw [HM2.out, HRU.out]; cases f <;> rfl)
    obtain ⟨ad, cd, rfl, d1, d2, _⟩ := owns_shape HO.out
    have HRE := Lib.hid (reads_clip (Reads.of_owns HO.out))
    have HCL := Lib.hid (clipE_calls (a := ad) d1 d2 wr)
    clear d1 d2 HM2 HRU
    go_wp2_with fail
    refine HCL.out.mono ?_
    rintro e wx ⟨rfl, rfl⟩
    go_wp2_with fail
    go_ret3
    rw [HV.out]
    exact ⟨_, rfl, HRE.out, HB.out⟩
  | cons a L1 =>
  obtain ⟨bl, o, c, rfl, hc1, hc2, m0, m1, _, _⟩ := words_open HR.out
  unfold maxLen at hc2
  obtain ⟨n, hn⟩ : ∃ n, n = L1.length + 1 := ⟨_, rfl⟩
  have HN := Lib.hid hn
  have HRn := Lib.hid (show Reads wr 3 (.slice (some ⟨bl, o, none⟩) n c) n ((a :: L1).flatMap wdCells) by rw [hn]; exact HR.out)
  rw [← hn] at hc1 p0 HW HK
  have HIF := Lib.hid (indexFuncW_calls HRn.out (by rw [List.length_cons]; exact hn.symm) a.ln (wb := wb) (b2 := bl) (o2 := o) (k := n) (cw := c) (by omega) (by omega) ⟨p0, m1⟩)
  have hmf : ∀ (fn : Fn) (first cap : Array Value) (w : World), (Instr.makeFunc fn first cap).run Tryd.prog w = .ok (.func fn first cap) w := fun _ _ _ _ => rfl
  obtain ⟨T, hT⟩ : ∃ T, T = (a :: L1).takeWhile (fun d => decide (d.ln = a.ln)) := ⟨_, rfl⟩
  obtain ⟨R, hR⟩ : ∃ R, R = (a :: L1).dropWhile (fun d => decide (d.ln = a.ln)) := ⟨_, rfl⟩
  have HTR := Lib.hid (show a :: L1 = T ++ R by rw [hT, hR]; exact List.takeWhile_append_dropWhile.symm)
  obtain ⟨tn, htn⟩ : ∃ t, t = T.length := ⟨_, rfl⟩
  have HTN := Lib.hid htn
  have hT1 : 1 ≤ tn := by rw [htn, hT, List.takeWhile_cons, decide_eq_true rfl]; simp
  have hTn : tn ≤ n := by
    have h1 := congrArg List.length HTR.out
    rw [List.length_append, List.length_cons] at h1
    omega
  have HIX := Lib.hid (show lnIx (a :: L1) a.ln = if tn < n then (tn : Int) else -1 by
    unfold lnIx lnLen
    rw [← hT, ← htn, List.length_cons, ← hn])
  obtain ⟨f', rfl⟩ : ∃ f', f = f' + 1 := ⟨f - 1, by have := HF.out; rw [List.length_cons] at this; omega⟩
  have HRU2 := Lib.hid (show readRun p.D L.length [] L = if (entM p.D (T.map Wd.tx)).2 = 0 then readRun p.D f' (out ++ [(entM p.D (T.map Wd.tx)).1]) R else ([], a.ln, (entM p.D (T.map Wd.tx)).2) by
    rw [HRU.out, readRun, ← hT, ← hR])
  have HLR := Lib.hid (show R.length + tn = n by
    have h1 := congrArg List.length HTR.out
    rw [List.length_append, List.length_cons] at h1
    omega)
  have HM1 := Lib.hid m1
  have hnz : (0 : Int) < (n : Int) := by omega
  have htz : (0 : Int) ≤ (tn : Int) := Int.natCast_nonneg _
  clear m0 m1 hn hT hR htn HRU
  obtain ⟨ix, hix⟩ : ∃ i, i = lnIx (a :: L1) a.ln := ⟨_, rfl⟩
  rw [← hix] at HIF HIX
  clear hix
  go_wp2_with fail
  refine HIF.out.mono ?_
  rintro e w5 ⟨rfl, hb5⟩
  have HB5 := Lib.hid (HB.out.trans (hb5.mono HB.out.size))
  have HW5 := Lib.hid ((hb5.block wb (lt_of_block HW.out)).trans HW.out)
  have HP5 := Lib.hid ((hb5.block pb (lt_of_block HP.out)).trans HP.out)
  have HO5 := Lib.hid (owns_same HO.out (fun k hk => hb5.block k (HO.out.lt k hk).2))
  have HK5 := Lib.hid (HK.out.below hb5)
  have HR5 := Lib.hid (HRn.out.below (by omega) hb5)
  have HM5 := Lib.hid (below_cell1 hb5 (block_lt_of_cell HM1.out) HM1.out)
  clear hb5 HB HW HP HO HK HRn HR HM1 p0 HIF hmf
  have p5 : w5.cell? ⟨wb, 0, none⟩ = some (.slice (some ⟨bl, o, none⟩) n c) := blk_cell HW5.out 0
  go_upto_if 39 with (fail)
  go_cut [10] (fun u wc => u = .int .i64 (tn : Int) ∧ wc = w5)
  case first => as_aux_lemma =>
    by_cases hlt : tn < n
    · obtain rfl : ix = (tn : Int) := by rw [HIX.out, if_pos hlt]
      have h0 : ¬ (tn : Int) < 0 := by omega
      go_wp2_with fail
      go_meet
      exact ⟨rfl, rfl⟩
    · obtain rfl : ix = -1 := by rw [HIX.out, if_neg hlt]
      obtain rfl : tn = n := by omega
      go_wp2_with fail
      go_meet
      exact ⟨rfl, rfl⟩
  case rest =>
  obtain ⟨rfl, rfl⟩ := hcut
  have htc : tn ≤ c := Nat.le_trans hTn hc1
  obtain ⟨i0, hi0, hz0, hz1, hz2⟩ := info_parts Tryd.info_str
  have HI := Lib.hid hi0
  obtain ⟨i1, hi1, hy0, hy1, hy2⟩ := info_parts Tryd.info_en
  have HI1 := Lib.hid hi1
  obtain ⟨wo, hwo⟩ : ∃ wo, wo = wc := ⟨_, rfl⟩
  subst hwo
  clear hi0 hi1 HIX
  go_wp2_with fail
  clear p5
  go_loopw [11, 46] (fun u11 u46 wx => ∃ j : Nat, u46 = .int .i64 (j : Int) ∧ j ≤ tn ∧ Below wo.heap.size wo wx ∧ wx.ownsRow wo.heap.size 9 1 u11 j (((T.take j).map Wd.tx).map Value.string)) (fun _ u46 _ => tn - (intOf u46).toNat)
  case atStart => exact ⟨0, rfl, Nat.zero_le _, Below.refl _ _, World.ownsRow_nil _ _ _ _⟩
  case round =>
  obtain ⟨j, rfl, hj, hb, hown⟩ := hrel
  have HBX := Lib.hid hb
  have HOX := Lib.hid hown
  have hjz : (0 : Int) ≤ (j : Int) := Int.natCast_nonneg _
  clear hb hown
  by_cases hjt : j < tn
  · have hjt' : (j : Int) < (tn : Int) := by omega
    obtain ⟨d, hd⟩ : ∃ d, T[j]? = some d := ⟨_, List.getElem?_eq_getElem (by rw [← HTN.out]; exact hjt)⟩
    have hdL : (a :: L1)[j]? = some d := by rw [HTR.out, List.getElem?_append_left (by rw [← HTN.out]; exact hjt)]; exact hd
    have hbl : bl < wo.heap.size := block_lt_of_cell HM5.out
    have k0 := below_cell1 HBX.out hbl (rows_at (f := wdCells) HR5.out (fun x _ => wd_len x) hdL (by omega) (j := 0) rfl)
    have k1 := below_cell1 HBX.out hbl (rows_at (f := wdCells) HR5.out (fun x _ => wd_len x) hdL (by omega) (j := 1) rfl)
    have k2 := below_cell1 HBX.out hbl (rows_at (f := wdCells) HR5.out (fun x _ => wd_len x) hdL (by omega) (j := 2) rfl)
    rw [Nat.add_zero] at k0
    have HTK := Lib.hid (show (T.take (j + 1)).map Wd.tx = (T.take j).map Wd.tx ++ [d.tx] by rw [List.take_add_one, hd]; simp)
    obtain ⟨tx, dl, dc⟩ := d
    simp only at k0 k1 k2 HTK
    clear hd hdL hbl
    have HD6 := Lib.hid (heap_alloc_new wr (.cells #[.string tx, .int .i64 dl, .int .i64 dc] 63))
    have HB6 := Lib.hid (plus_one1 wr (.cells #[.string tx, .int .i64 dl, .int .i64 dc] 63))
    go_upto_region 15 with (fail)
    clear k0 k1 k2
    obtain ⟨db, hdb⟩ : ∃ b, b = wr.heap.size := ⟨_, rfl⟩
    have HBS := Lib.hid HBX.out.size
    have hown0 := HOX.out
    rw [← hdb] at HD6 ⊢
    generalize wr.alloc (.cells #[.string tx, .int .i64 dl, .int .i64 dc] 63) = w6 at HD6 HB6 ⊢
    have HB7 := Lib.hid (HBX.out.trans (HB6.out.mono (by have := HBS.out; omega)))
    have hown : w6.ownsRow wo.heap.size 9 1 _ j (((T.take j).map Wd.tx).map Value.string) := owns_same hown0 (fun k hk => HB6.out.block k (by have := (hown0.lt k hk).2; omega))
    have d0 : w6.cell? ⟨db, 0, none⟩ = some (.string tx) := blk_cell HD6.out 0
    clear hown0 hdb HOX HBX HB6
    go_wp2_with (at_builtin; refine wpList_append_own _ rfl _ _ 46 rfl wo.heap.size 9 i0 (.string ByteArray.empty) 1 16 Tryd.underlying46 HI.out hz0 hz1 hz2 rfl (by decide) _ _ _ rfl (hown.alloc _) ⟨w6.heap.size, 0, none⟩ 1 1 [.string tx] rfl rfl ?c1 ?c2 ?c3 ?c4 ?c5 ?_)
    case c1 => exact news_one w6 _ _
    case c2 => intro u hu; rw [List.mem_singleton] at hu; subst hu; rfl
    case c3 => unfold maxLen; have := HLN.out; have := HLR.out; have := HN.out; rw [List.length_cons] at *; omega
    case c4 => have := HLN.out; have := HLR.out; have := HN.out; rw [List.length_cons] at *; omega
    case c5 => have := HB7.out.size; simp; omega
    intro v8 w8 hown' hgr _
    have HB8 := Lib.hid ((HB7.out.alloc (Nat.le_trans HB7.out.size (Nat.le_refl _)) (.cells #[.string tx] 9)).grown hgr (Nat.le_trans HB7.out.size (plus_one1 w6 _).size) (fun k hk => (hown.lt k hk).1))
    have HO8 := Lib.hid (show w8.ownsRow wo.heap.size 9 1 v8 (j + 1) (((T.take (j + 1)).map Wd.tx).map Value.string) by
      rw [HTK.out]
      simpa using hown')
    clear hown hgr hown' d0
    go_wp2_with fail
    go_roundw
    case rel => exact ⟨j + 1, by go_num, by omega, HB8.out, HO8.out⟩
    case measure => simp [intOf]; omega
  obtain rfl : j = tn := by omega
  have hjt' : ¬ (j : Int) < (j : Int) := by omega
  have htk : T.take j = T := List.take_of_length_le (by rw [← HTN.out]; exact Nat.le_refl _)
  have HE := Lib.hid (entry_calls (vs := vs) (vl := vl) (HT.out.below (HB5.out.trans (HBX.out.mono HB5.out.size))) (HPR.out.d.below (by omega) (HB5.out.trans (HBX.out.mono HB5.out.size))) (show Reads wr 1 _ j ((T.map Wd.tx).map Value.string) by
    have := Reads.of_owns HOX.out
    rwa [htk] at this) (by omega) (fun x hx => by
      obtain ⟨d, hd, rfl⟩ := List.mem_map.1 hx
      exact Nat.le_trans (HSZ2.out d (by rw [HTR.out]; simp [hd])) (by decide)))
  have HB7 := Lib.hid (HB5.out.trans (HBX.out.mono HB5.out.size))
  have HW7 := Lib.hid ((HBX.out.block wb (lt_of_block HW5.out)).trans HW5.out)
  have HP7 := Lib.hid ((HBX.out.block pb (lt_of_block HP5.out)).trans HP5.out)
  have HO7 := Lib.hid (owns_same HO5.out (fun k hk => HBX.out.block k (HO5.out.lt k hk).2))
  have HK7 := Lib.hid (HK5.out.below HBX.out)
  have HR7 := Lib.hid (HR5.out.below (by omega) HBX.out)
  have HM7 := Lib.hid (below_cell1 HBX.out (block_lt_of_cell HM5.out) HM5.out)
  clear htk hjt hj HBX HB5 HW5 HP5 HO5 HK5 HR5 HM5 HOX
  obtain ⟨⟨xe, er⟩, hxe⟩ : ∃ q, entM p.D (T.map Wd.tx) = q := ⟨_, rfl⟩
  rw [hxe] at HE HRU2
  simp only at HE HRU2
  have q0 : wr.cell? ⟨pb, 0, none⟩ = some vd := blk_cell HP7.out 0
  have q1 : wr.cell? ⟨pb, 1, none⟩ = some vs := blk_cell HP7.out 1
  have q2 : wr.cell? ⟨pb, 2, none⟩ = some vl := blk_cell HP7.out 2
  clear hxe
  unfold enVal at HE
  go_wp2_with fail
  refine HE.out.mono ?_
  rintro e w8 ⟨rfl, hb8⟩
  have HB8 := Lib.hid (HB7.out.trans (hb8.mono HB7.out.size))
  have HW8 := Lib.hid ((hb8.block wb (lt_of_block HW7.out)).trans HW7.out)
  have HP8 := Lib.hid ((hb8.block pb (lt_of_block HP7.out)).trans HP7.out)
  have HO8 := Lib.hid (owns_same HO7.out (fun k hk => hb8.block k (HO7.out.lt k hk).2))
  have HK8 := Lib.hid (HK7.out.below hb8)
  have HR8 := Lib.hid (HR7.out.below (by omega) hb8)
  have HM8 := Lib.hid (below_cell1 hb8 (block_lt_of_cell HM7.out) HM7.out)
  clear hb8 q0 q1 q2 HB7 HW7 HP7 HO7 HK7 HR7 HM7 HE
  have HX10 := Lib.hid (show (w8.alloc (.cells #[.int .i64 xe.kd, .int .i64 xe.dom, .int .i64 xe.pick, .int .i64 xe.op, .int .i64 xe.a, .int .i64 xe.b, .int .i64 xe.c] 28)).heap[w8.heap.size]? = some (.cells (enCells xe).toArray 28 (0, 0)) from heap_alloc_new w8 _)
  have HB10 := Lib.hid (plus_one1 w8 (.cells #[.int .i64 xe.kd, .int .i64 xe.dom, .int .i64 xe.pick, .int .i64 xe.op, .int .i64 xe.a, .int .i64 xe.b, .int .i64 xe.c] 28))
  go_upto_region 18 with (fail)
  obtain ⟨eb, heb⟩ : ∃ b, b = w8.heap.size := ⟨_, rfl⟩
  rw [← heb] at HX10 ⊢
  generalize w8.alloc (.cells #[.int .i64 xe.kd, .int .i64 xe.dom, .int .i64 xe.pick, .int .i64 xe.op, .int .i64 xe.a, .int .i64 xe.b, .int .i64 xe.c] 28) = W9 at HX10 HB10 ⊢
  have HBA := Lib.hid (HB8.out.trans (HB10.out.mono HB8.out.size))
  have HWA := Lib.hid ((HB10.out.block wb (lt_of_block HW8.out)).trans HW8.out)
  have HPA := Lib.hid ((HB10.out.block pb (lt_of_block HP8.out)).trans HP8.out)
  have HOA := Lib.hid (owns_same HO8.out (fun k hk => HB10.out.block k (HO8.out.lt k hk).2))
  have HKA := Lib.hid (HK8.out.below HB10.out)
  have HRA := Lib.hid (HR8.out.below (by omega) HB10.out)
  have HMA := Lib.hid (below_cell1 HB10.out (block_lt_of_cell HM8.out) HM8.out)
  clear heb HB8 HW8 HP8 HO8 HK8 HR8 HM8 HB10
  have pA : W9.cell? ⟨wb, 0, none⟩ = some (.slice (some ⟨bl, o, none⟩) n c) := blk_cell HWA.out 0
  by_cases he : er = 0
  rotate_left
  · have HV := Lib.hid (show readT p s = ([], a.ln, er) by rw [HM2.out, HRU2.out, if_neg he])
    have he' : (er == 0) = false := by simpa using he
    have hen : (er != 0) = true := by simpa using he
    clear he HRU2
    go_upto_region 19 with (fail)
    have f0 : ∀ t : BW W9, t.at_.cell? ⟨wb, 0, none⟩ = some (.slice (some ⟨bl, o, none⟩) n c) := bw_cell (lt_of_block HWA.out) (blk_cell HWA.out 0)
    have f1 : ∀ t : BW W9, t.at_.cell? ⟨bl, o + 1, none⟩ = some (.int .i64 a.ln) := bw_cell (block_lt_of_cell HMA.out) HMA.out
    refine wp_region_quiet_bw (by kernel_rfl) (by kernel_rfl) ?_
    repeat (go_big_quiet_step (fail))
    refine wpQuiet_nil ?_
    intro _ hw'
    obtain ⟨tq, rfl⟩ := hw'
    have HBF := Lib.hid (HBA.out.trans (tq.ok.mono HBA.out.size))
    clear f0 f1
    go_wp2_with fail
    go_ret3
    rw [HV.out]
    exact ⟨_, rfl, Reads.nil _ _, HBF.out⟩
  subst he
  have HRU3 := Lib.hid (show readRun p.D L.length [] L = readRun p.D f' (out ++ [xe]) R from HRU2.out)
  clear HRU2
  have g0 : W9.cell? ⟨eb, 0, none⟩ = some (.int .i64 xe.kd) := blk_cell HX10.out 0
  have g1 : W9.cell? ⟨eb, 1, none⟩ = some (.int .i64 xe.dom) := blk_cell HX10.out 1
  have g2 : W9.cell? ⟨eb, 2, none⟩ = some (.int .i64 xe.pick) := blk_cell HX10.out 2
  have g3 : W9.cell? ⟨eb, 3, none⟩ = some (.int .i64 xe.op) := blk_cell HX10.out 3
  have g4 : W9.cell? ⟨eb, 4, none⟩ = some (.int .i64 xe.a) := blk_cell HX10.out 4
  have g5 : W9.cell? ⟨eb, 5, none⟩ = some (.int .i64 xe.b) := blk_cell HX10.out 5
  have g6 : W9.cell? ⟨eb, 6, none⟩ = some (.int .i64 xe.c) := blk_cell HX10.out 6
  have hown := HOA.out
  go_wp2_with (at_builtin; refine wpList_append_own _ rfl _ _ 35 rfl w.heap.size 28 i1 (.agg #[.int .i64 0, .int .i64 0, .int .i64 0, .int .i64 0, .int .i64 0, .int .i64 0, .int .i64 0]) 7 56 Tryd.underlying35 HI1.out hy0 hy1 hy2 rfl (by decide) _ _ _ rfl (hown.alloc _) ⟨W9.heap.size, 0, none⟩ 1 1 (enCells xe) rfl rfl ?c1 ?c2 ?c3 ?c4 ?c5 ?_)
  case c1 => exact fun j u h => h
  case c2 => exact en_one xe
  case c3 => unfold maxLen; have := HLN.out; omega
  case c4 => have := HLN.out; omega
  case c5 => have := HBA.out.size; simp; omega
  intro vB wB hown' hgr _
  have HBB := Lib.hid ((HBA.out.alloc (Nat.le_trans HBA.out.size (Nat.le_refl _)) (.cells (enCells xe).toArray 28)).grown hgr (Nat.le_trans HBA.out.size (plus_one1 W9 _).size) (fun k hk => (hown.lt k hk).1))
  have HOB := Lib.hid (show wB.ownsRow w.heap.size 28 7 vB (out ++ [xe]).length ((out ++ [xe]).flatMap enCells) by
    rw [List.length_append, List.flatMap_append]
    simpa using hown')
  have HWB := Lib.hid (blk_grownE HWA.out (by decide) hown hgr)
  have HPB := Lib.hid (blk_grownE HPA.out (by decide) hown hgr)
  have hsame := HKA.out.grownE hown hgr
  have HRB := Lib.hid (HRA.out.frame hsame)
  have HKB := Lib.hid (HKA.out.same hsame)
  clear hown hgr hown' hsame g0 g1 g2 g3 g4 g5 g6 pA HBA HWA HPA HOA HKA HRA HMA HX10
  have pB : wB.cell? ⟨wb, 0, none⟩ = some (.slice (some ⟨bl, o, none⟩) n c) := blk_cell HWB.out 0
  have zB : wB.frozen? ⟨wb, 0, none⟩ = false := blk_free HWB.out 0
  have HDR := Lib.hid (words_drop (T := T) (R := R) (tn := j) (by rw [← HTR.out]; exact HRB.out) (by rw [← HTR.out, List.length_cons]; exact HN.out.symm) HTN.out.symm (by omega))
  have hjn' : (j : Int) ≤ (n : Int) := by omega
  have HNB := Lib.hid (show ∀ k, k = bl → k ≠ wb from fun k hk e => by
    obtain ⟨_, _, h1⟩ := HKB.out bl rfl
    rw [← hk, e] at h1
    exact types_apart1 h1 HWB.out (by decide) rfl)
  have HOS := Lib.hid (show ∀ k, vB.ownBlock = some k → k ≠ wb from fun k hk e => by
    obtain ⟨_, _, h1⟩ := owns_type1 HOB.out hk
    rw [e] at h1
    exact types_apart1 h1 HWB.out (by decide) rfl)
  have HPN := Lib.hid (show pb ≠ wb from types_apart1 HPB.out HWB.out (by decide))
  have HSR := Lib.hid (show ∀ d ∈ R, d.tx.size ≤ 4096 from fun d hd => HSZ2.out d (by rw [HTR.out]; simp [hd]))
  have HNL := Lib.hid (show (out ++ [xe]).length + R.length ≤ 4097 by
    have h1 := HLN.out
    have h2 := HLR.out
    have h3 := HN.out
    rw [List.length_cons] at h1
    rw [List.length_append, List.length_singleton]
    omega)
  have HFL := Lib.hid (show R.length ≤ f' by
    have h1 := HF.out
    have h2 := HLR.out
    have h3 := HN.out
    rw [List.length_cons] at h1
    omega)
  by_cases hcj : c = j
  · subst hcj
    have HVC := Lib.hid (show wB.setCell ⟨wb, 0, none⟩ (.slice (some ⟨bl, o, none⟩) 0 0) = wB.setCell ⟨wb, 0, none⟩ (.slice (some ⟨bl, o, none⟩) 0 0) from rfl)
    obtain rfl : n = c := by omega
    have HRC := Lib.hid ((HDR.out.1 rfl).frame (w' := wB.setCell ⟨wb, 0, none⟩ (.slice (some ⟨bl, o, none⟩) 0 0)) (fun k hk => heap_setCell_other _ _ _ _ (HNB.out k (by injection hk with hk; exact hk.symm))))
    go_wp2_with fail
    go_roundw
    case rel => exact ⟨R, out ++ [xe], _, f', (by have := blk_set HWB.out 0 (.slice (some ⟨bl, o, none⟩) 0 0); simpa using this), HRC.out, (HKB.out.same (v := .slice (some ⟨bl, o, none⟩) 0 0) (fun k hk => heap_setCell_other _ _ _ _ (HNB.out k (by injection hk with hk; exact hk.symm)))), owns_same HOB.out (fun k hk => heap_setCell_other _ _ _ _ (HOS.out k hk)), HBB.out.setCell (p := ⟨wb, 0, none⟩) HWG.out _, (heap_setCell_other _ _ _ _ HPN.out).trans HPB.out, HRU3.out, HFL.out, HSR.out, HNL.out⟩
    case measure =>
      have hw := HML.out
      have h3 := HN.out
      rw [List.length_cons] at hw
      have hc : (wB.setCell ⟨wb, 0, none⟩ (.slice (some ⟨bl, o, none⟩) 0 0)).cell? ⟨wb, 0, none⟩ = some (.slice (some ⟨bl, o, none⟩) 0 0) := blk_cell (cs := #[(.slice (some ⟨bl, o, none⟩) 0 0)]) (t := 58) (by have := blk_set HWB.out 0 (.slice (some ⟨bl, o, none⟩) 0 0); simpa using this) 0
      rw [hw, hc]
      simp only [wlen, vlen]
      omega
  · have hcj2 : ¬ (c - j = 0) := by omega
    have HRC := Lib.hid ((HDR.out.2 hcj).frame (w' := wB.setCell ⟨wb, 0, none⟩ (.slice (some ⟨bl, o + j * 3, none⟩) (n - j) (c - j))) (fun k hk => heap_setCell_other _ _ _ _ (HNB.out k (by injection hk with hk; exact hk.symm))))
    go_wp2_with fail
    go_roundw
    case rel => exact ⟨R, out ++ [xe], _, f', (by have := blk_set HWB.out 0 (.slice (some ⟨bl, o + j * 3, none⟩) (n - j) (c - j)); simpa using this), HRC.out, (HKB.out.same (v := .slice (some ⟨bl, o + j * 3, none⟩) (n - j) (c - j)) (fun k hk => heap_setCell_other _ _ _ _ (HNB.out k (by injection hk with hk; exact hk.symm)))), owns_same HOB.out (fun k hk => heap_setCell_other _ _ _ _ (HOS.out k hk)), HBB.out.setCell (p := ⟨wb, 0, none⟩) HWG.out _, (heap_setCell_other _ _ _ _ HPN.out).trans HPB.out, HRU3.out, HFL.out, HSR.out, HNL.out⟩
    case measure =>
      have hw := HML.out
      have h3 := HN.out
      rw [List.length_cons] at hw
      have hc : (wB.setCell ⟨wb, 0, none⟩ (.slice (some ⟨bl, o + j * 3, none⟩) (n - j) (c - j))).cell? ⟨wb, 0, none⟩ = some (.slice (some ⟨bl, o + j * 3, none⟩) (n - j) (c - j)) := blk_cell (cs := #[(.slice (some ⟨bl, o + j * 3, none⟩) (n - j) (c - j))]) (t := 58) (by have := blk_set HWB.out 0 (.slice (some ⟨bl, o + j * 3, none⟩) (n - j) (c - j)); simpa using this) 0
      rw [hw, hc]
      simp only [wlen, vlen]
      omega
end Go.Proofs.YtbgpniepgbmkaaaDoor
