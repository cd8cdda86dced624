/- What the document's Read (parcloseref28.Read) does: what tale.Read does. Conditions: the policy can be read, its names and the text are not longer than 2^47 bytes, its numbers are int64s.
   What the document's Same (parcloseref25.Same) answers, and the fixed facts that each statement on scripts ends with (parcloselaw28.awake). Condition: the lists can be read; the library's table and its two errors are laid (TabT). -/
import Derived.Test.YtbgpniepgbmkaaaDoorTal11
import Derived.Test.YtbgpniepgbmkaaaDoorR3g
namespace Go.Proofs.YtbgpniepgbmkaaaDoor
open Go.RowKit BigFrame Go.BigFrame

section
variable {w w4 : World} {o : Obj} {u v : Value} {B B2 n m s1 s2 k : Nat} {xs ys : List Value} {T e : TypeId} {cs : Array Value} {fr : Nat × Nat}
theorem blk_grown2 (h : w.heap[k]? = some (.cells cs T fr)) (hT : T ≠ e) (hown : w.ownsRow B2 e s2 u m ys) (hgr : (w.alloc o).grownBy w4 u.ownBlock) : w4.heap[k]? = w.heap[k]? := by
  refine (hgr.block k (Nat.lt_of_lt_of_le (lt_of_block h) (plus_one1 w o).size) (fun e => ?_)).trans (Below.heap_alloc w o k (lt_of_block h))
  obtain ⟨_, _, hc2⟩ := owns_type1 hown e.symm
  exact types_apart1 h hc2 hT rfl
theorem owns_grown2 (h : w.ownsRow B T s1 v n xs) (hT : T ≠ e) (hown : w.ownsRow B2 e s2 u m ys) (hgr : (w.alloc o).grownBy w4 u.ownBlock) : w4.ownsRow B T s1 v n xs :=
  owns_same h (fun k hk => by
    obtain ⟨_, _, hc⟩ := owns_type1 h hk
    exact blk_grown2 hc hT hown hgr)
end
theorem owns_mono {w : World} {v : Value} {B B2 n s1 : Nat} {xs : List Value} {T : TypeId} (h : w.ownsRow B T s1 v n xs) (hb : B2 ≤ B) : w.ownsRow B2 T s1 v n xs := by
  refine ⟨h.1, ?_⟩
  rcases h.2 with h2 | ⟨g, cap, cur, e1, e2, e3⟩
  · exact .inl h2
  · exact .inr ⟨g, cap, cur, e1, Nat.le_trans hb e2, e3⟩
/-- One line more of the words. -/
theorem run_step {D : List Dm} {f : Nat} {out : List En} {T R : List Wd} {l0 : Int} (hT : ∀ d ∈ T, d.ln = l0) (h1 : T ≠ []) (hR : R = [] ∨ ∃ d R', R = d :: R' ∧ d.ln ≠ l0) (hf : (T ++ R).length ≤ f) :
    readRun D f out (T ++ R) = if (entM D (T.map Wd.tx)).2 = 0 then readRun D (f - 1) (out ++ [(entM D (T.map Wd.tx)).1]) R else ([], l0, (entM D (T.map Wd.tx)).2) := by
  cases T with
  | nil => exact absurd rfl h1
  | cons a T =>
    have ha : a.ln = l0 := hT a (by simp)
    obtain ⟨f, rfl⟩ : ∃ g, f = g + 1 := ⟨f - 1, by rw [List.cons_append, List.length_cons] at hf; omega⟩
    have hsp := split_ln (a := a) (L := T ++ R) (T := a :: T) (R := R) rfl (fun d hd => by rw [hT d hd, ha]) (by
      rcases hR with h | ⟨d, R', h, hd⟩
      · exact .inl h
      · exact .inr ⟨d, R', h, by rw [ha]; exact hd⟩)
    rw [List.cons_append, readRun, hsp.1, hsp.2.1, ha]
    rfl
set_option maxRecDepth 100000 in
set_option maxHeartbeats 64000000 in
theorem rread28_calls {w : World} {vd vs vl : Value} {p : P3} (h : PR w vd vs vl p) (hz : ∀ d ∈ p.D, d.nm.size ≤ 140737488351232) (hct : ∀ d ∈ p.D, -9223372036854775808 ≤ d.ct ∧ d.ct ≤ 9223372036854775807) (s : ByteArray) (hs : s.size ≤ 140737488351232) :
    Calls Tryd.prog 12 #[.agg #[vd, vs, vl], .string s] w fun e w' => ∃ v, e = .returned (.tuple #[v, .int .i64 (readT p s).2.1, .int .i64 (readT p s).2.2]) ∧ Reads w' 7 v (readT p s).1.length ((readT p s).1.flatMap enCells) ∧ Below w.heap.size w w' := by
  have HPR := Lib.hid h
  have HZ := Lib.hid hz
  have HCT := Lib.hid hct
  have HB1 := Lib.hid (plus_one1 w (.cells #[vd, vs, vl] 26))
  have HP1 := Lib.hid (heap_alloc_new w (.cells #[vd, vs, vl] 26))
  have HCH := Lib.hid (fun (u : World) (hu : Below w.heap.size w u) => rcheck_calls (HPR.out.d.below (by omega) hu) (HPR.out.s.below (by omega) hu) (HPR.out.k.below (by omega) hu) HZ.out HCT.out)
  have HM := Lib.hid (show readT p s = if checkM p.D p.S p.K = 0 then (if (lexM s).2.1 = 0 then readRun p.D (lexM s).1.length [] (lexM s).1 else ([], (lexM s).2.2.1, (lexM s).2.1)) else ([], 0, checkM p.D p.S p.K) from rfl)
  have HWO := Lib.hid (fun u : World => rwords_calls s hs u)
  have HSZ := Lib.hid (lexM_sz s)
  have HLE := Lib.hid (lexM_len s)
  obtain ⟨ch, hch⟩ : ∃ c, c = checkM p.D p.S p.K := ⟨_, rfl⟩
  rw [← hch] at HCH HM
  obtain ⟨⟨L, e, ln, co⟩, hl⟩ : ∃ q, lexM s = q := ⟨_, rfl⟩
  rw [hl] at HM HWO HSZ HLE
  simp only at HM HWO HSZ HLE
  clear hl hch h hz hs hct
  go_enter Tryd.func12, Tryd.ntmps12
  go_upto_region 1 with (fail)
  obtain ⟨pb, hpb⟩ : ∃ b, b = w.heap.size := ⟨_, rfl⟩
  rw [← hpb] at HP1 ⊢
  generalize w.alloc (.cells #[vd, vs, vl] 26) = w1 at HB1 HP1 ⊢
  clear hpb
  have q0 : w1.cell? ⟨pb, 0, none⟩ = some vd := blk_cell HP1.out 0
  have q1 : w1.cell? ⟨pb, 1, none⟩ = some vs := blk_cell HP1.out 1
  have q2 : w1.cell? ⟨pb, 2, none⟩ = some vl := blk_cell HP1.out 2
  go_wp2_with fail
  refine (HCH.out w1 HB1.out).mono ?_
  rintro e w2 ⟨rfl, hb2⟩
  have HB2 := Lib.hid (HB1.out.trans (hb2.mono HB1.out.size))
  have HP2 := Lib.hid ((hb2.block pb (lt_of_block HP1.out)).trans HP1.out)
  clear hb2 q0 q1 q2 HP1 HB1 HCH
  by_cases hc0 : ch = 0
  rotate_left
  · have HV := Lib.hid (show readT p s = ([], 0, ch) by rw [HM.out, if_neg hc0])
    have he' : (ch == 0) = false := by simpa using hc0
    have hen : (ch != 0) = true := by simpa using hc0
    clear hc0
    go_wp2_with fail
    go_ret3
    rw [HV.out]
    exact ⟨_, rfl, Reads.nil _ _, HB2.out⟩
  subst hc0
  go_wp2_with fail
  refine (HWO.out w2).mono ?_
  rintro e w3 ⟨v, rfl, ho3, hb3⟩
  have HB3 := Lib.hid (HB2.out.trans (hb3.mono HB2.out.size))
  have HP3 := Lib.hid ((hb3.block pb (lt_of_block HP2.out)).trans HP2.out)
  have HV3 := Lib.hid (owns_mono ho3 HB2.out.size)
  obtain ⟨va, vcap, rfl, hv1, hv2, _⟩ := owns_shape ho3
  unfold maxLen at hv2
  clear ho3 hb3 HP2 HB2 HWO
  by_cases he0 : e = 0
  rotate_left
  · have HV := Lib.hid (show readT p s = ([], ln, e) by rw [HM.out, if_pos trivial, if_neg he0])
    have he' : (e == 0) = false := by simpa using he0
    have hen : (e != 0) = true := by simpa using he0
    clear he0
    go_wp2_with fail
    go_ret3
    rw [HV.out]
    exact ⟨_, rfl, Reads.nil _ _, HB3.out⟩
  subst he0
  have HM2 := Lib.hid (show readT p s = readRun p.D L.length [] L by rw [HM.out, if_pos trivial, if_pos rfl])
  obtain ⟨n, hn⟩ : ∃ n, n = L.length := ⟨_, rfl⟩
  have HN := Lib.hid hn
  have HB4 := Lib.hid ((HB3.out.trans ((plus_one1 w3 (.cells #[] 28)).mono HB3.out.size)).trans ((plus_one1 (w3.alloc (.cells #[] 28)) (.cells #[] 9)).mono (by have := HB3.out.size; simp; omega)))
  have HO4 := Lib.hid (show ((w3.alloc (.cells #[] 28)).alloc (.cells #[] 9)).ownsRow w.heap.size 28 7 (.slice (some ⟨w3.heap.size, 0, none⟩) 0 0) 0 [] from
    (World.ownsRow_lit w3 #[] 0 HB3.out.size (Nat.zero_le _) rfl).alloc _)
  have HS4 := Lib.hid (show ((w3.alloc (.cells #[] 28)).alloc (.cells #[] 9)).ownsRow w.heap.size 9 1 (.slice (some ⟨(w3.alloc (.cells #[] 28)).heap.size, 0, none⟩) 0 0) 0 [] from
    World.ownsRow_lit (w3.alloc (.cells #[] 28)) #[] 0 (by have := HB3.out.size; simp; omega) (Nat.zero_le _) rfl)
  have HV4 := Lib.hid (show ((w3.alloc (.cells #[] 28)).alloc (.cells #[] 9)).ownsRow w.heap.size 63 3 (.slice va n vcap) n (L.flatMap wdCells) from by
    rw [hn]
    exact (HV3.out.alloc (.cells #[] 28)).alloc (.cells #[] 9))
  have HP4 := Lib.hid (show ((w3.alloc (.cells #[] 28)).alloc (.cells #[] 9)).heap[pb]? = some (.cells #[vd, vs, vl] 26 (0, 0)) from
    (Below.heap_alloc _ _ _ (by have := lt_of_block HP3.out; simp; omega)).trans ((Below.heap_alloc _ _ _ (lt_of_block HP3.out)).trans HP3.out))
  rw [← hn] at hv1 ⊢
  clear HM hn
  go_upto_region 9 with (fail)
  obtain ⟨ga, hga⟩ : ∃ b, b = w3.heap.size := ⟨_, rfl⟩
  have hga1 : (w3.alloc (.cells #[] 28)).heap.size = ga + 1 := by rw [hga]; simp
  rw [hga1] at HS4
  rw [← hga] at HO4 ⊢
  generalize (w3.alloc (.cells #[] 28)).alloc (.cells #[] 9) = w4 at HB4 HO4 HS4 HV4 HP4 ⊢
  clear hga hga1 HB3 HP3 HV3
  obtain ⟨i0, hi0, hz0, hz1, hz2⟩ := info_parts Tryd.info_str
  have HI := Lib.hid hi0
  obtain ⟨i1, hi1, hy0, hy1, hy2⟩ := info_parts Tryd.info_en
  have HI1 := Lib.hid hi1
  clear hi0 hi1
  go_wp2_with fail
  go_loopw [12, 13, 14] (fun u12 u13 u14 wr => ∃ (i : Nat) (cur : List Wd) (M : List Wd) (out : List En) (f : Nat), u14 = .int .i64 (i : Int) ∧ i ≤ n ∧ L.drop i = M ∧ wr.ownsRow w.heap.size 28 7 u12 out.length (out.flatMap enCells) ∧ wr.ownsRow w.heap.size 9 1 u13 cur.length ((cur.map Wd.tx).map Value.string) ∧ wr.ownsRow w.heap.size 63 3 (.slice va n vcap) n (L.flatMap wdCells) ∧ Below w.heap.size w wr ∧ wr.heap[pb]? = some (.cells #[vd, vs, vl] 26 (0, 0)) ∧ readRun p.D L.length [] L = readRun p.D f out (cur ++ M) ∧ (cur ++ M).length ≤ f ∧ (cur = [] ∨ ∃ m M', M = m :: M' ∧ ∀ d ∈ cur, d.ln = m.ln) ∧ (∀ d ∈ cur, d.tx.size ≤ 4096) ∧ out.length + cur.length + M.length ≤ 4097) (fun _ _ u14 _ => n - (intOf u14).toNat)
  case atStart => exact ⟨0, [], L, [], L.length, rfl, Nat.zero_le _, rfl, HO4.out, HS4.out, HV4.out, HB4.out, HP4.out, rfl, Nat.le_refl _, .inl rfl, (fun d hd => by cases hd), by simpa using HLE.out⟩
  case round =>
  obtain ⟨i, cur, M, out, f, rfl, hin, hM, hown, hcur, hwd, hb, hpp, hrun, hf, hcl, hcs, hlen⟩ := hrel
  have HO := Lib.hid hown
  have HC := Lib.hid hcur
  have HW := Lib.hid hwd
  have HB := Lib.hid hb
  have HP := Lib.hid hpp
  have HRU := Lib.hid hrun
  have HF := Lib.hid hf
  have HCL := Lib.hid hcl
  have HCS := Lib.hid hcs
  have HLN := Lib.hid hlen
  have HMM := Lib.hid hM
  have hiz : (0 : Int) ≤ (i : Int) := Int.natCast_nonneg _
  clear hown hcur hwd hb hpp hrun hf hcl hcs hlen hM HO4 HS4 HV4 HB4 HP4
  by_cases hi : i < n
  rotate_left
  · obtain rfl : i = n := by omega
    have hi' : ¬ (i : Int) < (i : Int) := by omega
    have hM0 : M = [] := by rw [← HMM.out]; exact List.drop_of_length_le (by rw [← HN.out]; exact Nat.le_refl _)
    subst hM0
    have hc0 : cur = [] := by
      rcases HCL.out with h | ⟨m, M', h, _⟩
      · exact h
      · cases h
    subst hc0
    have HV := Lib.hid (show readT p s = (out, 0, 0) by rw [HM2.out, HRU.out]; cases f <;> rfl)
    have HRE := Lib.hid (Reads.of_owns HO.out)
    clear HM2 HRU hi
    go_wp2_with fail
    go_ret3
    rw [HV.out]
    exact ⟨_, rfl, HRE.out, HB.out⟩
  have hi' : (i : Int) < (n : Int) := by omega
  obtain ⟨m, hm⟩ : ∃ m, L[i]? = some m := ⟨_, List.getElem?_eq_getElem (by rw [← HN.out]; exact hi)⟩
  obtain ⟨M', hM'⟩ : ∃ M', M' = L.drop (i + 1) := ⟨_, rfl⟩
  have HMC := Lib.hid (show M = m :: M' by
    rw [← HMM.out, List.drop_eq_getElem_cons (by rw [← HN.out]; exact hi), hM', (List.getElem?_eq_some_iff.1 hm).2])
  have HM' := Lib.hid hM'
  have hr := Reads.of_owns HW.out
  have hlt := hr.lt (by omega) (by omega)
  obtain ⟨_, va', vc', hve, _, _, hv4⟩ := id hr
  injection hve with hve1 _ hve3
  subst hve1 hve3
  obtain ⟨bl, o, rfl, _⟩ := hv4 (by omega)
  have hbl : bl < wr.heap.size := hlt bl rfl
  have HLN2 := Lib.hid (fun (u : World) (hu : u.heap[bl]? = wr.heap[bl]?) (k : Nat) (d : Wd) (hd : L[k]? = some d) (hk : k < n) => show u.cell? ⟨bl, o + k * 3, none⟩ = some (.string d.tx) ∧ u.cell? ⟨bl, o + k * 3 + 1, none⟩ = some (.int .i64 d.ln) from by
    have h0 := rows_at (f := wdCells) hr (fun x _ => wd_len x) hd hk (j := 0) rfl
    have h1 := rows_at (f := wdCells) hr (fun x _ => wd_len x) hd hk (j := 1) rfl
    rw [Nat.add_zero] at h0
    exact ⟨(World.cell?_of_block hu).trans h0, (World.cell?_of_block hu).trans h1⟩)
  have HWT := Lib.hid (show ∃ cs fr, wr.heap[bl]? = some (.cells cs 63 fr) from owns_type1 HW.out rfl)
  have k0 := (HLN2.out wr rfl i m hm hi).1
  have HMi := Lib.hid hm
  have HMS := Lib.hid (HSZ.out m (List.mem_of_getElem? hm))
  have HCM := Lib.hid (show ∀ d ∈ cur ++ [m], d.ln = m.ln by
    intro d hd
    rcases List.mem_append.1 hd with hd | hd
    · rcases HCL.out with h | ⟨m', M2, h1, h2⟩
      · rw [h] at hd; cases hd
      · rw [HMC.out] at h1
        injection h1 with h1 _
        rw [h1]
        exact h2 d hd
    · rw [List.mem_singleton] at hd
      rw [hd])
  have hown := HC.out
  clear hr hlt hv4 hm hM' HMM HCL
  go_wp2_with (at_builtin; refine wpList_append_own _ rfl _ _ 46 rfl w.heap.size 9 i0 (.string ByteArray.empty) 1 16 Tryd.underlying46 HI.out hz0 hz1 hz2 rfl (by decide) _ _ _ rfl (hown.alloc _) ⟨wr.heap.size, 0, none⟩ 1 1 [.string m.tx] rfl rfl (news_one wr _ _) ?c2 ?c3 ?c4 ?c5 ?_)
  case c2 => first | rfl | (intro u hu; rw [List.mem_singleton] at hu; subst hu; rfl)
  case c3 => unfold maxLen; have := HLN.out; omega
  case c4 => have := HLN.out; omega
  case c5 => have := HB.out.size; simp; omega
  intro v5 w5 hown' hgr _
  have HB5 := Lib.hid ((HB.out.alloc (Nat.le_trans HB.out.size (Nat.le_refl _)) (.cells #[.string m.tx] 9)).grown hgr (Nat.le_trans HB.out.size (plus_one1 wr _).size) (fun k hk => (hown.lt k hk).1))
  have HC5 := Lib.hid (show w5.ownsRow w.heap.size 9 1 v5 (cur ++ [m]).length (((cur ++ [m]).map Wd.tx).map Value.string) by
    rw [List.length_append, List.map_append, List.map_append]
    simpa using hown')
  have HO5 := Lib.hid (owns_grown2 HO.out (by decide) hown hgr)
  have HW5 := Lib.hid (owns_grown2 HW.out (by decide) hown hgr)
  have HP5 := Lib.hid ((blk_grown2 HP.out (by decide) hown hgr).trans HP.out)
  have HL5 := Lib.hid (show w5.heap[bl]? = wr.heap[bl]? by
    obtain ⟨_, _, hc⟩ := HWT.out
    exact blk_grown2 hc (by decide) hown hgr)
  clear hown hgr hown' k0 HB HC HO HW HP
  obtain ⟨bb, hbb⟩ : ∃ b : Bool, b = headAt M' m.ln := ⟨_, rfl⟩
  have HBB := Lib.hid hbb
  have HBL5 := Lib.hid (show bl < w5.heap.size by
    obtain ⟨_, _, hc⟩ := HWT.out
    rw [← HL5.out] at hc
    exact lt_of_block hc)
  clear hbb
  obtain ⟨i1', hi1⟩ : ∃ k : Nat, k = i + 1 := ⟨_, rfl⟩
  have hii : (i : Int) + 1 = (i1' : Int) := by omega
  have hi1b : (i1' : Int) ≤ 9223372036854775807 := by have h1 := HN.out; have h2 := HLE.out; omega
  have hi1z : (0 : Int) ≤ (i1' : Int) := Int.natCast_nonneg _
  have hiw : IntKind.i64.wrap (i1' : Int) = (i1' : Int) := by rw [IntKind.wrap_i64]; omega
  have HI1' := Lib.hid hi1
  go_upto_region 13 with (fail)
  go_cut [67] (fun u wc => u = .bool bb ∧ Below w5.heap.size w5 wc)
  case first => as_aux_lemma =>
    have f0 : ∀ t : BW w5, t.at_.cell? ⟨bl, o + i * 3 + 1, none⟩ = some (.int .i64 m.ln) := bw_cell HBL5.out (HLN2.out w5 HL5.out i m HMi.out hi).2
    by_cases hlast : i1' < n
    · have hl' : (i1' : Int) < (n : Int) := by omega
      obtain ⟨d, hd⟩ : ∃ d, L[i1']? = some d := ⟨_, List.getElem?_eq_getElem (by rw [← HN.out]; exact hlast)⟩
      have f1 : ∀ t : BW w5, t.at_.cell? ⟨bl, o + i1' * 3 + 1, none⟩ = some (.int .i64 d.ln) := bw_cell HBL5.out (HLN2.out w5 HL5.out i1' d hd hlast).2
      have HMD := Lib.hid (show M' = d :: L.drop (i1' + 1) by
        rw [HM'.out, ← HI1'.out, List.drop_eq_getElem_cons (by rw [← HN.out]; exact hlast), (List.getElem?_eq_some_iff.1 hd).2])
      have HBV := Lib.hid (show bb = (d.ln == m.ln) by
        rw [HBB.out, HMD.out]
        show decide (d.ln = m.ln) = _
        by_cases h : d.ln = m.ln <;> simp [h])
      clear hd hi1
      refine wp_region_quiet_bw (by kernel_rfl) (by kernel_rfl) ?_
      repeat (go_big_quiet_step (fail))
      refine wpQuiet_nil ?_
      intro _ hw'
      obtain ⟨tq, rfl⟩ := hw'
      clear f0 f1
      go_wp2_with fail
      go_meet
      exact ⟨by rw [HBV.out], tq.ok⟩
    · have hl' : ¬ (i1' : Int) < (n : Int) := by omega
      have HBV := Lib.hid (show bb = false by
        have h1 : M' = [] := by rw [HM'.out]; exact List.drop_of_length_le (by rw [← HN.out]; omega)
        rw [HBB.out, h1]
        rfl)
      clear hi1
      refine wp_region_quiet_bw (by kernel_rfl) (by kernel_rfl) ?_
      repeat (go_big_quiet_step (fail))
      refine wpQuiet_nil ?_
      intro _ hw'
      obtain ⟨tq, rfl⟩ := hw'
      clear f0
      go_wp2_with fail
      go_meet
      exact ⟨by rw [HBV.out], tq.ok⟩
  case rest =>
  obtain ⟨rfl, hb6⟩ := hcut
  clear hii hiw hi1b hi1z
  have HB6 := Lib.hid (HB5.out.trans (hb6.mono HB5.out.size))
  have HC6 := Lib.hid (owns_same HC5.out (fun k hk => hb6.block k (HC5.out.lt k hk).2))
  have HO6 := Lib.hid (owns_same HO5.out (fun k hk => hb6.block k (HO5.out.lt k hk).2))
  have HW6 := Lib.hid (owns_same HW5.out (fun k hk => hb6.block k (HW5.out.lt k hk).2))
  have HP6 := Lib.hid ((hb6.block pb (lt_of_block HP5.out)).trans HP5.out)
  have HL6 := Lib.hid ((hb6.block bl HBL5.out).trans HL5.out)
  clear hb6 HB5 HC5 HO5 HW5 HP5 HL5
  have HNX := Lib.hid (show (cur ++ [m]) ++ M' = cur ++ M by rw [HMC.out]; simp)
  have HNL := Lib.hid (show out.length + (cur ++ [m]).length + M'.length ≤ 4097 by
    have := HLN.out
    rw [HMC.out, List.length_cons] at this
    rw [List.length_append, List.length_singleton]
    omega)
  have HCS2 := Lib.hid (show ∀ d ∈ cur ++ [m], d.tx.size ≤ 4096 by
    intro d hd
    rcases List.mem_append.1 hd with hd | hd
    · exact HCS.out d hd
    · rw [List.mem_singleton] at hd
      rw [hd]
      exact HMS.out)
  cases bb with
  | true =>
    obtain ⟨d, M2, hd1, hd2⟩ := headAt_true HBB.out.symm
    have HMD := Lib.hid hd1
    have HMD2 := Lib.hid hd2
    clear hd1 hd2
    go_wp2_with fail
    go_roundw
    case rel => exact ⟨i + 1, cur ++ [m], M', out, f, by go_num, by omega, HM'.out.symm, HO6.out, HC6.out, HW6.out, HB6.out, HP6.out, by rw [HNX.out]; exact HRU.out, by rw [HNX.out]; exact HF.out, .inr ⟨d, M2, HMD.out, fun x hx => by rw [HMD2.out]; exact HCM.out x hx⟩, HCS2.out, HNL.out⟩
    case measure => have := HI1'.out; simp [intOf]; omega
  | false =>
  have HST := Lib.hid (show readRun p.D L.length [] L = if (entM p.D ((cur ++ [m]).map Wd.tx)).2 = 0 then readRun p.D (f - 1) (out ++ [(entM p.D ((cur ++ [m]).map Wd.tx)).1]) M' else ([], m.ln, (entM p.D ((cur ++ [m]).map Wd.tx)).2) by
    rw [HRU.out, ← HNX.out]
    exact run_step HCM.out (by simp) (headAt_false HBB.out.symm) (by rw [HNX.out]; exact HF.out))
  have HE := Lib.hid (rone28_calls (vs := vs) (vl := vl) (HPR.out.d.below (by omega) HB6.out) (Reads.of_owns HC6.out) (by simp) (fun x hx => by
    obtain ⟨d, hd, rfl⟩ := List.mem_map.1 hx
    exact Nat.le_trans (HCS2.out d hd) (by decide)))
  obtain ⟨⟨xe, er⟩, hxe⟩ : ∃ q, entM p.D ((cur ++ [m]).map Wd.tx) = q := ⟨_, rfl⟩
  rw [hxe] at HE HST
  simp only at HE HST
  have q0 : wc.cell? ⟨pb, 0, none⟩ = some vd := blk_cell HP6.out 0
  have q1 : wc.cell? ⟨pb, 1, none⟩ = some vs := blk_cell HP6.out 1
  have q2 : wc.cell? ⟨pb, 2, none⟩ = some vl := blk_cell HP6.out 2
  clear hxe HRU
  unfold enVal at HE
  go_wp2_with fail
  refine HE.out.mono ?_
  rintro e w8 ⟨rfl, hb8⟩
  have HB8 := Lib.hid (HB6.out.trans (hb8.mono HB6.out.size))
  have HO8 := Lib.hid (owns_same HO6.out (fun k hk => hb8.block k (HO6.out.lt k hk).2))
  have HW8 := Lib.hid (owns_same HW6.out (fun k hk => hb8.block k (HW6.out.lt k hk).2))
  have HP8 := Lib.hid ((hb8.block pb (lt_of_block HP6.out)).trans HP6.out)
  have HL8 := Lib.hid ((hb8.block bl (by
    obtain ⟨_, _, hc⟩ := HWT.out
    rw [← HL6.out] at hc
    exact lt_of_block hc)).trans HL6.out)
  clear hb8 q0 q1 q2 HB6 HC6 HO6 HW6 HP6 HL6 HE
  have HX10 := Lib.hid (show (w8.alloc (.cells #[.int .i64 xe.kd, .int .i64 xe.dom, .int .i64 xe.pick, .int .i64 xe.op, .int .i64 xe.a, .int .i64 xe.b, .int .i64 xe.c] 28)).heap[w8.heap.size]? = some (.cells (enCells xe).toArray 28 (0, 0)) from heap_alloc_new w8 _)
  have HB10 := Lib.hid (plus_one1 w8 (.cells #[.int .i64 xe.kd, .int .i64 xe.dom, .int .i64 xe.pick, .int .i64 xe.op, .int .i64 xe.a, .int .i64 xe.b, .int .i64 xe.c] 28))
  go_upto_region 15 with (fail)
  obtain ⟨eb, heb⟩ : ∃ b, b = w8.heap.size := ⟨_, rfl⟩
  rw [← heb] at HX10 ⊢
  generalize w8.alloc (.cells #[.int .i64 xe.kd, .int .i64 xe.dom, .int .i64 xe.pick, .int .i64 xe.op, .int .i64 xe.a, .int .i64 xe.b, .int .i64 xe.c] 28) = W9 at HX10 HB10 ⊢
  have HBA := Lib.hid (HB8.out.trans (HB10.out.mono HB8.out.size))
  have HOA := Lib.hid (owns_same HO8.out (fun k hk => HB10.out.block k (HO8.out.lt k hk).2))
  have HWA := Lib.hid (owns_same HW8.out (fun k hk => HB10.out.block k (HW8.out.lt k hk).2))
  have HPA := Lib.hid ((HB10.out.block pb (lt_of_block HP8.out)).trans HP8.out)
  have HLA := Lib.hid ((HB10.out.block bl (by
    obtain ⟨_, _, hc⟩ := HWT.out
    rw [← HL8.out] at hc
    exact lt_of_block hc)).trans HL8.out)
  clear heb HB8 HO8 HW8 HP8 HL8 HB10
  by_cases he : er = 0
  rotate_left
  · have HV := Lib.hid (show readT p s = ([], m.ln, er) by rw [HM2.out, HST.out, if_neg he])
    have he' : (er == 0) = false := by simpa using he
    have hen : (er != 0) = true := by simpa using he
    clear he HST
    go_upto_region 16 with (fail)
    have f0 : ∀ t : BW W9, t.at_.cell? ⟨bl, o + i * 3 + 1, none⟩ = some (.int .i64 m.ln) := bw_cell (by
      obtain ⟨_, _, hc⟩ := HWT.out
      rw [← HLA.out] at hc
      exact lt_of_block hc) (HLN2.out W9 HLA.out i m HMi.out hi).2
    refine wp_region_quiet_bw (by kernel_rfl) (by kernel_rfl) ?_
    repeat (go_big_quiet_step (fail))
    refine wpQuiet_nil ?_
    intro _ hw'
    obtain ⟨tq, rfl⟩ := hw'
    have HBF := Lib.hid (HBA.out.trans (tq.ok.mono HBA.out.size))
    clear f0
    go_wp2_with fail
    go_ret3
    rw [HV.out]
    exact ⟨_, rfl, Reads.nil _ _, HBF.out⟩
  subst he
  have HST3 := Lib.hid (show readRun p.D L.length [] L = readRun p.D (f - 1) (out ++ [xe]) M' from HST.out)
  clear HST
  have g0 : W9.cell? ⟨eb, 0, none⟩ = some (.int .i64 xe.kd) := blk_cell HX10.out 0
  have g1 : W9.cell? ⟨eb, 1, none⟩ = some (.int .i64 xe.dom) := blk_cell HX10.out 1
  have g2 : W9.cell? ⟨eb, 2, none⟩ = some (.int .i64 xe.pick) := blk_cell HX10.out 2
  have g3 : W9.cell? ⟨eb, 3, none⟩ = some (.int .i64 xe.op) := blk_cell HX10.out 3
  have g4 : W9.cell? ⟨eb, 4, none⟩ = some (.int .i64 xe.a) := blk_cell HX10.out 4
  have g5 : W9.cell? ⟨eb, 5, none⟩ = some (.int .i64 xe.b) := blk_cell HX10.out 5
  have g6 : W9.cell? ⟨eb, 6, none⟩ = some (.int .i64 xe.c) := blk_cell HX10.out 6
  have hown := HOA.out
  go_wp2_with (at_builtin; go_loud (refine wpList_append_own _ rfl _ _ 35 rfl w.heap.size 28 i1 (.agg #[.int .i64 0, .int .i64 0, .int .i64 0, .int .i64 0, .int .i64 0, .int .i64 0, .int .i64 0]) 7 56 Tryd.underlying35 HI1.out hy0 hy1 hy2 rfl (by decide) _ _ _ rfl (hown.alloc _) ⟨W9.heap.size, 0, none⟩ 1 1 (enCells xe) rfl rfl (news_cells W9 (enCells xe).toArray _ W9.heap.size rfl) ?c2 ?c3 ?c4 ?c5 ?_))
  case c2 => exact en_one xe
  case c3 => unfold maxLen; have := HLN.out; omega
  case c4 => have := HLN.out; omega
  case c5 => have := HBA.out.size; simp; omega
  intro vB wB hown' hgr _
  have HBB2 := Lib.hid ((HBA.out.alloc (Nat.le_trans HBA.out.size (Nat.le_refl _)) (.cells (enCells xe).toArray 28)).grown hgr (Nat.le_trans HBA.out.size (plus_one1 W9 _).size) (fun k hk => (hown.lt k hk).1))
  have HOB := Lib.hid (show wB.ownsRow w.heap.size 28 7 vB (out ++ [xe]).length ((out ++ [xe]).flatMap enCells) by
    rw [List.length_append, List.flatMap_append]
    simpa using hown')
  have HWB := Lib.hid (owns_grown2 HWA.out (by decide) hown hgr)
  have HPB := Lib.hid ((blk_grown2 HPA.out (by decide) hown hgr).trans HPA.out)
  clear hown hgr hown' g0 g1 g2 g3 g4 g5 g6 HBA HOA HWA HPA HLA HX10
  have HBC := Lib.hid (HBB2.out.trans ((plus_one1 wB (.cells #[] 9)).mono HBB2.out.size))
  have HSC := Lib.hid (show (wB.alloc (.cells #[] 9)).ownsRow w.heap.size 9 1 (.slice (some ⟨wB.heap.size, 0, none⟩) 0 0) 0 [] from World.ownsRow_lit wB #[] 0 HBB2.out.size (Nat.zero_le _) rfl)
  have HOC := Lib.hid (HOB.out.alloc (.cells #[] 9))
  have HWC := Lib.hid (HWB.out.alloc (.cells #[] 9))
  have HPC := Lib.hid (show (wB.alloc (.cells #[] 9)).heap[pb]? = some (.cells #[vd, vs, vl] 26 (0, 0)) from (Below.heap_alloc _ _ _ (lt_of_block HPB.out)).trans HPB.out)
  have HFL := Lib.hid (show ([] ++ M').length ≤ f - 1 by
    have h1 := HF.out
    rw [← HNX.out, List.length_append, List.length_append, List.length_singleton] at h1
    rw [List.nil_append]
    omega)
  have HNF := Lib.hid (show (out ++ [xe]).length + ([] : List Wd).length + M'.length ≤ 4097 by
    have h1 := HNL.out
    rw [List.length_append, List.length_singleton] at h1 ⊢
    rw [List.length_nil]
    omega)
  go_wp2_with fail
  go_roundw
  case rel => exact ⟨i + 1, [], M', out ++ [xe], f - 1, by go_num, by omega, HM'.out.symm, HOC.out, HSC.out, HWC.out, HBC.out, HPC.out, HST3.out, HFL.out, .inl rfl, (fun d hd => by cases hd), HNF.out⟩
  case measure => have := HI1'.out; simp [intOf]; omega
end Go.Proofs.YtbgpniepgbmkaaaDoor

namespace Go.Proofs.YtbgpniepgbmkaaaDoor
open Go.RowKit BigFrame Go.BigFrame

set_option maxRecDepth 100000 in
set_option maxHeartbeats 16000000 in
theorem rsame25_calls {w : World} {va vb : Value} {na nb : Nat} {A B : List En} (h1 : Reads w 7 va na (A.flatMap enCells)) (h2 : Reads w 7 vb nb (B.flatMap enCells)) (hA : A.length = na) (hB : B.length = nb) :
    Calls Tryd.prog 11 #[va, vb] w fun e w' => e = .returned (.bool (decide (A = B))) ∧ Below w.heap.size w w' := by
  have hlt1 := h1.lt
  have hlt2 := h2.lt
  obtain ⟨_, aa, ca, ea, ha2, ha3, ha4⟩ := id h1
  obtain ⟨_, ab, cb, eb, hb2, hb3, hb4⟩ := id h2
  subst ea eb
  unfold maxLen at ha3 hb3
  have HA := Lib.hid hA
  have HB0 := Lib.hid hB
  have H1 := Lib.hid h1
  have H2 := Lib.hid h2
  have HA4 := Lib.hid (fun hn : 0 < na => show ∃ bl o, aa = some ⟨bl, o, none⟩ ∧ bl < w.heap.size from by
    obtain ⟨bl, o, e, _⟩ := ha4 hn
    exact ⟨bl, o, e, hlt1 hn (by omega) bl (by rw [e]; rfl)⟩)
  have HB4 := Lib.hid (fun hn : 0 < nb => show ∃ bl o, ab = some ⟨bl, o, none⟩ ∧ bl < w.heap.size from by
    obtain ⟨bl, o, e, _⟩ := hb4 hn
    exact ⟨bl, o, e, hlt2 hn (by omega) bl (by rw [e]; rfl)⟩)
  clear hA hB h1 h2 ha4 hb4 hlt1 hlt2
  by_cases hn : na = nb
  rotate_left
  · have HV := Lib.hid (show decide (A = B) = false from decide_eq_false (fun e => hn (by rw [← HA.out, ← HB0.out, e])))
    have hn1 : ((na : Int) == (nb : Int)) = false := by simpa using fun h => hn (by omega)
    have hn2 : ((na : Int) != (nb : Int)) = true := by simpa using fun h => hn (by omega)
    clear hn
    go_enter Tryd.func11, Tryd.ntmps11
    go_wp2_with fail
    go_ret
    rw [HV.out]
    exact ⟨rfl, Below.refl _ _⟩
  subst hn
  go_enter Tryd.func11, Tryd.ntmps11
  go_wp2_with fail
  go_loopw [5] (fun u wr => ∃ j : Nat, u = .int .i64 (j : Int) ∧ j ≤ na ∧ A.take j = B.take j ∧ Below w.heap.size w wr) (fun u _ => na - (intOf u).toNat)
  case atStart => exact ⟨0, rfl, Nat.zero_le _, rfl, Below.refl _ _⟩
  case round =>
    obtain ⟨j, rfl, hj, htk, hb⟩ := hrel
    have HTK := Lib.hid htk
    have HB := Lib.hid hb
    have hjz : (0 : Int) ≤ (j : Int) := Int.natCast_nonneg _
    clear htk hb
    by_cases hc : j < na
    · have hc' : (j : Int) < (na : Int) := by omega
      obtain ⟨x, hx⟩ : ∃ x, A[j]? = some x := ⟨_, List.getElem?_eq_getElem (by rw [HA.out]; exact hc)⟩
      obtain ⟨y, hy⟩ : ∃ y, B[j]? = some y := ⟨_, List.getElem?_eq_getElem (by rw [HB0.out]; exact hc)⟩
      obtain ⟨ba, oa, rfl, hba⟩ := HA4.out (by omega)
      obtain ⟨bb, ob, rfl, hbb⟩ := HB4.out (by omega)
      have hxa := fun (k : Nat) (u : Value) (hk : (enCells x)[k]? = some u) => bw_cell (Nat.lt_of_lt_of_le hba HB.out.size) (below_cell1 HB.out hba (rows_at (f := enCells) H1.out (fun x _ => en_len x) hx hc hk))
      have hyb := fun (k : Nat) (u : Value) (hk : (enCells y)[k]? = some u) => bw_cell (Nat.lt_of_lt_of_le hbb HB.out.size) (below_cell1 HB.out hbb (rows_at (f := enCells) H2.out (fun x _ => en_len x) hy hc hk))
      have heq := fun w => en_eqv x y w
      have HNX := Lib.hid (fun h : x = y => show A.take (j + 1) = B.take (j + 1) from by rw [List.take_add_one, List.take_add_one, hx, hy, HTK.out, h])
      have HNE := Lib.hid (fun h : ¬ x = y => show decide (A = B) = false from decide_eq_false (fun e => h (by
        rw [e, hy] at hx
        exact (Option.some.inj hx).symm)))
      obtain ⟨x0, x1, x2, x3, x4, x5, x6⟩ := x
      obtain ⟨y0, y1, y2, y3, y4, y5, y6⟩ := y
      unfold enVal at heq
      simp only at heq
      have u0 : ∀ t : BW wr, t.at_.cell? ⟨ba, oa + j * 7, none⟩ = some (.int .i64 x0) := hxa 0 _ rfl
      have v0 : ∀ t : BW wr, t.at_.cell? ⟨bb, ob + j * 7, none⟩ = some (.int .i64 y0) := hyb 0 _ rfl
      have u1 : ∀ t : BW wr, t.at_.cell? ⟨ba, oa + j * 7 + 1, none⟩ = some (.int .i64 x1) := hxa 1 _ rfl
      have v1 : ∀ t : BW wr, t.at_.cell? ⟨bb, ob + j * 7 + 1, none⟩ = some (.int .i64 y1) := hyb 1 _ rfl
      have u2 : ∀ t : BW wr, t.at_.cell? ⟨ba, oa + j * 7 + 2, none⟩ = some (.int .i64 x2) := hxa 2 _ rfl
      have v2 : ∀ t : BW wr, t.at_.cell? ⟨bb, ob + j * 7 + 2, none⟩ = some (.int .i64 y2) := hyb 2 _ rfl
      have u3 : ∀ t : BW wr, t.at_.cell? ⟨ba, oa + j * 7 + 3, none⟩ = some (.int .i64 x3) := hxa 3 _ rfl
      have v3 : ∀ t : BW wr, t.at_.cell? ⟨bb, ob + j * 7 + 3, none⟩ = some (.int .i64 y3) := hyb 3 _ rfl
      have u4 : ∀ t : BW wr, t.at_.cell? ⟨ba, oa + j * 7 + 4, none⟩ = some (.int .i64 x4) := hxa 4 _ rfl
      have v4 : ∀ t : BW wr, t.at_.cell? ⟨bb, ob + j * 7 + 4, none⟩ = some (.int .i64 y4) := hyb 4 _ rfl
      have u5 : ∀ t : BW wr, t.at_.cell? ⟨ba, oa + j * 7 + 5, none⟩ = some (.int .i64 x5) := hxa 5 _ rfl
      have v5 : ∀ t : BW wr, t.at_.cell? ⟨bb, ob + j * 7 + 5, none⟩ = some (.int .i64 y5) := hyb 5 _ rfl
      have u6 : ∀ t : BW wr, t.at_.cell? ⟨ba, oa + j * 7 + 6, none⟩ = some (.int .i64 x6) := hxa 6 _ rfl
      have v6 : ∀ t : BW wr, t.at_.cell? ⟨bb, ob + j * 7 + 6, none⟩ = some (.int .i64 y6) := hyb 6 _ rfl
      clear hxa hyb hx hy
      go_upto_region 6 with (fail)
      by_cases hxy : (⟨x0, x1, x2, x3, x4, x5, x6⟩ : En) = ⟨y0, y1, y2, y3, y4, y5, y6⟩
      · have HV := Lib.hid (HNX.out hxy)
        have heq2 : ∀ w, (Op.equalIn 10000 28 (.agg #[.int .i64 x0, .int .i64 x1, .int .i64 x2, .int .i64 x3, .int .i64 x4, .int .i64 x5, .int .i64 x6]) (.agg #[.int .i64 y0, .int .i64 y1, .int .i64 y2, .int .i64 y3, .int .i64 y4, .int .i64 y5, .int .i64 y6])).run Tryd.prog w = .ok true w := fun w => by rw [heq w, decide_eq_true hxy]
        clear heq hxy
        refine wp_region_quiet_bw (by kernel_rfl) (by kernel_rfl) ?_
        repeat (go_big_quiet_step (fail))
        refine wpQuiet_nil ?_
        intro _ hw'
        obtain ⟨tq, rfl⟩ := hw'
        have HB6 := Lib.hid (HB.out.trans (tq.ok.mono HB.out.size))
        clear u0 v0 u1 v1 u2 v2 u3 v3 u4 v4 u5 v5 u6 v6 heq2
        go_wp2_with fail
        go_roundw
        case rel => exact ⟨j + 1, by go_num, by omega, HV.out, HB6.out⟩
        case measure => simp [intOf]; omega
      · have HV := Lib.hid (HNE.out hxy)
        have heq2 : ∀ w, (Op.equalIn 10000 28 (.agg #[.int .i64 x0, .int .i64 x1, .int .i64 x2, .int .i64 x3, .int .i64 x4, .int .i64 x5, .int .i64 x6]) (.agg #[.int .i64 y0, .int .i64 y1, .int .i64 y2, .int .i64 y3, .int .i64 y4, .int .i64 y5, .int .i64 y6])).run Tryd.prog w = .ok false w := fun w => by rw [heq w, decide_eq_false hxy]
        clear heq hxy
        refine wp_region_quiet_bw (by kernel_rfl) (by kernel_rfl) ?_
        repeat (go_big_quiet_step (fail))
        refine wpQuiet_nil ?_
        intro _ hw'
        obtain ⟨tq, rfl⟩ := hw'
        have HB6 := Lib.hid (HB.out.trans (tq.ok.mono HB.out.size))
        clear u0 v0 u1 v1 u2 v2 u3 v3 u4 v4 u5 v5 u6 v6 heq2
        go_wp2_with fail
        go_ret
        rw [HV.out]
        exact ⟨rfl, HB6.out⟩
    · obtain rfl : j = na := by omega
      have hc' : ¬ (j : Int) < (j : Int) := by omega
      have HV := Lib.hid (show decide (A = B) = true from decide_eq_true (by
        have := HTK.out
        rwa [List.take_of_length_le (by rw [HA.out]; exact Nat.le_refl _), List.take_of_length_le (by rw [HB0.out]; exact Nat.le_refl _)] at this))
      clear hc
      go_wp2_with fail
      go_ret
      rw [HV.out]
      exact ⟨rfl, HB.out⟩
/-- A block of its own, read in rows. -/
theorem reads_blk {w : World} {b n k : Nat} {cs : Array Value} {T : TypeId} {xs : List Value} (h : w.heap[b]? = some (.cells cs T (0, 0))) (hx : cs.toList = xs) (hl : xs.length = n * k) (hm : n ≤ maxLen) : Reads w k (.slice (some ⟨b, 0, none⟩) n n) n xs := by
  refine ⟨hl, _, _, rfl, Nat.le_refl _, hm, fun _ => ⟨_, _, rfl, fun j u hj => ?_⟩⟩
  rw [Nat.zero_add, blk_cell h j]
  rw [← hx] at hj
  simpa using hj
def awP : P3 := ⟨[⟨⟨#[108, 111, 119]⟩, 0, 0, 1, 0, 1⟩], [(0, 1)], []⟩
def awX : En := ⟨2, 0, 0, 5, 1, 0, -3⟩
def awR : En := ⟨2, 0, 0, 34, 7, 8, 9⟩
def aw1 : ByteArray := ⟨#[116, 105, 99, 107, 32, 35, 32, 115, 111, 10, 10, 100, 111, 32, 108, 111, 119, 32, 48, 32, 114, 101, 99, 118, 32, 55, 32, 56, 32, 57]⟩
def aw2 : ByteArray := ⟨#[116, 105, 99, 107, 10, 100, 111, 32, 108, 111, 119, 32, 48, 32, 110, 101, 119, 32, 49, 32, 48]⟩
def aw3 : ByteArray := ⟨#[116, 105, 99, 107, 10, 10, 100, 111, 32, 104, 105, 103, 104, 32, 48, 32, 110, 101, 119, 32, 49, 32, 48, 32, 48]⟩
theorem awx_l : lnT awP awX = (⟨#[100, 111, 32, 108, 111, 119, 32, 48, 32, 110, 101, 119, 32, 49, 32, 48, 32, 45, 51]⟩, 0) := by kernel_rfl
theorem aw1_r : readT awP aw1 = ([tkE, awR], 0, 0) := by kernel_rfl
theorem aw2_r : readT awP aw2 = ([], 2, 2) := by kernel_rfl
theorem aw3_r : readT awP aw3 = ([], 3, 4) := by kernel_rfl
theorem awP_z : ∀ d ∈ awP.D, d.nm.size ≤ 140737488351232 := by
  intro d hd
  simp only [awP, List.mem_cons, List.not_mem_nil, or_false] at hd
  subst hd
  decide
theorem awX_b : enB awX := by unfold enB i64B awX; decide
set_option maxRecDepth 100000 in
set_option maxHeartbeats 16000000 in
theorem awake28_calls (w : World) (ht : TabT w) :
    Calls Tryd.prog 9 #[] w fun e w' => e = .returned (.bool true) ∧ Below w.heap.size w w' := by
  have H0 := Lib.hid (fun (u : World) (hu : TabT u) {vd vs vl : Value} (hp : PR u vd vs vl awP) => tline_calls hu hp awP_z awX awX_b)
  have H1 := Lib.hid (fun (u : World) (hu : TabT u) {vd vs vl : Value} (hp : PR u vd vs vl awP) => tread_calls hu hp awP_z aw1 (by decide))
  have H2 := Lib.hid (fun (u : World) (hu : TabT u) {vd vs vl : Value} (hp : PR u vd vs vl awP) => tread_calls hu hp awP_z aw2 (by decide))
  have H3 := Lib.hid (fun (u : World) (hu : TabT u) {vd vs vl : Value} (hp : PR u vd vs vl awP) => tread_calls hu hp awP_z aw3 (by decide))
  rw [awx_l] at H0
  rw [aw1_r] at H1
  rw [aw2_r] at H2
  rw [aw3_r] at H3
  simp only at H0 H1 H2 H3
  have HT := Lib.hid ht
  clear ht
  have hb1 := plus_one1 w (.cells #[.string ⟨#[108, 111, 119]⟩, .int .i64 0, .int .i64 0, .int .i64 1, .int .i64 0, .int .i64 1] 51)
  have hb2 := plus_one1 (w.alloc (.cells #[.string ⟨#[108, 111, 119]⟩, .int .i64 0, .int .i64 0, .int .i64 1, .int .i64 0, .int .i64 1] 51)) (.cells #[.int .i64 0, .int .i64 1] 57)
  have hb3 := plus_one1 ((w.alloc (.cells #[.string ⟨#[108, 111, 119]⟩, .int .i64 0, .int .i64 0, .int .i64 1, .int .i64 0, .int .i64 1] 51)).alloc (.cells #[.int .i64 0, .int .i64 1] 57)) (.cells #[.slice (some ⟨w.heap.size, 0, none⟩) 1 1, .slice (some ⟨w.heap.size + 1, 0, none⟩) 1 1, .slice none 0 0] 26)
  have HB1 := Lib.hid (hb1.trans ((hb2.trans (hb3.mono hb2.size)).mono hb1.size))
  have hp1 := (hb3.block w.heap.size (by simp; omega)).trans ((hb2.block w.heap.size (by simp)).trans (heap_alloc_new w _))
  have hp2 := (hb3.block (w.heap.size + 1) (by simp)).trans (heap_alloc2_new w _ _)
  have hp3 := heap_alloc_new ((w.alloc (.cells #[.string ⟨#[108, 111, 119]⟩, .int .i64 0, .int .i64 0, .int .i64 1, .int .i64 0, .int .i64 1] 51)).alloc (.cells #[.int .i64 0, .int .i64 1] 57)) (.cells #[.slice (some ⟨w.heap.size, 0, none⟩) 1 1, .slice (some ⟨w.heap.size + 1, 0, none⟩) 1 1, .slice none 0 0] 26)
  rw [show ((w.alloc (.cells #[.string ⟨#[108, 111, 119]⟩, .int .i64 0, .int .i64 0, .int .i64 1, .int .i64 0, .int .i64 1] 51)).alloc (.cells #[.int .i64 0, .int .i64 1] 57)).heap.size = w.heap.size + 2 by simp] at hp3
  have HP1 := Lib.hid hp1
  have HP2 := Lib.hid hp2
  have HP3 := Lib.hid hp3
  clear hb1 hb2 hb3 hp1 hp2 hp3
  go_enter Tryd.func9, Tryd.ntmps9
  go_upto_region 2 with (fail)
  obtain ⟨pb, hpb⟩ : ∃ b, b = w.heap.size + 2 := ⟨_, rfl⟩
  obtain ⟨sb, hsb⟩ : ∃ b, b = w.heap.size + 1 := ⟨_, rfl⟩
  obtain ⟨db, hdb⟩ : ∃ b, b = w.heap.size := ⟨_, rfl⟩
  rw [← hpb] at HP3
  rw [← hsb, ← hdb] at HP1 HP2 HP3 HB1
  refine name_wp28 (fun w1 hw1 => ?_)
  have HQ1 := Lib.hid (show w1.heap[db]? = some (.cells #[.string ⟨#[108, 111, 119]⟩, .int .i64 0, .int .i64 0, .int .i64 1, .int .i64 0, .int .i64 1] 51 (0, 0)) by rw [hw1, ← hsb, ← hdb]; exact HP1.out)
  have HQ2 := Lib.hid (show w1.heap[sb]? = some (.cells #[.int .i64 0, .int .i64 1] 57 (0, 0)) by rw [hw1, ← hsb, ← hdb]; exact HP2.out)
  have HQ3 := Lib.hid (show w1.heap[pb]? = some (.cells #[.slice (some ⟨db, 0, none⟩) 1 1, .slice (some ⟨sb, 0, none⟩) 1 1, .slice none 0 0] 26 (0, 0)) by rw [hw1, ← hsb, ← hdb]; exact HP3.out)
  have HQB := Lib.hid (show Below w.heap.size w w1 by rw [hw1, ← hsb, ← hdb]; exact HB1.out)
  clear hw1 HP1 HP2 HP3 HB1
  rw [← hpb]
  clear hpb hsb hdb
  have HPR := Lib.hid (show PR w1 (.slice (some ⟨db, 0, none⟩) 1 1) (.slice (some ⟨sb, 0, none⟩) 1 1) (.slice none 0 0) awP from
    ⟨reads_blk HQ1.out rfl rfl (by unfold maxLen; omega), reads_blk HQ2.out rfl rfl (by unfold maxLen; omega), Reads.nil _ _⟩)
  have q0 : w1.cell? ⟨pb, 0, none⟩ = some (.slice (some ⟨db, 0, none⟩) 1 1) := blk_cell HQ3.out 0
  have q1 : w1.cell? ⟨pb, 1, none⟩ = some (.slice (some ⟨sb, 0, none⟩) 1 1) := blk_cell HQ3.out 1
  have q2 : w1.cell? ⟨pb, 2, none⟩ = some (.slice none 0 0) := blk_cell HQ3.out 2
  have HT1 := Lib.hid (HT.out.below HQB.out)
  clear HQ1 HQ2 HT
  go_wp2_with fail
  refine (H0.out w1 HT1.out HPR.out).mono ?_
  rintro e w2 ⟨rfl, hb2⟩
  have HB2 := Lib.hid (HQB.out.trans (hb2.mono HQB.out.size))
  have HT2 := Lib.hid (HT1.out.below hb2)
  have HPR2 := Lib.hid (HPR.out.below hb2)
  have HQ2 := Lib.hid ((hb2.block pb (lt_of_block HQ3.out)).trans HQ3.out)
  clear hb2 q0 q1 q2 HQB HT1 HPR HQ3 H0
  have q0 : w2.cell? ⟨pb, 0, none⟩ = some (.slice (some ⟨db, 0, none⟩) 1 1) := blk_cell HQ2.out 0
  have q1 : w2.cell? ⟨pb, 1, none⟩ = some (.slice (some ⟨sb, 0, none⟩) 1 1) := blk_cell HQ2.out 1
  have q2 : w2.cell? ⟨pb, 2, none⟩ = some (.slice none 0 0) := blk_cell HQ2.out 2
  obtain ⟨sx, hsx⟩ : ∃ t : ByteArray, t = ⟨#[100, 111, 32, 108, 111, 119, 32, 48, 32, 110, 101, 119, 32, 49, 32, 48, 32, 45, 51]⟩ := ⟨_, rfl⟩
  rw [← hsx]
  have hsl : sx.toList = [100, 111, 32, 108, 111, 119, 32, 48, 32, 110, 101, 119, 32, 49, 32, 48, 32, 45, 51] := by rw [hsx]; exact tl_lit _
  clear hsx
  go_wp2_with fail
  refine (H1.out w2 HT2.out HPR2.out).mono ?_
  rintro e w3 ⟨v3, rfl, hr3, hb3⟩
  obtain ⟨va3, vc3, rfl, _, _⟩ := reads_shape hr3 (m := 2) rfl
  have HR3 := Lib.hid hr3
  have HB3 := Lib.hid (HB2.out.trans (hb3.mono HB2.out.size))
  have HT3 := Lib.hid (HT2.out.below hb3)
  have HPR3 := Lib.hid (HPR2.out.below hb3)
  have HQ3 := Lib.hid ((hb3.block pb (lt_of_block HQ2.out)).trans HQ2.out)
  clear hr3 hb3 q0 q1 q2 HB2 HT2 HPR2 HQ2 H1
  have q0 : w3.cell? ⟨pb, 0, none⟩ = some (.slice (some ⟨db, 0, none⟩) 1 1) := blk_cell HQ3.out 0
  have q1 : w3.cell? ⟨pb, 1, none⟩ = some (.slice (some ⟨sb, 0, none⟩) 1 1) := blk_cell HQ3.out 1
  have q2 : w3.cell? ⟨pb, 2, none⟩ = some (.slice none 0 0) := blk_cell HQ3.out 2
  go_wp2_with fail
  refine (H2.out w3 HT3.out HPR3.out).mono ?_
  rintro e w4 ⟨v4, rfl, _, hb4⟩
  have HR4 := Lib.hid (HR3.out.below (by omega) hb4)
  have HB4 := Lib.hid (HB3.out.trans (hb4.mono HB3.out.size))
  have HT4 := Lib.hid (HT3.out.below hb4)
  have HPR4 := Lib.hid (HPR3.out.below hb4)
  have HQ4 := Lib.hid ((hb4.block pb (lt_of_block HQ3.out)).trans HQ3.out)
  clear hb4 q0 q1 q2 HB3 HT3 HPR3 HQ3 H2 HR3
  have q0 : w4.cell? ⟨pb, 0, none⟩ = some (.slice (some ⟨db, 0, none⟩) 1 1) := blk_cell HQ4.out 0
  have q1 : w4.cell? ⟨pb, 1, none⟩ = some (.slice (some ⟨sb, 0, none⟩) 1 1) := blk_cell HQ4.out 1
  have q2 : w4.cell? ⟨pb, 2, none⟩ = some (.slice none 0 0) := blk_cell HQ4.out 2
  go_wp2_with fail
  refine (H3.out w4 HT4.out HPR4.out).mono ?_
  rintro e w5 ⟨v5, rfl, _, hb5⟩
  have HR5 := Lib.hid (HR4.out.below (by omega) hb5)
  have HB5 := Lib.hid (HB4.out.trans (hb5.mono HB4.out.size))
  clear hb5 q0 q1 q2 HB4 HT4 HPR4 HQ4 H3 HR4
  have HB6 := Lib.hid (HB5.out.trans ((plus_one1 w5 (.cells #[.int .i64 1, .int .i64 0, .int .i64 0, .int .i64 0, .int .i64 0, .int .i64 0, .int .i64 0, .int .i64 2, .int .i64 0, .int .i64 0, .int .i64 34, .int .i64 7, .int .i64 8, .int .i64 9] 28)).mono HB5.out.size))
  have HSM := Lib.hid (rsame25_calls (HR5.out.below (by omega) (plus_one1 w5 (.cells #[.int .i64 1, .int .i64 0, .int .i64 0, .int .i64 0, .int .i64 0, .int .i64 0, .int .i64 0, .int .i64 2, .int .i64 0, .int .i64 0, .int .i64 34, .int .i64 7, .int .i64 8, .int .i64 9] 28)))
    (reads_blk (n := 2) (k := 7) (xs := [tkE, awR].flatMap enCells) (heap_alloc_new w5 (.cells #[.int .i64 1, .int .i64 0, .int .i64 0, .int .i64 0, .int .i64 0, .int .i64 0, .int .i64 0, .int .i64 2, .int .i64 0, .int .i64 0, .int .i64 34, .int .i64 7, .int .i64 8, .int .i64 9] 28)) rfl rfl (by unfold maxLen; omega)) rfl rfl)
  rw [decide_eq_true rfl] at HSM
  go_wp2_with fail
  refine HSM.out.mono ?_
  rintro e w6 ⟨rfl, hb6⟩
  have HB7 := Lib.hid (HB6.out.trans (hb6.mono HB6.out.size))
  clear hb6
  go_wp2_with fail
  go_ret
  exact ⟨rfl, HB7.out⟩
end Go.Proofs.YtbgpniepgbmkaaaDoor
