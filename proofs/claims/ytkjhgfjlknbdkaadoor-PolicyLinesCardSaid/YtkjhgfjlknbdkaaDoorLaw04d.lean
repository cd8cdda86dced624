/- The statement PolicyBack. Conditions: the policy can be read, the names are not too long, the text is at most 2^47 bytes, the library's table is laid (Tab). -/
import Derived.Test.YtkjhgfjlknbdkaaDoorPrt5
import Derived.Test.YtkjhgfjlknbdkaaDoorLin2
import Derived.Test.YtkjhgfjlknbdkaaDoorSame
import Derived.Test.YtkjhgfjlknbdkaaDoorViewP
namespace Go.Proofs.YtkjhgfjlknbdkaaDoor
open Go.RowKit BigFrame Go.BigFrame

theorem up_names {D : List Dm} {S : List (Int × Int)} {K : List Lk} (h : checkM D S K = 0) : ∀ d ∈ D, d.nm.size ≤ 140737488351232 := fun d hd => by
  have := nameB_size ((check_all h).dm d hd).1
  omega
theorem print_text {p : P3} (h : checkM p.D p.S p.K = 0) : ∃ tx : ByteArray, printM p = (tx, 0) ∧ parseM tx = (p, 0, 0) ∧ tx.size ≤ 140737488351232 := by
  obtain ⟨D, S, K⟩ := p
  refine ⟨⟨(printL ⟨D, S, K⟩).toArray⟩, ?_, parse_print h, ?_⟩
  · unfold printM
    rw [if_pos h]
  · have h1 : (printL ⟨D, S, K⟩).length ≤ 2544 := printL_len (check_all h)
    rw [ByteArray.size_mk', List.size_toArray]
    omega
set_option maxRecDepth 100000 in
set_option maxHeartbeats 16000000 in
theorem policyBack_walk (w : World) (ht : Tab w) {vd vs vl : Value} {p : P3} (h : PR w vd vs vl p) (_hd : ∀ d ∈ p.D, dmOk d) (_hs : ∀ s ∈ p.S, slOk s) (_hk : ∀ l ∈ p.K, lkOk l) (hz : ∀ d ∈ p.D, d.nm.size ≤ 140737488351232) (s : ByteArray) (hsz : s.size ≤ 140737488351232) :
    Calls Tryd.prog 7 #[.agg #[vd, vs, vl], .string s] w fun e w' => e = .returned (.bool true) ∧ Below w.heap.size w w' := by
  have HT := Lib.hid ht
  have HZ := Lib.hid hz
  have HPR := Lib.hid h
  have HW1 := Lib.hid (plus_one1 w (.cells #[vd, vs, vl] 26))
  have HP0 := Lib.hid (show BoxP w.heap.size vd vs vl (w.alloc (.cells #[vd, vs, vl] 26)) from heap_alloc_new w _)
  obtain ⟨nd, hnd⟩ : ∃ n, n = p.D.length := ⟨_, rfl⟩
  obtain ⟨ns, hns⟩ : ∃ n, n = p.S.length := ⟨_, rfl⟩
  obtain ⟨nl, hnl⟩ : ∃ n, n = p.K.length := ⟨_, rfl⟩
  obtain ⟨ad, cd, rfl, _, _⟩ := reads_shape h.d hnd.symm
  obtain ⟨sa, cs, rfl, _, _⟩ := reads_shape h.s hns.symm
  obtain ⟨al, cl, rfl, _, _⟩ := reads_shape h.k hnl.symm
  have HPS := Lib.hid (fun (u : World) (hu : Tab u) => parse_calls s hsz u hu)
  have HCA := Lib.hid (parseM_cases s)
  obtain ⟨⟨y, ln, er⟩, hpm⟩ : ∃ r, r = parseM s := ⟨_, rfl⟩
  rw [← hpm] at HPS HCA
  simp only at HPS HCA
  obtain ⟨ch, hch⟩ : ∃ ch, ch = checkM p.D p.S p.K := ⟨_, rfl⟩
  have HPX := Lib.hid (show (ch = 0 ∧ ∃ tx : ByteArray, printM p = (tx, 0) ∧ parseM tx = (p, 0, 0) ∧ tx.size ≤ 140737488351232) ∨ (ch ≠ 0 ∧ printM p = (⟨#[]⟩, ch)) from by
    rw [hch]
    by_cases hc : checkM p.D p.S p.K = 0
    · exact .inl ⟨hc, print_text hc⟩
    · exact .inr ⟨hc, by unfold printM; rw [if_neg hc]⟩)
  clear hch
  clear ht h hz hnd hns hnl hsz hpm _hd _hs _hk
  go_enter Tryd.func7, Tryd.ntmps7
  go_upto_region 1 with (fail)
  obtain ⟨pb, hpb⟩ : ∃ b, b = w.heap.size := ⟨_, rfl⟩
  rw [← hpb] at HP0 ⊢
  generalize w.alloc (.cells #[.slice ad nd cd, .slice sa ns cs, .slice al nl cl] 26) = w1 at HW1 HP0 ⊢
  clear hpb
  have q0 : w1.cell? ⟨pb, 0, none⟩ = some (.slice ad nd cd) := blk_cell HP0.out 0
  have q1 : w1.cell? ⟨pb, 1, none⟩ = some (.slice sa ns cs) := blk_cell HP0.out 1
  have q2 : w1.cell? ⟨pb, 2, none⟩ = some (.slice al nl cl) := blk_cell HP0.out 2
  have HA := Lib.hid (print_calls (HT.out.below HW1.out) (HPR.out.below HW1.out) HZ.out)
  obtain ⟨⟨tx, pe⟩, hpp⟩ : ∃ r, r = printM p := ⟨_, rfl⟩
  rw [← hpp] at HA HPX
  simp only at HA
  clear hpp
  go_wp2_with fail
  refine HA.out.mono ?_
  rintro e w2 ⟨rfl, hb2⟩
  have HB2 := Lib.hid (HW1.out.trans (hb2.mono HW1.out.size))
  have HP2 := Lib.hid (HP0.out.below hb2)
  clear hb2 q0 q1 q2 HA HP0 HW1
  go_upto_if 24 with (fail)
  go_cut [2, 7, 8, 9] (fun u _ _ _ wx => u = .pointer (some ⟨pb, 0, none⟩) ∧ Below w.heap.size w wx)
  case first => as_aux_lemma =>
    rcases HPX.out with ⟨hc, tx', hp1, hp2, hp3⟩ | ⟨hc, hp1⟩
    · injection hp1 with e1 e2
      subst e1 e2
      have HPA := Lib.hid (fun (u : World) (hu : Tab u) => parse_calls tx hp3 u hu)
      rw [hp2] at HPA
      simp only at HPA
      clear hp2 hp3 hc
      go_wp2_with fail
      refine (HPA.out _ (HT.out.below HB2.out)).mono ?_
      rintro e w3 ⟨vd3, vs3, vl3, rfl, hp3, hb3⟩
      have HB3 := Lib.hid (HB2.out.trans (hb3.mono HB2.out.size))
      have HP3 := Lib.hid (HP2.out.below hb3)
      obtain ⟨n1, hn1⟩ : ∃ n, n = p.D.length := ⟨_, rfl⟩
      obtain ⟨n2, hn2⟩ : ∃ n, n = p.S.length := ⟨_, rfl⟩
      obtain ⟨n3, hn3⟩ : ∃ n, n = p.K.length := ⟨_, rfl⟩
      obtain ⟨x1, x2, rfl, _, _⟩ := reads_shape hp3.d hn1.symm
      obtain ⟨x3, x4, rfl, _, _⟩ := reads_shape hp3.s hn2.symm
      obtain ⟨x5, x6, rfl, _, _⟩ := reads_shape hp3.k hn3.symm
      have HX3 := Lib.hid hp3
      have HB4 := Lib.hid (HB3.out.trans ((plus_one1 w3 (.cells #[.slice x1 n1 x2, .slice x3 n2 x4, .slice x5 n3 x6] 26)).mono HB3.out.size))
      have HPR4 := Lib.hid (HX3.out.below (plus_one1 w3 (.cells #[.slice x1 n1 x2, .slice x3 n2 x4, .slice x5 n3 x6] 26)))
      have HP4 := Lib.hid (HP3.out.below (plus_one1 w3 (.cells #[.slice x1 n1 x2, .slice x3 n2 x4, .slice x5 n3 x6] 26)))
      have HQ4 := Lib.hid (show BoxP w3.heap.size (.slice x1 n1 x2) (.slice x3 n2 x4) (.slice x5 n3 x6) (w3.alloc (.cells #[.slice x1 n1 x2, .slice x3 n2 x4, .slice x5 n3 x6] 26)) from heap_alloc_new w3 _)
      clear hp3 hb3 hn1 hn2 hn3 HP2 HB2 HP3 HB3 HX3
      go_upto_region 4 with (fail)
      obtain ⟨qb, hqb⟩ : ∃ b, b = w3.heap.size := ⟨_, rfl⟩
      rw [← hqb] at HQ4 ⊢
      generalize w3.alloc (.cells #[.slice x1 n1 x2, .slice x3 n2 x4, .slice x5 n3 x6] 26) = w4 at HB4 HPR4 HP4 HQ4 ⊢
      clear hqb
      have q0 : w4.cell? ⟨pb, 0, none⟩ = some (.slice ad nd cd) := blk_cell HP4.out 0
      have q1 : w4.cell? ⟨pb, 1, none⟩ = some (.slice sa ns cs) := blk_cell HP4.out 1
      have q2 : w4.cell? ⟨pb, 2, none⟩ = some (.slice al nl cl) := blk_cell HP4.out 2
      have r0 : w4.cell? ⟨qb, 0, none⟩ = some (.slice x1 n1 x2) := blk_cell HQ4.out 0
      have r1 : w4.cell? ⟨qb, 1, none⟩ = some (.slice x3 n2 x4) := blk_cell HQ4.out 1
      have r2 : w4.cell? ⟨qb, 2, none⟩ = some (.slice x5 n3 x6) := blk_cell HQ4.out 2
      go_wp2_with fail
      refine (rsame_calls HPR4.out (HPR.out.below HB4.out)).mono ?_
      rintro e w5 ⟨rfl, hb5⟩
      have HB5 := Lib.hid (HB4.out.trans (hb5.mono HB4.out.size))
      clear hb5 q0 q1 q2 r0 r1 r2
      go_wp2_with fail
      go_meet
      exact ⟨rfl, HB5.out⟩
    · injection hp1 with e1 e2
      subst e1
      subst e2
      have he' : (pe == 0) = false := by simpa using hc
      have hen : (pe != 0) = true := by simpa using hc
      clear hc
      go_wp2_with fail
      go_meet
      exact ⟨rfl, HB2.out⟩
  case rest =>
  obtain ⟨rfl, hb⟩ := hcut
  have HBC := Lib.hid hb
  clear hb HP2 HB2 HPX
  go_wp2_with fail
  refine (HPS.out _ (HT.out.below HBC.out)).mono ?_
  rintro e w3 ⟨vd3, vs3, vl3, rfl, hp3, hb3⟩
  have HB3 := Lib.hid (HBC.out.trans (hb3.mono HBC.out.size))
  obtain ⟨n1, hn1⟩ : ∃ n, n = y.D.length := ⟨_, rfl⟩
  obtain ⟨n2, hn2⟩ : ∃ n, n = y.S.length := ⟨_, rfl⟩
  obtain ⟨n3, hn3⟩ : ∃ n, n = y.K.length := ⟨_, rfl⟩
  obtain ⟨x1, x2, rfl, _, _⟩ := reads_shape hp3.d hn1.symm
  obtain ⟨x3, x4, rfl, _, _⟩ := reads_shape hp3.s hn2.symm
  obtain ⟨x5, x6, rfl, _, _⟩ := reads_shape hp3.k hn3.symm
  have HX3 := Lib.hid hp3
  have HB4 := Lib.hid (HB3.out.trans ((plus_one1 w3 (.cells #[.slice x1 n1 x2, .slice x3 n2 x4, .slice x5 n3 x6] 26)).mono HB3.out.size))
  have HPR4 := Lib.hid (HX3.out.below (plus_one1 w3 (.cells #[.slice x1 n1 x2, .slice x3 n2 x4, .slice x5 n3 x6] 26)))
  have HQ4 := Lib.hid (show BoxP w3.heap.size (.slice x1 n1 x2) (.slice x3 n2 x4) (.slice x5 n3 x6) (w3.alloc (.cells #[.slice x1 n1 x2, .slice x3 n2 x4, .slice x5 n3 x6] 26)) from heap_alloc_new w3 _)
  clear hp3 hb3 hn1 hn2 hn3 HB3 HX3 HPS HBC
  go_upto_region 7 with (fail)
  obtain ⟨qb, hqb⟩ : ∃ b, b = w3.heap.size := ⟨_, rfl⟩
  rw [← hqb] at HQ4 ⊢
  generalize w3.alloc (.cells #[.slice x1 n1 x2, .slice x3 n2 x4, .slice x5 n3 x6] 26) = w4 at HB4 HPR4 HQ4 ⊢
  clear hqb
  rcases HCA.out with ⟨he, hl, hc⟩ | ⟨he, hy⟩
  · subst he hl
    obtain ⟨ty, hty1, hty2, hty3⟩ := print_text hc
    have HPY := Lib.hid (fun (u : World) (h1 : Tab u) (h2 : PR u (.slice x1 n1 x2) (.slice x3 n2 x4) (.slice x5 n3 x6) y) => print_calls h1 h2 (up_names hc))
    rw [hty1] at HPY
    simp only at HPY
    have HPA := Lib.hid (fun (u : World) (hu : Tab u) => parse_calls ty hty3 u hu)
    rw [hty2] at HPA
    simp only at HPA
    have HCK := Lib.hid (fun (u : World) (h2 : PR u (.slice x1 n1 x2) (.slice x3 n2 x4) (.slice x5 n3 x6) y) => check_calls h2.d h2.s h2.k (up_names hc))
    rw [hc] at HCK
    have r0 : w4.cell? ⟨qb, 0, none⟩ = some (.slice x1 n1 x2) := blk_cell HQ4.out 0
    have r1 : w4.cell? ⟨qb, 1, none⟩ = some (.slice x3 n2 x4) := blk_cell HQ4.out 1
    have r2 : w4.cell? ⟨qb, 2, none⟩ = some (.slice x5 n3 x6) := blk_cell HQ4.out 2
    clear hty1 hty2 hty3 hc HCA
    go_wp2_with fail
    refine (HPY.out _ (HT.out.below HB4.out) HPR4.out).mono ?_
    rintro e w5 ⟨rfl, hb5⟩
    have HB5 := Lib.hid (HB4.out.trans (hb5.mono HB4.out.size))
    have HPR5 := Lib.hid (HPR4.out.below hb5)
    have HQ5 := Lib.hid (HQ4.out.below hb5)
    clear hb5 r0 r1 r2 HB4 HPR4 HQ4 HPY
    go_wp2_with fail
    refine (HPA.out _ (HT.out.below HB5.out)).mono ?_
    rintro e w6 ⟨vd6, vs6, vl6, rfl, hp6, hb6⟩
    have HB6 := Lib.hid (HB5.out.trans (hb6.mono HB5.out.size))
    have HPR6 := Lib.hid (HPR5.out.below hb6)
    have HQ6 := Lib.hid (HQ5.out.below hb6)
    obtain ⟨m1, hm1⟩ : ∃ n, n = y.D.length := ⟨_, rfl⟩
    obtain ⟨m2, hm2⟩ : ∃ n, n = y.S.length := ⟨_, rfl⟩
    obtain ⟨m3, hm3⟩ : ∃ n, n = y.K.length := ⟨_, rfl⟩
    obtain ⟨z1, z2, rfl, _, _⟩ := reads_shape hp6.d hm1.symm
    obtain ⟨z3, z4, rfl, _, _⟩ := reads_shape hp6.s hm2.symm
    obtain ⟨z5, z6, rfl, _, _⟩ := reads_shape hp6.k hm3.symm
    have HX6 := Lib.hid hp6
    have HB7 := Lib.hid (HB6.out.trans ((plus_one1 w6 (.cells #[.slice z1 m1 z2, .slice z3 m2 z4, .slice z5 m3 z6] 26)).mono HB6.out.size))
    have HPR7 := Lib.hid (HPR6.out.below (plus_one1 w6 (.cells #[.slice z1 m1 z2, .slice z3 m2 z4, .slice z5 m3 z6] 26)))
    have HPX7 := Lib.hid (HX6.out.below (plus_one1 w6 (.cells #[.slice z1 m1 z2, .slice z3 m2 z4, .slice z5 m3 z6] 26)))
    have HQ7 := Lib.hid (HQ6.out.below (plus_one1 w6 (.cells #[.slice z1 m1 z2, .slice z3 m2 z4, .slice z5 m3 z6] 26)))
    have HR7 := Lib.hid (show BoxP w6.heap.size (.slice z1 m1 z2) (.slice z3 m2 z4) (.slice z5 m3 z6) (w6.alloc (.cells #[.slice z1 m1 z2, .slice z3 m2 z4, .slice z5 m3 z6] 26)) from heap_alloc_new w6 _)
    clear hp6 hb6 hm1 hm2 hm3 HB5 HB6 HPR5 HPR6 HQ5 HQ6 HX6 HPA
    go_upto_region 11 with (fail)
    obtain ⟨tb, htb⟩ : ∃ b, b = w6.heap.size := ⟨_, rfl⟩
    rw [← htb] at HR7 ⊢
    generalize w6.alloc (.cells #[.slice z1 m1 z2, .slice z3 m2 z4, .slice z5 m3 z6] 26) = w7 at HB7 HPR7 HPX7 HQ7 HR7 ⊢
    clear htb
    go_wp2_with fail
    refine (awake4_calls w7 (HT.out.below HB7.out)).mono ?_
    rintro e w8 ⟨rfl, hb8⟩
    have HB8 := Lib.hid (HB7.out.trans (hb8.mono HB7.out.size))
    have HPR8 := Lib.hid (HPR7.out.below hb8)
    have HPX8 := Lib.hid (HPX7.out.below hb8)
    have HQ8 := Lib.hid (HQ7.out.below hb8)
    have HR8 := Lib.hid (HR7.out.below hb8)
    clear hb8 HB7 HPR7 HPX7 HQ7 HR7
    have r0 : w8.cell? ⟨qb, 0, none⟩ = some (.slice x1 n1 x2) := blk_cell HQ8.out 0
    have r1 : w8.cell? ⟨qb, 1, none⟩ = some (.slice x3 n2 x4) := blk_cell HQ8.out 1
    have r2 : w8.cell? ⟨qb, 2, none⟩ = some (.slice x5 n3 x6) := blk_cell HQ8.out 2
    go_wp2_with fail
    refine (HCK.out _ HPR8.out).mono ?_
    rintro e w9 ⟨rfl, hb9⟩
    have HB9 := Lib.hid (HB8.out.trans (hb9.mono HB8.out.size))
    have HPR9 := Lib.hid (HPR8.out.below hb9)
    have HPX9 := Lib.hid (HPX8.out.below hb9)
    have HQ9 := Lib.hid (HQ8.out.below hb9)
    have HR9 := Lib.hid (HR8.out.below hb9)
    clear hb9 r0 r1 r2 HB8 HPR8 HPX8 HQ8 HR8 HCK
    have r0 : w9.cell? ⟨qb, 0, none⟩ = some (.slice x1 n1 x2) := blk_cell HQ9.out 0
    have r1 : w9.cell? ⟨qb, 1, none⟩ = some (.slice x3 n2 x4) := blk_cell HQ9.out 1
    have r2 : w9.cell? ⟨qb, 2, none⟩ = some (.slice x5 n3 x6) := blk_cell HQ9.out 2
    have t0 : w9.cell? ⟨tb, 0, none⟩ = some (.slice z1 m1 z2) := blk_cell HR9.out 0
    have t1 : w9.cell? ⟨tb, 1, none⟩ = some (.slice z3 m2 z4) := blk_cell HR9.out 1
    have t2 : w9.cell? ⟨tb, 2, none⟩ = some (.slice z5 m3 z6) := blk_cell HR9.out 2
    go_wp2_with fail
    refine (rsame_calls HPR9.out HPX9.out).mono ?_
    rintro e w10 ⟨rfl, hb10⟩
    have HB10 := Lib.hid (HB9.out.trans (hb10.mono HB9.out.size))
    clear hb10 r0 r1 r2 t0 t1 t2
    go_wp2_with fail
    go_ret
    exact ⟨rfl, HB10.out⟩
  · subst hy
    have hen : (er != 0) = true := by simpa using he
    have he' : (er == 0) = false := by simpa using he
    clear he HCA
    go_wp2_with fail
    refine (awake4_calls w4 (HT.out.below HB4.out)).mono ?_
    rintro e w5 ⟨rfl, hb5⟩
    have HB5 := Lib.hid (HB4.out.trans (hb5.mono HB4.out.size))
    have HPR5 := Lib.hid (HPR4.out.below hb5)
    have HQ5 := Lib.hid (HQ4.out.below hb5)
    clear hb5 HB4 HPR4 HQ4
    have r0 : w5.cell? ⟨qb, 0, none⟩ = some (.slice x1 n1 x2) := blk_cell HQ5.out 0
    have r1 : w5.cell? ⟨qb, 1, none⟩ = some (.slice x3 n2 x4) := blk_cell HQ5.out 1
    have r2 : w5.cell? ⟨qb, 2, none⟩ = some (.slice x5 n3 x6) := blk_cell HQ5.out 2
    go_wp2_with fail
    refine (rsame_calls HPR5.out (PR.empty _)).mono ?_
    rintro e w6 ⟨rfl, hb6⟩
    have HB6 := Lib.hid (HB5.out.trans (hb6.mono HB5.out.size))
    clear hb6 r0 r1 r2
    go_wp2_with fail
    go_ret
    exact ⟨rfl, HB6.out⟩
end Go.Proofs.YtkjhgfjlknbdkaaDoor
