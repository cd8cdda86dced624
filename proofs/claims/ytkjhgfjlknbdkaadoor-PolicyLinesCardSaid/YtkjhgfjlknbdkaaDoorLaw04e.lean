/- The statement PolicyLines. Conditions: the policy can be read, the names are not too long, the library's table is laid (Tab). -/
import Derived.Test.YtkjhgfjlknbdkaaDoorLin3
import Derived.Test.YtkjhgfjlknbdkaaDoorLaw04d
namespace Go.Proofs.YtkjhgfjlknbdkaaDoor
open Go.RowKit BigFrame Go.BigFrame

theorem drop_one {l : List UInt8} {a : Nat} {x : UInt8} (h : l[a]? = some x) : cnt10 (l.take (a + 1)) = cnt10 (l.take a) + (if x = 10 then 1 else 0) := by
  unfold cnt10
  rw [List.take_add_one, h, Option.toList_some, List.countP_append]
  congr 1
  by_cases hx : x = 10
  · rw [hx]; rfl
  · rw [if_neg hx, List.countP_eq_zero]
    intro y hy
    rw [List.mem_singleton] at hy
    rw [hy]
    simpa using hx
theorem ba_at {s : ByteArray} {a : Nat} (h : a < s.size) : s.data.toList[a]? = some (s[a]'h) := by
  rw [Array.getElem?_toList, Array.getElem?_eq_getElem h]
  rfl
set_option maxRecDepth 100000 in
set_option maxHeartbeats 32000000 in
theorem policyLines_walk (w : World) (ht : Tab w) {vd vs vl : Value} {p : P3} (h : PR w vd vs vl p) (_hd : ∀ d ∈ p.D, dmOk d) (_hs : ∀ s ∈ p.S, slOk s) (_hk : ∀ l ∈ p.K, lkOk l) (hz : ∀ d ∈ p.D, d.nm.size ≤ 140737488351232) (n : Int) (hn0 : 0 ≤ n) (hn1 : n ≤ 255) :
    Calls Tryd.prog 8 #[.agg #[vd, vs, vl], .int .u8 n] w fun e w' => e = .returned (.bool true) ∧ Below w.heap.size w w' := by
  have HT := Lib.hid ht
  have HPR := Lib.hid h
  have HW1 := Lib.hid (plus_one1 w (.cells #[vd, vs, vl] 26))
  have HP0 := Lib.hid (show BoxP w.heap.size vd vs vl (w.alloc (.cells #[vd, vs, vl] 26)) from heap_alloc_new w _)
  have HA0 := Lib.hid (fun (u : World) (h1 : Tab u) (h2 : PR u vd vs vl p) => print_calls h1 h2 hz)
  obtain ⟨nd, hnd⟩ : ∃ n, n = p.D.length := ⟨_, rfl⟩
  obtain ⟨ns, hns⟩ : ∃ n, n = p.S.length := ⟨_, rfl⟩
  obtain ⟨nl, hnl⟩ : ∃ n, n = p.K.length := ⟨_, rfl⟩
  obtain ⟨ad, cd, rfl, _, _⟩ := reads_shape h.d hnd.symm
  obtain ⟨sa, cs, rfl, _, _⟩ := reads_shape h.s hns.symm
  obtain ⟨al, cl, rfl, _, _⟩ := reads_shape h.k hnl.symm
  obtain ⟨ch, hch⟩ : ∃ ch, ch = checkM p.D p.S p.K := ⟨_, rfl⟩
  have HPX := Lib.hid (show (ch = 0 ∧ printM p = (⟨(printL p).toArray⟩, 0)) ∨ (ch ≠ 0 ∧ printM p = (⟨#[]⟩, ch)) from by
    rw [hch]
    unfold printM
    by_cases hc : checkM p.D p.S p.K = 0
    · exact .inl ⟨hc, by rw [if_pos hc]⟩
    · exact .inr ⟨hc, by rw [if_neg hc]⟩)
  have HCH := Lib.hid hch
  obtain ⟨m, hm⟩ : ∃ m : Nat, n % 40 = m := ⟨(n % 40).toNat, by omega⟩
  have hm1 : Int.tmod n 40 = (m : Int) := by rw [Int.tmod_eq_emod_of_nonneg hn0]; exact hm
  have hm2 : IntKind.u8.wrap (m : Int) = (m : Int) := by simp [IntKind.wrap, IntKind.bits, IntKind.signed]; omega
  have hm3 : IntKind.i64.wrap (m : Int) = (m : Int) := by rw [IntKind.wrap_i64]; omega
  have hmm : (m : Int) < 40 := by omega
  clear ht h hz hnd hns hnl hch _hd _hs _hk
  go_enter Tryd.func8, Tryd.ntmps8
  go_upto_region 1 with (fail)
  obtain ⟨pb, hpb⟩ : ∃ b, b = w.heap.size := ⟨_, rfl⟩
  rw [← hpb] at HP0 ⊢
  generalize w.alloc (.cells #[.slice ad nd cd, .slice sa ns cs, .slice al nl cl] 26) = w1 at HW1 HP0 ⊢
  clear hpb
  have q0 : w1.cell? ⟨pb, 0, none⟩ = some (.slice ad nd cd) := blk_cell HP0.out 0
  have q1 : w1.cell? ⟨pb, 1, none⟩ = some (.slice sa ns cs) := blk_cell HP0.out 1
  have q2 : w1.cell? ⟨pb, 2, none⟩ = some (.slice al nl cl) := blk_cell HP0.out 2
  have HA := Lib.hid (HA0.out w1 (HT.out.below HW1.out) (HPR.out.below HW1.out))
  clear HA0
  obtain ⟨⟨tx, pe⟩, hpp⟩ : ∃ r, r = printM p := ⟨_, rfl⟩
  rw [← hpp] at HA HPX
  simp only at HA
  clear hpp
  go_wp2_with fail
  refine HA.out.mono ?_
  rintro e wl ⟨rfl, hb2⟩
  have HB2 := Lib.hid (HW1.out.trans (hb2.mono HW1.out.size))
  clear hb2 q0 q1 q2 HA HP0 HW1 HPR
  rcases HPX.out with ⟨hc, hp1⟩ | ⟨hc, hp1⟩
  rotate_left
  · injection hp1 with e1 e2
    subst e1
    subst e2
    have he' : (pe == 0) = false := by simpa using hc
    have hen : (pe != 0) = true := by simpa using hc
    clear hc HPX HCH
    go_wp2_with fail
    refine (awake4_calls wl (HT.out.below HB2.out)).mono ?_
    rintro e w5 ⟨rfl, hb5⟩
    have HB5 := Lib.hid (HB2.out.trans (hb5.mono HB2.out.size))
    clear hb5
    go_wp2_with fail
    go_ret
    exact ⟨rfl, HB5.out⟩
  subst hc
  injection hp1 with e1 e2
  subst e2
  have htl : tx.data.toList = printL p := by rw [e1]
  have HTL0 := Lib.hid htl
  have HPB := Lib.hid (fun (a : Nat) (ha : a ≤ (printL p).length) (hb : a = 0 ∨ (printL p)[a - 1]? = some 10) (s : ByteArray) (hs : s.data.toList = (printL p).take a ++ [100, 111, 109, 97, 105, 110, 32, 97, 10] ++ (printL p).drop a) => parse_bad (p := p) HCH.out.symm ha hb hs)
  obtain ⟨D, S, K⟩ := p
  have hend := printL_end (D := D) (S := S) (K := K) (check_all HCH.out.symm)
  have hlen : (printL ⟨D, S, K⟩).length ≤ 2544 := printL_len (D := D) (S := S) (K := K) (check_all HCH.out.symm)
  rw [← htl, ba_size] at hend hlen
  rw [← htl, ba_size] at HPB
  have HEND := Lib.hid hend.2
  have hpos := hend.1
  have HTL := Lib.hid (HT.out.below HB2.out)
  have tz : (0 : Int) ≤ (tx.size : Int) := Int.natCast_nonneg _
  have t9 : (tx.size : Int) ≤ 2544 := by omega
  clear hend e1 htl HPX HCH HTL0
  go_upto_block 0 with (fail)
  go_cut [7, 8] (fun u v wx => ∃ a l : Nat, u = .int .i64 a ∧ v = .int .i64 l ∧ a ≤ tx.size ∧ l = cnt10 (tx.data.toList.take a) ∧ (a = 0 ∨ tx.data.toList[a - 1]? = some 10) ∧ wx = wl)
  case first => as_aux_lemma =>
    go_upto_region 5 with (fail)
    go_loop [7, 8] (fun u v => ∃ a l : Nat, u = .int .i64 a ∧ v = .int .i64 l ∧ a ≤ tx.size ∧ l ≤ m ∧ l = cnt10 (tx.data.toList.take a) ∧ (l = m → a = 0 ∨ tx.data.toList[a - 1]? = some 10)) (fun u _ => tx.size - (intOf u).toNat)
    case atStart => exact ⟨0, 0, rfl, rfl, Nat.zero_le _, Nat.zero_le _, by simp [cnt10], fun _ => .inl rfl⟩
    case round =>
      obtain ⟨a, l, rfl, rfl, ha, hl, hcnt, hat⟩ := hrel
      have HCN := Lib.hid hcnt
      have HAT := Lib.hid hat
      have haz : (0 : Int) ≤ (a : Int) := Int.natCast_nonneg _
      have hlz : (0 : Int) ≤ (l : Int) := Int.natCast_nonneg _
      clear hcnt hat
      by_cases hgo : l < m ∧ a < tx.size
      · obtain ⟨hlm, hatx⟩ := hgo
        have h1 : (l : Int) < (m : Int) := by omega
        have h2 : (a : Int) < (tx.size : Int) := by omega
        obtain ⟨x, hx⟩ : ∃ x, x = (tx[a]'hatx) := ⟨_, rfl⟩
        have HD := Lib.hid (drop_one (show tx.data.toList[a]? = some x by rw [hx]; exact ba_at hatx))
        have HX := Lib.hid (show tx.data.toList[a]? = some x by rw [hx]; exact ba_at hatx)
        obtain ⟨c, hc⟩ : ∃ c : Int, c = (x.toNat : Int) := ⟨_, rfl⟩
        have hb0 : ((tx[a]'hatx).toNat : Int) = c := by rw [← hx, hc]
        have HC := Lib.hid hc
        clear hx hc
        by_cases hten : c = 10
        · have hx10 : x = 10 := by
            have := HC.out
            apply UInt8.toNat_inj.1
            show x.toNat = 10
            omega
          have HL := Lib.hid (show l + 1 = cnt10 (tx.data.toList.take (a + 1)) by rw [HD.out, ← HCN.out, if_pos hx10])
          have HY := Lib.hid (show tx.data.toList[a]? = some 10 by rw [HX.out, hx10])
          subst hten
          clear hx10 HD HX HC
          go_wp2_with fail
          go_round
          case rel => exact ⟨a + 1, l + 1, by go_num, by go_num, by omega, by omega, HL.out, fun _ => .inr HY.out⟩
          case measure => simp [intOf]; omega
        · have hx10 : ¬ x = 10 := fun e => hten (by rw [HC.out, e]; rfl)
          have HL := Lib.hid (show l = cnt10 (tx.data.toList.take (a + 1)) by rw [HD.out, ← HCN.out, if_neg hx10]; rfl)
          have hten2 : (c == 10) = false := by simpa using hten
          clear hx10 HD HX HC hten
          go_wp2_with fail
          go_round
          case rel => exact ⟨a + 1, l, by go_num, rfl, by omega, by omega, HL.out, fun e => by omega⟩
          case measure => simp [intOf]; omega
      · have hat : a = 0 ∨ tx.data.toList[a - 1]? = some 10 := by
          by_cases e : l = m
          · exact HAT.out e
          · have : a = tx.size := by omega
            rw [this]
            exact .inr HEND.out
        have HAT2 := Lib.hid hat
        have HLM := Lib.hid hgo
        clear hgo hat HAT
        by_cases hlm : l < m
        · have h1 : (l : Int) < (m : Int) := by omega
          have h2 : ¬ (a : Int) < (tx.size : Int) := by have := HLM.out; omega
          go_wp2_with fail
          go_meet
          exact ⟨a, l, rfl, rfl, ha, HCN.out, HAT2.out, rfl⟩
        · have h1 : ¬ (l : Int) < (m : Int) := by omega
          go_wp2_with fail
          go_meet
          exact ⟨a, l, rfl, rfl, ha, HCN.out, HAT2.out, rfl⟩
  case rest =>
  obtain ⟨a, l, rfl, rfl, ha, hcnt, hat, rfl⟩ := hcut
  have HCN := Lib.hid hcnt
  have HAT2 := Lib.hid hat
  have haz : (0 : Int) ≤ (a : Int) := Int.natCast_nonneg _
  have hlz : (0 : Int) ≤ (l : Int) := Int.natCast_nonneg _
  have hai : (a : Int) ≤ (tx.size : Int) := by omega
  have hl9 : (l : Int) ≤ 10000 := by
    have : cnt10 (tx.data.toList.take a) ≤ (tx.data.toList.take a).length := List.countP_le_length
    rw [List.length_take] at this
    omega
  clear hcnt hat HEND
  go_upto_block 2 with (fail)
  go_cut [7] (fun u wx => u = .int .i64 a ∧ wx = wc)
  case first => as_aux_lemma =>
    go_upto_region 9 with (fail)
    go_loop [7] (fun u => u = .int .i64 a) (fun _ => 0)
    case atStart => rfl
    case round =>
      subst hrel
      have HNX := Lib.hid (show a = 0 ∨ ∃ b : Nat, a = b + 1 ∧ ∃ hb : b < tx.size, ((tx[b]'hb).toNat : Int) = 10 from by
        rcases HAT2.out with h | h
        · exact .inl h
        · cases a with
          | zero => exact .inl rfl
          | succ b =>
            refine .inr ⟨b, rfl, by omega, ?_⟩
            rw [Nat.add_sub_cancel, ba_at (by omega)] at h
            injection h with h
            rw [h]
            rfl)
      rcases HNX.out with h0 | ⟨b, hab, hb, hb10⟩
      · have h01 : ¬ (0 : Int) < (a : Int) := by omega
        clear HNX h0
        go_wp2_with fail
        go_meet
        exact ⟨rfl, rfl⟩
      · have hab1 : (a : Int) - 1 = (b : Int) := by omega
        have hab0 : (0 : Int) < (a : Int) := by omega
        have hbz : (0 : Int) ≤ (b : Int) := Int.natCast_nonneg _
        have hbx : (b : Int) < (tx.size : Int) := by omega
        clear HNX hab
        go_wp2_with fail
        go_meet
        exact ⟨rfl, rfl⟩
  case rest =>
  obtain ⟨rfl, rfl⟩ := hcut
  obtain ⟨wl, hwl⟩ : ∃ wl, wl = wc := ⟨_, rfl⟩
  subst hwl
  obtain ⟨y, hy, hyl, hys⟩ := cat_ex (tx.extract 0 a) ⟨#[100, 111, 109, 97, 105, 110, 32, 97, 10]⟩ (by have := extract_size tx 0 a; rw [show (⟨#[100, 111, 109, 97, 105, 110, 32, 97, 10]⟩ : ByteArray).size = 9 from rfl]; omega)
  obtain ⟨z, hz, hzl, hzs⟩ := cat_ex y (tx.extract a tx.size) (by have := extract_size tx 0 a; have := extract_size tx a tx.size; rw [hys, show (⟨#[100, 111, 109, 97, 105, 110, 32, 97, 10]⟩ : ByteArray).size = 9 from rfl]; omega)
  have HPA := Lib.hid (fun (u : World) (hu : Tab u) => parse_calls z (by have := extract_size tx 0 a; have := extract_size tx a tx.size; rw [hzs, hys, show (⟨#[100, 111, 109, 97, 105, 110, 32, 97, 10]⟩ : ByteArray).size = 9 from rfl]; omega) u hu)
  have hpz : parseM z = (noP, (l : Int) + 1, 2) := by
    have h1 := HPB.out a ha HAT2.out z (by
      rw [hzl, hyl, ByteArray.data_extract, ByteArray.data_extract, Array.toList_extract, Array.toList_extract, List.extract_eq_take_drop, List.extract_eq_take_drop, List.drop_zero, Nat.sub_zero]
      congr 1
      rw [List.take_of_length_le]
      rw [List.length_drop, Array.length_toList]
      exact Nat.le_refl _)
    rw [h1, ← HCN.out]
  rw [hpz] at HPA
  simp only at HPA
  clear hpz hyl hys hzl hzs HPB HCN HAT2
  go_upto_region 11 with (fail)
  go_cut [9, 10, 11] (fun u v x wx => ∃ (sb : Nat) (x1 : Option Addr) (x2 : Nat) (x3 : Option Addr) (x4 : Nat) (x5 : Option Addr) (x6 : Nat), u = .pointer (some ⟨sb, 0, none⟩) ∧ v = .int .i64 ((l : Int) + 1) ∧ x = .int .i64 2 ∧ BoxP sb (.slice x1 0 x2) (.slice x3 0 x4) (.slice x5 0 x6) wx ∧ PR wx (.slice x1 0 x2) (.slice x3 0 x4) (.slice x5 0 x6) noP ∧ Below wl.heap.size wl wx)
  case first => as_aux_lemma =>
    refine wp_region_W 17 14 (fun w' : World => Below wl.heap.size wl w') (by kernel_rfl) (by kernel_rfl) ((Below.refl _ _).drew) (fun hT => ?_)
    refine wpAnyW_take (i := 0) (some 51) rfl rfl (by kernel_rfl) (by kernel_rfl) (by kernel_rfl) (by kernel_rfl) (fun _ _ _ h => h) (v := ?_) (.inl ⟨by rfl, ?_⟩) (.inr hT) ?_
    rotate_left
    · (intro wT _; go_simp <;> with_reducible rfl)
    simp only [Act.put, List.setIfInBounds_toArray, List.set_cons_zero, List.set_cons_succ]
    refine wpAnyW_take (i := 1) (some 52) rfl rfl (by kernel_rfl) (by kernel_rfl) (by kernel_rfl) (by kernel_rfl) (fun _ _ _ h => h) (v := ?_) (.inl ⟨by rfl, ?_⟩) (.inr hT) ?_
    rotate_left
    · (intro wT _; go_simp <;> with_reducible rfl)
    simp only [Act.put, List.setIfInBounds_toArray, List.set_cons_zero, List.set_cons_succ]
    refine wpAnyW_take (i := 2) (some 53) rfl rfl (by kernel_rfl) (by kernel_rfl) (by kernel_rfl) (by kernel_rfl) (fun _ _ _ h => h) (v := ?_) (.inl ⟨by rfl, ?_⟩) (.inr hT) ?_
    rotate_left
    · (intro wT _; go_simp <;> with_reducible rfl)
    simp only [Act.put, List.setIfInBounds_toArray, List.set_cons_zero, List.set_cons_succ]
    refine wpAnyW_take (i := 3) (some 54) rfl rfl (by kernel_rfl) (by kernel_rfl) (by kernel_rfl) (by kernel_rfl) (fun _ _ _ h => h) (v := ?_) (.inl ⟨by rfl, ?_⟩) (.inr hT) ?_
    rotate_left
    · (intro wT _; go_simp <;> with_reducible rfl)
    simp only [Act.put, List.setIfInBounds_toArray, List.set_cons_zero, List.set_cons_succ]
    refine wpAnyW_take (i := 4) (some 55) rfl rfl (by kernel_rfl) (by kernel_rfl) (by kernel_rfl) (by kernel_rfl) (fun _ _ _ h => h) (v := ?_) (.inl ⟨by rfl, ?_⟩) (.inr hT) ?_
    rotate_left
    · (intro wT _; go_simp <;> with_reducible rfl)
    simp only [Act.put, List.setIfInBounds_toArray, List.set_cons_zero, List.set_cons_succ]
    refine wpAnyW_take (i := 5) (some 56) rfl rfl (by kernel_rfl) (by kernel_rfl) (by kernel_rfl) (by kernel_rfl) (fun _ _ _ h => h) (v := ?_) (.inl ⟨by rfl, ?_⟩) (.inr hT) ?_
    rotate_left
    · (intro wT _; go_simp <;> with_reducible rfl)
    simp only [Act.put, List.setIfInBounds_toArray, List.set_cons_zero, List.set_cons_succ]
    refine wpAnyW_take (i := 6) (some 57) rfl rfl (by kernel_rfl) (by kernel_rfl) (by kernel_rfl) (by kernel_rfl) (fun _ _ _ h => h) (v := ?_) (.inl ⟨by rfl, ?_⟩) (.inr hT) ?_
    rotate_left
    · (intro wT _; go_simp <;> with_reducible rfl)
    simp only [Act.put, List.setIfInBounds_toArray, List.set_cons_zero, List.set_cons_succ]
    refine wpAnyW_take (i := 7) (some 58) rfl rfl (by kernel_rfl) (by kernel_rfl) (by kernel_rfl) (by kernel_rfl) (fun _ _ _ h => h) (v := ?_) (.inl ⟨by rfl, ?_⟩) (.inr hT) ?_
    rotate_left
    · (intro wT _; go_simp <;> with_reducible rfl)
    simp only [Act.put, List.setIfInBounds_toArray, List.set_cons_zero, List.set_cons_succ]
    refine wpAnyW_two (i := 8) (j := 13) (by kernel_rfl) rfl rfl (fun K hK => ?_) (fun K hK => ?_)
    · go_simp
      refine (HPA.out (wl.drew) (HTL.out.below ((Below.refl wl.heap.size wl).drew))).mono ?_
      rintro e W8 ⟨vd8, vs8, vl8, rfl, hp8, hq8⟩
      obtain ⟨x1, x2, rfl, _, _⟩ := reads_shape hp8.d (m := 0) rfl
      obtain ⟨x3, x4, rfl, _, _⟩ := reads_shape hp8.s (m := 0) rfl
      obtain ⟨x5, x6, rfl, _, _⟩ := reads_shape hp8.k (m := 0) rfl
      dsimp only
      have hb8 : Below wl.heap.size wl W8 := Below.trans ((Below.refl wl.heap.size wl).drew) (hq8.mono ((Below.refl wl.heap.size wl).drew).size)
      refine step_owe hK ?_ (fun hT => ?_)
      · first | exact hb8 | exact hb13
      clear hK K
      refine wpAnyW_take (i := 9) (some 50) rfl rfl (by kernel_rfl) (by kernel_rfl) (by kernel_rfl) (by kernel_rfl) (fun _ _ _ h => h) (v := ?_) (.inl ⟨by rfl, ?_⟩) (.inr hT) ?_
      rotate_left
      · (intro wT _; go_simp <;> with_reducible rfl)
      simp only [Act.put, List.setIfInBounds_toArray, List.set_cons_zero, List.set_cons_succ]
      refine wpAnyW_take (i := 10) (some 60) rfl rfl (by kernel_rfl) (by kernel_rfl) (by kernel_rfl) (by kernel_rfl) (fun _ _ _ h => h) (v := ?_) (.inl ⟨by rfl, ?_⟩) (.inr hT) ?_
      rotate_left
      · (intro wT _; go_simp <;> with_reducible rfl)
      simp only [Act.put, List.setIfInBounds_toArray, List.set_cons_zero, List.set_cons_succ]
      refine wpAnyW_take (i := 11) (some 61) rfl rfl (by kernel_rfl) (by kernel_rfl) (by kernel_rfl) (by kernel_rfl) (fun _ _ _ h => h) (v := ?_) (.inl ⟨by rfl, ?_⟩) (.inr hT) ?_
      rotate_left
      · (intro wT _; go_simp <;> with_reducible rfl)
      simp only [Act.put, List.setIfInBounds_toArray, List.set_cons_zero, List.set_cons_succ]
      refine wpAnyW_take (i := 12) (some 62) rfl rfl (by kernel_rfl) (by kernel_rfl) (by kernel_rfl) (by kernel_rfl) (fun _ _ _ h => h) (v := ?_) (.inl ⟨by rfl, ?_⟩) (.inr hT) ?_
      rotate_left
      · (intro wT _; go_simp <;> with_reducible rfl)
      simp only [Act.put, List.setIfInBounds_toArray, List.set_cons_zero, List.set_cons_succ]
      refine wpAnyW_one (i := 13) (by kernel_rfl) rfl (fun K hK => ?_)
      go_simp
      refine name_world2 (fun W13 hW13 => ?_)
      obtain ⟨sb, hsbe⟩ : ∃ sb, sb = (W8).heap.size := ⟨_, rfl⟩
      have hsb : wl.heap.size ≤ sb := by rw [hsbe]; exact Below.size (hb8)
      have hb13 : Below wl.heap.size wl W13 := by rw [hW13]; first | exact Below.alloc (hb8) (Below.size (hb8)) _ | exact (Below.alloc (Below.refl _ _) (Nat.le_refl _) _).drew
      have hx13 : W13.heap[sb]? = some (.cells #[.slice none 0 0, .slice none 0 0, .slice none 0 0] 26 (0, 0)) := by rw [hW13, hsbe]; exact heap_alloc_new (W8) _
      have hp13 : PR W13 (.slice x1 0 x2) (.slice x3 0 x4) (.slice x5 0 x6) noP := by rw [hW13]; exact hp8.below (plus_one1 _ _)
      rw [← hsbe]
      clear hW13 hsbe
      refine step_owe hK ?_ (fun hT => ?_)
      · first | exact hb8 | exact hb13
      clear hK K
      refine wpAnyW_one (i := 14) (by kernel_rfl) rfl (fun K hK => ?_)
      have z0 : W13.frozen? ⟨sb, 0, none⟩ = false := blk_free hx13 0
      have y0 : W13.cell? ⟨sb, 0, none⟩ = some (.slice none 0 0) := blk_cell hx13 0
      have z1 : W13.frozen? ⟨sb, 1, none⟩ = false := blk_free hx13 1
      have y1 : W13.cell? ⟨sb, 1, none⟩ = some (.slice none 0 0) := blk_cell hx13 1
      have z2 : W13.frozen? ⟨sb, 2, none⟩ = false := blk_free hx13 2
      have y2 : W13.cell? ⟨sb, 2, none⟩ = some (.slice none 0 0) := blk_cell hx13 2
      have HXF := Lib.hid hx13
      have HBF := Lib.hid hb13
      have HSB := Lib.hid hsb
      have HPF := Lib.hid hp13
      go_simp
      obtain ⟨WF, hWF⟩ : ∃ WF, WF = W13 := ⟨_, rfl⟩
      rw [← hWF] at HXF HBF HPF ⊢
      refine step_paid hK (by kernel_rfl) ?_
      clear hK K
      refine wpAnyW_take (i := 15) (some 10) rfl rfl (by kernel_rfl) (by kernel_rfl) (by kernel_rfl) (by kernel_rfl) (fun _ _ _ h => h) (v := ?_) (.inl ⟨by rfl, ?_⟩) (.inl (by kernel_rfl)) ?_
      rotate_left
      · (intro wT _; go_simp <;> with_reducible rfl)
      simp only [Act.put, List.setIfInBounds_toArray, List.set_cons_zero, List.set_cons_succ]
      refine wpAnyW_take (i := 16) (some 11) rfl rfl (by kernel_rfl) (by kernel_rfl) (by kernel_rfl) (by kernel_rfl) (fun _ _ _ h => h) (v := ?_) (.inl ⟨by rfl, ?_⟩) (.inl (by kernel_rfl)) ?_
      rotate_left
      · (intro wT _; go_simp <;> with_reducible rfl)
      simp only [Act.put, List.setIfInBounds_toArray, List.set_cons_zero, List.set_cons_succ]
      refine wpAnyW_done (by kernel_rfl) ?_
      go_wp2_with fail
      go_meet
      have hlt := lt_of_block HXF.out
      refine ⟨sb, x1, x2, x3, x4, x5, x6, rfl, rfl, rfl, ?_, ?_, ?_⟩
      · have := blk_set (blk_set (blk_set HXF.out 0 (.slice x1 0 x2)) 1 (.slice x3 0 x4)) 2 (.slice x5 0 x6)
        show _ = _
        simpa using this
      · exact ⟨by have h := HPF.out.d; obtain ⟨h1, a, c, h2, h3, h4, _⟩ := h; exact ⟨h1, a, c, h2, h3, h4, fun h => absurd h (Nat.lt_irrefl _)⟩, by have h := HPF.out.s; obtain ⟨h1, a, c, h2, h3, h4, _⟩ := h; exact ⟨h1, a, c, h2, h3, h4, fun h => absurd h (Nat.lt_irrefl _)⟩, by have h := HPF.out.k; obtain ⟨h1, a, c, h2, h3, h4, _⟩ := h; exact ⟨h1, a, c, h2, h3, h4, fun h => absurd h (Nat.lt_irrefl _)⟩⟩
      · exact ((HBF.out.setCell (p := ⟨sb, 0, none⟩) HSB.out _).setCell (p := ⟨sb, 1, none⟩) HSB.out _).setCell (p := ⟨sb, 2, none⟩) HSB.out _
    · go_simp
      refine name_world2 (fun W13 hW13 => ?_)
      obtain ⟨sb, hsbe⟩ : ∃ sb, sb = (wl.drew).heap.size := ⟨_, rfl⟩
      have hsb : wl.heap.size ≤ sb := by rw [hsbe]; exact Below.size ((Below.refl wl.heap.size wl).drew)
      have hb13 : Below wl.heap.size wl W13 := by rw [hW13]; first | exact Below.alloc ((Below.refl wl.heap.size wl).drew) (Below.size ((Below.refl wl.heap.size wl).drew)) _ | exact (Below.alloc (Below.refl _ _) (Nat.le_refl _) _).drew
      have hx13 : W13.heap[sb]? = some (.cells #[.slice none 0 0, .slice none 0 0, .slice none 0 0] 26 (0, 0)) := by rw [hW13, hsbe]; exact heap_alloc_new (wl.drew) _
      rw [show wl.heap.size = sb from hsbe.symm]
      clear hW13 hsbe
      refine step_owe hK ?_ (fun hT => ?_)
      · first | exact hb8 | exact hb13
      clear hK K
      refine wpAnyW_one (i := 8) (by kernel_rfl) rfl (fun K hK => ?_)
      go_simp
      refine (HPA.out (W13) (HTL.out.below (hb13))).mono ?_
      rintro e W8 ⟨vd8, vs8, vl8, rfl, hp8, hq8⟩
      obtain ⟨x1, x2, rfl, _, _⟩ := reads_shape hp8.d (m := 0) rfl
      obtain ⟨x3, x4, rfl, _, _⟩ := reads_shape hp8.s (m := 0) rfl
      obtain ⟨x5, x6, rfl, _, _⟩ := reads_shape hp8.k (m := 0) rfl
      dsimp only
      have hb8 : Below wl.heap.size wl W8 := Below.trans (hb13) (hq8.mono (hb13).size)
      have hx8 : W8.heap[sb]? = some (.cells #[.slice none 0 0, .slice none 0 0, .slice none 0 0] 26 (0, 0)) := (hq8.block _ (lt_of_block hx13)).trans hx13
      refine step_owe hK ?_ (fun hT => ?_)
      · first | exact hb8 | exact hb13
      clear hK K
      refine wpAnyW_take (i := 9) (some 50) rfl rfl (by kernel_rfl) (by kernel_rfl) (by kernel_rfl) (by kernel_rfl) (fun _ _ _ h => h) (v := ?_) (.inl ⟨by rfl, ?_⟩) (.inr hT) ?_
      rotate_left
      · (intro wT _; go_simp <;> with_reducible rfl)
      simp only [Act.put, List.setIfInBounds_toArray, List.set_cons_zero, List.set_cons_succ]
      refine wpAnyW_take (i := 10) (some 60) rfl rfl (by kernel_rfl) (by kernel_rfl) (by kernel_rfl) (by kernel_rfl) (fun _ _ _ h => h) (v := ?_) (.inl ⟨by rfl, ?_⟩) (.inr hT) ?_
      rotate_left
      · (intro wT _; go_simp <;> with_reducible rfl)
      simp only [Act.put, List.setIfInBounds_toArray, List.set_cons_zero, List.set_cons_succ]
      refine wpAnyW_take (i := 11) (some 61) rfl rfl (by kernel_rfl) (by kernel_rfl) (by kernel_rfl) (by kernel_rfl) (fun _ _ _ h => h) (v := ?_) (.inl ⟨by rfl, ?_⟩) (.inr hT) ?_
      rotate_left
      · (intro wT _; go_simp <;> with_reducible rfl)
      simp only [Act.put, List.setIfInBounds_toArray, List.set_cons_zero, List.set_cons_succ]
      refine wpAnyW_take (i := 12) (some 62) rfl rfl (by kernel_rfl) (by kernel_rfl) (by kernel_rfl) (by kernel_rfl) (fun _ _ _ h => h) (v := ?_) (.inl ⟨by rfl, ?_⟩) (.inr hT) ?_
      rotate_left
      · (intro wT _; go_simp <;> with_reducible rfl)
      simp only [Act.put, List.setIfInBounds_toArray, List.set_cons_zero, List.set_cons_succ]
      refine wpAnyW_one (i := 14) (by kernel_rfl) rfl (fun K hK => ?_)
      have z0 : W8.frozen? ⟨sb, 0, none⟩ = false := blk_free hx8 0
      have y0 : W8.cell? ⟨sb, 0, none⟩ = some (.slice none 0 0) := blk_cell hx8 0
      have z1 : W8.frozen? ⟨sb, 1, none⟩ = false := blk_free hx8 1
      have y1 : W8.cell? ⟨sb, 1, none⟩ = some (.slice none 0 0) := blk_cell hx8 1
      have z2 : W8.frozen? ⟨sb, 2, none⟩ = false := blk_free hx8 2
      have y2 : W8.cell? ⟨sb, 2, none⟩ = some (.slice none 0 0) := blk_cell hx8 2
      have HXF := Lib.hid hx8
      have HBF := Lib.hid hb8
      have HSB := Lib.hid hsb
      have HPF := Lib.hid hp8
      go_simp
      obtain ⟨WF, hWF⟩ : ∃ WF, WF = W8 := ⟨_, rfl⟩
      rw [← hWF] at HXF HBF HPF ⊢
      refine step_paid hK (by kernel_rfl) ?_
      clear hK K
      refine wpAnyW_take (i := 15) (some 10) rfl rfl (by kernel_rfl) (by kernel_rfl) (by kernel_rfl) (by kernel_rfl) (fun _ _ _ h => h) (v := ?_) (.inl ⟨by rfl, ?_⟩) (.inl (by kernel_rfl)) ?_
      rotate_left
      · (intro wT _; go_simp <;> with_reducible rfl)
      simp only [Act.put, List.setIfInBounds_toArray, List.set_cons_zero, List.set_cons_succ]
      refine wpAnyW_take (i := 16) (some 11) rfl rfl (by kernel_rfl) (by kernel_rfl) (by kernel_rfl) (by kernel_rfl) (fun _ _ _ h => h) (v := ?_) (.inl ⟨by rfl, ?_⟩) (.inl (by kernel_rfl)) ?_
      rotate_left
      · (intro wT _; go_simp <;> with_reducible rfl)
      simp only [Act.put, List.setIfInBounds_toArray, List.set_cons_zero, List.set_cons_succ]
      refine wpAnyW_done (by kernel_rfl) ?_
      go_wp2_with fail
      go_meet
      have hlt := lt_of_block HXF.out
      refine ⟨sb, x1, x2, x3, x4, x5, x6, rfl, rfl, rfl, ?_, ?_, ?_⟩
      · have := blk_set (blk_set (blk_set HXF.out 0 (.slice x1 0 x2)) 1 (.slice x3 0 x4)) 2 (.slice x5 0 x6)
        show _ = _
        simpa using this
      · exact ⟨by have h := HPF.out.d; obtain ⟨h1, a, c, h2, h3, h4, _⟩ := h; exact ⟨h1, a, c, h2, h3, h4, fun h => absurd h (Nat.lt_irrefl _)⟩, by have h := HPF.out.s; obtain ⟨h1, a, c, h2, h3, h4, _⟩ := h; exact ⟨h1, a, c, h2, h3, h4, fun h => absurd h (Nat.lt_irrefl _)⟩, by have h := HPF.out.k; obtain ⟨h1, a, c, h2, h3, h4, _⟩ := h; exact ⟨h1, a, c, h2, h3, h4, fun h => absurd h (Nat.lt_irrefl _)⟩⟩
      · exact ((HBF.out.setCell (p := ⟨sb, 0, none⟩) HSB.out _).setCell (p := ⟨sb, 1, none⟩) HSB.out _).setCell (p := ⟨sb, 2, none⟩) HSB.out _
  case rest =>
  obtain ⟨sb, x1, x2, x3, x4, x5, x6, rfl, rfl, rfl, hbx, hpx, hbw⟩ := hcut
  have HBX := Lib.hid hbx
  have HPX := Lib.hid hpx
  have HBW := Lib.hid (HB2.out.trans (hbw.mono HB2.out.size))
  clear hbx hpx hbw hy hz
  go_wp2_with fail
  refine (awake4_calls wc (HT.out.below HBW.out)).mono ?_
  rintro e w5 ⟨rfl, hb5⟩
  have HB5 := Lib.hid (HBW.out.trans (hb5.mono HBW.out.size))
  have HPX5 := Lib.hid (HPX.out.below hb5)
  have HBX5 := Lib.hid (HBX.out.below hb5)
  clear hb5
  have r0 : w5.cell? ⟨sb, 0, none⟩ = some (.slice x1 0 x2) := blk_cell HBX5.out 0
  have r1 : w5.cell? ⟨sb, 1, none⟩ = some (.slice x3 0 x4) := blk_cell HBX5.out 1
  have r2 : w5.cell? ⟨sb, 2, none⟩ = some (.slice x5 0 x6) := blk_cell HBX5.out 2
  go_wp2_with fail
  refine (rsame_calls HPX5.out (PR.empty _)).mono ?_
  rintro e w6 ⟨rfl, hb6⟩
  have HB6 := Lib.hid (HB5.out.trans (hb6.mono HB5.out.size))
  clear hb6 r0 r1 r2
  go_wp2_with fail
  go_ret
  exact ⟨rfl, HB6.out⟩
end Go.Proofs.YtkjhgfjlknbdkaaDoor
