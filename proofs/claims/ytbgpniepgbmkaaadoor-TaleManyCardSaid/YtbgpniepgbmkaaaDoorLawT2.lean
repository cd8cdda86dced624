/- The statement TaleMany. Conditions: the policy and the list can be read, the names and the text are not too long, the library's table and its two errors are laid (TabT). -/
import Derived.Test.YtbgpniepgbmkaaaDoorLawT
import Derived.Test.YtbgpniepgbmkaaaDoorTal3
namespace Go.Proofs.YtbgpniepgbmkaaaDoor
open Go.RowKit BigFrame Go.BigFrame

theorem many_snoc (D : List Dm) (K : List En) (x : En) : manyT D (K ++ [x]) = manyT D K ++ (Lib.join (wE D x) [32] ++ [10]) := by
  unfold manyT
  rw [List.flatMap_append]
  simp [lineB]
theorem read_none (p : P3) {t : ByteArray} (h : t.data.toList = []) : (readT p t).1 = [] := by
  have e : t = ⟨#[]⟩ := ba_ext (by rw [h])
  subst e
  unfold readT
  split
  · have hl : lexM ⟨#[]⟩ = ([], 0, 0, 0) := by kernel_rfl
    rw [hl]
    rfl
  · rfl
theorem no_ten {odd : ByteArray} (h : ∀ k, k < odd.size → bAt odd k ≠ 10) : ∀ x ∈ odd.data.toList, x ≠ 10 := by
  intro x hx e
  obtain ⟨k, hk, rfl⟩ := List.mem_iff_getElem.1 hx
  have hk2 : k < odd.size := by simpa using hk
  refine h k hk2 ?_
  rw [bAt_get hk, e]
  rfl
set_option maxRecDepth 100000 in
set_option maxHeartbeats 64000000 in
theorem taleMany_walk (w : World) (ht : TabT w) {vd vs vl : Value} {p : P3} (h : PR w vd vs vl p) (_hd : ∀ d ∈ p.D, dmOk d) (_hs : ∀ s ∈ p.S, slOk s) (_hk : ∀ l ∈ p.K, lkOk l) (hz : ∀ d ∈ p.D, d.nm.size ≤ 140737488351232) (v : Value) (n : Nat) (xs : List En) (hl : xs.length = n) (hr : Reads w 7 v n (xs.flatMap enCells)) (hb : ∀ x ∈ xs, enB x) (odd : ByteArray) (ho : odd.size ≤ 140737488351232) :
    Calls Tryd.prog 5 #[.agg #[vd, vs, vl], v, .string odd] w fun e w' => e = .returned (.bool true) ∧ Below w.heap.size w w' := by
  have HT := Lib.hid ht
  have HPR := Lib.hid h
  have HZ := Lib.hid hz
  have HXB := Lib.hid hb
  have HXL := Lib.hid hl
  have HR := Lib.hid hr
  have HOD := Lib.hid ho
  have HB1 := Lib.hid ((plus_one1 w (.cells #[vd, vs, vl] 26)).trans ((plus_one1 (w.alloc (.cells #[vd, vs, vl] 26)) (.cells #[] 28)).mono (by simp)))
  have HP1 := Lib.hid (show ((w.alloc (.cells #[vd, vs, vl] 26)).alloc (.cells #[] 28)).heap[w.heap.size]? = some (.cells #[vd, vs, vl] 26 (0, 0)) from (Below.heap_alloc _ _ _ (by simp)).trans (heap_alloc_new w (.cells #[vd, vs, vl] 26)))
  have HO1 := Lib.hid (show ((w.alloc (.cells #[vd, vs, vl] 26)).alloc (.cells #[] 28)).ownsRow w.heap.size 28 7 (.slice (some ⟨w.heap.size + 1, 0, none⟩) 0 0) 0 [] from by
    have := World.ownsRow_lit (base := w.heap.size) (e := 28) (size := 7) (w.alloc (.cells #[vd, vs, vl] 26)) #[] 0 (by simp) (Nat.zero_le _) rfl
    simpa using this)
  have hlt := hr.lt
  obtain ⟨_, la, lc, hle, hl2, hl3, hl4⟩ := id hr
  subst hle
  unfold maxLen at hl3
  have HL4 := Lib.hid (fun hn : 0 < n => show ∃ bl o, la = some ⟨bl, o, none⟩ ∧ bl < w.heap.size from by
    obtain ⟨bl, o, e, _⟩ := hl4 hn
    exact ⟨bl, o, e, hlt hn (by omega) bl (by rw [e]; rfl)⟩)
  clear ht h hz hb hl hr ho hl4 hlt _hd _hs _hk
  go_enter Tryd.func5, Tryd.ntmps5
  go_upto_region 3 with (fail)
  obtain ⟨pb, hpb⟩ : ∃ b, b = w.heap.size := ⟨_, rfl⟩
  refine name_wp28 (fun w1 hw1 => ?_)
  have HQ1 := Lib.hid (show w1.heap[pb]? = some (.cells #[vd, vs, vl] 26 (0, 0)) by rw [hw1, hpb]; exact HP1.out)
  have HQB := Lib.hid (show Below w.heap.size w w1 by rw [hw1]; exact HB1.out)
  have HQO := Lib.hid (show w1.ownsRow w.heap.size 28 7 (.slice (some ⟨w.heap.size + 1, 0, none⟩) 0 0) 0 [] by rw [hw1]; exact HO1.out)
  rw [← hpb]
  clear hw1 HP1 HB1 HO1
  obtain ⟨kb, hkb⟩ : ∃ b, b = w.heap.size + 1 := ⟨_, rfl⟩
  rw [← hkb] at HQO
  have hkb2 : pb + 1 = kb := by omega
  try rw [hkb2]
  try rw [← hkb]
  clear hkb2 hkb hpb
  go_upto_block 0 with (fail)
  go_cut [7, 8] (fun u7 u8 wx => ∃ (t : ByteArray) (K : List En), u7 = .string t ∧ t.data.toList = manyT p.D K ∧ t.size ≤ 1622 ∧ (∀ x ∈ K, (lnT p x).2 = 0 ∧ enB x) ∧ K.length ≤ 60 ∧ wx.ownsRow w.heap.size 28 7 u8 K.length (K.flatMap enCells) ∧ Below w.heap.size w wx ∧ wx.heap[pb]? = some (.cells #[vd, vs, vl] 26 (0, 0)))
  case first =>
    go_upto_region 4 with (fail)
    go_loopw [7, 8, 9] (fun u7 u8 u9 wr => ∃ (i : Nat) (t : ByteArray) (K : List En), u9 = .int .i64 (i : Int) ∧ u7 = .string t ∧ i ≤ n ∧ i ≤ 60 ∧ t.data.toList = manyT p.D K ∧ t.size ≤ 1622 ∧ (∀ x ∈ K, (lnT p x).2 = 0 ∧ enB x) ∧ K.length ≤ i ∧ wr.ownsRow w.heap.size 28 7 u8 K.length (K.flatMap enCells) ∧ Below w.heap.size w wr ∧ wr.heap[pb]? = some (.cells #[vd, vs, vl] 26 (0, 0))) (fun _ _ u9 _ => 60 - (intOf u9).toNat)
    case atStart => exact ⟨0, ByteArray.empty, [], rfl, rfl, Nat.zero_le _, by omega, rfl, by decide, (fun x hx => by cases hx), Nat.zero_le _, HQO.out, HQB.out, HQ1.out⟩
    case round =>
      obtain ⟨i, t, K, rfl, rfl, hin, hi60, htx, hts, hks, hkl, hown, hb, hpp⟩ := hrel
      have HTX := Lib.hid htx
      have HKS := Lib.hid hks
      have HKL := Lib.hid hkl
      have HO := Lib.hid hown
      have HB := Lib.hid hb
      have HP := Lib.hid hpp
      have hiz : (0 : Int) ≤ (i : Int) := Int.natCast_nonneg _
      have htz : (0 : Int) ≤ (t.size : Int) := Int.natCast_nonneg _
      have htn : (t.size : Int) ≤ 1622 := by omega
      clear htx hks hkl hown hb hpp HQO HQB HQ1
      by_cases h1 : i < n
      rotate_left
      · have h1' : ¬ (i : Int) < (n : Int) := by omega
        clear h1
        go_wp2_with fail
        go_meet
        exact ⟨t, K, rfl, HTX.out, hts, HKS.out, by have := HKL.out; omega, HO.out, HB.out, HP.out⟩
      have h1' : (i : Int) < (n : Int) := by omega
      by_cases h2 : i < 60
      rotate_left
      · have h2' : ¬ (i : Int) < 60 := by omega
        clear h2
        go_wp2_with fail
        go_meet
        exact ⟨t, K, rfl, HTX.out, hts, HKS.out, by have := HKL.out; omega, HO.out, HB.out, HP.out⟩
      have h2' : (i : Int) < 60 := by omega
      by_cases h3 : t.size < 1500
      rotate_left
      · have h3' : ¬ (t.size : Int) < 1500 := by omega
        clear h3
        go_wp2_with fail
        go_meet
        exact ⟨t, K, rfl, HTX.out, hts, HKS.out, by have := HKL.out; omega, HO.out, HB.out, HP.out⟩
      have h3' : (t.size : Int) < 1500 := by omega
      obtain ⟨x, hx⟩ : ∃ x, xs[i]? = some x := ⟨_, List.getElem?_eq_getElem (by rw [HXL.out]; exact h1)⟩
      obtain ⟨bl, o, rfl, hbl⟩ := HL4.out (by omega)
      have hxl := fun (k : Nat) (u : Value) (hk : (enCells x)[k]? = some u) => bw_cell (Nat.lt_of_lt_of_le hbl HB.out.size) (below_cell1 HB.out hbl (rows_at (f := enCells) HR.out (fun x _ => en_len x) hx h1 hk))
      have HG0 := Lib.hid hxl
      have hxb := HXB.out x (List.mem_of_getElem? hx)
      have HLI := Lib.hid (fun t : BW wr => tline_calls (HT.out.below (HB.out.trans (t.ok.mono HB.out.size))) (HPR.out.below (HB.out.trans (t.ok.mono HB.out.size))) HZ.out x hxb)
      have HLE := Lib.hid (fun h : (lnT p x).2 = 0 => (ln_read h hxb).2)
      have HLK := Lib.hid (fun h : (lnT p x).2 = 0 => (ln_ok h).2.2)
      have HKX := Lib.hid (fun h : (lnT p x).2 = 0 => show ∀ y ∈ K ++ [x], (lnT p y).2 = 0 ∧ enB y from by
        intro y hy
        rcases List.mem_append.1 hy with hy | hy
        · exact HKS.out y hy
        · rw [List.mem_singleton] at hy
          rw [hy]
          exact ⟨h, hxb⟩)
      obtain ⟨⟨s, er⟩, hq⟩ : ∃ q, lnT p x = q := ⟨_, rfl⟩
      rw [hq] at HLI HLE HLK HKX
      simp only at HLI HLE HLK HKX
      clear hq hx hxb
      obtain ⟨x0, x1, x2, x3, x4, x5, x6⟩ := x
      unfold enVal at HLI
      simp only at HLI
      have g0 : ∀ t : BW wr, t.at_.cell? ⟨bl, o + i * 7, none⟩ = some (.int .i64 x0) := hxl 0 _ rfl
      have g1 : ∀ t : BW wr, t.at_.cell? ⟨bl, o + i * 7 + 1, none⟩ = some (.int .i64 x1) := hxl 1 _ rfl
      have g2 : ∀ t : BW wr, t.at_.cell? ⟨bl, o + i * 7 + 2, none⟩ = some (.int .i64 x2) := hxl 2 _ rfl
      have g3 : ∀ t : BW wr, t.at_.cell? ⟨bl, o + i * 7 + 3, none⟩ = some (.int .i64 x3) := hxl 3 _ rfl
      have g4 : ∀ t : BW wr, t.at_.cell? ⟨bl, o + i * 7 + 4, none⟩ = some (.int .i64 x4) := hxl 4 _ rfl
      have g5 : ∀ t : BW wr, t.at_.cell? ⟨bl, o + i * 7 + 5, none⟩ = some (.int .i64 x5) := hxl 5 _ rfl
      have g6 : ∀ t : BW wr, t.at_.cell? ⟨bl, o + i * 7 + 6, none⟩ = some (.int .i64 x6) := hxl 6 _ rfl
      have f0 : ∀ t : BW wr, t.at_.cell? ⟨pb, 0, none⟩ = some vd := bw_cell (lt_of_block HP.out) (blk_cell HP.out 0)
      have f1 : ∀ t : BW wr, t.at_.cell? ⟨pb, 1, none⟩ = some vs := bw_cell (lt_of_block HP.out) (blk_cell HP.out 1)
      have f2 : ∀ t : BW wr, t.at_.cell? ⟨pb, 2, none⟩ = some vl := bw_cell (lt_of_block HP.out) (blk_cell HP.out 2)
      clear hxl
      go_upto_region 6 with (fail)
      refine wp_region_quiet_bw (by kernel_rfl) (by kernel_rfl) ?_
      repeat (go_big_quiet_step ((go_at_call 7; refine Calls.bw _ (HLI.out _))))
      refine wpQuiet_nil ?_
      intro _ hw'
      obtain ⟨tq, rfl⟩ := hw'
      have HG := Lib.hid (fun (k : Nat) (u : Value) (hk : (enCells (⟨x0, x1, x2, x3, x4, x5, x6⟩ : En))[k]? = some u) => HG0.out k u hk tq)
      have HB6 := Lib.hid (HB.out.trans (tq.ok.mono HB.out.size))
      have HP6 := Lib.hid ((tq.ok.block pb (lt_of_block HP.out)).trans HP.out)
      have HO6 := Lib.hid (owns_same HO.out (fun k hk => tq.ok.block k (HO.out.lt k hk).2))
      generalize tq.at_ = w6 at HG HB6 HP6 HO6 ⊢
      clear f0 f1 f2 g0 g1 g2 g3 g4 g5 g6 HG0 HLI HB HP HO
      by_cases he : er = 0
      rotate_left
      · have he' : (er == 0) = false := by simpa using he
        clear he
        go_wp2_with fail
        go_roundw
        case rel => exact ⟨i + 1, t, K, by go_num, rfl, by omega, by omega, HTX.out, hts, HKS.out, by have := HKL.out; omega, HO6.out, HB6.out, HP6.out⟩
        case measure => simp [intOf]; omega
      subst he
      have hss := HLE.out rfl
      obtain ⟨y, hy, hyl, hys⟩ := cat_ex s ⟨#[10]⟩ (by rw [show (⟨#[10]⟩ : ByteArray).size = 1 from rfl]; omega)
      obtain ⟨z, hz, hzl, hzs⟩ := cat_ex t y (by rw [hys, show (⟨#[10]⟩ : ByteArray).size = 1 from rfl]; omega)
      have HZL := Lib.hid (show z.data.toList = manyT p.D (K ++ [(⟨x0, x1, x2, x3, x4, x5, x6⟩ : En)]) by
        rw [hzl, hyl, many_snoc, HTX.out, HLK.out rfl])
      have HZS := Lib.hid (show z.size ≤ 1622 by rw [hzs, hys, show (⟨#[10]⟩ : ByteArray).size = 1 from rfl]; omega)
      obtain ⟨i1, hi1, hy0, hy1, hy2⟩ := info_parts Tryd.info_en
      have HI1 := Lib.hid hi1
      have g0 : w6.cell? ⟨bl, o + i * 7, none⟩ = some (.int .i64 x0) := (HG.out 0 _ rfl)
      have g1 : w6.cell? ⟨bl, o + i * 7 + 1, none⟩ = some (.int .i64 x1) := (HG.out 1 _ rfl)
      have g2 : w6.cell? ⟨bl, o + i * 7 + 2, none⟩ = some (.int .i64 x2) := (HG.out 2 _ rfl)
      have g3 : w6.cell? ⟨bl, o + i * 7 + 3, none⟩ = some (.int .i64 x3) := (HG.out 3 _ rfl)
      have g4 : w6.cell? ⟨bl, o + i * 7 + 4, none⟩ = some (.int .i64 x4) := (HG.out 4 _ rfl)
      have g5 : w6.cell? ⟨bl, o + i * 7 + 5, none⟩ = some (.int .i64 x5) := (HG.out 5 _ rfl)
      have g6 : w6.cell? ⟨bl, o + i * 7 + 6, none⟩ = some (.int .i64 x6) := (HG.out 6 _ rfl)
      have hown := HO6.out
      clear hss hyl hys hzl hzs hi1
      go_wp2_with (at_builtin; refine wpList_append_own _ rfl _ _ 35 rfl w.heap.size 28 i1 (.agg #[.int .i64 0, .int .i64 0, .int .i64 0, .int .i64 0, .int .i64 0, .int .i64 0, .int .i64 0]) 7 56 Tryd.underlying35 HI1.out hy0 hy1 hy2 rfl (by decide) _ _ _ rfl (hown.alloc _) ⟨w6.heap.size, 0, none⟩ 1 1 (enCells (⟨x0, x1, x2, x3, x4, x5, x6⟩ : En)) rfl rfl (news_cells w6 (enCells (⟨x0, x1, x2, x3, x4, x5, x6⟩ : En)).toArray _ w6.heap.size rfl) ?c2 ?c3 ?c4 ?c5 ?_)
      case c2 => exact en_one _
      case c3 => unfold maxLen; have := HKL.out; omega
      case c4 => have := HKL.out; omega
      case c5 => have := HB6.out.size; simp; omega
      intro v7 w7 hown' hgr _
      have HB7 := Lib.hid ((HB6.out.alloc (Nat.le_trans HB6.out.size (Nat.le_refl _)) (.cells #[.int .i64 x0, .int .i64 x1, .int .i64 x2, .int .i64 x3, .int .i64 x4, .int .i64 x5, .int .i64 x6] 28)).grown hgr (Nat.le_trans HB6.out.size (plus_one1 w6 _).size) (fun k hk => (hown.lt k hk).1))
      have HO7 := Lib.hid (show w7.ownsRow w.heap.size 28 7 v7 (K ++ [(⟨x0, x1, x2, x3, x4, x5, x6⟩ : En)]).length ((K ++ [(⟨x0, x1, x2, x3, x4, x5, x6⟩ : En)]).flatMap enCells) by
        rw [List.length_append, List.flatMap_append]
        simpa using hown')
      have HP7 := Lib.hid (blk_grownE HP6.out (by decide) hown hgr)
      clear hown hgr hown' g0 g1 g2 g3 g4 g5 g6
      go_wp2_with fail
      go_roundw
      case rel => exact ⟨i + 1, z, K ++ [(⟨x0, x1, x2, x3, x4, x5, x6⟩ : En)], by go_num, rfl, by omega, by omega, HZL.out, HZS.out, HKX.out (by first | rfl | trivial), by have := HKL.out; rw [List.length_append, List.length_singleton]; omega, HO7.out, HB7.out, HP7.out⟩
      case measure => simp [intOf]; omega
  case rest =>
  obtain ⟨t, K, rfl, htx, hts, hks, hkl, hown, hb, hpp⟩ := hcut
  have HTX := Lib.hid htx
  have HKS := Lib.hid hks
  have HO := Lib.hid hown
  have HB := Lib.hid hb
  have HP := Lib.hid hpp
  have HTS := Lib.hid hts
  have HKL := Lib.hid hkl
  obtain ⟨ka, kc, rfl, hk1, hk2, _⟩ := owns_shape hown
  unfold maxLen at hk2
  have HD := Lib.hid (tread_calls (HT.out.below HB.out) (HPR.out.below HB.out) HZ.out t (by omega))
  have q0 : wc.cell? ⟨pb, 0, none⟩ = some vd := blk_cell HP.out 0
  have q1 : wc.cell? ⟨pb, 1, none⟩ = some vs := blk_cell HP.out 1
  have q2 : wc.cell? ⟨pb, 2, none⟩ = some vl := blk_cell HP.out 2
  clear htx hks hown hb hpp hts hkl HQO HQB HQ1 HXB HXL HR HL4
  by_cases hK : K = []
  · subst hK
    have h0 := read_none p (t := t) (by rw [HTX.out]; rfl)
    obtain ⟨⟨lx, ln, er⟩, hq⟩ : ∃ q, readT p t = q := ⟨_, rfl⟩
    rw [hq] at HD h0
    simp only at HD h0
    subst h0
    clear hq
    go_wp2_with fail
    refine HD.out.mono ?_
    rintro e w2 ⟨v2, rfl, hr2, hb2⟩
    obtain ⟨va2, vc2, rfl, _, _⟩ := reads_shape hr2 (m := 0) rfl
    have HB2 := Lib.hid (HB.out.trans (hb2.mono HB.out.size))
    clear hb2 hr2 q0 q1 q2
    go_wp2_with fail
    refine (awake28_calls _ (HT.out.below HB2.out)).mono ?_
    rintro e wz ⟨rfl, hbz⟩
    have HBZ := Lib.hid (HB2.out.trans (hbz.mono HB2.out.size))
    clear hbz
    go_wp2_with fail
    go_ret
    exact ⟨rfl, HBZ.out⟩
  have hck : checkM p.D p.S p.K = 0 := by
    cases K with
    | nil => exact absurd rfl hK
    | cons x K => exact (ln_ok (HKS.out x (by simp)).1).1
  have hkok : ∀ x ∈ K, okE p.D x ∧ enB x := fun x hx => ⟨(ln_ok (HKS.out x hx).1).2.1, (HKS.out x hx).2⟩
  have hrm := read_many hck hkok HTX.out (by have := HTS.out; omega)
  rw [hrm] at HD
  simp only at HD
  have HCK := Lib.hid hck
  have HKO := Lib.hid hkok
  obtain ⟨kn, hkn⟩ : ∃ k, k = K.length := ⟨_, rfl⟩
  rw [← hkn] at HD HO hk1 ⊢
  have hkn0 : ((kn : Int) == 0) = false := by
    have : K.length ≠ 0 := fun e => hK (List.eq_nil_of_length_eq_zero e)
    simpa using (by omega : ¬ (kn : Int) = 0)
  have HKN := Lib.hid hkn
  clear hck hkok hrm hkn hK
  go_wp2_with fail
  refine HD.out.mono ?_
  rintro e w2 ⟨v2, rfl, hr2, hb2⟩
  have HB2 := Lib.hid (HB.out.trans (hb2.mono HB.out.size))
  have HP2 := Lib.hid ((hb2.block pb (lt_of_block HP.out)).trans HP.out)
  have HO2 := Lib.hid (owns_same HO.out (fun k hk => hb2.block k (HO.out.lt k hk).2))
  have HSM := Lib.hid (rsame25_calls hr2 (Reads.of_owns HO2.out) HKN.out.symm HKN.out.symm)
  rw [decide_eq_true rfl] at HSM
  clear hb2 hr2 q0 q1 q2 HB HP HO HD
  go_wp2_with fail
  refine HSM.out.mono ?_
  rintro e w3 ⟨rfl, hb3⟩
  have HB3 := Lib.hid (HB2.out.trans (hb3.mono HB2.out.size))
  have HP3 := Lib.hid ((hb3.block pb (lt_of_block HP2.out)).trans HP2.out)
  clear hb3 HB2 HP2 HO2 HSM
  have hoz : (0 : Int) ≤ (odd.size : Int) := Int.natCast_nonneg _
  by_cases h500 : 500 < odd.size
  · have h5' : (500 : Int) < (odd.size : Int) := by omega
    clear h500
    go_wp2_with fail
    refine (awake28_calls _ (HT.out.below HB3.out)).mono ?_
    rintro e wz ⟨rfl, hbz⟩
    have HBZ := Lib.hid (HB3.out.trans (hbz.mono HB3.out.size))
    clear hbz
    go_wp2_with fail
    go_ret
    exact ⟨rfl, HBZ.out⟩
  have h5' : ¬ (500 : Int) < (odd.size : Int) := by omega
  have HO5 := Lib.hid (show odd.size ≤ 500 by omega)
  have h5s : (odd.size : Int) ≤ 500 := by omega
  clear h500
  go_wp2_with fail
  clear h5'
  go_loop [15] (fun u => ∃ i : Nat, u = .int .i64 (i : Int) ∧ i ≤ odd.size ∧ ∀ k, k < i → bAt odd k ≠ 10) (fun u => odd.size - (intOf u).toNat)
  case atStart => exact ⟨0, rfl, Nat.zero_le _, fun k hk => absurd hk (Nat.not_lt_zero _)⟩
  case round =>
  obtain ⟨i, rfl, hi, hno⟩ := hrel
  have HNO := Lib.hid hno
  have hiz : (0 : Int) ≤ (i : Int) := Int.natCast_nonneg _
  clear hno
  by_cases his : i < odd.size
  · have his' : (i : Int) < (odd.size : Int) := by omega
    obtain ⟨c, hc⟩ : ∃ c : Int, c = (bAt odd i : Int) := ⟨_, rfl⟩
    have hb0 : ((odd[i]'his).toNat : Int) = c := by rw [bAt_ix his, hc]
    have HC := Lib.hid hc
    clear hc
    by_cases hten : c = 10
    · subst hten
      go_wp2_with fail
      refine (awake28_calls _ (HT.out.below HB3.out)).mono ?_
      rintro e wz ⟨rfl, hbz⟩
      have HBZ := Lib.hid (HB3.out.trans (hbz.mono HB3.out.size))
      clear hbz
      go_wp2_with fail
      go_ret
      exact ⟨rfl, HBZ.out⟩
    · have hten2 : (c == 10) = false := by simpa using hten
      have HNX := Lib.hid (show ∀ k, k < i + 1 → bAt odd k ≠ 10 by
        intro k hk
        rcases Nat.lt_succ_iff_lt_or_eq.1 hk with h | h
        · exact HNO.out k h
        · rw [h]
          have := HC.out
          omega)
      clear hten
      go_wp2_with fail
      go_round
      case rel => exact ⟨i + 1, by go_num, by omega, HNX.out⟩
      case measure => simp [intOf]; omega
  have his' : ¬ (i : Int) < (odd.size : Int) := by omega
  have HTEN := Lib.hid (no_ten (odd := odd) (fun k hk => HNO.out k (by omega)))
  obtain ⟨y1, hy1, hyl1, hys1⟩ := cat_ex t odd (by have := HTS.out; have := HO5.out; omega)
  obtain ⟨y2, hy2, hyl2, hys2⟩ := cat_ex y1 ⟨#[10]⟩ (by have := HTS.out; have := HO5.out; rw [hys1, show (⟨#[10]⟩ : ByteArray).size = 1 from rfl]; omega)
  obtain ⟨y3, hy3, hyl3, hys3⟩ := cat_ex y2 t (by have := HTS.out; have := HO5.out; rw [hys2, hys1, show (⟨#[10]⟩ : ByteArray).size = 1 from rfl]; omega)
  have hys : y3.size ≤ 4096 := by have := HTS.out; have := HO5.out; rw [hys3, hys2, hys1, show (⟨#[10]⟩ : ByteArray).size = 1 from rfl]; omega
  have HRO := Lib.hid (read_odd (odd := odd) (s := y3) HCK.out HKO.out HTEN.out (by rw [hyl3, hyl2, hyl1, HTX.out, List.append_assoc, List.append_assoc]) hys)
  have HDO := Lib.hid (tread_calls (HT.out.below HB3.out) (HPR.out.below HB3.out) HZ.out odd HOD.out)
  have HDY := Lib.hid (fun (u : World) (hu : Below w.heap.size w u) => tread_calls (HT.out.below hu) (HPR.out.below hu) HZ.out y3 (by omega))
  obtain ⟨⟨lo, ao, eo⟩, hqo⟩ : ∃ q, readT p odd = q := ⟨_, rfl⟩
  rw [hqo] at HRO HDO
  simp only at HRO HDO
  have q0 : w3.cell? ⟨pb, 0, none⟩ = some vd := blk_cell HP3.out 0
  have q1 : w3.cell? ⟨pb, 1, none⟩ = some vs := blk_cell HP3.out 1
  have q2 : w3.cell? ⟨pb, 2, none⟩ = some vl := blk_cell HP3.out 2
  clear hyl1 hyl2 hyl3 hys1 hys2 hys3 hys hqo his hi
  go_wp2_with fail
  refine HDO.out.mono ?_
  rintro e w4 ⟨v4, rfl, hr4, hb4⟩
  have HB4 := Lib.hid (HB3.out.trans (hb4.mono HB3.out.size))
  have HP4 := Lib.hid ((hb4.block pb (lt_of_block HP3.out)).trans HP3.out)
  obtain ⟨lon, hlon⟩ : ∃ k, k = lo.length := ⟨_, rfl⟩
  obtain ⟨va4, vc4, rfl, _, _⟩ := reads_shape hr4 (m := lon) hlon.symm
  clear hb4 hr4 q0 q1 q2 HB3 HP3 HDO
  by_cases hf : eo = 0
  · obtain ⟨h1, h2⟩ := HRO.out.1 hf
    have hl1 : (lon : Int) ≤ 1 := by omega
    have hlz : (0 : Int) ≤ (lon : Int) := Int.natCast_nonneg _
    subst hf h2
    clear h1 hlon HRO HDY
    go_wp2_with fail
    refine (awake28_calls _ (HT.out.below HB4.out)).mono ?_
    rintro e wz ⟨rfl, hbz⟩
    have HBZ := Lib.hid (HB4.out.trans (hbz.mono HB4.out.size))
    clear hbz
    go_wp2_with fail
    go_ret
    exact ⟨rfl, HBZ.out⟩
  obtain ⟨h1, h2⟩ := HRO.out.2 hf
  rw [h2, ← HKN.out] at HDY
  simp only at HDY
  subst h1
  have he' : (eo == 0) = false := by simpa using hf
  have hadd : (1 : Int) + (kn : Int) = (kn : Int) + 1 := Int.add_comm _ _
  rw [hadd] at HDY
  have HDZ := Lib.hid (HDY.out w4 HB4.out)
  have q0 : w4.cell? ⟨pb, 0, none⟩ = some vd := blk_cell HP4.out 0
  have q1 : w4.cell? ⟨pb, 1, none⟩ = some vs := blk_cell HP4.out 1
  have q2 : w4.cell? ⟨pb, 2, none⟩ = some vl := blk_cell HP4.out 2
  clear hf h2 hlon HRO HDY hadd
  have hkn60 : (kn : Int) ≤ 60 := by have h1 := HKL.out; have h2 := HKN.out; omega
  have hknz : (0 : Int) ≤ (kn : Int) := Int.natCast_nonneg _
  go_wp2_with fail
  refine HDZ.out.mono ?_
  rintro e w5 ⟨v5, rfl, hr5, hb5⟩
  obtain ⟨va5, vc5, rfl, _, _⟩ := reads_shape hr5 (m := 0) rfl
  have HB5 := Lib.hid (HB4.out.trans (hb5.mono HB4.out.size))
  clear hb5 hr5 q0 q1 q2 HB4 HP4 HDZ
  go_wp2_with fail
  refine (awake28_calls _ (HT.out.below HB5.out)).mono ?_
  rintro e wz ⟨rfl, hbz⟩
  have HBZ := Lib.hid (HB5.out.trans (hbz.mono HB5.out.size))
  clear hbz
  go_wp2_with fail
  go_ret
  exact ⟨rfl, HBZ.out⟩
end Go.Proofs.YtbgpniepgbmkaaaDoor
