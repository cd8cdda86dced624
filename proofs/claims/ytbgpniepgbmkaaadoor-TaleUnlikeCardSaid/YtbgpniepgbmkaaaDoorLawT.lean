/- The statements TaleReads, TaleUnlike, TaleLines. Conditions: the policy can be read, the names and texts are not too long, the library's table and its two errors are laid (TabT). -/
import Derived.Test.YtbgpniepgbmkaaaDoorTalC
import Derived.Test.YtbgpniepgbmkaaaDoorTab5
import Derived.Test.YtbgpniepgbmkaaaDoorViewE
namespace Go.Proofs.YtbgpniepgbmkaaaDoor
open Go.RowKit BigFrame Go.BigFrame

theorem PRbox {w : World} {vd vs vl : Value} {p : P3} (h : PR w vd vs vl p) {w' : World} (hb : Below w.heap.size w w') : PR w' vd vs vl p := h.below hb
set_option maxRecDepth 100000 in
set_option maxHeartbeats 32000000 in
theorem taleReads_walk (w : World) (ht : TabT w) {vd vs vl : Value} {p : P3} (h : PR w vd vs vl p) (hd : ∀ d ∈ p.D, dmOk d) (_hs : ∀ s ∈ p.S, slOk s) (_hk : ∀ l ∈ p.K, lkOk l) (hz : ∀ d ∈ p.D, d.nm.size ≤ 140737488351232) (s : ByteArray) (hs : s.size ≤ 140737488351232) :
    Calls Tryd.prog 4 #[.agg #[vd, vs, vl], .string s] w fun e w' => e = .returned (.bool true) ∧ Below w.heap.size w w' := by
  have HT := Lib.hid ht
  have HPR := Lib.hid h
  have HB1 := Lib.hid (plus_one1 w (.cells #[vd, vs, vl] 26))
  have HP1 := Lib.hid (heap_alloc_new w (.cells #[vd, vs, vl] 26))
  have HA := Lib.hid (fun (u : World) (hu : Below w.heap.size w u) => tread_calls (HT.out.below hu) (HPR.out.below hu) hz s hs)
  have HR := Lib.hid (fun (u : World) (hu : Below w.heap.size w u) => rread28_calls (HPR.out.below hu) hz (fun d hd' => (hd d hd').2.1) s hs)
  obtain ⟨⟨l, ln, er⟩, hq⟩ : ∃ q, readT p s = q := ⟨_, rfl⟩
  rw [hq] at HA HR
  simp only at HA HR
  clear ht h hd hz hs _hs _hk hq
  go_enter Tryd.func4, Tryd.ntmps4
  go_upto_region 1 with (fail)
  obtain ⟨pb, hpb⟩ : ∃ b, b = w.heap.size := ⟨_, rfl⟩
  rw [← hpb] at HP1 ⊢
  generalize w.alloc (.cells #[vd, vs, vl] 26) = w1 at HB1 HP1 ⊢
  clear hpb
  have q0 : w1.cell? ⟨pb, 0, none⟩ = some vd := blk_cell HP1.out 0
  have q1 : w1.cell? ⟨pb, 1, none⟩ = some vs := blk_cell HP1.out 1
  have q2 : w1.cell? ⟨pb, 2, none⟩ = some vl := blk_cell HP1.out 2
  go_wp2_with fail
  refine (HA.out w1 HB1.out).mono ?_
  rintro e w2 ⟨va, rfl, hra, hb2⟩
  have HRA := Lib.hid hra
  have HB2 := Lib.hid (HB1.out.trans (hb2.mono HB1.out.size))
  have HP2 := Lib.hid ((hb2.block pb (lt_of_block HP1.out)).trans HP1.out)
  clear hb2 hra q0 q1 q2 HB1 HP1
  have q0 : w2.cell? ⟨pb, 0, none⟩ = some vd := blk_cell HP2.out 0
  have q1 : w2.cell? ⟨pb, 1, none⟩ = some vs := blk_cell HP2.out 1
  have q2 : w2.cell? ⟨pb, 2, none⟩ = some vl := blk_cell HP2.out 2
  go_wp2_with fail
  refine (HR.out w2 HB2.out).mono ?_
  rintro e w3 ⟨vb, rfl, hrb, hb3⟩
  have HRA3 := Lib.hid (HRA.out.below (by omega) hb3)
  have HRB := Lib.hid hrb
  have HB3 := Lib.hid (HB2.out.trans (hb3.mono HB2.out.size))
  clear hb3 hrb q0 q1 q2 HB2 HP2 HRA
  go_wp2_with fail
  refine (awake28_calls w3 (HT.out.below HB3.out)).mono ?_
  rintro e w4 ⟨rfl, hb4⟩
  have HB4 := Lib.hid (HB3.out.trans (hb4.mono HB3.out.size))
  have HSM := Lib.hid (rsame25_calls (HRA3.out.below (by omega) hb4) (HRB.out.below (by omega) hb4) rfl rfl)
  rw [decide_eq_true rfl] at HSM
  clear hb4
  go_wp2_with fail
  refine HSM.out.mono ?_
  rintro e w5 ⟨rfl, hb5⟩
  have HB5 := Lib.hid (HB4.out.trans (hb5.mono HB4.out.size))
  clear hb5
  go_wp2_with fail
  go_ret
  exact ⟨rfl, HB5.out⟩
theorem ln_ok {p : P3} {x : En} (h : (lnT p x).2 = 0) : checkM p.D p.S p.K = 0 ∧ okE p.D x ∧ (lnT p x).1 = ⟨(Lib.join (wE p.D x) [32]).toArray⟩ := by
  unfold lnT at h ⊢
  by_cases hc : checkM p.D p.S p.K = 0
  · rw [if_pos hc] at h ⊢
    by_cases ho : okE p.D x
    · rw [if_pos ho]
      exact ⟨hc, ho, rfl⟩
    · rw [if_neg ho] at h
      simp at h
  · rw [if_neg hc] at h
    exact absurd h hc
/-- An entry's own line, read. -/
theorem ln_read {p : P3} {x : En} (h : (lnT p x).2 = 0) (hb : enB x) : readT p (lnT p x).1 = ([x], 0, 0) ∧ (lnT p x).1.size ≤ 122 := by
  obtain ⟨hc, ho, hl⟩ := ln_ok h
  obtain ⟨D, S, K⟩ := p
  have h1 := wE_len (check_all hc) ho hb
  rw [hl]
  refine ⟨read_line hc ho hb (by omega), ?_⟩
  rw [ByteArray.size_mk', List.size_toArray]
  exact h1
theorem ln_inj {p : P3} {a b : En} (ha : (lnT p a).2 = 0) (hb : (lnT p b).2 = 0) (ba : enB a) (bb : enB b) : decide ((lnT p a).1 = (lnT p b).1) = decide (a = b) := by
  by_cases h : a = b
  · rw [h, decide_eq_true rfl, decide_eq_true rfl]
  · rw [decide_eq_false h, decide_eq_false]
    intro e
    have h1 := (ln_read ha ba).1
    rw [e, (ln_read hb bb).1] at h1
    injection h1 with h1 _
    injection h1 with h1 _
    exact h h1.symm
set_option maxRecDepth 100000 in
set_option maxHeartbeats 32000000 in
theorem taleUnlike_walk (w : World) (ht : TabT w) {vd vs vl : Value} {p : P3} (h : PR w vd vs vl p) (_hd : ∀ d ∈ p.D, dmOk d) (_hs : ∀ s ∈ p.S, slOk s) (_hk : ∀ l ∈ p.K, lkOk l) (hz : ∀ d ∈ p.D, d.nm.size ≤ 140737488351232) (x : En) (hx : enB x) (y : En) (hy : enB y) :
    Calls Tryd.prog 6 #[.agg #[vd, vs, vl], enVal x, enVal y] w fun e w' => e = .returned (.bool true) ∧ Below w.heap.size w w' := by
  have HT := Lib.hid ht
  have HPR := Lib.hid h
  have HA := Lib.hid (fun (u : World) (hu : Below w.heap.size w u) => tline_calls (HT.out.below hu) (HPR.out.below hu) hz x hx)
  have HR := Lib.hid (fun (u : World) (hu : Below w.heap.size w u) => tline_calls (HT.out.below hu) (HPR.out.below hu) hz y hy)
  have HIN := Lib.hid (fun (h1 : (lnT p x).2 = 0) (h2 : (lnT p y).2 = 0) => ln_inj h1 h2 hx hy)
  obtain ⟨⟨s, e1⟩, hq1⟩ : ∃ q, lnT p x = q := ⟨_, rfl⟩
  obtain ⟨⟨t, e2⟩, hq2⟩ : ∃ q, lnT p y = q := ⟨_, rfl⟩
  rw [hq1] at HA HIN
  rw [hq2] at HR HIN
  simp only at HA HR HIN
  have HEQ := Lib.hid (fun w => en_eqv x y w)
  clear hq1 hq2 hx hy ht h hz _hd _hs _hk
  obtain ⟨bb, hbb⟩ : ∃ bb, bb = decide (x = y) := ⟨_, rfl⟩
  rw [← hbb] at HIN HEQ
  clear hbb
  obtain ⟨x0, x1, x2, x3, x4, x5, x6⟩ := x
  obtain ⟨y0, y1, y2, y3, y4, y5, y6⟩ := y
  unfold enVal at HA HR HEQ ⊢
  simp only at HA HR HEQ ⊢
  have hb1 := plus_one1 w (.cells #[vd, vs, vl] 26)
  have hb2 := plus_one1 (w.alloc (.cells #[vd, vs, vl] 26)) (.cells #[.int .i64 x0, .int .i64 x1, .int .i64 x2, .int .i64 x3, .int .i64 x4, .int .i64 x5, .int .i64 x6] 28)
  have hb3 := plus_one1 ((w.alloc (.cells #[vd, vs, vl] 26)).alloc (.cells #[.int .i64 x0, .int .i64 x1, .int .i64 x2, .int .i64 x3, .int .i64 x4, .int .i64 x5, .int .i64 x6] 28)) (.cells #[.int .i64 y0, .int .i64 y1, .int .i64 y2, .int .i64 y3, .int .i64 y4, .int .i64 y5, .int .i64 y6] 28)
  have HB3 := Lib.hid (hb1.trans ((hb2.trans (hb3.mono hb2.size)).mono hb1.size))
  have HP3 := Lib.hid ((hb3.block w.heap.size (by simp; omega)).trans ((hb2.block w.heap.size (by simp)).trans (heap_alloc_new w (.cells #[vd, vs, vl] 26))))
  have HX3 := Lib.hid ((hb3.block (w.heap.size + 1) (by simp)).trans (heap_alloc2_new w (.cells #[vd, vs, vl] 26) (.cells #[.int .i64 x0, .int .i64 x1, .int .i64 x2, .int .i64 x3, .int .i64 x4, .int .i64 x5, .int .i64 x6] 28)))
  have hy3 := heap_alloc_new ((w.alloc (.cells #[vd, vs, vl] 26)).alloc (.cells #[.int .i64 x0, .int .i64 x1, .int .i64 x2, .int .i64 x3, .int .i64 x4, .int .i64 x5, .int .i64 x6] 28)) (.cells #[.int .i64 y0, .int .i64 y1, .int .i64 y2, .int .i64 y3, .int .i64 y4, .int .i64 y5, .int .i64 y6] 28)
  rw [show ((w.alloc (.cells #[vd, vs, vl] 26)).alloc (.cells #[.int .i64 x0, .int .i64 x1, .int .i64 x2, .int .i64 x3, .int .i64 x4, .int .i64 x5, .int .i64 x6] 28)).heap.size = w.heap.size + 2 by simp] at hy3
  have HY3 := Lib.hid hy3
  clear hb1 hb2 hb3 hy3
  go_enter Tryd.func6, Tryd.ntmps6
  go_upto_region 1 with (fail)
  obtain ⟨yb, hyb⟩ : ∃ b, b = w.heap.size + 2 := ⟨_, rfl⟩
  obtain ⟨xb, hxb⟩ : ∃ b, b = w.heap.size + 1 := ⟨_, rfl⟩
  obtain ⟨pb, hpb⟩ : ∃ b, b = w.heap.size := ⟨_, rfl⟩
  rw [← hyb] at HY3 ⊢
  rw [← hxb] at HX3 ⊢
  rw [← hpb] at HP3 ⊢
  generalize (((w.alloc (.cells #[vd, vs, vl] 26)).alloc (.cells #[.int .i64 x0, .int .i64 x1, .int .i64 x2, .int .i64 x3, .int .i64 x4, .int .i64 x5, .int .i64 x6] 28)).alloc (.cells #[.int .i64 y0, .int .i64 y1, .int .i64 y2, .int .i64 y3, .int .i64 y4, .int .i64 y5, .int .i64 y6] 28)) = w3 at HB3 HP3 HX3 HY3 ⊢
  clear hyb hxb hpb
  have q0 : w3.cell? ⟨pb, 0, none⟩ = some vd := blk_cell HP3.out 0
  have q1 : w3.cell? ⟨pb, 1, none⟩ = some vs := blk_cell HP3.out 1
  have q2 : w3.cell? ⟨pb, 2, none⟩ = some vl := blk_cell HP3.out 2
  have f0 : w3.cell? ⟨xb, 0, none⟩ = some (.int .i64 x0) := blk_cell HX3.out 0
  have f1 : w3.cell? ⟨xb, 1, none⟩ = some (.int .i64 x1) := blk_cell HX3.out 1
  have f2 : w3.cell? ⟨xb, 2, none⟩ = some (.int .i64 x2) := blk_cell HX3.out 2
  have f3 : w3.cell? ⟨xb, 3, none⟩ = some (.int .i64 x3) := blk_cell HX3.out 3
  have f4 : w3.cell? ⟨xb, 4, none⟩ = some (.int .i64 x4) := blk_cell HX3.out 4
  have f5 : w3.cell? ⟨xb, 5, none⟩ = some (.int .i64 x5) := blk_cell HX3.out 5
  have f6 : w3.cell? ⟨xb, 6, none⟩ = some (.int .i64 x6) := blk_cell HX3.out 6
  go_wp2_with fail
  refine (HA.out w3 HB3.out).mono ?_
  rintro e w4 ⟨rfl, hb4⟩
  have HB4 := Lib.hid (HB3.out.trans (hb4.mono HB3.out.size))
  have HP4 := Lib.hid ((hb4.block pb (lt_of_block HP3.out)).trans HP3.out)
  have HX4 := Lib.hid ((hb4.block xb (lt_of_block HX3.out)).trans HX3.out)
  have HY4 := Lib.hid ((hb4.block yb (lt_of_block HY3.out)).trans HY3.out)
  clear hb4 q0 q1 q2 f0 f1 f2 f3 f4 f5 f6 HB3 HP3 HX3 HY3
  have q0 : w4.cell? ⟨pb, 0, none⟩ = some vd := blk_cell HP4.out 0
  have q1 : w4.cell? ⟨pb, 1, none⟩ = some vs := blk_cell HP4.out 1
  have q2 : w4.cell? ⟨pb, 2, none⟩ = some vl := blk_cell HP4.out 2
  have f0 : w4.cell? ⟨yb, 0, none⟩ = some (.int .i64 y0) := blk_cell HY4.out 0
  have f1 : w4.cell? ⟨yb, 1, none⟩ = some (.int .i64 y1) := blk_cell HY4.out 1
  have f2 : w4.cell? ⟨yb, 2, none⟩ = some (.int .i64 y2) := blk_cell HY4.out 2
  have f3 : w4.cell? ⟨yb, 3, none⟩ = some (.int .i64 y3) := blk_cell HY4.out 3
  have f4 : w4.cell? ⟨yb, 4, none⟩ = some (.int .i64 y4) := blk_cell HY4.out 4
  have f5 : w4.cell? ⟨yb, 5, none⟩ = some (.int .i64 y5) := blk_cell HY4.out 5
  have f6 : w4.cell? ⟨yb, 6, none⟩ = some (.int .i64 y6) := blk_cell HY4.out 6
  go_wp2_with fail
  refine (HR.out w4 HB4.out).mono ?_
  rintro e w5 ⟨rfl, hb5⟩
  have HB5 := Lib.hid (HB4.out.trans (hb5.mono HB4.out.size))
  have HX5 := Lib.hid ((hb5.block xb (lt_of_block HX4.out)).trans HX4.out)
  have HY5 := Lib.hid ((hb5.block yb (lt_of_block HY4.out)).trans HY4.out)
  clear hb5 q0 q1 q2 f0 f1 f2 f3 f4 f5 f6 HB4 HP4 HX4 HY4
  have HAW := Lib.hid (awake28_calls w5 (HT.out.below HB5.out))
  by_cases he1 : e1 = 0
  rotate_left
  · have he' : (e1 == 0) = false := by simpa using he1
    have hen : (e1 != 0) = true := by simpa using he1
    clear he1
    go_wp2_with fail
    refine HAW.out.mono ?_
    rintro e w6 ⟨rfl, hb6⟩
    have HB6 := Lib.hid (HB5.out.trans (hb6.mono HB5.out.size))
    clear hb6
    go_wp2_with fail
    go_ret
    exact ⟨rfl, HB6.out⟩
  subst he1
  by_cases he2 : e2 = 0
  rotate_left
  · have he' : (e2 == 0) = false := by simpa using he2
    have hen : (e2 != 0) = true := by simpa using he2
    clear he2
    go_wp2_with fail
    refine HAW.out.mono ?_
    rintro e w6 ⟨rfl, hb6⟩
    have HB6 := Lib.hid (HB5.out.trans (hb6.mono HB5.out.size))
    clear hb6
    go_wp2_with fail
    go_ret
    exact ⟨rfl, HB6.out⟩
  subst he2
  have hst : (s.toList == t.toList) = bb := by rw [tl_eq]; exact HIN.out rfl rfl
  have heq := HEQ.out
  clear HIN HEQ
  go_wp2_with fail
  refine HAW.out.mono ?_
  rintro e w6 ⟨rfl, hb6⟩
  have HB6 := Lib.hid (HB5.out.trans (hb6.mono HB5.out.size))
  have HX6 := Lib.hid ((hb6.block xb (lt_of_block HX5.out)).trans HX5.out)
  have HY6 := Lib.hid ((hb6.block yb (lt_of_block HY5.out)).trans HY5.out)
  clear hb6
  have f0 : w6.cell? ⟨xb, 0, none⟩ = some (.int .i64 x0) := blk_cell HX6.out 0
  have f1 : w6.cell? ⟨xb, 1, none⟩ = some (.int .i64 x1) := blk_cell HX6.out 1
  have f2 : w6.cell? ⟨xb, 2, none⟩ = some (.int .i64 x2) := blk_cell HX6.out 2
  have f3 : w6.cell? ⟨xb, 3, none⟩ = some (.int .i64 x3) := blk_cell HX6.out 3
  have f4 : w6.cell? ⟨xb, 4, none⟩ = some (.int .i64 x4) := blk_cell HX6.out 4
  have f5 : w6.cell? ⟨xb, 5, none⟩ = some (.int .i64 x5) := blk_cell HX6.out 5
  have f6 : w6.cell? ⟨xb, 6, none⟩ = some (.int .i64 x6) := blk_cell HX6.out 6
  have g0 : w6.cell? ⟨yb, 0, none⟩ = some (.int .i64 y0) := blk_cell HY6.out 0
  have g1 : w6.cell? ⟨yb, 1, none⟩ = some (.int .i64 y1) := blk_cell HY6.out 1
  have g2 : w6.cell? ⟨yb, 2, none⟩ = some (.int .i64 y2) := blk_cell HY6.out 2
  have g3 : w6.cell? ⟨yb, 3, none⟩ = some (.int .i64 y3) := blk_cell HY6.out 3
  have g4 : w6.cell? ⟨yb, 4, none⟩ = some (.int .i64 y4) := blk_cell HY6.out 4
  have g5 : w6.cell? ⟨yb, 5, none⟩ = some (.int .i64 y5) := blk_cell HY6.out 5
  have g6 : w6.cell? ⟨yb, 6, none⟩ = some (.int .i64 y6) := blk_cell HY6.out 6
  cases bb with
  | true =>
    go_wp2_with fail
    go_ret
    exact ⟨rfl, HB6.out⟩
  | false =>
    go_wp2_with fail
    go_ret
    exact ⟨rfl, HB6.out⟩
set_option maxRecDepth 100000 in
set_option maxHeartbeats 32000000 in
theorem taleLines_walk (w : World) (ht : TabT w) {vd vs vl : Value} {p : P3} (h : PR w vd vs vl p) (hd : ∀ d ∈ p.D, dmOk d) (_hs : ∀ s ∈ p.S, slOk s) (_hk : ∀ l ∈ p.K, lkOk l) (hz : ∀ d ∈ p.D, d.nm.size ≤ 140737488351232) (x : En) (hx : enB x) :
    Calls Tryd.prog 3 #[.agg #[vd, vs, vl], enVal x] w fun e w' => e = .returned (.bool true) ∧ Below w.heap.size w w' := by
  have HT := Lib.hid ht
  have HPR := Lib.hid h
  have HA := Lib.hid (fun (u : World) (hu : Below w.heap.size w u) => tline_calls (HT.out.below hu) (HPR.out.below hu) hz x hx)
  have HR := Lib.hid (fun (u : World) (hu : Below w.heap.size w u) => rline28_calls (HPR.out.below hu) hz (fun d hd' => (hd d hd').2.1) x hx)
  have HRD := Lib.hid (fun (h1 : (lnT p x).2 = 0) (u : World) (hu : Below w.heap.size w u) => (by
    have h2 := ln_read h1 hx
    have h3 := tread_calls (HT.out.below hu) (HPR.out.below hu) hz (lnT p x).1 (by omega)
    rw [h2.1] at h3
    exact h3 : Calls Tryd.prog 10 #[.agg #[vd, vs, vl], .string (lnT p x).1] u fun e w' => ∃ v, e = .returned (.tuple #[v, .int .i64 0, .int .i64 0]) ∧ Reads w' 7 v 1 ([x].flatMap enCells) ∧ Below u.heap.size u w'))
  obtain ⟨⟨s, e1⟩, hq1⟩ : ∃ q, lnT p x = q := ⟨_, rfl⟩
  rw [hq1] at HA HR HRD
  simp only at HA HR HRD
  clear hq1 hx ht h hz hd _hs _hk
  obtain ⟨x0, x1, x2, x3, x4, x5, x6⟩ := x
  unfold enVal at HA HR ⊢
  simp only at HA HR ⊢
  have hb1 := plus_one1 w (.cells #[vd, vs, vl] 26)
  have hb2 := plus_one1 (w.alloc (.cells #[vd, vs, vl] 26)) (.cells #[.int .i64 x0, .int .i64 x1, .int .i64 x2, .int .i64 x3, .int .i64 x4, .int .i64 x5, .int .i64 x6] 28)
  have HB3 := Lib.hid (hb1.trans (hb2.mono hb1.size))
  have HP3 := Lib.hid ((hb2.block w.heap.size (by simp)).trans (heap_alloc_new w (.cells #[vd, vs, vl] 26)))
  have HX3 := Lib.hid (heap_alloc2_new w (.cells #[vd, vs, vl] 26) (.cells #[.int .i64 x0, .int .i64 x1, .int .i64 x2, .int .i64 x3, .int .i64 x4, .int .i64 x5, .int .i64 x6] 28))
  clear hb1 hb2
  go_enter Tryd.func3, Tryd.ntmps3
  go_upto_region 1 with (fail)
  obtain ⟨xb, hxb⟩ : ∃ b, b = w.heap.size + 1 := ⟨_, rfl⟩
  obtain ⟨pb, hpb⟩ : ∃ b, b = w.heap.size := ⟨_, rfl⟩
  rw [← hxb] at HX3 ⊢
  rw [← hpb] at HP3 ⊢
  generalize ((w.alloc (.cells #[vd, vs, vl] 26)).alloc (.cells #[.int .i64 x0, .int .i64 x1, .int .i64 x2, .int .i64 x3, .int .i64 x4, .int .i64 x5, .int .i64 x6] 28)) = w3 at HB3 HP3 HX3 ⊢
  clear hxb hpb
  have q0 : w3.cell? ⟨pb, 0, none⟩ = some vd := blk_cell HP3.out 0
  have q1 : w3.cell? ⟨pb, 1, none⟩ = some vs := blk_cell HP3.out 1
  have q2 : w3.cell? ⟨pb, 2, none⟩ = some vl := blk_cell HP3.out 2
  have f0 : w3.cell? ⟨xb, 0, none⟩ = some (.int .i64 x0) := blk_cell HX3.out 0
  have f1 : w3.cell? ⟨xb, 1, none⟩ = some (.int .i64 x1) := blk_cell HX3.out 1
  have f2 : w3.cell? ⟨xb, 2, none⟩ = some (.int .i64 x2) := blk_cell HX3.out 2
  have f3 : w3.cell? ⟨xb, 3, none⟩ = some (.int .i64 x3) := blk_cell HX3.out 3
  have f4 : w3.cell? ⟨xb, 4, none⟩ = some (.int .i64 x4) := blk_cell HX3.out 4
  have f5 : w3.cell? ⟨xb, 5, none⟩ = some (.int .i64 x5) := blk_cell HX3.out 5
  have f6 : w3.cell? ⟨xb, 6, none⟩ = some (.int .i64 x6) := blk_cell HX3.out 6
  go_wp2_with fail
  refine (HA.out w3 HB3.out).mono ?_
  rintro e w4 ⟨rfl, hb4⟩
  have HB4 := Lib.hid (HB3.out.trans (hb4.mono HB3.out.size))
  have HP4 := Lib.hid ((hb4.block pb (lt_of_block HP3.out)).trans HP3.out)
  have HX4 := Lib.hid ((hb4.block xb (lt_of_block HX3.out)).trans HX3.out)
  clear hb4 q0 q1 q2 f0 f1 f2 f3 f4 f5 f6 HB3 HP3 HX3
  have q0 : w4.cell? ⟨pb, 0, none⟩ = some vd := blk_cell HP4.out 0
  have q1 : w4.cell? ⟨pb, 1, none⟩ = some vs := blk_cell HP4.out 1
  have q2 : w4.cell? ⟨pb, 2, none⟩ = some vl := blk_cell HP4.out 2
  have f0 : w4.cell? ⟨xb, 0, none⟩ = some (.int .i64 x0) := blk_cell HX4.out 0
  have f1 : w4.cell? ⟨xb, 1, none⟩ = some (.int .i64 x1) := blk_cell HX4.out 1
  have f2 : w4.cell? ⟨xb, 2, none⟩ = some (.int .i64 x2) := blk_cell HX4.out 2
  have f3 : w4.cell? ⟨xb, 3, none⟩ = some (.int .i64 x3) := blk_cell HX4.out 3
  have f4 : w4.cell? ⟨xb, 4, none⟩ = some (.int .i64 x4) := blk_cell HX4.out 4
  have f5 : w4.cell? ⟨xb, 5, none⟩ = some (.int .i64 x5) := blk_cell HX4.out 5
  have f6 : w4.cell? ⟨xb, 6, none⟩ = some (.int .i64 x6) := blk_cell HX4.out 6
  go_wp2_with fail
  refine (HR.out w4 HB4.out).mono ?_
  rintro e w5 ⟨rfl, hb5⟩
  have HB5 := Lib.hid (HB4.out.trans (hb5.mono HB4.out.size))
  have HP5 := Lib.hid ((hb5.block pb (lt_of_block HP4.out)).trans HP4.out)
  have HX5 := Lib.hid ((hb5.block xb (lt_of_block HX4.out)).trans HX4.out)
  clear hb5 q0 q1 q2 f0 f1 f2 f3 f4 f5 f6 HB4 HP4 HX4
  by_cases he1 : e1 = 0
  rotate_left
  · have he' : (e1 == 0) = false := by simpa using he1
    have hen : (e1 != 0) = true := by simpa using he1
    have HAW := Lib.hid (awake28_calls w5 (HT.out.below HB5.out))
    clear he1
    go_wp2_with fail
    refine HAW.out.mono ?_
    rintro e w6 ⟨rfl, hb6⟩
    have HB6 := Lib.hid (HB5.out.trans (hb6.mono HB5.out.size))
    clear hb6
    go_wp2_with fail
    go_ret
    exact ⟨rfl, HB6.out⟩
  subst he1
  have HD := Lib.hid (HRD.out rfl w5 HB5.out)
  have q0 : w5.cell? ⟨pb, 0, none⟩ = some vd := blk_cell HP5.out 0
  have q1 : w5.cell? ⟨pb, 1, none⟩ = some vs := blk_cell HP5.out 1
  have q2 : w5.cell? ⟨pb, 2, none⟩ = some vl := blk_cell HP5.out 2
  clear HRD HA HR
  go_wp2_with fail
  refine HD.out.mono ?_
  rintro e w6 ⟨v6, rfl, hr6, hb6⟩
  have HR6 := Lib.hid hr6
  have HB6 := Lib.hid (HB5.out.trans (hb6.mono HB5.out.size))
  have HX6 := Lib.hid ((hb6.block xb (lt_of_block HX5.out)).trans HX5.out)
  clear hr6 hb6 q0 q1 q2 HB5 HP5 HX5 HD
  go_wp2_with fail
  refine (awake28_calls w6 (HT.out.below HB6.out)).mono ?_
  rintro e w7 ⟨rfl, hb7⟩
  have HB7 := Lib.hid (HB6.out.trans (hb7.mono HB6.out.size))
  have HX7 := Lib.hid ((hb7.block xb (lt_of_block HX6.out)).trans HX6.out)
  have HR7 := Lib.hid (HR6.out.below (by omega) hb7)
  clear hb7 HB6 HX6 HR6
  have f0 : w7.cell? ⟨xb, 0, none⟩ = some (.int .i64 x0) := blk_cell HX7.out 0
  have f1 : w7.cell? ⟨xb, 1, none⟩ = some (.int .i64 x1) := blk_cell HX7.out 1
  have f2 : w7.cell? ⟨xb, 2, none⟩ = some (.int .i64 x2) := blk_cell HX7.out 2
  have f3 : w7.cell? ⟨xb, 3, none⟩ = some (.int .i64 x3) := blk_cell HX7.out 3
  have f4 : w7.cell? ⟨xb, 4, none⟩ = some (.int .i64 x4) := blk_cell HX7.out 4
  have f5 : w7.cell? ⟨xb, 5, none⟩ = some (.int .i64 x5) := blk_cell HX7.out 5
  have f6 : w7.cell? ⟨xb, 6, none⟩ = some (.int .i64 x6) := blk_cell HX7.out 6
  have HSM := Lib.hid (rsame25_calls (HR7.out.below (by omega) (plus_one1 w7 (.cells #[.int .i64 x0, .int .i64 x1, .int .i64 x2, .int .i64 x3, .int .i64 x4, .int .i64 x5, .int .i64 x6] 28)))
    (reads_blk (n := 1) (k := 7) (xs := [(⟨x0, x1, x2, x3, x4, x5, x6⟩ : En)].flatMap enCells) (heap_alloc_new w7 (.cells #[.int .i64 x0, .int .i64 x1, .int .i64 x2, .int .i64 x3, .int .i64 x4, .int .i64 x5, .int .i64 x6] 28)) rfl rfl (by unfold maxLen; omega)) rfl rfl)
  rw [decide_eq_true rfl] at HSM
  have HB8 := Lib.hid (HB7.out.trans ((plus_one1 w7 (.cells #[.int .i64 x0, .int .i64 x1, .int .i64 x2, .int .i64 x3, .int .i64 x4, .int .i64 x5, .int .i64 x6] 28)).mono HB7.out.size))
  go_wp2_with fail
  refine HSM.out.mono ?_
  rintro e w8 ⟨rfl, hb8⟩
  have HB9 := Lib.hid (HB8.out.trans (hb8.mono HB8.out.size))
  clear hb8
  go_wp2_with fail
  go_ret
  exact ⟨rfl, HB9.out⟩
end Go.Proofs.YtbgpniepgbmkaaaDoor
