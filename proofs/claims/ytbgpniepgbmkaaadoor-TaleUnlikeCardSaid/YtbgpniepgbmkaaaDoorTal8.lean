/- What tale.Line does. Conditions: the policy can be read, its names are not longer than 2^47 bytes, the entry's numbers are int64s, the library's table and its two errors are laid (TabT). -/
import Derived.Test.YtbgpniepgbmkaaaDoorTal7
import Derived.Test.YtbgpniepgbmkaaaDoorRef04b
namespace Go.Proofs.YtbgpniepgbmkaaaDoor
open Go.RowKit BigFrame Go.BigFrame

theorem en_eq (x0 x1 x2 x3 x4 x5 x6 y0 y1 y2 y3 y4 y5 y6 : Int) (w : World) : (Op.equalIn 10000 28 (.agg #[.int .i64 x0, .int .i64 x1, .int .i64 x2, .int .i64 x3, .int .i64 x4, .int .i64 x5, .int .i64 x6]) (.agg #[.int .i64 y0, .int .i64 y1, .int .i64 y2, .int .i64 y3, .int .i64 y4, .int .i64 y5, .int .i64 y6])).run Tryd.prog w = .ok (x0 == y0 && (x1 == y1 && (x2 == y2 && (x3 == y3 && (x4 == y4 && (x5 == y5 && x6 == y6)))))) w := by
  by_cases h0 : x0 = y0
  · by_cases h1 : x1 = y1
    · by_cases h2 : x2 = y2
      · by_cases h3 : x3 = y3
        · by_cases h4 : x4 = y4
          · by_cases h5 : x5 = y5
            · by_cases h6 : x6 = y6
              · subst h0 h1 h2 h3 h4 h5 h6
                go_simp
              · have e : (x6 == y6) = false := by simpa using h6
                subst h0 h1 h2 h3 h4 h5
                clear h6
                go_simp
            · have e : (x5 == y5) = false := by simpa using h5
              subst h0 h1 h2 h3 h4
              clear h5
              go_simp
          · have e : (x4 == y4) = false := by simpa using h4
            subst h0 h1 h2 h3
            clear h4
            go_simp
        · have e : (x3 == y3) = false := by simpa using h3
          subst h0 h1 h2
          clear h3
          go_simp
      · have e : (x2 == y2) = false := by simpa using h2
        subst h0 h1
        clear h2
        go_simp
    · have e : (x1 == y1) = false := by simpa using h1
      subst h0
      clear h1
      go_simp
  · have e : (x0 == y0) = false := by simpa using h0
    clear h0
    go_simp
theorem en_beq (x y : En) : (x.kd == y.kd && (x.dom == y.dom && (x.pick == y.pick && (x.op == y.op && (x.a == y.a && (x.b == y.b && x.c == y.c)))))) = decide (x = y) := by
  obtain ⟨x0, x1, x2, x3, x4, x5, x6⟩ := x
  obtain ⟨y0, y1, y2, y3, y4, y5, y6⟩ := y
  have hb : ∀ a b : Int, (a == b) = decide (a = b) := fun a b => by by_cases h : a = b <;> simp [h]
  simp only [En.mk.injEq, Bool.decide_and, hb]
theorem en_eqv (x y : En) (w : World) : (Op.equalIn 10000 28 (enVal x) (enVal y)).run Tryd.prog w = .ok (decide (x = y)) w := by
  rw [← en_beq]
  exact en_eq _ _ _ _ _ _ _ _ _ _ _ _ _ _ w
theorem ln_tick {p : P3} (h : checkM p.D p.S p.K = 0) : lnT p tkE = (⟨#[116, 105, 99, 107]⟩, 0) := by
  unfold lnT
  rw [if_pos h, if_pos (.inl rfl)]
  unfold wE
  rw [if_pos rfl]
  rfl
theorem ln_bad {p : P3} {x : En} (h : checkM p.D p.S p.K = 0) (hx : ¬ x = tkE) (hb : ¬ x.kd = 2 ∨ x.dom < 0 ∨ ¬ x.dom < p.D.length ∨ x.op < 1 ∨ 34 < x.op) : lnT p x = (⟨#[]⟩, 1) := by
  unfold lnT
  rw [if_pos h, if_neg]
  rintro (h1 | ⟨h1, h2, h3, h4, h5⟩)
  · exact hx h1
  · omega
theorem ln_check {p : P3} {x : En} (h : ¬ checkM p.D p.S p.K = 0) : lnT p x = (⟨#[]⟩, checkM p.D p.S p.K) := by
  unfold lnT
  rw [if_neg h]
/-- The words of an entry that is no tick. -/
theorem wE_words {D : List Dm} {x : En} {i : Nat} {d : Dm} (hx : ¬ x = tkE) (hi : x.dom = (i : Int)) (hd : D[i]? = some d) (h0 : 1 ≤ x.op) (h1 : x.op ≤ 34) :
    wE D x = [sDo, d.nm, (⟨(Lib.itoa x.pick).toArray⟩ : ByteArray), wordT x.op, ⟨(Lib.itoa x.a).toArray⟩, ⟨(Lib.itoa x.b).toArray⟩, ⟨(Lib.itoa x.c).toArray⟩].map (fun b => b.data.toList) := by
  have hn : nmAt D x.dom = d.nm.data.toList := by
    unfold nmAt bsL
    rw [hi, Int.toNat_natCast, hd]
  unfold wE
  rw [if_neg hx, hn]
  unfold wordT
  rw [if_pos ⟨h0, h1⟩]
  simp [sDo]
theorem ln_good {p : P3} {x : En} {i : Nat} {d : Dm} (h : checkM p.D p.S p.K = 0) (hx : ¬ x = tkE) (hk : x.kd = 2) (hi : x.dom = (i : Int)) (hd : p.D[i]? = some d) (h0 : 1 ≤ x.op) (h1 : x.op ≤ 34) :
    lnT p x = (⟨(Lib.join ([sDo, d.nm, (⟨(Lib.itoa x.pick).toArray⟩ : ByteArray), wordT x.op, ⟨(Lib.itoa x.a).toArray⟩, ⟨(Lib.itoa x.b).toArray⟩, ⟨(Lib.itoa x.c).toArray⟩].map (fun b => b.data.toList)) [32]).toArray⟩, 0) := by
  have hlt := (List.getElem?_eq_some_iff.1 hd).1
  unfold lnT
  rw [if_pos h, if_pos (.inr ⟨hk, by omega, by omega, h0, h1⟩), wE_words hx hi hd h0 h1]
theorem wordT_size {op : Int} : (wordT op).data.toList.length ≤ 10 := by
  unfold wordT
  split
  · next h => rw [show (⟨(opsB.getD (op - 1).toNat []).toArray⟩ : ByteArray).data.toList = opsB.getD (op - 1).toNat [] by simp]; exact (ops_at h.1 h.2).2.2
  · exact Nat.zero_le _
theorem nm_size {D : List Dm} {S : List (Int × Int)} {K : List Lk} (h : UpP D S K) {d : Dm} (hd : d ∈ D) : d.nm.data.toList.length ≤ 24 := by
  obtain ⟨u1, _⟩ := h.dm d hd
  have := nameB_size u1
  rw [ba_size]
  exact this
theorem join_seven (a b c d e f g : List UInt8) : (Lib.join [a, b, c, d, e, f, g] [32]).length = a.length + b.length + c.length + d.length + e.length + f.length + g.length + 6 := by
  simp [Lib.join, List.intercalate]
  omega
/-- How long a line is. -/
theorem wE_len {D : List Dm} {S : List (Int × Int)} {K : List Lk} (h : UpP D S K) {x : En} (hx : okE D x) (hb : enB x) : (Lib.join (wE D x) [32]).length ≤ 122 := by
  by_cases ht : x = tkE
  · subst ht
    unfold wE
    rw [if_pos rfl]
    decide
  · rcases hx with hx | ⟨hk, h0, h1, h2, h3⟩
    · exact absurd hx ht
    · obtain ⟨_, _, b1, _, b2, b3, b4⟩ := hb
      have e1 := itoa_len20 b1
      have e2 := itoa_len20 b2
      have e3 := itoa_len20 b3
      have e4 := itoa_len20 b4
      have e5 := (ops_at h2 h3).2.2
      obtain ⟨i, hi⟩ : ∃ i : Nat, x.dom = i := ⟨x.dom.toNat, by omega⟩
      obtain ⟨d, hd⟩ : ∃ d, D[i]? = some d := ⟨_, List.getElem?_eq_getElem (by omega)⟩
      have e6 := nm_size h (List.mem_of_getElem? hd)
      have hn : nmAt D x.dom = d.nm.data.toList := by
        unfold nmAt bsL
        rw [hi, Int.toNat_natCast, hd]
      unfold wE
      rw [if_neg ht, hn, join_seven]
      simp only [List.length_cons, List.length_nil]
      omega
set_option maxRecDepth 100000 in
set_option maxHeartbeats 32000000 in
theorem tline_calls {w : World} (ht : TabT w) {vd vs vl : Value} {p : P3} (h : PR w vd vs vl p) (hz : ∀ d ∈ p.D, d.nm.size ≤ 140737488351232) (x : En) (hx : enB x) :
    Calls Tryd.prog 7 #[.agg #[vd, vs, vl], enVal x] w fun e w' => e = .returned (.tuple #[.string (lnT p x).1, .int .i64 (lnT p x).2]) ∧ Below w.heap.size w w' := by
  obtain ⟨nd, hnd⟩ : ∃ n, n = p.D.length := ⟨_, rfl⟩
  have HPR := Lib.hid h
  have hd := h.d
  rw [← hnd] at hd
  obtain ⟨hl1, a1, c1, rfl, h12, h13, hdc⟩ := doms_open hd
  obtain ⟨_, a2, c2, hvs, _⟩ := h.s
  obtain ⟨_, a3, c3, hvl, _⟩ := h.k
  unfold maxLen at h13
  have HT := Lib.hid ht
  have HL1 := Lib.hid hl1
  have HDC := Lib.hid hdc
  have HZ := Lib.hid hz
  obtain ⟨kd, dom, pick, op, a, b, c⟩ := x
  obtain ⟨_, b1, b2, b3, b4, b5, b6⟩ := hx
  simp only at b1 b2 b3 b4 b5 b6
  have HX := Lib.hid (And.intro b1 (And.intro b2 (And.intro b3 (And.intro b4 (And.intro b5 b6)))))
  have HB2 := Lib.hid ((plus_one1 w (.cells #[.slice a1 nd c1, vs, vl] 26)).trans ((plus_one1 (w.alloc (.cells #[.slice a1 nd c1, vs, vl] 26)) (.cells #[.int .i64 kd, .int .i64 dom, .int .i64 pick, .int .i64 op, .int .i64 a, .int .i64 b, .int .i64 c] 28)).mono (by simp)))
  have HP0 := Lib.hid (show ((w.alloc (.cells #[.slice a1 nd c1, vs, vl] 26)).alloc (.cells #[.int .i64 kd, .int .i64 dom, .int .i64 pick, .int .i64 op, .int .i64 a, .int .i64 b, .int .i64 c] 28)).heap[w.heap.size]? = some (.cells #[.slice a1 nd c1, vs, vl] 26 (0, 0)) from
    (Below.heap_alloc _ _ _ (by simp)).trans (heap_alloc_new w _))
  have HX0 := Lib.hid (show ((w.alloc (.cells #[.slice a1 nd c1, vs, vl] 26)).alloc (.cells #[.int .i64 kd, .int .i64 dom, .int .i64 pick, .int .i64 op, .int .i64 a, .int .i64 b, .int .i64 c] 28)).heap[w.heap.size + 1]? = some (.cells #[.int .i64 kd, .int .i64 dom, .int .i64 pick, .int .i64 op, .int .i64 a, .int .i64 b, .int .i64 c] 28 (0, 0)) from heap_alloc2_new w _ _)
  have HCH := Lib.hid (fun (u : World) (hu : Below w.heap.size w u) => check_calls (HPR.out.d.below (by omega) hu) (HPR.out.s.below (by omega) hu) (HPR.out.k.below (by omega) hu) HZ.out)
  obtain ⟨ch, hch⟩ : ∃ c, c = checkM p.D p.S p.K := ⟨_, rfl⟩
  rw [← hch] at HCH
  have HC := Lib.hid hch
  have HND := Lib.hid hnd
  clear hl1 hdc hd hz h hnd ht hch b1 b2 b3 b4 b5 b6 h12 hvs hvl
  unfold enVal
  simp only
  go_enter Tryd.func7, Tryd.ntmps7
  go_upto_region 1 with (fail)
  obtain ⟨pb, hpb⟩ : ∃ b, b = w.heap.size := ⟨_, rfl⟩
  obtain ⟨xb, hxb⟩ : ∃ b, b = w.heap.size + 1 := ⟨_, rfl⟩
  rw [← hxb] at HX0 ⊢
  rw [← hpb] at HP0 ⊢
  generalize (w.alloc (.cells #[.slice a1 nd c1, vs, vl] 26)).alloc (.cells #[.int .i64 kd, .int .i64 dom, .int .i64 pick, .int .i64 op, .int .i64 a, .int .i64 b, .int .i64 c] 28) = w2 at HB2 HP0 HX0 ⊢
  clear hpb hxb
  have q0 : w2.cell? ⟨pb, 0, none⟩ = some (.slice a1 nd c1) := blk_cell HP0.out 0
  have q1 : w2.cell? ⟨pb, 1, none⟩ = some vs := blk_cell HP0.out 1
  have q2 : w2.cell? ⟨pb, 2, none⟩ = some vl := blk_cell HP0.out 2
  go_wp2_with fail
  refine (HCH.out w2 HB2.out).mono ?_
  rintro e w3 ⟨rfl, hb3⟩
  have HB3 := Lib.hid (HB2.out.trans (hb3.mono HB2.out.size))
  have HP3 := Lib.hid ((hb3.block pb (lt_of_block HP0.out)).trans HP0.out)
  have HX3 := Lib.hid ((hb3.block xb (lt_of_block HX0.out)).trans HX0.out)
  clear hb3 q0 q1 q2 HP0 HX0 HB2 HCH
  by_cases hc0 : ch = 0
  rotate_left
  · have HV := Lib.hid (show lnT p ⟨kd, dom, pick, op, a, b, c⟩ = (⟨#[]⟩, ch) by rw [HC.out]; exact ln_check (by rw [← HC.out]; exact hc0))
    have he' : (ch == 0) = false := by simpa using hc0
    have hen : (ch != 0) = true := by simpa using hc0
    clear hc0
    go_wp2_with fail
    go_ret2
    rw [HV.out]
    exact ⟨rfl, HB3.out⟩
  subst hc0
  go_wp2_with fail
  refine (opsR_calls w3).mono ?_
  rintro e w4 ⟨b0, rfl, hr4, hb4⟩
  have HR4 := Lib.hid hr4
  have HB4 := Lib.hid (HB3.out.trans (hb4.mono HB3.out.size))
  have HP4 := Lib.hid ((hb4.block pb (lt_of_block HP3.out)).trans HP3.out)
  have HX4 := Lib.hid ((hb4.block xb (lt_of_block HX3.out)).trans HX3.out)
  clear hr4 hb4 HP3 HX3 HB3
  have e0 : w4.cell? ⟨xb, 0, none⟩ = some (.int .i64 kd) := blk_cell HX4.out 0
  have e1 : w4.cell? ⟨xb, 1, none⟩ = some (.int .i64 dom) := blk_cell HX4.out 1
  have e2 : w4.cell? ⟨xb, 2, none⟩ = some (.int .i64 pick) := blk_cell HX4.out 2
  have e3 : w4.cell? ⟨xb, 3, none⟩ = some (.int .i64 op) := blk_cell HX4.out 3
  have e4 : w4.cell? ⟨xb, 4, none⟩ = some (.int .i64 a) := blk_cell HX4.out 4
  have e5 : w4.cell? ⟨xb, 5, none⟩ = some (.int .i64 b) := blk_cell HX4.out 5
  have e6 : w4.cell? ⟨xb, 6, none⟩ = some (.int .i64 c) := blk_cell HX4.out 6
  have p0 : w4.cell? ⟨pb, 0, none⟩ = some (.slice a1 nd c1) := blk_cell HP4.out 0
  by_cases htk : (⟨kd, dom, pick, op, a, b, c⟩ : En) = tkE
  · have HV := Lib.hid (show lnT p ⟨kd, dom, pick, op, a, b, c⟩ = (⟨#[116, 105, 99, 107]⟩, 0) by rw [htk]; exact ln_tick HC.out.symm)
    have heq := en_eqv ⟨kd, dom, pick, op, a, b, c⟩ tkE
    rw [decide_eq_true htk] at heq
    unfold enVal tkE at heq
    simp only at heq
    clear htk
    go_wp2_with fail
    go_ret2
    rw [HV.out]
    exact ⟨rfl, HB4.out⟩
  have heq := en_eqv ⟨kd, dom, pick, op, a, b, c⟩ tkE
  rw [decide_eq_false htk] at heq
  unfold enVal tkE at heq
  simp only at heq
  have HTK := Lib.hid htk
  have HBD := Lib.hid (fun hb => ln_bad (p := p) (x := ⟨kd, dom, pick, op, a, b, c⟩) HC.out.symm htk hb)
  simp only at HBD
  rw [← HND.out] at HBD
  clear htk
  by_cases hk2 : kd = 2
  rotate_left
  · have HV := Lib.hid (HBD.out (.inl hk2))
    go_wp2_with fail
    go_ret2
    rw [HV.out]
    exact ⟨rfl, HB4.out⟩
  subst hk2
  by_cases hd0 : dom < 0
  · have HV := Lib.hid (HBD.out (.inr (.inl hd0)))
    go_wp2_with fail
    go_ret2
    rw [HV.out]
    exact ⟨rfl, HB4.out⟩
  obtain ⟨i, rfl⟩ : ∃ i : Nat, dom = (i : Int) := ⟨dom.toNat, by omega⟩
  have hiz : (0 : Int) ≤ (i : Int) := Int.natCast_nonneg _
  by_cases hd1 : i < nd
  rotate_left
  · have hd1' : ¬ (i : Int) < (nd : Int) := by omega
    have hd1'' : (nd : Int) ≤ (i : Int) := by omega
    have HV := Lib.hid (HBD.out (.inr (.inr (.inl hd1'))))
    clear hd0
    go_wp2_with fail
    go_ret2
    rw [HV.out]
    exact ⟨rfl, HB4.out⟩
  have hd1' : (i : Int) < (nd : Int) := by omega
  have hd1'' : ¬ (nd : Int) ≤ (i : Int) := by omega
  by_cases ho0 : op < 1
  · have HV := Lib.hid (HBD.out (.inr (.inr (.inr (.inl ho0)))))
    clear hd0
    go_wp2_with fail
    go_ret2
    rw [HV.out]
    exact ⟨rfl, HB4.out⟩
  by_cases ho1 : 34 < op
  · have HV := Lib.hid (HBD.out (.inr (.inr (.inr (.inr ho1)))))
    clear hd0
    go_wp2_with fail
    go_ret2
    rw [HV.out]
    exact ⟨rfl, HB4.out⟩
  obtain ⟨d, hd⟩ : ∃ d, p.D[i]? = some d := ⟨_, List.getElem?_eq_getElem (by rw [HL1.out]; exact hd1)⟩
  have HV := Lib.hid (ln_good (p := p) (x := ⟨2, (i : Int), pick, op, a, b, c⟩) HC.out.symm HTK.out rfl rfl hd (by show 1 ≤ op; omega) (by show op ≤ 34; omega))
  simp only at HV
  obtain ⟨bd, od, rfl, hbd, hcx⟩ := HDC.out (by omega)
  obtain ⟨g0, _⟩ := hcx i d hd
  have HNS := Lib.hid (nm_size (check_all HC.out.symm) (List.mem_of_getElem? hd))
  have HWS := Lib.hid (wordT_size (op := op))
  obtain ⟨k, hk⟩ : ∃ k : Nat, op = (k : Int) + 1 := ⟨(op - 1).toNat, by omega⟩
  have hwc := word_cells (op := op) (by omega) (by omega)
  rw [hk, show ((k : Int) + 1).toNat = k + 1 by omega, List.getElem?_cons_succ, ← hk] at hwc
  have HOC := Lib.hid (show w4.cell? ⟨b0, k, none⟩ = some (.string (wordT op)) by
    obtain ⟨_, a', c', e, _, _, h4⟩ := HR4.out
    injection e with ee1 _ ee3
    subst ee1 ee3
    obtain ⟨b', o', e, hc⟩ := h4 (by omega)
    injection e with e
    injection e with ee1 ee2
    subst ee1 ee2
    have := hc k (.string (wordT op)) (by unfold opsV at hwc; rw [List.map_map]; exact hwc)
    rwa [Nat.zero_add] at this)
  have hkz : (0 : Int) ≤ (k : Int) := Int.natCast_nonneg _
  have hk34 : (k : Int) < 34 := by omega
  have hk1 : op - 1 = (k : Int) := by omega
  have hk2 : IntKind.i64.wrap (k : Int) = (k : Int) := by rw [IntKind.wrap_i64]; omega
  obtain ⟨nm, hnm⟩ : ∃ t, t = d.nm := ⟨_, rfl⟩
  rw [← hnm] at HV g0 HNS
  obtain ⟨wd, hwd⟩ : ∃ t, t = wordT op := ⟨_, rfl⟩
  rw [← hwd] at HV HOC HWS
  obtain ⟨sp, hsp⟩ : ∃ t : ByteArray, t = ⟨(Lib.itoa pick).toArray⟩ := ⟨_, rfl⟩
  have HIT := Lib.hid (fun (u : World) (hu : Below w4.heap.size w4 u) => itoa64_calls pick HX.out.2.1 u (HT.out.below (HB4.out.trans (hu.mono HB4.out.size))).1)
  rw [← hsp] at HV HIT
  have HSP := Lib.hid (show sp.data.toList.length ≤ 20 by rw [hsp]; simpa using itoa_len20 HX.out.2.1)
  have HLD := Lib.hid (fun (u : World) (hu : Below w4.heap.size w4 u) => show u.cell? ⟨pb, 0, none⟩ = some (.slice (some ⟨bd, od, none⟩) nd c1) ∧ u.cell? ⟨xb, 1, none⟩ = some (.int .i64 (i : Int)) ∧ u.cell? ⟨bd, od + i * 6, none⟩ = some (.string nm) ∧ u.cell? ⟨xb, 2, none⟩ = some (.int .i64 pick) ∧ u.cell? ⟨xb, 3, none⟩ = some (.int .i64 op) ∧ u.cell? ⟨b0, k, none⟩ = some (.string wd) from
    ⟨below_cell1 hu (lt_of_block HP4.out) (blk_cell HP4.out 0), below_cell1 hu (lt_of_block HX4.out) (blk_cell HX4.out 1), below_cell1 (HB4.out.trans (hu.mono HB4.out.size)) hbd g0, below_cell1 hu (lt_of_block HX4.out) (blk_cell HX4.out 2), below_cell1 hu (lt_of_block HX4.out) (blk_cell HX4.out 3), below_cell1 hu (block_lt_of_cell HOC.out) HOC.out⟩)
  clear hk hwc hnm hwd hsp hcx g0 hd hd0
  go_upto_region 9 with (fail)
  clear ho0 ho1 heq e0 e1 e2 e3 e4 e5 e6 p0
  refine wp_region_W 18 17 (fun w' : World => Below w4.heap.size w4 w') (by kernel_rfl) (by kernel_rfl) ((Below.refl _ _).drew) (fun hT => ?_)
  refine wpAnyW_take (i := 0) (some 50) rfl rfl (by kernel_rfl) (by kernel_rfl) (by kernel_rfl) (by kernel_rfl) (fun _ _ _ h => h) (v := ?_) (.inl ⟨by rfl, ?_⟩) (.inr hT) ?_
  rotate_left
  · (intro wT _; go_simp <;> with_reducible rfl)
  simp only [Act.put, List.setIfInBounds_toArray, List.set_cons_zero, List.set_cons_succ]
  refine wpAnyW_load (i := 1) (some 51) rfl rfl (by kernel_rfl) (by kernel_rfl) (by kernel_rfl) (by kernel_rfl) (by kernel_rfl) (fun _ _ _ h => h) (v := ?_) (.inl ⟨by rfl, ?_⟩) hT ?_
  rotate_left
  · (intro wT hT; try dsimp only at hT); (obtain ⟨t0, t1, t2, t3, t4, t5⟩ := HLD.out _ hT; clear hT); (go_simp <;> with_reducible rfl)
  simp only [Act.put, List.setIfInBounds_toArray, List.set_cons_zero, List.set_cons_succ]
  refine wpAnyW_take (i := 2) (some 52) rfl rfl (by kernel_rfl) (by kernel_rfl) (by kernel_rfl) (by kernel_rfl) (fun _ _ _ h => h) (v := ?_) (.inl ⟨by rfl, ?_⟩) (.inr hT) ?_
  rotate_left
  · (intro wT _; go_simp <;> with_reducible rfl)
  simp only [Act.put, List.setIfInBounds_toArray, List.set_cons_zero, List.set_cons_succ]
  refine wpAnyW_load (i := 3) (some 53) rfl rfl (by kernel_rfl) (by kernel_rfl) (by kernel_rfl) (by kernel_rfl) (by kernel_rfl) (fun _ _ _ h => h) (v := ?_) (.inl ⟨by rfl, ?_⟩) hT ?_
  rotate_left
  · (intro wT hT; try dsimp only at hT); (obtain ⟨t0, t1, t2, t3, t4, t5⟩ := HLD.out _ hT; clear hT); (go_simp <;> with_reducible rfl)
  simp only [Act.put, List.setIfInBounds_toArray, List.set_cons_zero, List.set_cons_succ]
  refine wpAnyW_take (i := 4) (some 54) rfl rfl (by kernel_rfl) (by kernel_rfl) (by kernel_rfl) (by kernel_rfl) (fun _ _ _ h => h) (v := ?_) (.inl ⟨by rfl, ?_⟩) (.inr hT) ?_
  rotate_left
  · (intro wT _; go_simp <;> with_reducible rfl)
  simp only [Act.put, List.setIfInBounds_toArray, List.set_cons_zero, List.set_cons_succ]
  refine wpAnyW_take (i := 5) (some 55) rfl rfl (by kernel_rfl) (by kernel_rfl) (by kernel_rfl) (by kernel_rfl) (fun _ _ _ h => h) (v := ?_) (.inl ⟨by rfl, ?_⟩) (.inr hT) ?_
  rotate_left
  · (intro wT _; go_simp <;> with_reducible rfl)
  simp only [Act.put, List.setIfInBounds_toArray, List.set_cons_zero, List.set_cons_succ]
  refine wpAnyW_load (i := 6) (some 56) rfl rfl (by kernel_rfl) (by kernel_rfl) (by kernel_rfl) (by kernel_rfl) (by kernel_rfl) (fun _ _ _ h => h) (v := ?_) (.inl ⟨by rfl, ?_⟩) hT ?_
  rotate_left
  · (intro wT hT; try dsimp only at hT); (obtain ⟨t0, t1, t2, t3, t4, t5⟩ := HLD.out _ hT; clear hT); (go_simp <;> with_reducible rfl)
  simp only [Act.put, List.setIfInBounds_toArray, List.set_cons_zero, List.set_cons_succ]
  refine wpAnyW_take (i := 7) (some 57) rfl rfl (by kernel_rfl) (by kernel_rfl) (by kernel_rfl) (by kernel_rfl) (fun _ _ _ h => h) (v := ?_) (.inl ⟨by rfl, ?_⟩) (.inr hT) ?_
  rotate_left
  · (intro wT _; go_simp <;> with_reducible rfl)
  simp only [Act.put, List.setIfInBounds_toArray, List.set_cons_zero, List.set_cons_succ]
  refine wpAnyW_load (i := 8) (some 58) rfl rfl (by kernel_rfl) (by kernel_rfl) (by kernel_rfl) (by kernel_rfl) (by kernel_rfl) (fun _ _ _ h => h) (v := ?_) (.inl ⟨by rfl, ?_⟩) hT ?_
  rotate_left
  · (intro wT hT; try dsimp only at hT); (obtain ⟨t0, t1, t2, t3, t4, t5⟩ := HLD.out _ hT; clear hT); (go_simp <;> with_reducible rfl)
  simp only [Act.put, List.setIfInBounds_toArray, List.set_cons_zero, List.set_cons_succ]
  refine wpAnyW_take (i := 10) (some 60) rfl rfl (by kernel_rfl) (by kernel_rfl) (by kernel_rfl) (by kernel_rfl) (fun _ _ _ h => h) (v := ?_) (.inl ⟨by rfl, ?_⟩) (.inr hT) ?_
  rotate_left
  · (intro wT _; go_simp <;> with_reducible rfl)
  simp only [Act.put, List.setIfInBounds_toArray, List.set_cons_zero, List.set_cons_succ]
  refine wpAnyW_take (i := 11) (some 61) rfl rfl (by kernel_rfl) (by kernel_rfl) (by kernel_rfl) (by kernel_rfl) (fun _ _ _ h => h) (v := ?_) (.inl ⟨by rfl, ?_⟩) (.inr hT) ?_
  rotate_left
  · (intro wT _; go_simp <;> with_reducible rfl)
  simp only [Act.put, List.setIfInBounds_toArray, List.set_cons_zero, List.set_cons_succ]
  refine wpAnyW_load (i := 12) (some 62) rfl rfl (by kernel_rfl) (by kernel_rfl) (by kernel_rfl) (by kernel_rfl) (by kernel_rfl) (fun _ _ _ h => h) (v := ?_) (.inl ⟨by rfl, ?_⟩) hT ?_
  rotate_left
  · (intro wT hT; try dsimp only at hT); (obtain ⟨t0, t1, t2, t3, t4, t5⟩ := HLD.out _ hT; clear hT); (go_simp <;> with_reducible rfl)
  simp only [Act.put, List.setIfInBounds_toArray, List.set_cons_zero, List.set_cons_succ]
  refine wpAnyW_take (i := 13) (some 63) rfl rfl (by kernel_rfl) (by kernel_rfl) (by kernel_rfl) (by kernel_rfl) (fun _ _ _ h => h) (v := ?_) (.inl ⟨by rfl, ?_⟩) (.inr hT) ?_
  rotate_left
  · (intro wT _; go_simp <;> with_reducible rfl)
  simp only [Act.put, List.setIfInBounds_toArray, List.set_cons_zero, List.set_cons_succ]
  refine wpAnyW_take (i := 14) (some 64) rfl rfl (by kernel_rfl) (by kernel_rfl) (by kernel_rfl) (by kernel_rfl) (fun _ _ _ h => h) (v := ?_) (.inl ⟨by rfl, ?_⟩) (.inr hT) ?_
  rotate_left
  · (intro wT _; go_simp <;> with_reducible rfl)
  simp only [Act.put, List.setIfInBounds_toArray, List.set_cons_zero, List.set_cons_succ]
  refine wpAnyW_load (i := 15) (some 65) rfl rfl (by kernel_rfl) (by kernel_rfl) (by kernel_rfl) (by kernel_rfl) (by kernel_rfl) (fun _ _ _ h => h) (v := ?_) (.inl ⟨by rfl, ?_⟩) hT ?_
  rotate_left
  · (intro wT hT; try dsimp only at hT); (obtain ⟨t0, t1, t2, t3, t4, t5⟩ := HLD.out _ hT; clear hT); (go_simp <;> with_reducible rfl)
  simp only [Act.put, List.setIfInBounds_toArray, List.set_cons_zero, List.set_cons_succ]
  refine wpAnyW_one (i := 9) (by kernel_rfl) rfl (fun K hK => ?_)
  go_simp
  refine (HIT.out (w4.drew) ((Below.refl w4.heap.size w4).drew)).mono ?_
  rintro e W9 ⟨rfl, hq9⟩
  dsimp only
  have hb9 : Below w4.heap.size w4 W9 := Below.trans ((Below.refl w4.heap.size w4).drew) (hq9.mono ((Below.refl w4.heap.size w4).drew).size)
  refine step_owe hK ?_ (fun hT => ?_)
  · first | exact hb9 | exact hb16
  clear hK K
  refine wpAnyW_one (i := 16) (by kernel_rfl) rfl (fun K hK => ?_)
  go_simp
  refine name_world2 (fun W16 hW16 => ?_)
  have hb16 : Below w4.heap.size w4 W16 := by rw [hW16]; first | exact Below.alloc hb9 hb9.size _ | exact (Below.alloc hb9 hb9.size _).drew
  have ho16 : W16.ownsRow w.heap.size 9 1 (.slice (some ⟨W9.heap.size, 0, none⟩) 4 4) 4 ([sDo, nm, sp, wd].map Value.string) := by rw [hW16]; exact World.ownsRow_lit W9 #[.string sDo, .string nm, .string sp, .string wd] 4 (Nat.le_trans HB4.out.size hb9.size) (by unfold maxLen; omega) rfl
  obtain ⟨g, hg⟩ : ∃ g, g = W9.heap.size := ⟨_, rfl⟩
  rw [← hg] at ho16 ⊢
  clear hW16 hg
  refine step_owe hK ?_ (fun hT => ?_)
  · first | exact hb9 | exact hb16
  clear hK K
  refine wpAnyW_one (i := 17) (by kernel_rfl) rfl (fun K hK => ?_)
  go_simp
  refine step_paid hK (by kernel_rfl) ?_
  clear hK K
  refine wpAnyW_done (by kernel_rfl) ?_
  have HB5 := Lib.hid (HB4.out.trans (hb16.mono HB4.out.size))
  have HX5 := Lib.hid ((hb16.block xb (lt_of_block HX4.out)).trans HX4.out)
  have HO5 := Lib.hid ho16
  clear hq9 hb9 hb16 ho16
  have e4 : W16.cell? ⟨xb, 4, none⟩ = some (.int .i64 a) := blk_cell HX5.out 4
  have e5 : W16.cell? ⟨xb, 5, none⟩ = some (.int .i64 b) := blk_cell HX5.out 5
  have e6 : W16.cell? ⟨xb, 6, none⟩ = some (.int .i64 c) := blk_cell HX5.out 6
  have HB6 := Lib.hid (HB5.out.trans ((plus_one1 W16 (.cells #[.int .i64 a, .int .i64 b, .int .i64 c] 3)).mono HB5.out.size))
  have HI6 := Lib.hid (show (W16.alloc (.cells #[.int .i64 a, .int .i64 b, .int .i64 c] 3)).heap[W16.heap.size]? = some (.cells #[.int .i64 a, .int .i64 b, .int .i64 c] 3 (0, 0)) from heap_alloc_new W16 _)
  have HO6 := Lib.hid (HO5.out.alloc (.cells #[.int .i64 a, .int .i64 b, .int .i64 c] 3))
  go_upto_region 11 with (fail)
  obtain ⟨ib, hib⟩ : ∃ b, b = W16.heap.size := ⟨_, rfl⟩
  rw [← hib] at HI6 ⊢
  generalize W16.alloc (.cells #[.int .i64 a, .int .i64 b, .int .i64 c] 3) = w6 at HB6 HI6 HO6 ⊢
  clear hib e4 e5 e6 HB5 HX5 HO5
  obtain ⟨ta, hta⟩ : ∃ t : ByteArray, t = ⟨(Lib.itoa a).toArray⟩ := ⟨_, rfl⟩
  obtain ⟨tb, htb⟩ : ∃ t : ByteArray, t = ⟨(Lib.itoa b).toArray⟩ := ⟨_, rfl⟩
  obtain ⟨tc, htc⟩ : ∃ t : ByteArray, t = ⟨(Lib.itoa c).toArray⟩ := ⟨_, rfl⟩
  rw [← hta, ← htb, ← htc] at HV
  have HTS := Lib.hid (show ta.data.toList.length ≤ 20 ∧ tb.data.toList.length ≤ 20 ∧ tc.data.toList.length ≤ 20 by
    rw [hta, htb, htc]
    exact ⟨by simpa using itoa_len20 HX.out.2.2.2.1, by simpa using itoa_len20 HX.out.2.2.2.2.1, by simpa using itoa_len20 HX.out.2.2.2.2.2⟩)
  have HNU := Lib.hid (fun (j : Nat) (hj : j < 3) => show ∃ v t, i64B v ∧ (#[.int .i64 a, .int .i64 b, .int .i64 c] : Array Value)[j]? = some (.int .i64 v) ∧ t = (⟨(Lib.itoa v).toArray⟩ : ByteArray) ∧ [ta, tb, tc][j]? = some t from by
    match j, hj with
    | 0, _ => exact ⟨a, ta, HX.out.2.2.2.1, rfl, hta, rfl⟩
    | 1, _ => exact ⟨b, tb, HX.out.2.2.2.2.1, rfl, htb, rfl⟩
    | 2, _ => exact ⟨c, tc, HX.out.2.2.2.2.2, rfl, htc, rfl⟩)
  obtain ⟨i0, hi0, hz0, hz1, hz2⟩ := info_parts Tryd.info_str
  have HI := Lib.hid hi0
  clear hta htb htc hi0
  go_loopw [8, 75] (fun o u wr => ∃ j : Nat, u = .int .i64 (j : Int) ∧ j ≤ 3 ∧ Below w.heap.size w wr ∧ wr.heap[ib]? = some (.cells #[.int .i64 a, .int .i64 b, .int .i64 c] 3 (0, 0)) ∧ wr.ownsRow w.heap.size 9 1 o (4 + j) ((([sDo, nm, sp, wd] : List ByteArray) ++ [ta, tb, tc].take j).map Value.string)) (fun _ u _ => 3 - (intOf u).toNat)
  case atStart => exact ⟨0, rfl, Nat.zero_le _, HB6.out, HI6.out, by simpa using HO6.out⟩
  case round =>
    obtain ⟨j, rfl, hj, hb, hii, hown⟩ := hrel
    have HB := Lib.hid hb
    have HII := Lib.hid hii
    have HO := Lib.hid hown
    have hjz : (0 : Int) ≤ (j : Int) := Int.natCast_nonneg _
    clear hb hii hown
    by_cases hj3 : j < 3
    · have hj3' : (j : Int) < 3 := by omega
      obtain ⟨v, t, hv, hvc, hvt, hvl⟩ := HNU.out j hj3
      have k0 : wr.cell? ⟨ib, j, none⟩ = some (.int .i64 v) := (blk_cell HII.out j).trans hvc
      have HN := Lib.hid (itoa64_calls v hv wr (HT.out.below HB.out).1)
      rw [← hvt] at HN
      have HTK2 := Lib.hid (show ([ta, tb, tc] : List ByteArray).take (j + 1) = [ta, tb, tc].take j ++ [t] by rw [List.take_add_one, hvl]; rfl)
      clear hv hvc hvt hvl
      go_wp2_with fail
      refine HN.out.mono ?_
      rintro e w7 ⟨rfl, hb7⟩
      have HB7 := Lib.hid (HB.out.trans (hb7.mono HB.out.size))
      have HI7 := Lib.hid ((hb7.block ib (lt_of_block HII.out)).trans HII.out)
      have hown : w7.ownsRow w.heap.size 9 1 _ (4 + j) ((([sDo, nm, sp, wd] : List ByteArray) ++ [ta, tb, tc].take j).map Value.string) := owns_same HO.out (fun k hk => hb7.block k (HO.out.lt k hk).2)
      clear hb7 k0
      go_wp2_with (at_builtin; refine wpList_append_own _ rfl _ _ 46 rfl w.heap.size 9 i0 (.string ByteArray.empty) 1 16 Tryd.underlying46 HI.out hz0 hz1 hz2 rfl (by decide) _ _ _ rfl (hown.alloc _) ⟨w7.heap.size, 0, none⟩ 1 1 [.string t] rfl rfl ?c1 ?c2 ?c3 ?c4 ?c5 ?_)
      case c1 => exact news_one w7 _ _
      case c2 => intro u hu; rw [List.mem_singleton] at hu; subst hu; rfl
      case c3 => unfold maxLen; omega
      case c4 => omega
      case c5 => have := HB7.out.size; simp; omega
      intro v' w8 hown' hgr _
      have HB8 := Lib.hid ((HB7.out.alloc (Nat.le_trans HB7.out.size (Nat.le_refl _)) (.cells #[.string t] 9)).grown hgr (Nat.le_trans HB7.out.size (plus_one1 w7 _).size) (fun k hk => (hown.lt k hk).1))
      have HO8 := Lib.hid (show w8.ownsRow w.heap.size 9 1 v' (4 + (j + 1)) ((([sDo, nm, sp, wd] : List ByteArray) ++ [ta, tb, tc].take (j + 1)).map Value.string) by
        rw [HTK2.out]
        simpa [Nat.add_assoc] using hown')
      have HI8 := Lib.hid (show w8.heap[ib]? = some (.cells #[.int .i64 a, .int .i64 b, .int .i64 c] 3 (0, 0)) from by
        refine (hgr.block ib (Nat.lt_of_lt_of_le (lt_of_block HI7.out) (plus_one1 w7 _).size) (fun e => ?_)).trans ((Below.heap_alloc w7 _ ib (lt_of_block HI7.out)).trans HI7.out)
        obtain ⟨_, _, hc2⟩ := owns_type1 hown e.symm
        exact types_apart1 HI7.out hc2 (by decide) rfl)
      clear hown hgr hown'
      go_wp2_with fail
      go_roundw
      case rel => exact ⟨j + 1, by go_num, by omega, HB8.out, HI8.out, HO8.out⟩
      case measure => simp [intOf]; omega
    · obtain rfl : j = 3 := by omega
      have hj3' : ¬ ((3 : Nat) : Int) < 3 := by omega
      obtain ⟨_, ra, rc, rfl, hr2, hr3, hr4⟩ := Reads.of_owns HO.out
      obtain ⟨rk, ro, rfl, hrc⟩ := hr4 (by omega)
      unfold maxLen at hr3
      have hlt := (Reads.of_owns HO.out).lt (by omega) (by omega) rk rfl
      have hj := Tryd.strings_Join rk ro rc [sDo, nm, sp, wd, ta, tb, tc] ⟨#[32]⟩ wr (fun j x hx => hrc j _ (by rw [List.getElem?_map]; show Option.map _ ([sDo, nm, sp, wd, ta, tb, tc][j]?) = _; rw [hx]; rfl)) hlt (by simp) (by simpa using hr2) (by
        show (Lib.join [sDo.data.toList, nm.data.toList, sp.data.toList, wd.data.toList, ta.data.toList, tb.data.toList, tc.data.toList] [32]).length ≤ _
        rw [join_seven]
        have h1 := HTS.out
        have h2 := HSP.out
        have h3 := HWS.out
        have h4 := HNS.out
        have h5 : sDo.data.toList.length = 2 := rfl
        omega)
      have HJ := Lib.hid hj
      clear hrc hr4 hlt hj
      simp only [List.length_cons, List.length_nil, Nat.zero_add, Nat.reduceAdd] at HJ
      go_wp2_with fail
      refine HJ.out.mono ?_
      rintro e w8 ⟨rfl, hb8⟩
      have HB8 := Lib.hid (HB.out.trans (hb8.mono HB.out.size))
      clear hb8
      go_wp2_with fail
      go_ret2
      rw [HV.out]
      exact ⟨rfl, HB8.out⟩
end Go.Proofs.YtbgpniepgbmkaaaDoor
