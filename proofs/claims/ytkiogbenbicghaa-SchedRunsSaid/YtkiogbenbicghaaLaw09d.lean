/- The walk of the statement SchedRuns: it returns true. Conditions: the number fits its kind, the slice can be read as data. -/
import Derived.Test.YtkiogbenbicghaaRunPure
namespace Go.Proofs.Ytkiogbenbicghaa
open Go.RowKit BigFrame Go.WideShapes

/-- A Sched with at most eight places. -/
def Rs (w wr : World) (b : SB) : Prop := (∃ A fs rl, IsT wr b A fs rl ∧ A.list.length ≤ 8) ∧ Below w.heap.size w wr
theorem Rs.act {w wr w' : World} {b : SB} (h : Rs w wr b) (h' : ∃ A fs rl, IsT w' b A fs rl ∧ A.list.length ≤ 8) (hx : Ext wr w' b.ft) (hk : ∀ k, b.ft k → w.heap.size ≤ k) : Rs w w' b := ⟨h', ext_below2 h.2 hx hk⟩
theorem Rs.plus {w wr w' : World} {b : SB} (h : Rs w wr b) (hb : Below wr.heap.size wr w') : Rs w w' b := ⟨h.1.imp (fun _ h => h.imp fun _ h => h.imp fun _ h => ⟨h.1.below hb, h.2⟩), h.2.trans (hb.mono h.2.size)⟩
section
variable {w wr : World} {b : SB}
theorem Rs.spawn (h : Rs w wr b) (hk : ∀ k, b.ft k → w.heap.size ≤ k) :
    Calls Try.prog 28 #[.pointer (some ⟨b.s, 0, none⟩)] wr fun e w' => ∃ x y, e = .returned (.tuple #[.int .i64 x, .bool y]) ∧ Rs w w' b := by
  obtain ⟨A, fs, rl, h1, h2⟩ := h.1
  exact (tspawn_calls h1).mono fun _ _ ⟨e1, _, e2, e3⟩ => ⟨_, _, e1, h.act ⟨_, _, _, e2, by rw [spnA_size]; exact h2⟩ e3 hk⟩
theorem Rs.exit (h : Rs w wr b) (hk : ∀ k, b.ft k → w.heap.size ≤ k) (t : Int) (ht : t ≤ 9223372036854775807) :
    Calls Try.prog 34 #[.pointer (some ⟨b.s, 0, none⟩), .int .i64 t] wr fun e w' => ∃ y, e = .returned (.bool y) ∧ Rs w w' b := by
  obtain ⟨A, fs, rl, h1, h2⟩ := h.1
  exact (texit_calls h1 t ht).mono fun _ _ ⟨e1, fs', e2, _, _, e3⟩ => ⟨_, e1, h.act ⟨_, _, _, e2, by rw [extA_size]; exact h2⟩ e3 hk⟩
theorem Rs.yield (h : Rs w wr b) (hk : ∀ k, b.ft k → w.heap.size ≤ k) (t : Int) (ht : t ≤ 9223372036854775807) :
    Calls Try.prog 31 #[.pointer (some ⟨b.s, 0, none⟩), .int .i64 t] wr fun e w' => ∃ y, e = .returned (.bool y) ∧ Rs w w' b := by
  obtain ⟨A, fs, rl, h1, h2⟩ := h.1
  exact (tyield_calls h1 t ht).mono fun _ _ ⟨e1, e2, e3⟩ => ⟨_, e1, h.act ⟨_, _, _, e2, h2⟩ e3 hk⟩
theorem Rs.block (h : Rs w wr b) (hk : ∀ k, b.ft k → w.heap.size ≤ k) (t : Int) (ht : t ≤ 9223372036854775807) :
    Calls Try.prog 33 #[.pointer (some ⟨b.s, 0, none⟩), .int .i64 t] wr fun e w' => ∃ y, e = .returned (.bool y) ∧ Rs w w' b := by
  obtain ⟨A, fs, rl, h1, h2⟩ := h.1
  exact (tblock_calls h1 t ht).mono fun _ _ ⟨e1, e2, e3⟩ => ⟨_, e1, h.act ⟨_, _, _, e2, h2⟩ e3 hk⟩
theorem Rs.ready (h : Rs w wr b) (hk : ∀ k, b.ft k → w.heap.size ≤ k) (t : Int) (ht : t ≤ 9223372036854775807) :
    Calls Try.prog 35 #[.pointer (some ⟨b.s, 0, none⟩), .int .i64 t] wr fun e w' => ∃ y, e = .returned (.bool y) ∧ Rs w w' b := by
  obtain ⟨A, fs, rl, h1, h2⟩ := h.1
  exact (tready_calls h1 t ht).mono fun _ _ ⟨e1, e2, e3⟩ => ⟨_, e1, h.act ⟨_, _, _, e2, h2⟩ e3 hk⟩
theorem Rs.tasks (h : Rs w wr b) :
    Calls Try.prog 46 #[.pointer (some ⟨b.s, 0, none⟩)] wr fun e w' => ∃ v L, e = .returned v ∧ Reads w' 1 v L.length (ints L) ∧ (∀ x ∈ L, x ≤ 4096) ∧ Rs w w' b ∧ Below wr.heap.size wr w' := by
  obtain ⟨A, fs, rl, h1, h2⟩ := h.1
  exact (ttasks_calls h1).mono fun _ _ ⟨v, e1, e2, _, e4⟩ => ⟨v, _, e1, e2, h1.live_bd, h.plus e4, e4⟩
end
theorem new_quota (q : Nat) (w : World) : Calls Try.prog 27 #[.int .i64 (q % 10 : Nat)] w fun e w' => ∃ b : SB, e = .returned (.pointer (some ⟨b.s, 0, none⟩)) ∧ Rs w w' b ∧ (∀ k, b.ft k → w.heap.size ≤ k) :=
  (tnew_calls _ w (by omega) (by omega)).mono fun _ _ ⟨b, e1, e2, e3, e4⟩ => ⟨b, e1, ⟨⟨_, _, _, e2, by
    rw [spnA_size]
    simp [Ar.new, quotaN]
    omega⟩, e4⟩, fun k hk => e3 k (.inr (.inr hk))⟩

set_option maxRecDepth 100000 in
set_option maxHeartbeats 16000000 in
theorem schedRuns_walk (w : World) (q : Int) (q0 : 0 ≤ q) (q1 : q ≤ 255) (va : Value) (na : Nat) (xs : List (List Int)) (hl : xs.length = na) (ra : Reads w 3 va na (xs.flatMap (rowCells [.u8, .i64, .u8])))
    (ba : ∀ x ∈ xs, x.length = [IntKind.u8, .i64, .u8].length ∧ ∀ (j : Nat) k y, [IntKind.u8, .i64, .u8][j]? = some k → x[j]? = some y → (Lit.int k y).wf = true) (_ : na * Try.prog.bytesOf 55 ≤ 140737488351232) :
    Calls Try.prog 11 #[.int .u8 q, va] w fun e w' => e = .returned (.bool true) ∧ Below w.heap.size w w' := by
  obtain ⟨q, rfl⟩ : ∃ k : Nat, q = k := ⟨q.toNat, by omega⟩
  have hlt := ra.lt
  have RA := ra
  obtain ⟨_, aa, ca, rfl, ha1, ha2, ha3⟩ := ra
  unfold maxLen at ha2
  have HL := Lib.hid hl
  have HRA := Lib.hid RA
  have HBA := Lib.hid ba
  have HA3 := Lib.hid (fun h : 0 < na => (ha3 h).imp (fun b h => h.imp (fun o h => h.1)))
  have HLT := Lib.hid hlt
  clear hl RA ba ha3 hlt
  have HNQ := Lib.hid (new_quota q)
  have hq10 : ((q % 10 : Nat) : Int) = (q : Int) % 10 := by omega
  have hnq := fun u => HNQ.out u
  rw [hq10] at hnq
  have HNQ2 := Lib.hid hnq
  clear hnq hq10 HNQ
  go_enter Try.func11, Try.ntmps11
  go_wp2_with fail
  refine (HNQ2.out _).mono ?_
  rintro e w1 ⟨b, rfl, h1, hk⟩
  have H1 := Lib.hid h1
  have HK := Lib.hid hk
  clear h1 hk HNQ2
  go_wp2_with fail
  go_loopw [6] (fun u wr => ∃ i : Nat, u = .int .i64 i ∧ i ≤ na ∧ Rs w wr b) (fun u _ => na - (intOf u).toNat)
  case atStart => exact ⟨0, rfl, Nat.zero_le _, H1.out⟩
  case round =>
    clear H1
    obtain ⟨i, rfl, hi, hR⟩ := hrel
    have iz : (0 : Int) ≤ (i : Int) := Int.natCast_nonneg _
    have HR := Lib.hid hR
    clear hR
    by_cases hc : i < na ∧ i < 50
    · obtain ⟨hc1, hc2⟩ := hc
      have hc1' : (i : Int) < (na : Int) := by omega
      have hc2' : (i : Int) < 50 := by omega
      obtain ⟨bA, oA, rfl⟩ := HA3.out (by omega)
      have hbA : bA < w.heap.size := HLT.out (by omega) (by omega) bA rfl
      obtain ⟨d, t, n, ⟨hwd, hwt, hwn⟩, hk0, hk1, hk2⟩ := act3_cells HRA.out HBA.out HL.out i hc1
      have hd := bounds_u8 hwd
      have hn := bounds_u8 hwn
      have ht := (bounds_i64 hwt).2
      have KA := Lib.hid (fun (u : World) (hu : Rs w u b) => (show u.cell? ⟨bA, oA + i * 3, none⟩ = some (.int .u8 d) ∧ u.cell? ⟨bA, oA + i * 3 + 1, none⟩ = some (.int .i64 t) ∧ u.cell? ⟨bA, oA + i * 3 + 2, none⟩ = some (.int .u8 n) from
        ⟨(hu.2.cell (p := ⟨bA, oA + i * 3, none⟩) hbA).trans hk0, (hu.2.cell (p := ⟨bA, oA + i * 3 + 1, none⟩) hbA).trans hk1, (hu.2.cell (p := ⟨bA, oA + i * 3 + 2, none⟩) hbA).trans hk2⟩))
      obtain ⟨k0, k1, k2⟩ := KA.out wr HR.out
      have HN0 := Lib.hid hn
      have HT := Lib.hid ht
      have HD := Lib.hid hd
      clear hk0 hk1 hk2 hwd hwt hwn hn ht hd
      go_upto_block 1 with (fail)
      go_cut [] (fun wd => Rs w wd b)
      case first => as_aux_lemma =>
        go_upto_region 6 with (fail)
        go_cut [7] (fun s wc => ∃ t' : Int, s = .int .i64 t' ∧ t' ≤ 9223372036854775807 ∧ Rs w wc b)
        case first => as_aux_lemma =>
          have HTS := Lib.hid (HR.out.plus ((Below.refl _ _).drew)).tasks
          go_wp2_with fail
          go_region_held3 (fun w' => w'.cell? ⟨bA, oA + i * 3, none⟩ = some (.int .u8 d) ∧ w'.cell? ⟨bA, oA + i * 3 + 1, none⟩ = some (.int .i64 t) ∧ w'.cell? ⟨bA, oA + i * 3 + 2, none⟩ = some (.int .u8 n)) (first | go_keep | exact ⟨k0, k1, k2⟩ | exact hkl | exact hkk)
            (first | (go_at_call 46; refine HTS.out.mono ?_; rintro e w2 ⟨v2, L2, rfl, hr2, hL2, hR2, hb2⟩; have hkk := KA.out w2 hR2; have HR2 := Lib.hid hR2; have HRD := Lib.hid hr2; have HL2 := Lib.hid hL2; clear hr2 hL2 hR2 hb2) | (go_at_call 38; refine (who_calls d t n HN0.out.1 HN0.out.2 HRD.out).mono ?_; rintro e w3 ⟨rfl, hb3⟩; have hR3 := HR2.out.plus hb3; have hkl := KA.out w3 hR3; have HR3 := Lib.hid hR3; clear hb3 hR3))
          all_goals go_wp2_with fail
          all_goals go_meet
          all_goals exact ⟨_, rfl, whoF_le HT.out HL2.out, HR3.out⟩
        case rest => as_aux_lemma =>
          obtain ⟨t', rfl, ht', hR2⟩ := hcut
          clear HR k0 k1 k2
          obtain ⟨k0, k1, k2⟩ := KA.out wc hR2
          have HR := Lib.hid hR2
          clear hR2
          have HSP := Lib.hid (HR.out.spawn HK.out)
          have HEX := Lib.hid (HR.out.exit HK.out t' ht')
          have HYI := Lib.hid (HR.out.yield HK.out t' ht')
          have HBL := Lib.hid (HR.out.block HK.out t' ht')
          have HRE := Lib.hid (HR.out.ready HK.out t' ht')
          go_wp2_with (first | (go_at_call 28; refine HSP.out.mono ?_; rintro e w4 ⟨x, y, rfl, hR4⟩) | (go_at_call 34; refine HEX.out.mono ?_; rintro e w4 ⟨y, rfl, hR4⟩) | (go_at_call 31; refine HYI.out.mono ?_; rintro e w4 ⟨y, rfl, hR4⟩) | (go_at_call 33; refine HBL.out.mono ?_; rintro e w4 ⟨y, rfl, hR4⟩) | (go_at_call 35; refine HRE.out.mono ?_; rintro e w4 ⟨y, rfl, hR4⟩))
          all_goals go_meet
          all_goals exact hR4
      case rest =>
        have HRd := Lib.hid hcut
        clear HR hcut k0 k1 k2
        go_wp2_with fail
        go_roundw
        case rel => exact ⟨i + 1, by go_num, by omega, HRd.out⟩
        case measure => simp [intOf]; omega
    · obtain ⟨⟨A, fs, rl, hT, h8⟩, hB⟩ := HR.out
      have HT := Lib.hid hT
      have HB := Lib.hid hB
      have H8 := Lib.hid (Nat.le_trans (live_len A) h8)
      have HRL := Lib.hid hT.run_live
      have HRB := Lib.hid hT.run_bd
      have HND := Lib.hid hT.nodup
      have HLV := Lib.hid hT.live
      clear HR hT hB h8
      obtain ⟨n, hn⟩ : ∃ n, n = rl.length := ⟨_, rfl⟩
      have HN := Lib.hid hn
      clear hn
      by_cases h1 : i < na
      all_goals
        go_wp2_with fail
        refine (run_any HT.out).mono ?_
        rintro e w2 ⟨v, rfl, hv, hT2, hb2⟩
        obtain ⟨a, c, hve, hnc, hcm⟩ : ∃ a c, v = .slice a n c ∧ n ≤ c ∧ c ≤ maxLen := by
          obtain ⟨⟨_, a, c, e, h2, h3, _⟩, _⟩ := hv
          exact ⟨a, c, by rw [HN.out]; exact e, by rw [HN.out]; exact h2, h3⟩
        subst hve
        unfold maxLen at hcm
        have HG := Lib.hid (show IsT w2 b A fs rl ∧ Kv w2 b.ft (.slice a n c) rl ∧ Below w.heap.size w w2 from ⟨hT2, hv, HB.out.trans (hb2.mono HB.out.size)⟩)
        clear hv hT2 hb2 HT HB
        go_wp2_with fail
        go_loopw [9] (fun u wr => ∃ j : Nat, u = .int .i64 j ∧ j ≤ n ∧ IsT wr b A fs rl ∧ Kv wr b.ft (.slice a n c) rl ∧ Below w.heap.size w wr) (fun u _ => n - (intOf u).toNat)
        case atStart => exact ⟨0, rfl, Nat.zero_le _, HG.out⟩
        case round =>
          clear HG
          obtain ⟨j, rfl, hj, hG⟩ := hrel
          have jz : (0 : Int) ≤ (j : Int) := Int.natCast_nonneg _
          have HG := Lib.hid hG
          clear hG
          by_cases hjn : j < n
          · as_aux_lemma =>
            have hjn' : (j : Int) < (n : Int) := by omega
            obtain ⟨x, hx⟩ : ∃ x, rl[j]? = some x := ⟨_, List.getElem?_eq_getElem (by rw [← HN.out]; exact hjn)⟩
            have hp : pickS rl j = (x, true) := by
              unfold pickS
              rw [if_pos ⟨jz, by rw [← HN.out]; exact hjn'⟩, Int.toNat_natCast, List.getD_eq_getElem?_getD, hx]
              rfl
            have hxm := List.mem_of_getElem? hx
            have hxb := HRB.out x hxm
            have hxl := HLV.out x hxm
            obtain ⟨bv, o, rfl⟩ : ∃ bv o, a = some ⟨bv, o, none⟩ := by
              obtain ⟨bv, o, cap, e, _⟩ := HG.out.2.1.shape (by rw [← HN.out]; omega)
              injection e with e
              exact ⟨bv, o, e⟩
            have HP := Lib.hid (pick_any hp HG.out.1)
            have HX := Lib.hid hx
            clear hp hxm hx
            go_wp2_with fail
            refine HP.out.mono ?_
            rintro e w3 ⟨rfl, hT3, hb3⟩
            have hV3 := HG.out.2.1.below hb3
            have k3 : w3.cell? ⟨bv, o + j, none⟩ = some (.int .i64 x) := hV3.cell HX.out
            have HG3 := Lib.hid (show IsT w3 b A fs rl ∧ Kv w3 b.ft (.slice (some ⟨bv, o, none⟩) n c) rl ∧ Below w.heap.size w w3 from ⟨hT3, hV3, HG.out.2.2.trans (hb3.mono HG.out.2.2.size)⟩)
            have HPL := Lib.hid (place_any (p := A.place x) rfl hT3 (by omega))
            clear hT3 hb3 hV3 HP
            generalize A.place x = px at HPL hxl
            go_wp2_with fail
            refine HPL.out.mono ?_
            rintro e w' ⟨rfl, rfl⟩
            go_wp2_with fail
            clear k3
            go_loopw [12] (fun u wr => ∃ k : Nat, u = .int .i64 k ∧ k ≤ j ∧ IsT wr b A fs rl ∧ Kv wr b.ft (.slice (some ⟨bv, o, none⟩) n c) rl ∧ Below w.heap.size w wr) (fun u _ => j - (intOf u).toNat)
            case atStart => exact ⟨0, rfl, Nat.zero_le _, HG3.out⟩
            case round =>
              clear HG3
              obtain ⟨k, rfl, hk, hG4⟩ := hrel
              have kz : (0 : Int) ≤ (k : Int) := Int.natCast_nonneg _
              have HG4 := Lib.hid hG4
              clear hG4
              by_cases hkj : k < j
              · have hkj' : (k : Int) < (j : Int) := by omega
                have hkn : (k : Int) < (n : Int) := by omega
                obtain ⟨y, hy⟩ : ∃ y, rl[k]? = some y := ⟨_, List.getElem?_eq_getElem (by rw [← HN.out]; omega)⟩
                have kx := HG4.out.2.1.cell HX.out
                have ky := HG4.out.2.1.cell hy
                have hxy : (y == x) = false := by
                  have hx := HX.out
                  rw [beq_eq_false_iff_ne]
                  rintro rfl
                  have := (List.getElem?_inj (show k < rl.length by rw [← HN.out]; omega) HND.out).1 (hy.trans hx.symm)
                  omega
                clear hy
                go_wp2_with fail
                go_quiet (fail)
                go_wp2_with fail
                go_roundw
                case rel => exact ⟨k + 1, by go_num, by omega, HG4.out.1.drewN _, HG4.out.2.1.below (below_drewN (Below.refl _ _) _), below_drewN HG4.out.2.2 _⟩
                case measure => simp [intOf]; omega
              · have hkj' : ¬ (k : Int) < (j : Int) := by omega
                go_wp2_with fail
                go_roundw
                case rel => exact ⟨j + 1, by go_num, by omega, HG4.out⟩
                case measure => simp [intOf]; omega
          · as_aux_lemma =>
            have hjn' : ¬ (j : Int) < (n : Int) := by omega
            have hp1 : pickS rl n = (0, false) := by unfold pickS; rw [if_neg (by rw [HN.out]; omega)]
            have hp2 : pickS rl (-1) = (0, false) := by unfold pickS; rw [if_neg (by omega)]
            have HP1 := Lib.hid (pick_any hp1 HG.out.1)
            have HP2 := Lib.hid hp2
            clear hp1 hp2
            go_wp2_with fail
            refine HP1.out.mono ?_
            rintro e w3 ⟨rfl, hT3, hb3⟩
            have HT3 := Lib.hid hT3
            have HB3 := Lib.hid (HG.out.2.2.trans (hb3.mono HG.out.2.2.size))
            clear hT3 hb3
            go_wp2_with fail
            refine (pick_any HP2.out HT3.out).mono ?_
            rintro e w4 ⟨rfl, hT4, hb4⟩
            have HT4 := Lib.hid hT4
            have HB4 := Lib.hid (HB3.out.trans (hb4.mono HB3.out.size))
            clear hT4 hb4
            go_wp2_with fail
            refine (awake9_calls _).mono ?_
            rintro e w5 ⟨rfl, hb5⟩
            have HT5 := Lib.hid (HT4.out.below hb5)
            have HB5 := Lib.hid (HB4.out.trans (hb5.mono HB4.out.size))
            clear hb5
            go_wp2_with fail
            refine (ttasks_calls HT5.out).mono ?_
            rintro e w6 ⟨v6, rfl, hr6, -, hb6⟩
            obtain ⟨_, a6, c6, rfl, q6, r6, -⟩ := hr6
            have hle := HRL.out
            have h8 := H8.out
            rw [← HN.out] at hle
            have HT6 := Lib.hid (HT5.out.below hb6)
            have HB6 := Lib.hid (HB5.out.trans (hb6.mono HB5.out.size))
            clear hb6
            unfold maxLen at r6
            have HTK := Lib.hid (ttasks_calls HT6.out)
            generalize A.live.length = m at *
            have hle' : (n : Int) ≤ (m : Int) := by omega
            go_wp2_with fail
            refine HTK.out.mono ?_
            rintro e w7 ⟨v7, rfl, hr7, -, hb7⟩
            obtain ⟨_, a7, c7, rfl, q7, r7, -⟩ := hr7
            unfold maxLen at r7
            have HB7 := Lib.hid (HB6.out.trans (hb7.mono HB6.out.size))
            have h8' : (m : Int) ≤ 8 := by omega
            clear hb7
            go_wp2_with fail
            go_ret
            exact ⟨rfl, HB7.out⟩
end Go.Proofs.Ytkiogbenbicghaa
