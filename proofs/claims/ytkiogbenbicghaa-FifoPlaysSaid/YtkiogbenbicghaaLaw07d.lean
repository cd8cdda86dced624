/- The walk of the statement FifoOne: it returns true. Condition: the slice can be read as data. -/
import Derived.Test.YtkiogbenbicghaaOnePure
import Derived.Test.YtkiogbenbicghaaLaw07c
namespace Go.Proofs.Ytkiogbenbicghaa
open Go.RowKit BigFrame

theorem take_flat_len {L : List (List Nat)} (h : L.flatten.Nodup) (hr : ∀ x ∈ L.flatten, x < 12) (n : Nat) : ((L.take n).flatten).length ≤ 12 := by
  have h1 := short_nodup 12 L.flatten h hr
  have h2 : L.flatten = (L.take n).flatten ++ (L.drop n).flatten := by rw [← List.flatten_append, List.take_append_drop]
  rw [h2, List.length_append] at h1
  omega
theorem isF_small {w : World} {g bq bn N : Nat} {L : List (List Nat)} (h : IsF w g bq bn L N) : ∀ x ∈ L.flatten, x < N := by
  intro x hx
  rw [List.mem_flatten] at hx
  obtain ⟨l, hl, hx⟩ := hx
  obtain ⟨i, hi⟩ := List.getElem?_of_mem hl
  exact (isF_where h hi hx).2
theorem hasL_count {L : List (List Nat)} {x : Nat} (h : L.flatten.count x = 0) : hasL L x = false := by
  cases hh : hasL L x with
  | false => rfl
  | true =>
    exfalso
    obtain ⟨i, l, hl, hx⟩ := hasL_iff.1 hh
    have : x ∈ L.flatten := List.mem_flatten.2 ⟨l, List.mem_of_getElem? hl, hx⟩
    rw [List.count_eq_zero] at h
    exact h this

set_option maxRecDepth 100000 in
set_option maxHeartbeats 16000000 in
theorem fifoOne_walk (w : World) (va : Value) (na : Nat) (xs : List (List Int)) (hl : xs.length = na) (ra : Reads w 3 va na (xs.flatMap (rowCells [.u8, .i64, .i64])))
    (ba : ∀ x ∈ xs, x.length = [IntKind.u8, .i64, .i64].length ∧ ∀ (j : Nat) k y, [IntKind.u8, .i64, .i64][j]? = some k → x[j]? = some y → (Lit.int k y).wf = true) (_ : na * Try.prog.bytesOf 28 ≤ 140737488351232) :
    Calls Try.prog 5 #[va] w fun e w' => e = .returned (.bool true) ∧ Below w.heap.size w w' := by
  have hlt := ra.lt
  have RA := ra
  obtain ⟨_, aa, ca, rfl, ha1, ha2, ha3⟩ := ra
  unfold maxLen at ha2
  obtain ⟨i0, hi, hz0, hz1, hz2⟩ := info_parts Try.info_int
  have HI := Lib.hid hi
  have HL := Lib.hid hl
  have HRA := Lib.hid RA
  have HBA := Lib.hid ba
  have HA3 := Lib.hid (fun h : 0 < na => (ha3 h).imp (fun b h => h.imp (fun o h => h.1)))
  have HLT := Lib.hid hlt
  clear hi hl RA ba ha3 hlt
  go_enter Try.func5, Try.ntmps5
  go_wp2_with fail
  refine (new_calls 4 12 _).mono ?_
  rintro e w1 ⟨g, bq, bn, rfl, h1, hg, hq, hn, hbel1⟩
  have h1' : IsF w1 g bq bn (List.replicate 4 []) 12 := h1
  have H1 := Lib.hid h1'
  have HB1 := Lib.hid hbel1
  clear h1 h1' hbel1
  go_wp2_with fail
  go_loopw [4] (fun u wr => ∃ (i : Nat) (L : List (List Nat)), u = .int .i64 i ∧ i ≤ na ∧ i ≤ 50 ∧ L.length = 4 ∧ IsF wr g bq bn L 12 ∧ Below w.heap.size w wr) (fun u _ => na - (intOf u).toNat)
  case atStart => exact ⟨0, _, rfl, Nat.zero_le _, by omega, rfl, H1.out, HB1.out⟩
  case round =>
    obtain ⟨i, L, rfl, hin, hi50, hL4, hF, hBw⟩ := hrel
    have iz : (0 : Int) ≤ (i : Int) := Int.natCast_nonneg _
    have HF := Lib.hid hF
    have HBw := Lib.hid hBw
    have HL4 := Lib.hid hL4
    clear hF hBw hL4
    by_cases hc1 : i < na
    · have hc1' : (i : Int) < (na : Int) := by omega
      by_cases hc2 : i < 50
      · have hc2' : (i : Int) < 50 := by omega
        obtain ⟨bA, oA, rfl⟩ := HA3.out (by omega)
        have hbA : bA < w.heap.size := HLT.out (by omega) (by omega) bA rfl
        obtain ⟨d, q, x, hd, hk0, hk1, hk2⟩ := act7_cells HRA.out HBA.out HL.out i hc1
        have k0 : wr.cell? ⟨bA, oA + i * 3, none⟩ = some (.int .u8 d) := (HBw.out.cell (p := ⟨bA, oA + i * 3, none⟩) hbA).trans hk0
        have k1 : wr.cell? ⟨bA, oA + i * 3 + 1, none⟩ = some (.int .i64 q) := (HBw.out.cell (p := ⟨bA, oA + i * 3 + 1, none⟩) hbA).trans hk1
        have k2 : wr.cell? ⟨bA, oA + i * 3 + 2, none⟩ = some (.int .i64 x) := (HBw.out.cell (p := ⟨bA, oA + i * 3 + 2, none⟩) hbA).trans hk2
        clear hk0 hk1 hk2
        have hA : IsF (wr.alloc (.cells #[.int .u8 d, .int .i64 q, .int .i64 x] 28)) g bq bn L 12 := HF.out.frame (fun k hk => Below.heap_alloc _ _ _ (by have := HF.out.lt; omega))
        have HBA2 := Lib.hid (HBw.out.alloc HBw.out.size (.cells #[.int .u8 d, .int .i64 q, .int .i64 x] 28))
        by_cases m0 : (d % 4 == 0) = true
        · have hact := pop_calls hA q
          generalize hL2 : (popL L q).2.2 = L2 at hact
          have hL24 := Lib.hid (show L2.length = 4 by rw [← hL2, popL_len]; exact HL4.out)
          generalize (popL L q).1 = t1 at hact
          generalize (popL L q).2.1 = t2 at hact
          clear hA hL2
          go_wp2_with fail
          refine hact.mono ?_
          rintro e w2 ⟨rfl, hf2, hx2⟩
          have HF2 := Lib.hid hf2
          have HB2 := Lib.hid (ext_below HBA2.out hx2 hq hn HBA2.out.size)
          clear hact hf2 hx2
          go_wp2_with fail
          go_roundw
          case rel => exact ⟨i + 1, L2, by go_num, by omega, by omega, hL24.out, HF2.out, HB2.out⟩
          case measure => simp [intOf]; omega
        · have m0' : (d % 4 == 0) = false := by simpa using m0
          have M0 := Lib.hid m0
          clear m0
          by_cases m1 : (d % 4 == 1) = true
          · have hact := remove_calls hA x
            generalize hL2 : (removeL L x).2 = L2 at hact
            have hL24 := Lib.hid (show L2.length = 4 by rw [← hL2, removeL_len]; exact HL4.out)
            generalize (removeL L x).1 = t1 at hact
            clear hA hL2
            go_wp2_with fail
            refine hact.mono ?_
            rintro e w2 ⟨rfl, hf2, hx2⟩
            have HF2 := Lib.hid hf2
            have HB2 := Lib.hid (ext_below HBA2.out hx2 hq hn HBA2.out.size)
            clear hact hf2 hx2
            go_wp2_with fail
            go_roundw
            case rel => exact ⟨i + 1, L2, by go_num, by omega, by omega, hL24.out, HF2.out, HB2.out⟩
            case measure => simp [intOf]; omega
          · have m1' : (d % 4 == 1) = false := by simpa using m1
            have M1 := Lib.hid m1
            clear m1
            have hwh := where_calls hA x
            have hact := push_calls hA q x
            have hpw := fun h => pushL_where (L := L) (N := 12) (n := q) (x := x) h
            generalize hL2 : (pushL L 12 q x).2 = L2 at hact
            have hL24 := Lib.hid (show L2.length = 4 by rw [← hL2, pushL_len]; exact HL4.out)
            generalize (pushL L 12 q x).1 = t1 at hact hpw
            generalize whereL L x = u1 at hwh hpw
            clear hA hL2
            cases t1
            · clear hpw
              go_wp2_with fail
              refine hwh.mono ?_
              rintro e w3 ⟨rfl, rfl⟩
              go_wp2_with fail
              refine hact.mono ?_
              rintro e w2 ⟨rfl, hf2, hx2⟩
              have HF2 := Lib.hid hf2
              have HB2 := Lib.hid (ext_below HBA2.out hx2 hq hn HBA2.out.size)
              clear hact hf2 hx2
              go_wp2_with fail
              go_roundw
              case rel => exact ⟨i + 1, L2, by go_num, by omega, by omega, hL24.out, HF2.out, HB2.out⟩
              case measure => simp [intOf]; omega
            · obtain rfl := hpw rfl
              go_wp2_with fail
              refine hwh.mono ?_
              rintro e w3 ⟨rfl, rfl⟩
              go_wp2_with fail
              refine hact.mono ?_
              rintro e w2 ⟨rfl, hf2, hx2⟩
              have HF2 := Lib.hid hf2
              have HB2 := Lib.hid (ext_below HBA2.out hx2 hq hn HBA2.out.size)
              clear hact hf2 hx2 hpw
              go_wp2_with fail
              go_roundw
              case rel => exact ⟨i + 1, L2, by go_num, by omega, by omega, hL24.out, HF2.out, HB2.out⟩
              case measure => simp [intOf]; omega
      · have hc2' : ¬ (i : Int) < 50 := by omega
        have hbs := HBw.out.size
        go_wp2_with (refine wpList_make_full _ rfl _ _ 37 rfl w.heap.size 3 i0 (.int .i64 0) 1 Try.underlying37 HI.out hz0 hz1 .i64 .i64 12 12 12 rfl rfl rfl rfl (by rw [hz2]; omega) (by unfold maxLen; omega) hbs ?_)
        intro w2 hown hgr
        have hR2 : FR w w2 g bq bn L 12 (.slice (some ⟨wr.heap.size, 0, none⟩) 12 12) (cnt []) := by
          refine ⟨HF.out.frame (fun k hk => hgr.block k (by have := HF.out.lt; omega) (by simp)), ?_, HBw.out.grown hgr HBw.out.size (fun _ h => by cases h), hq, hn⟩
          rw [cnt_len, cnt_nil]
          have h : ints (List.replicate 12 0) = (madeCells #[Value.int .i64 0] 12).toList := by rw [toList_madeCells_one, ints, List.map_replicate]
          rw [h]
          exact hown
        have HR2 := Lib.hid hR2
        have hb7 : wr.heap.size < w2.heap.size := (hR2.r.lt _ rfl).2
        obtain ⟨b7, hb7e⟩ : ∃ b, b = wr.heap.size := ⟨_, rfl⟩
        rw [← hb7e] at HR2 hb7 ⊢
        have HND := Lib.hid (isF_once HF.out)
        have HSM := Lib.hid (isF_small HF.out)
        have HFW := Lib.hid (fun i x l hl hx => isF_where HF.out (i := i) (x := x) (l := l) hl hx)
        have HFL := Lib.hid (fun i l hl => isF_len HF.out (i := i) (l := l) hl)
        clear hown hgr hR2 hbs hb7e
        go_wp2_with fail
        go_loopw [8] (fun u wr => ∃ n : Nat, u = .int .i64 n ∧ n ≤ 4 ∧ FR w wr g bq bn L 12 (.slice (some ⟨b7, 0, none⟩) 12 12) (cnt (L.take n).flatten)) (fun u _ => 4 - (intOf u).toNat)
        case atStart => exact ⟨0, rfl, by omega, HR2.out⟩
        case round =>
          obtain ⟨n, rfl, hn4, hR3⟩ := hrel
          have nz : (0 : Int) ≤ (n : Int) := Int.natCast_nonneg _
          have HR3 := Lib.hid hR3
          clear hR3
          by_cases hc3 : n < 4
          · have hc3' : (n : Int) < 4 := by omega
            obtain ⟨l, hl⟩ : ∃ l, L[n]? = some l := ⟨_, List.getElem?_eq_getElem (by rw [HL4.out]; exact hc3)⟩
            have hall := all_calls HR3.out.f n
            rw [show allL L n = l by unfold allL; rw [if_neg (by omega)]; simp [hl]] at hall
            have hlen := len_calls HR3.out.f n
            rw [show lenL L n = (l.length : Int) by unfold lenL; rw [if_neg (by omega)]; simp [hl]] at hlen
            have hll := HFL.out n l hl
            have HLL := Lib.hid hl
            clear hl
            go_wp2_with fail
            refine hall.mono ?_
            rintro e w3 ⟨vv, rfl, hrd, hvb, hb3⟩
            have hR4 := HR3.out.plus hb3
            obtain ⟨hnl, a9, c9, rfl, q1, q2, q3⟩ := reads_int hrd
            have hb7w := (HR3.out.r.lt b7 rfl).2
            unfold maxLen at q2
            have hlen2 := len_calls hR4.f n
            rw [show lenL L n = (l.length : Int) by unfold lenL; rw [if_neg (by omega)]; simp [HLL.out]] at hlen2
            have HR4 := Lib.hid hR4
            have HRD := Lib.hid hrd
            have HVB := Lib.hid hvb
            have HQ3 := Lib.hid q3
            clear hall hb3 hR4 hrd hvb q3 hlen hnl
            go_wp2_with fail
            refine hlen2.mono ?_
            rintro e w4 ⟨rfl, rfl⟩
            clear hlen2
            go_wp2_with fail
            go_loopw [10] (fun u wr => ∃ k : Nat, u = .int .i64 k ∧ k ≤ l.length ∧ FR w wr g bq bn L 12 (.slice (some ⟨b7, 0, none⟩) 12 12) (cnt ((L.take n).flatten ++ l.take k)) ∧ Reads wr 1 (.slice a9 l.length c9) l.length (ints (asInts l))) (fun u _ => l.length - (intOf u).toNat)
            case atStart => exact ⟨0, rfl, Nat.zero_le _, by rw [List.take_zero, List.append_nil]; exact HR4.out, HRD.out⟩
            case round =>
              obtain ⟨k, rfl, hkl, hR5, hrd5⟩ := hrel
              have kz : (0 : Int) ≤ (k : Int) := Int.natCast_nonneg _
              have HR5 := Lib.hid hR5
              have HRD5 := Lib.hid hrd5
              clear hR5 hrd5
              by_cases hc4 : k < l.length
              · have hc4' : (k : Int) < (l.length : Int) := by omega
                obtain ⟨bv, ov, ha9, _⟩ := HQ3.out (by omega)
                subst ha9
                obtain ⟨x, hx⟩ : ∃ x, l[k]? = some x := ⟨_, List.getElem?_eq_getElem hc4⟩
                obtain ⟨hnl9, a9', c9', he9, _, _, q5⟩ := reads_int HRD5.out
                clear hnl9
                injection he9 with e1 e2 e3
                subst e1 e3
                obtain ⟨bv', ov', e4, hcell⟩ := q5 (by omega)
                injection e4 with e4
                injection e4 with e4 e5
                subst e4 e5
                have cx : wr.cell? ⟨bv, ov + k, none⟩ = some (.int .i64 x) := hcell k x (by simp [asInts, hx])
                obtain ⟨hw1, hx12⟩ := HFW.out n x l HLL.out (List.mem_of_getElem? hx)
                have x0 : (0 : Int) ≤ (x : Int) := Int.natCast_nonneg _
                have x1 : (x : Int) < 12 := by omega
                have hx2 : ¬ (x : Int) < 0 := by omega
                have hx3 : ¬ (12 : Int) ≤ (x : Int) := by omega
                have hwh := where_calls HR5.out.f (x : Int)
                rw [hw1] at hwh
                have hcn : ((L.take n).flatten ++ l.take k).count x ≤ 24 := by
                  refine Nat.le_trans List.count_le_length ?_
                  rw [List.length_append, List.length_take]
                  have := take_flat_len HND.out HSM.out n
                  omega
                obtain ⟨cn, hcne⟩ : ∃ c, c = ((L.take n).flatten ++ l.take k).count x := ⟨_, rfl⟩
                have cc : wr.cell? ⟨b7, x, none⟩ = some (.int .i64 (cn : Int)) := by
                  have h5 := HR5.out.r
                  rw [cnt_len] at h5
                  rw [hcne]
                  exact owns_int h5 (cnt_get _ x hx12)
                have cf : wr.frozen? ⟨b7, x, none⟩ = false := by
                  obtain ⟨g', cap', cur, hv, _, hg', _⟩ : ∃ g' cap' cur, (Value.slice (some ⟨b7, 0, none⟩) 12 12) = .slice (some ⟨g', 0, none⟩) (cnt ((L.take n).flatten ++ l.take k)).length cap' ∧ w.heap.size ≤ g' ∧ wr.heap[g']? = some (.cells cur 3 (0, 0)) ∧ True := by
                    rcases HR5.out.r.2 with ⟨h, _⟩ | ⟨g', cap', cur, hv, h1, h2, _⟩
                    · cases h
                    · exact ⟨g', cap', cur, hv, h1, h2, trivial⟩
                  injection hv with e1 e2 e3
                  injection e1 with e1
                  injection e1 with e1
                  subst e1
                  exact blk_free hg' x
                have hcn2 : (cn : Int) ≤ 24 := by omega
                have hbv : bv ≠ b7 := by
                  have := HVB.out bv rfl
                  omega
                have HX := Lib.hid hx
                have HCN := Lib.hid hcne
                have hset := HR5.out.set (cnt_len _).symm x ((cn : Int) + 1)
                rw [hcne, cnt_set _ x hx12] at hset
                have HSET := Lib.hid hset
                have HRD6 := Lib.hid (show Reads (wr.setCell ⟨b7, x, none⟩ (.int .i64 ((cn : Int) + 1))) 1 (.slice (some ⟨bv, ov, none⟩) l.length c9) l.length (ints (asInts l)) from
                  HRD5.out.frame (fun k hk => Below.heap_setCell _ _ _ _ (by simp only [Value.ownBlock, Option.some.injEq] at hk; subst hk; exact fun e => hbv e)))
                clear hx hw1 hcn hcne hset hcell q5 e2
                go_wp2_with fail
                refine hwh.mono ?_
                rintro e w5 ⟨rfl, rfl⟩
                go_wp2_with fail
                go_roundw
                case rel =>
                  refine ⟨k + 1, by go_num, by omega, ?_, HRD6.out⟩
                  have h : (L.take n).flatten ++ l.take (k + 1) = ((L.take n).flatten ++ l.take k) ++ [x] := by rw [List.take_add_one, HX.out, List.append_assoc]; rfl
                  rw [h]
                  have h2 := HSET.out
                  rw [← HCN.out] at h2
                  exact h2
                case measure => simp [intOf]; omega
              · obtain rfl : k = l.length := by omega
                go_wp2_with fail
                go_roundw
                case rel =>
                  refine ⟨n + 1, by go_num, by omega, ?_⟩
                  have h : (L.take (n + 1)).flatten = (L.take n).flatten ++ l.take l.length := by rw [List.take_add_one, HLL.out, List.flatten_append, List.take_length]; simp
                  rw [h]
                  exact HR5.out
                case measure => simp [intOf]; omega
          · have hc3' : ¬ (n : Int) < 4 := by omega
            have hfull : L.take n = L := List.take_of_length_le (by rw [HL4.out]; omega)
            have HR6 := Lib.hid (show FR w wr g bq bn L 12 (.slice (some ⟨b7, 0, none⟩) 12 12) (cnt L.flatten) by have h := HR3.out; rw [hfull] at h; exact h)
            clear hfull
            go_wp2_with fail
            go_loopw [11] (fun u wr => ∃ k : Nat, u = .int .i64 k ∧ k ≤ 12 ∧ FR w wr g bq bn L 12 (.slice (some ⟨b7, 0, none⟩) 12 12) (cnt L.flatten)) (fun u _ => 12 - (intOf u).toNat)
            case atStart => exact ⟨0, rfl, by omega, HR6.out⟩
            case round =>
              obtain ⟨k, rfl, hk12, hR7⟩ := hrel
              have kz : (0 : Int) ≤ (k : Int) := Int.natCast_nonneg _
              have HR7 := Lib.hid hR7
              clear hR7
              by_cases hc5 : k < 12
              · have hc5' : (k : Int) < 12 := by omega
                have h1 : L.flatten.count k ≤ 1 := List.nodup_iff_count.1 HND.out k
                have cc : wr.cell? ⟨b7, k, none⟩ = some (.int .i64 ((L.flatten.count k : Nat) : Int)) := by
                  have h5 := HR7.out.r
                  rw [cnt_len] at h5
                  exact owns_int h5 (cnt_get _ k hc5)
                by_cases h0 : L.flatten.count k = 0
                · rw [h0] at cc
                  have hwh := where_calls HR7.out.f (k : Int)
                  rw [whereL_none (hasL_count h0)] at hwh
                  clear h0 h1
                  go_wp2_with fail
                  refine hwh.mono ?_
                  rintro e w5 ⟨rfl, rfl⟩
                  go_wp2_with fail
                  go_roundw
                  case rel => exact ⟨k + 1, by go_num, by omega, HR7.out⟩
                  case measure => simp [intOf]; omega
                · have h2 : L.flatten.count k = 1 := by omega
                  rw [h2] at cc
                  clear h0 h1 h2
                  go_wp2_with fail
                  go_roundw
                  case rel => exact ⟨k + 1, by go_num, by omega, HR7.out⟩
                  case measure => simp [intOf]; omega
              · have hc5' : ¬ (k : Int) < 12 := by omega
                go_wp2_with fail
                refine (awake7_calls _).mono ?_
                rintro e w6 ⟨rfl, hb6⟩
                have HB6 := Lib.hid (HR7.out.plus hb6).b
                clear hb6
                go_wp2_with fail
                go_ret
                exact ⟨rfl, HB6.out⟩
    · have hc1' : ¬ (i : Int) < (na : Int) := by omega
      have hbs := HBw.out.size
      go_wp2_with (refine wpList_make_full _ rfl _ _ 37 rfl w.heap.size 3 i0 (.int .i64 0) 1 Try.underlying37 HI.out hz0 hz1 .i64 .i64 12 12 12 rfl rfl rfl rfl (by rw [hz2]; omega) (by unfold maxLen; omega) hbs ?_)
      intro w2 hown hgr
      have hR2 : FR w w2 g bq bn L 12 (.slice (some ⟨wr.heap.size, 0, none⟩) 12 12) (cnt []) := by
        refine ⟨HF.out.frame (fun k hk => hgr.block k (by have := HF.out.lt; omega) (by simp)), ?_, HBw.out.grown hgr HBw.out.size (fun _ h => by cases h), hq, hn⟩
        rw [cnt_len, cnt_nil]
        have h : ints (List.replicate 12 0) = (madeCells #[Value.int .i64 0] 12).toList := by rw [toList_madeCells_one, ints, List.map_replicate]
        rw [h]
        exact hown
      have HR2 := Lib.hid hR2
      have hb7 : wr.heap.size < w2.heap.size := (hR2.r.lt _ rfl).2
      obtain ⟨b7, hb7e⟩ : ∃ b, b = wr.heap.size := ⟨_, rfl⟩
      rw [← hb7e] at HR2 hb7 ⊢
      have HND := Lib.hid (isF_once HF.out)
      have HSM := Lib.hid (isF_small HF.out)
      have HFW := Lib.hid (fun i x l hl hx => isF_where HF.out (i := i) (x := x) (l := l) hl hx)
      have HFL := Lib.hid (fun i l hl => isF_len HF.out (i := i) (l := l) hl)
      clear hown hgr hR2 hbs hb7e
      go_wp2_with fail
      go_loopw [8] (fun u wr => ∃ n : Nat, u = .int .i64 n ∧ n ≤ 4 ∧ FR w wr g bq bn L 12 (.slice (some ⟨b7, 0, none⟩) 12 12) (cnt (L.take n).flatten)) (fun u _ => 4 - (intOf u).toNat)
      case atStart => exact ⟨0, rfl, by omega, HR2.out⟩
      case round =>
        obtain ⟨n, rfl, hn4, hR3⟩ := hrel
        have nz : (0 : Int) ≤ (n : Int) := Int.natCast_nonneg _
        have HR3 := Lib.hid hR3
        clear hR3
        by_cases hc3 : n < 4
        · have hc3' : (n : Int) < 4 := by omega
          obtain ⟨l, hl⟩ : ∃ l, L[n]? = some l := ⟨_, List.getElem?_eq_getElem (by rw [HL4.out]; exact hc3)⟩
          have hall := all_calls HR3.out.f n
          rw [show allL L n = l by unfold allL; rw [if_neg (by omega)]; simp [hl]] at hall
          have hlen := len_calls HR3.out.f n
          rw [show lenL L n = (l.length : Int) by unfold lenL; rw [if_neg (by omega)]; simp [hl]] at hlen
          have hll := HFL.out n l hl
          have HLL := Lib.hid hl
          clear hl
          go_wp2_with fail
          refine hall.mono ?_
          rintro e w3 ⟨vv, rfl, hrd, hvb, hb3⟩
          have hR4 := HR3.out.plus hb3
          obtain ⟨hnl, a9, c9, rfl, q1, q2, q3⟩ := reads_int hrd
          have hb7w := (HR3.out.r.lt b7 rfl).2
          unfold maxLen at q2
          have hlen2 := len_calls hR4.f n
          rw [show lenL L n = (l.length : Int) by unfold lenL; rw [if_neg (by omega)]; simp [HLL.out]] at hlen2
          have HR4 := Lib.hid hR4
          have HRD := Lib.hid hrd
          have HVB := Lib.hid hvb
          have HQ3 := Lib.hid q3
          clear hall hb3 hR4 hrd hvb q3 hlen hnl
          go_wp2_with fail
          refine hlen2.mono ?_
          rintro e w4 ⟨rfl, rfl⟩
          clear hlen2
          go_wp2_with fail
          go_loopw [10] (fun u wr => ∃ k : Nat, u = .int .i64 k ∧ k ≤ l.length ∧ FR w wr g bq bn L 12 (.slice (some ⟨b7, 0, none⟩) 12 12) (cnt ((L.take n).flatten ++ l.take k)) ∧ Reads wr 1 (.slice a9 l.length c9) l.length (ints (asInts l))) (fun u _ => l.length - (intOf u).toNat)
          case atStart => exact ⟨0, rfl, Nat.zero_le _, by rw [List.take_zero, List.append_nil]; exact HR4.out, HRD.out⟩
          case round =>
            obtain ⟨k, rfl, hkl, hR5, hrd5⟩ := hrel
            have kz : (0 : Int) ≤ (k : Int) := Int.natCast_nonneg _
            have HR5 := Lib.hid hR5
            have HRD5 := Lib.hid hrd5
            clear hR5 hrd5
            by_cases hc4 : k < l.length
            · have hc4' : (k : Int) < (l.length : Int) := by omega
              obtain ⟨bv, ov, ha9, _⟩ := HQ3.out (by omega)
              subst ha9
              obtain ⟨x, hx⟩ : ∃ x, l[k]? = some x := ⟨_, List.getElem?_eq_getElem hc4⟩
              obtain ⟨hnl9, a9', c9', he9, _, _, q5⟩ := reads_int HRD5.out
              clear hnl9
              injection he9 with e1 e2 e3
              subst e1 e3
              obtain ⟨bv', ov', e4, hcell⟩ := q5 (by omega)
              injection e4 with e4
              injection e4 with e4 e5
              subst e4 e5
              have cx : wr.cell? ⟨bv, ov + k, none⟩ = some (.int .i64 x) := hcell k x (by simp [asInts, hx])
              obtain ⟨hw1, hx12⟩ := HFW.out n x l HLL.out (List.mem_of_getElem? hx)
              have x0 : (0 : Int) ≤ (x : Int) := Int.natCast_nonneg _
              have x1 : (x : Int) < 12 := by omega
              have hx2 : ¬ (x : Int) < 0 := by omega
              have hx3 : ¬ (12 : Int) ≤ (x : Int) := by omega
              have hwh := where_calls HR5.out.f (x : Int)
              rw [hw1] at hwh
              have hcn : ((L.take n).flatten ++ l.take k).count x ≤ 24 := by
                refine Nat.le_trans List.count_le_length ?_
                rw [List.length_append, List.length_take]
                have := take_flat_len HND.out HSM.out n
                omega
              obtain ⟨cn, hcne⟩ : ∃ c, c = ((L.take n).flatten ++ l.take k).count x := ⟨_, rfl⟩
              have cc : wr.cell? ⟨b7, x, none⟩ = some (.int .i64 (cn : Int)) := by
                have h5 := HR5.out.r
                rw [cnt_len] at h5
                rw [hcne]
                exact owns_int h5 (cnt_get _ x hx12)
              have cf : wr.frozen? ⟨b7, x, none⟩ = false := by
                obtain ⟨g', cap', cur, hv, _, hg', _⟩ : ∃ g' cap' cur, (Value.slice (some ⟨b7, 0, none⟩) 12 12) = .slice (some ⟨g', 0, none⟩) (cnt ((L.take n).flatten ++ l.take k)).length cap' ∧ w.heap.size ≤ g' ∧ wr.heap[g']? = some (.cells cur 3 (0, 0)) ∧ True := by
                  rcases HR5.out.r.2 with ⟨h, _⟩ | ⟨g', cap', cur, hv, h1, h2, _⟩
                  · cases h
                  · exact ⟨g', cap', cur, hv, h1, h2, trivial⟩
                injection hv with e1 e2 e3
                injection e1 with e1
                injection e1 with e1
                subst e1
                exact blk_free hg' x
              have hcn2 : (cn : Int) ≤ 24 := by omega
              have hbv : bv ≠ b7 := by
                have := HVB.out bv rfl
                omega
              have HX := Lib.hid hx
              have HCN := Lib.hid hcne
              have hset := HR5.out.set (cnt_len _).symm x ((cn : Int) + 1)
              rw [hcne, cnt_set _ x hx12] at hset
              have HSET := Lib.hid hset
              have HRD6 := Lib.hid (show Reads (wr.setCell ⟨b7, x, none⟩ (.int .i64 ((cn : Int) + 1))) 1 (.slice (some ⟨bv, ov, none⟩) l.length c9) l.length (ints (asInts l)) from
                HRD5.out.frame (fun k hk => Below.heap_setCell _ _ _ _ (by simp only [Value.ownBlock, Option.some.injEq] at hk; subst hk; exact fun e => hbv e)))
              clear hx hw1 hcn hcne hset hcell q5 e2
              go_wp2_with fail
              refine hwh.mono ?_
              rintro e w5 ⟨rfl, rfl⟩
              go_wp2_with fail
              go_roundw
              case rel =>
                refine ⟨k + 1, by go_num, by omega, ?_, HRD6.out⟩
                have h : (L.take n).flatten ++ l.take (k + 1) = ((L.take n).flatten ++ l.take k) ++ [x] := by rw [List.take_add_one, HX.out, List.append_assoc]; rfl
                rw [h]
                have h2 := HSET.out
                rw [← HCN.out] at h2
                exact h2
              case measure => simp [intOf]; omega
            · obtain rfl : k = l.length := by omega
              go_wp2_with fail
              go_roundw
              case rel =>
                refine ⟨n + 1, by go_num, by omega, ?_⟩
                have h : (L.take (n + 1)).flatten = (L.take n).flatten ++ l.take l.length := by rw [List.take_add_one, HLL.out, List.flatten_append, List.take_length]; simp
                rw [h]
                exact HR5.out
              case measure => simp [intOf]; omega
        · have hc3' : ¬ (n : Int) < 4 := by omega
          have hfull : L.take n = L := List.take_of_length_le (by rw [HL4.out]; omega)
          have HR6 := Lib.hid (show FR w wr g bq bn L 12 (.slice (some ⟨b7, 0, none⟩) 12 12) (cnt L.flatten) by have h := HR3.out; rw [hfull] at h; exact h)
          clear hfull
          go_wp2_with fail
          go_loopw [11] (fun u wr => ∃ k : Nat, u = .int .i64 k ∧ k ≤ 12 ∧ FR w wr g bq bn L 12 (.slice (some ⟨b7, 0, none⟩) 12 12) (cnt L.flatten)) (fun u _ => 12 - (intOf u).toNat)
          case atStart => exact ⟨0, rfl, by omega, HR6.out⟩
          case round =>
            obtain ⟨k, rfl, hk12, hR7⟩ := hrel
            have kz : (0 : Int) ≤ (k : Int) := Int.natCast_nonneg _
            have HR7 := Lib.hid hR7
            clear hR7
            by_cases hc5 : k < 12
            · have hc5' : (k : Int) < 12 := by omega
              have h1 : L.flatten.count k ≤ 1 := List.nodup_iff_count.1 HND.out k
              have cc : wr.cell? ⟨b7, k, none⟩ = some (.int .i64 ((L.flatten.count k : Nat) : Int)) := by
                have h5 := HR7.out.r
                rw [cnt_len] at h5
                exact owns_int h5 (cnt_get _ k hc5)
              by_cases h0 : L.flatten.count k = 0
              · rw [h0] at cc
                have hwh := where_calls HR7.out.f (k : Int)
                rw [whereL_none (hasL_count h0)] at hwh
                clear h0 h1
                go_wp2_with fail
                refine hwh.mono ?_
                rintro e w5 ⟨rfl, rfl⟩
                go_wp2_with fail
                go_roundw
                case rel => exact ⟨k + 1, by go_num, by omega, HR7.out⟩
                case measure => simp [intOf]; omega
              · have h2 : L.flatten.count k = 1 := by omega
                rw [h2] at cc
                clear h0 h1 h2
                go_wp2_with fail
                go_roundw
                case rel => exact ⟨k + 1, by go_num, by omega, HR7.out⟩
                case measure => simp [intOf]; omega
            · have hc5' : ¬ (k : Int) < 12 := by omega
              go_wp2_with fail
              refine (awake7_calls _).mono ?_
              rintro e w6 ⟨rfl, hb6⟩
              have HB6 := Lib.hid (HR7.out.plus hb6).b
              clear hb6
              go_wp2_with fail
              go_ret
              exact ⟨rfl, HB6.out⟩
end Go.Proofs.Ytkiogbenbicghaa
