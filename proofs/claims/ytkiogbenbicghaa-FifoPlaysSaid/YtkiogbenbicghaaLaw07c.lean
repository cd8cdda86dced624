/- The walk of the statement FifoOrder: it returns true. Conditions: both slices can be read as data. -/
import Derived.Test.YtkiogbenbicghaaOrderPure
import Derived.Test.YtkiogbenbicghaaView2
namespace Go.Proofs.Ytkiogbenbicghaa
open Go.RowKit BigFrame

theorem reads_u8 {w : World} {v : Value} {n : Nat} {l : List Int} (h : Reads w 1 v n (l.map (Value.int .u8))) : n = l.length ∧ ∃ a cap, v = .slice a n cap ∧ n ≤ cap ∧ cap ≤ maxLen ∧ (0 < n → ∃ b o, a = some ⟨b, o, none⟩ ∧ b < w.heap.size ∧ ∀ (i : Nat) (x : Int), l[i]? = some x → w.cell? ⟨b, o + i, none⟩ = some (.int .u8 x)) := by
  have hlt := h.lt
  obtain ⟨h1, a, cap, rfl, h2, h3, h4⟩ := h
  rw [List.length_map, Nat.mul_one] at h1
  refine ⟨h1.symm, a, cap, rfl, h2, h3, fun hn => ?_⟩
  obtain ⟨b, o, e, hc⟩ := h4 hn
  refine ⟨b, o, e, hlt hn (by omega) b (by rw [e]; rfl), fun i x hx => hc i _ (by simp [hx])⟩
theorem byte_of {l : List Int} (h : ∀ x ∈ l, (Lit.int .u8 x).wf = true) {i : Nat} {x : Int} (hx : l[i]? = some x) : 0 ≤ x ∧ x ≤ 255 := by
  have := bounds_u8 (h x (List.mem_of_getElem? hx))
  exact this
theorem asInts_len (l : List Nat) : (asInts l).length = l.length := by simp [asInts]
theorem asInts_snoc (l : List Nat) (x : Nat) : asInts (l ++ [x]) = asInts l ++ [(x : Int)] := by simp [asInts]

set_option maxRecDepth 100000 in
set_option maxHeartbeats 16000000 in
theorem fifoOrder_walk (w : World) (va : Value) (na : Nat) (xs : List Int) (_ : xs.length = na) (ra : Reads w 1 va na (xs.map (Value.int .u8))) (ba : ∀ x ∈ xs, (Lit.int .u8 x).wf = true) (_ : na * Try.prog.bytesOf 5 ≤ 140737488351232)
    (vb : Value) (nb : Nat) (ys : List Int) (_ : ys.length = nb) (rb : Reads w 1 vb nb (ys.map (Value.int .u8))) (bb : ∀ x ∈ ys, (Lit.int .u8 x).wf = true) (_ : nb * Try.prog.bytesOf 5 ≤ 140737488351232) :
    Calls Try.prog 4 #[va, vb] w fun e w' => e = .returned (.bool true) ∧ Below w.heap.size w w' := by
  obtain ⟨ha, aa, ca, rfl, ha1, ha2, ha3⟩ := reads_u8 ra
  obtain ⟨hb, ab, cb, rfl, hb1, hb2, hb3⟩ := reads_u8 rb
  unfold maxLen at ha2 hb2
  obtain ⟨i0, hi, hz0, hz1, hz2⟩ := info_parts Try.info_int
  have HI := Lib.hid hi
  have HA := Lib.hid ha
  have HB := Lib.hid hb
  have HA3 := Lib.hid ha3
  have HB3 := Lib.hid hb3
  have HBA := Lib.hid (fun i x h => byte_of ba (i := i) (x := x) h)
  have HBB := Lib.hid (fun i x h => byte_of bb (i := i) (x := x) h)
  clear hi ha hb ha3 hb3 ra rb ba bb
  go_enter Try.func4, Try.ntmps4
  go_wp2_with fail
  refine (new_calls 3 32 _).mono ?_
  rintro e w1 ⟨g, bq, bn, rfl, h1, hg, hq, hn, hbel1⟩
  have h1' : IsF w1 g bq bn (List.replicate 3 []) 32 := h1
  have H1 := Lib.hid h1'
  have HB1 := Lib.hid hbel1
  clear h1 h1' hbel1
  go_wp2_with fail
  have HR0 := Lib.hid (show FR w (w1.alloc (.cells #[] 3)) g bq bn (List.replicate 3 []) 32 (.slice (some ⟨w1.heap.size, 0, none⟩) 0 0) (asInts []) from
    ⟨H1.out.frame (fun k hk => Below.heap_alloc _ _ _ (by have := H1.out.lt; omega)), owns_empty w1 _ _ HB1.out.size, HB1.out.alloc HB1.out.size _, hq, hn⟩)
  go_loopw [6, 7] (fun v u wr => ∃ (i : Nat) (L : List (List Nat)) (l1 : List Nat), u = .int .i64 i ∧ i ≤ na ∧ i ≤ 32 ∧ l1.length ≤ i ∧ FR w wr g bq bn L 32 v (asInts l1) ∧ OrdL L l1) (fun _ u _ => na - (intOf u).toNat)
  case atStart => exact ⟨0, _, [], rfl, Nat.zero_le _, by omega, Nat.le_refl _, HR0.out, ordL_new⟩
  case round =>
    obtain ⟨i, L, l1, rfl, hin, hi32, hl1, hR, hO⟩ := hrel
    have iz : (0 : Int) ≤ (i : Int) := Int.natCast_nonneg _
    have HR := Lib.hid hR
    have HO := Lib.hid hO
    clear hR hO
    by_cases hc1 : i < na
    · have hc1' : (i : Int) < (na : Int) := by omega
      by_cases hc2 : i < 32
      · have hc2' : (i : Int) < 32 := by omega
        obtain ⟨bA, oA, rfl, hbA, hcA⟩ := HA3.out (by omega)
        obtain ⟨x, hx⟩ : ∃ x, xs[i]? = some x := ⟨_, List.getElem?_eq_getElem (by rw [← HA.out]; exact hc1)⟩
        have hxr := HBA.out i x hx
        have cx : wr.cell? ⟨bA, oA + i, none⟩ = some (.int .u8 x) := (HR.out.b.cell (p := ⟨bA, oA + i, none⟩) hbA).trans (hcA i x hx)
        obtain ⟨p, hp⟩ : ∃ p : Nat, (p : Int) = x % 16 := ⟨(x % 16).toNat, by omega⟩
        have hp16 : p < 16 := by omega
        have hp2 : x % 16 = (p : Int) := hp.symm
        have HXA := Lib.hid hcA
        clear hx hcA hp
        have hpush := push_calls HR.out.f 1 p
        rcases ordL_push HO.out p hp16 with ⟨ht, hO2⟩ | ⟨ht, hO2⟩
        · rw [ht] at hpush
          have HO2 := Lib.hid hO2
          clear ht hO2
          go_wp2_with fail
          refine hpush.mono ?_
          rintro e w2 ⟨rfl, hf2, hx2⟩
          have hR2 := HR.out.act hf2 hx2
          have hown := hR2.r
          have hbs := hR2.b.size
          have hll : (asInts l1).length ≤ 32 := by rw [asInts_len]; omega
          have HR2 := Lib.hid hR2
          clear hpush hf2 hx2 hR2
          go_wp2_with (at_builtin; refine wpList_append_own _ rfl _ _ 37 rfl w.heap.size 3 i0 (.int .i64 0) 1 8 Try.underlying37 HI.out hz0 hz1 hz2 rfl (by decide) _ _ _ rfl (hown.alloc _) ⟨w2.heap.size, 0, none⟩ 1 1 [.int .i64 p] rfl rfl ?c1 ?c2 ?c3 ?c4 ?c5 ?_)
          case c1 => exact news_one w2 _ _
          case c2 => exact news_int _
          case c3 => unfold maxLen; omega
          case c4 => omega
          case c5 => simp; omega
          intro v' w3 hown' hgr _
          have HR3 := Lib.hid (show FR w w3 g bq bn (pushL L 32 1 p).2 32 v' (asInts (l1 ++ [p])) by rw [asInts_snoc]; exact HR2.out.push hown' hgr)
          have hl2 : (l1 ++ [p]).length ≤ i + 1 := by simp; omega
          clear hown hown' hgr cx hll hbs
          by_cases hd : i < nb
          · have hd' : (i : Int) < (nb : Int) := by omega
            obtain ⟨bB, oB, rfl, hbB, hcB⟩ := HB3.out (by omega)
            obtain ⟨y, hy⟩ : ∃ y, ys[i]? = some y := ⟨_, List.getElem?_eq_getElem (by rw [← HB.out]; exact hd)⟩
            have hyr := HBB.out i y hy
            have cy : w3.cell? ⟨bB, oB + i, none⟩ = some (.int .u8 y) := (HR3.out.b.cell (p := ⟨bB, oB + i, none⟩) hbB).trans (hcB i y hy)
            obtain ⟨q, hq0⟩ : ∃ q : Nat, (q : Int) = y % 16 := ⟨(y % 16).toNat, by omega⟩
            have hq2 : y % 16 = (q : Int) := hq0.symm
            obtain ⟨z, hz⟩ : ∃ z : Nat, (z : Int) = y / 16 := ⟨(y / 16).toNat, by omega⟩
            have hzz : y / 16 = (z : Int) := hz.symm
            have hcell := hcB i y hy
            have hq16 : q < 16 := by omega
            have hz16 : z < 16 := by omega
            clear hy hcB hq0 hz
            have hpush := push_calls HR3.out.f 2 (16 + (q : Int))
            have hO3 := ordL_push2 HO2.out (16 + q) (by omega)
            rw [show ((16 + q : Nat) : Int) = 16 + (q : Int) by omega] at hO3
            obtain ⟨L3, hL3⟩ : ∃ L3, L3 = (pushL (pushL L 32 1 p).2 32 2 (16 + (q : Int))).2 := ⟨_, rfl⟩
            rw [← hL3] at hpush hO3
            generalize (pushL (pushL L 32 1 p).2 32 2 (16 + (q : Int))).1 = t3 at hpush
            have HO3 := Lib.hid hO3
            clear hO3 hL3
            go_wp2_with fail
            refine hpush.mono ?_
            rintro e w4 ⟨rfl, hf4, hx4⟩
            have HR4 := Lib.hid (HR3.out.act hf4 hx4)
            have cy4 : w4.cell? ⟨bB, oB + i, none⟩ = some (.int .u8 y) := (HR4.out.b.cell (p := ⟨bB, oB + i, none⟩) hbB).trans hcell
            clear hpush hf4 hx4 cy
            by_cases hm : (y % 3 == 0) = true
            · have hpop := pop_calls HR4.out.f 2
              have hO4 := ordL_pop2 HO3.out
              obtain ⟨L4, hL4⟩ : ∃ L4, L4 = (popL L3 2).2.2 := ⟨_, rfl⟩
              rw [← hL4] at hpop hO4
              generalize (popL L3 2).1 = t4 at hpop
              generalize (popL L3 2).2.1 = t5 at hpop
              have HO4 := Lib.hid hO4
              clear hO4 hL4
              go_wp2_with fail
              refine hpop.mono ?_
              rintro e w5 ⟨rfl, hf5, hx5⟩
              have HR5 := Lib.hid (HR4.out.act hf5 hx5)
              have cy5 : w5.cell? ⟨bB, oB + i, none⟩ = some (.int .u8 y) := (HR5.out.b.cell (p := ⟨bB, oB + i, none⟩) hbB).trans hcell
              clear hpop hf5 hx5 cy4
              have hrem := remove_calls HR5.out.f (16 + (z : Int))
              have hO5 := ordL_remove HO4.out (16 + z) (by omega)
              rw [show ((16 + z : Nat) : Int) = 16 + (z : Int) by omega] at hO5
              have HO5 := Lib.hid hO5
              clear hO5
              go_wp2_with fail
              refine hrem.mono ?_
              rintro e w6 ⟨rfl, hf6, hx6⟩
              have HR6 := Lib.hid (HR5.out.act hf6 hx6)
              clear hrem hf6 hx6 cy5
              go_wp2_with fail
              go_roundw
              case rel => exact ⟨i + 1, _, l1 ++ [p], by go_num, by omega, by omega, hl2, HR6.out, HO5.out⟩
              case measure => simp [intOf]; omega
            · have hm' : (y % 3 == 0) = false := by simpa using hm
              have HMM := Lib.hid hm
              clear hm
              have hrem := remove_calls HR4.out.f (16 + (z : Int))
              have hO5 := ordL_remove HO3.out (16 + z) (by omega)
              rw [show ((16 + z : Nat) : Int) = 16 + (z : Int) by omega] at hO5
              have HO5 := Lib.hid hO5
              clear hO5
              go_wp2_with fail
              refine hrem.mono ?_
              rintro e w6 ⟨rfl, hf6, hx6⟩
              have HR6 := Lib.hid (HR4.out.act hf6 hx6)
              clear hrem hf6 hx6 cy4
              go_wp2_with fail
              go_roundw
              case rel => exact ⟨i + 1, _, l1 ++ [p], by go_num, by omega, by omega, hl2, HR6.out, HO5.out⟩
              case measure => simp [intOf]; omega
          · have hd' : ¬ (i : Int) < (nb : Int) := by omega
            go_wp2_with fail
            go_roundw
            case rel => exact ⟨i + 1, _, l1 ++ [p], by go_num, by omega, by omega, hl2, HR3.out, HO2.out⟩
            case measure => simp [intOf]; omega
        · rw [ht] at hpush
          have HO2 := Lib.hid hO2
          clear ht hO2
          go_wp2_with fail
          refine hpush.mono ?_
          rintro e w3 ⟨rfl, hf2, hx2⟩
          have HR3 := Lib.hid (HR.out.act hf2 hx2)
          have hl2 : l1.length ≤ i + 1 := by omega
          clear hpush hf2 hx2 cx
          by_cases hd : i < nb
          · have hd' : (i : Int) < (nb : Int) := by omega
            obtain ⟨bB, oB, rfl, hbB, hcB⟩ := HB3.out (by omega)
            obtain ⟨y, hy⟩ : ∃ y, ys[i]? = some y := ⟨_, List.getElem?_eq_getElem (by rw [← HB.out]; exact hd)⟩
            have hyr := HBB.out i y hy
            have cy : w3.cell? ⟨bB, oB + i, none⟩ = some (.int .u8 y) := (HR3.out.b.cell (p := ⟨bB, oB + i, none⟩) hbB).trans (hcB i y hy)
            obtain ⟨q, hq0⟩ : ∃ q : Nat, (q : Int) = y % 16 := ⟨(y % 16).toNat, by omega⟩
            have hq2 : y % 16 = (q : Int) := hq0.symm
            obtain ⟨z, hz⟩ : ∃ z : Nat, (z : Int) = y / 16 := ⟨(y / 16).toNat, by omega⟩
            have hzz : y / 16 = (z : Int) := hz.symm
            have hcell := hcB i y hy
            have hq16 : q < 16 := by omega
            have hz16 : z < 16 := by omega
            clear hy hcB hq0 hz
            have hpush := push_calls HR3.out.f 2 (16 + (q : Int))
            have hO3 := ordL_push2 HO2.out (16 + q) (by omega)
            rw [show ((16 + q : Nat) : Int) = 16 + (q : Int) by omega] at hO3
            obtain ⟨L3, hL3⟩ : ∃ L3, L3 = (pushL (pushL L 32 1 p).2 32 2 (16 + (q : Int))).2 := ⟨_, rfl⟩
            rw [← hL3] at hpush hO3
            generalize (pushL (pushL L 32 1 p).2 32 2 (16 + (q : Int))).1 = t3 at hpush
            have HO3 := Lib.hid hO3
            clear hO3 hL3
            go_wp2_with fail
            refine hpush.mono ?_
            rintro e w4 ⟨rfl, hf4, hx4⟩
            have HR4 := Lib.hid (HR3.out.act hf4 hx4)
            have cy4 : w4.cell? ⟨bB, oB + i, none⟩ = some (.int .u8 y) := (HR4.out.b.cell (p := ⟨bB, oB + i, none⟩) hbB).trans hcell
            clear hpush hf4 hx4 cy
            by_cases hm : (y % 3 == 0) = true
            · have hpop := pop_calls HR4.out.f 2
              have hO4 := ordL_pop2 HO3.out
              obtain ⟨L4, hL4⟩ : ∃ L4, L4 = (popL L3 2).2.2 := ⟨_, rfl⟩
              rw [← hL4] at hpop hO4
              generalize (popL L3 2).1 = t4 at hpop
              generalize (popL L3 2).2.1 = t5 at hpop
              have HO4 := Lib.hid hO4
              clear hO4 hL4
              go_wp2_with fail
              refine hpop.mono ?_
              rintro e w5 ⟨rfl, hf5, hx5⟩
              have HR5 := Lib.hid (HR4.out.act hf5 hx5)
              have cy5 : w5.cell? ⟨bB, oB + i, none⟩ = some (.int .u8 y) := (HR5.out.b.cell (p := ⟨bB, oB + i, none⟩) hbB).trans hcell
              clear hpop hf5 hx5 cy4
              have hrem := remove_calls HR5.out.f (16 + (z : Int))
              have hO5 := ordL_remove HO4.out (16 + z) (by omega)
              rw [show ((16 + z : Nat) : Int) = 16 + (z : Int) by omega] at hO5
              have HO5 := Lib.hid hO5
              clear hO5
              go_wp2_with fail
              refine hrem.mono ?_
              rintro e w6 ⟨rfl, hf6, hx6⟩
              have HR6 := Lib.hid (HR5.out.act hf6 hx6)
              clear hrem hf6 hx6 cy5
              go_wp2_with fail
              go_roundw
              case rel => exact ⟨i + 1, _, l1, by go_num, by omega, by omega, hl2, HR6.out, HO5.out⟩
              case measure => simp [intOf]; omega
            · have hm' : (y % 3 == 0) = false := by simpa using hm
              have HMM := Lib.hid hm
              clear hm
              have hrem := remove_calls HR4.out.f (16 + (z : Int))
              have hO5 := ordL_remove HO3.out (16 + z) (by omega)
              rw [show ((16 + z : Nat) : Int) = 16 + (z : Int) by omega] at hO5
              have HO5 := Lib.hid hO5
              clear hO5
              go_wp2_with fail
              refine hrem.mono ?_
              rintro e w6 ⟨rfl, hf6, hx6⟩
              have HR6 := Lib.hid (HR4.out.act hf6 hx6)
              clear hrem hf6 hx6 cy4
              go_wp2_with fail
              go_roundw
              case rel => exact ⟨i + 1, _, l1, by go_num, by omega, by omega, hl2, HR6.out, HO5.out⟩
              case measure => simp [intOf]; omega
          · have hd' : ¬ (i : Int) < (nb : Int) := by omega
            go_wp2_with fail
            go_roundw
            case rel => exact ⟨i + 1, _, l1, by go_num, by omega, by omega, hl2, HR3.out, HO2.out⟩
            case measure => simp [intOf]; omega
      · have hc2' : ¬ (i : Int) < 32 := by omega
        obtain ⟨len, hlen⟩ : ∃ len, len = (asInts l1).length := ⟨_, rfl⟩
        obtain ⟨a6, c6, h6, k1, k2, k3⟩ := owns_shape HR.out.r
        rw [← hlen] at h6 k1 k3
        subst h6
        unfold maxLen at k2
        have hlen2 : len = l1.length := by rw [hlen, asInts_len]
        have HL := Lib.hid hlen2
        have HL1 := Lib.hid hlen
        have HK3 := Lib.hid k3
        have HND := Lib.hid (ordL_nodup HR.out.f HO.out)
        have hlen32 : len ≤ 32 := by omega
        have hall := all_calls HR.out.f 1
        rw [ordL_all HO.out] at hall
        clear hlen hlen2 k3
        go_wp2_with fail
        refine hall.mono ?_
        rintro e w2 ⟨vv, rfl, hrd, hvb, hb2⟩
        have hR2 := HR.out.plus hb2
        have hcmp := ints_calls hrd hR2.reads
        rw [decide_eq_true rfl] at hcmp
        have HR2 := Lib.hid hR2
        clear hall hrd hvb hb2 hR2
        go_wp2_with fail
        refine hcmp.mono ?_
        rintro e w3 ⟨rfl, nq, rfl⟩
        have HR3 := Lib.hid (HR2.out.plus (below_draws _ _ nq))
        clear hcmp
        go_wp2_with fail
        go_loopw [9] (fun u wr => ∃ (j : Nat) (L2 : List (List Nat)), u = .int .i64 j ∧ j ≤ len ∧ FR w wr g bq bn L2 32 (.slice a6 len c6) (asInts l1) ∧ OrdL L2 (l1.drop j)) (fun u _ => len - (intOf u).toNat)
        case atStart => exact ⟨0, L, rfl, Nat.zero_le _, HR3.out, HO.out⟩
        case round =>
          obtain ⟨j, L2, rfl, hj, hR4, hO4⟩ := hrel
          have jz : (0 : Int) ≤ (j : Int) := Int.natCast_nonneg _
          have HR4 := Lib.hid hR4
          have HO4 := Lib.hid hO4
          clear hR4 hO4
          by_cases hjl : j < len
          · have hjl' : (j : Int) < (len : Int) := by omega
            obtain ⟨b6, rfl⟩ := HK3.out (by omega)
            obtain ⟨x, r, hxr⟩ : ∃ x r, l1.drop j = x :: r := ⟨_, _, List.drop_eq_getElem_cons (by rw [← HL.out]; exact hjl)⟩
            have hget : (asInts l1)[j]? = some (x : Int) := by
              have h : (l1.drop j)[0]? = some x := by rw [hxr]; rfl
              rw [List.getElem?_drop] at h
              unfold asInts
              rw [List.getElem?_map, show j = j + 0 by omega, h]
              rfl
            have hndr : (x :: r).Nodup := by rw [← hxr]; exact HND.out.sublist (List.drop_sublist _ _)
            have hrl : (len : Int) - 1 - (j : Int) = (r.length : Int) := by
              have h := congrArg List.length hxr
              rw [List.length_drop, List.length_cons, ← HL.out] at h
              omega
            have hor : OrdL L2 (x :: r) := by rw [← hxr]; exact HO4.out
            obtain ⟨p1, p2, p3, p4, p5⟩ := ordL_pop hor hndr
            have hpop := pop_calls HR4.out.f 1
            rw [p1, p2] at hpop
            have P3 := Lib.hid p3
            have P4 := Lib.hid p4
            have P5 := Lib.hid p5
            have HG := Lib.hid hget
            have HXR := Lib.hid hxr
            have hbq : ((r.length : Int) != (r.length : Int)) = false := by simp
            clear p1 p2 p3 p4 p5 hor hndr hget hxr hbq
            go_wp2_with fail
            refine hpop.mono ?_
            rintro e w5 ⟨rfl, hf5, hx5⟩
            have hR5 := HR4.out.act hf5 hx5
            have hlc := len_calls hR5.f 1
            rw [P4.out] at hlc
            have hwc := where_calls hR5.f (x : Int)
            rw [P5.out] at hwc
            have hr5 := hR5.r
            rw [← HL1.out] at hr5
            have c6' : w5.cell? ⟨b6, j, none⟩ = some (.int .i64 x) := owns_int hr5 HG.out
            have HR5 := Lib.hid hR5
            clear hpop hf5 hx5 hR5 hr5
            go_wp2_with fail
            refine hlc.mono ?_
            rintro e w6 ⟨rfl, rfl⟩
            go_wp2_with fail
            refine hwc.mono ?_
            rintro e w7 ⟨rfl, rfl⟩
            go_wp2_with fail
            go_roundw
            case rel =>
              refine ⟨j + 1, _, by go_num, by omega, HR5.out, ?_⟩
              have h : l1.drop (j + 1) = r := by
                have h := congrArg (List.drop 1) HXR.out
                rw [List.drop_drop] at h
                simpa using h
              rw [h]
              exact P3.out
            case measure => simp [intOf]; omega
          · obtain rfl : j = len := by omega
            have hod : OrdL L2 [] := by
              have h := HO4.out
              rw [List.drop_eq_nil_of_le (by rw [← HL.out]; exact Nat.le_refl _)] at h
              exact h
            have hpop := pop_calls HR4.out.f 1
            rw [ordL_done hod] at hpop
            generalize (popL L2 1).1 = t9 at hpop
            clear hod
            go_wp2_with fail
            refine hpop.mono ?_
            rintro e w5 ⟨rfl, hf5, hx5⟩
            have HR5 := Lib.hid (HR4.out.act hf5 hx5)
            clear hpop hf5 hx5
            go_wp2_with fail
            refine (awake7_calls _).mono ?_
            rintro e w6 ⟨rfl, hb6⟩
            have HB6 := Lib.hid (HR5.out.plus hb6).b
            clear hb6
            go_wp2_with fail
            go_ret
            exact ⟨rfl, HB6.out⟩
    · have hc1' : ¬ (i : Int) < (na : Int) := by omega
      obtain ⟨len, hlen⟩ : ∃ len, len = (asInts l1).length := ⟨_, rfl⟩
      obtain ⟨a6, c6, h6, k1, k2, k3⟩ := owns_shape HR.out.r
      rw [← hlen] at h6 k1 k3
      subst h6
      unfold maxLen at k2
      have hlen2 : len = l1.length := by rw [hlen, asInts_len]
      have HL := Lib.hid hlen2
      have HL1 := Lib.hid hlen
      have HK3 := Lib.hid k3
      have HND := Lib.hid (ordL_nodup HR.out.f HO.out)
      have hlen32 : len ≤ 32 := by omega
      have hall := all_calls HR.out.f 1
      rw [ordL_all HO.out] at hall
      clear hlen hlen2 k3
      go_wp2_with fail
      refine hall.mono ?_
      rintro e w2 ⟨vv, rfl, hrd, hvb, hb2⟩
      have hR2 := HR.out.plus hb2
      have hcmp := ints_calls hrd hR2.reads
      rw [decide_eq_true rfl] at hcmp
      have HR2 := Lib.hid hR2
      clear hall hrd hvb hb2 hR2
      go_wp2_with fail
      refine hcmp.mono ?_
      rintro e w3 ⟨rfl, nq, rfl⟩
      have HR3 := Lib.hid (HR2.out.plus (below_draws _ _ nq))
      clear hcmp
      go_wp2_with fail
      go_loopw [9] (fun u wr => ∃ (j : Nat) (L2 : List (List Nat)), u = .int .i64 j ∧ j ≤ len ∧ FR w wr g bq bn L2 32 (.slice a6 len c6) (asInts l1) ∧ OrdL L2 (l1.drop j)) (fun u _ => len - (intOf u).toNat)
      case atStart => exact ⟨0, L, rfl, Nat.zero_le _, HR3.out, HO.out⟩
      case round =>
        obtain ⟨j, L2, rfl, hj, hR4, hO4⟩ := hrel
        have jz : (0 : Int) ≤ (j : Int) := Int.natCast_nonneg _
        have HR4 := Lib.hid hR4
        have HO4 := Lib.hid hO4
        clear hR4 hO4
        by_cases hjl : j < len
        · have hjl' : (j : Int) < (len : Int) := by omega
          obtain ⟨b6, rfl⟩ := HK3.out (by omega)
          obtain ⟨x, r, hxr⟩ : ∃ x r, l1.drop j = x :: r := ⟨_, _, List.drop_eq_getElem_cons (by rw [← HL.out]; exact hjl)⟩
          have hget : (asInts l1)[j]? = some (x : Int) := by
            have h : (l1.drop j)[0]? = some x := by rw [hxr]; rfl
            rw [List.getElem?_drop] at h
            unfold asInts
            rw [List.getElem?_map, show j = j + 0 by omega, h]
            rfl
          have hndr : (x :: r).Nodup := by rw [← hxr]; exact HND.out.sublist (List.drop_sublist _ _)
          have hrl : (len : Int) - 1 - (j : Int) = (r.length : Int) := by
            have h := congrArg List.length hxr
            rw [List.length_drop, List.length_cons, ← HL.out] at h
            omega
          have hor : OrdL L2 (x :: r) := by rw [← hxr]; exact HO4.out
          obtain ⟨p1, p2, p3, p4, p5⟩ := ordL_pop hor hndr
          have hpop := pop_calls HR4.out.f 1
          rw [p1, p2] at hpop
          have P3 := Lib.hid p3
          have P4 := Lib.hid p4
          have P5 := Lib.hid p5
          have HG := Lib.hid hget
          have HXR := Lib.hid hxr
          have hbq : ((r.length : Int) != (r.length : Int)) = false := by simp
          clear p1 p2 p3 p4 p5 hor hndr hget hxr hbq
          go_wp2_with fail
          refine hpop.mono ?_
          rintro e w5 ⟨rfl, hf5, hx5⟩
          have hR5 := HR4.out.act hf5 hx5
          have hlc := len_calls hR5.f 1
          rw [P4.out] at hlc
          have hwc := where_calls hR5.f (x : Int)
          rw [P5.out] at hwc
          have hr5 := hR5.r
          rw [← HL1.out] at hr5
          have c6' : w5.cell? ⟨b6, j, none⟩ = some (.int .i64 x) := owns_int hr5 HG.out
          have HR5 := Lib.hid hR5
          clear hpop hf5 hx5 hR5 hr5
          go_wp2_with fail
          refine hlc.mono ?_
          rintro e w6 ⟨rfl, rfl⟩
          go_wp2_with fail
          refine hwc.mono ?_
          rintro e w7 ⟨rfl, rfl⟩
          go_wp2_with fail
          go_roundw
          case rel =>
            refine ⟨j + 1, _, by go_num, by omega, HR5.out, ?_⟩
            have h : l1.drop (j + 1) = r := by
              have h := congrArg (List.drop 1) HXR.out
              rw [List.drop_drop] at h
              simpa using h
            rw [h]
            exact P3.out
          case measure => simp [intOf]; omega
        · obtain rfl : j = len := by omega
          have hod : OrdL L2 [] := by
            have h := HO4.out
            rw [List.drop_eq_nil_of_le (by rw [← HL.out]; exact Nat.le_refl _)] at h
            exact h
          have hpop := pop_calls HR4.out.f 1
          rw [ordL_done hod] at hpop
          generalize (popL L2 1).1 = t9 at hpop
          clear hod
          go_wp2_with fail
          refine hpop.mono ?_
          rintro e w5 ⟨rfl, hf5, hx5⟩
          have HR5 := Lib.hid (HR4.out.act hf5 hx5)
          clear hpop hf5 hx5
          go_wp2_with fail
          refine (awake7_calls _).mono ?_
          rintro e w6 ⟨rfl, hb6⟩
          have HB6 := Lib.hid (HR5.out.plus hb6).b
          clear hb6
          go_wp2_with fail
          go_ret
          exact ⟨rfl, HB6.out⟩
end Go.Proofs.Ytkiogbenbicghaa
