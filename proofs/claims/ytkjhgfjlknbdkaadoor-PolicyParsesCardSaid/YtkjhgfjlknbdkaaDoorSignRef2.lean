/- What the document's Read of labels does (parcloseref02.Read). Condition: a text's length, at most 2^47 bytes. -/
import Derived.Test.YtkjhgfjlknbdkaaDoorSignRef
namespace Go.Proofs.YtkjhgfjlknbdkaaDoor
open Go.RowKit BigFrame

theorem rread_bad (s : ByteArray) (h : s.size < 3 ∨ 35 < s.size ∨ bAt s 0 < 48 ∨ 55 < bAt s 0 ∨ bAt s 1 ≠ 123 ∨ bAt s (s.size - 1) ≠ 125 ∨ s.size % 2 = 0) : parseL (bl s 0) = none := by
  by_cases h1 : 1 < s.size
  · rw [parse_two s (by omega) h1]
    split
    · rename_i hc
      cases hm : catsM (bl s 2) (-1) 0 with
      | none => rfl
      | some k =>
        exfalso
        obtain ⟨e1, e2, e3⟩ := catsM_shape (bl s 2) (-1) 0 k hm (by omega) (by omega)
        rw [bl_length] at e1 e3
        have hs : 2 < s.size := by omega
        rw [bl_last s 2 hs] at e2
        have e4 : bAt s (s.size - 1) = 125 := Option.some.inj e2
        omega
    · rfl
  · exact parse_short s h1

theorem bytes_at (s : ByteArray) (i : Nat) (h : i < s.size) (x : Int) (hx : x = (bAt s i : Int)) : ((s[i]'h).toNat : Int) = x := by rw [hx, bAt_eq s i h]

/-- The reader's two blocks. -/
structure RInv2 (w wr : World) (lv m : Int) : Prop where
  e : wr.heap[w.heap.size]? = some (.cells #[.int .i64 0, .int .i64 0] 35 (0, 0))
  o : wr.heap[w.heap.size + 1]? = some (.cells #[.int .i64 lv, .int .i64 m] 35 (0, 0))
  b : Below w.heap.size w wr
theorem RInv2.mask {w wr : World} {lv m : Int} (h : RInv2 w wr lv m) (x : Int) : RInv2 w (wr.setCell ⟨w.heap.size + 1, 1, none⟩ (.int .i64 x)) lv x :=
  ⟨(Below.heap_setCell _ _ _ _ (by simp)).trans h.e, blk_set h.o 1 (.int .i64 x), h.b.setCell (by simp) _⟩
theorem RInv2.drewN {w wr : World} {lv m : Int} (h : RInv2 w wr lv m) (n : Nat) : RInv2 w (wr.drewN n) lv m := ⟨h.e, h.o, below_dN h.b n⟩
theorem RInv2.put {w wr : World} {lv m : Int} (h : RInv2 w wr lv m) (x y : Int) : ((wr.setCell ⟨w.heap.size, 0, none⟩ (.int .i64 x)).setCell ⟨w.heap.size, 1, none⟩ (.int .i64 y)).heap[w.heap.size]? = some (.cells #[.int .i64 x, .int .i64 y] 35 (0, 0)) ∧ Below w.heap.size w ((wr.setCell ⟨w.heap.size, 0, none⟩ (.int .i64 x)).setCell ⟨w.heap.size, 1, none⟩ (.int .i64 y)) :=
  ⟨blk_set (blk_set h.e 0 (.int .i64 x)) 1 (.int .i64 y), (h.b.setCell (p := ⟨w.heap.size, 0, none⟩) (Nat.le_refl _) _).setCell (p := ⟨w.heap.size, 1, none⟩) (Nat.le_refl _) _⟩

set_option maxRecDepth 100000 in
set_option maxHeartbeats 4000000 in
theorem rRead_calls (s : ByteArray) (hs : s.size ≤ 140737488351232) (w : World) :
    Calls Tryd.prog 56 #[.string s] w fun e w' => e = .returned (readOut s) ∧ Below w.heap.size w w' := by
  have HB := Lib.hid (fun h => readV_none (rread_bad s h))
  have hz : (0 : Int) ≤ (s.size : Int) := Int.natCast_nonneg _
  have hzm : (s.size : Int) ≤ 140737488351232 := by omega
  by_cases c1 : (s.size : Int) < 3
  · have HN := Lib.hid (HB.out (by omega))
    go_enter Tryd.func56, Tryd.ntmps56
    go_wp2_with fail
    refine bodyPost_ret (v := readOut s) ?_ rfl ⟨rfl, (Below.refl _ _).alloc (Nat.le_refl _) _⟩
    rw [label_ret rfl _ _ _ 0 0 rfl (heap_alloc_new w _)]
    unfold readOut
    rw [HN.out]
    rfl
  · by_cases c2 : 35 < (s.size : Int)
    · have HN := Lib.hid (HB.out (by omega))
      go_enter Tryd.func56, Tryd.ntmps56
      go_wp2_with fail
      refine bodyPost_ret (v := readOut s) ?_ rfl ⟨rfl, (Below.refl _ _).alloc (Nat.le_refl _) _⟩
      rw [label_ret rfl _ _ _ 0 0 rfl (heap_alloc_new w _)]
      unfold readOut
      rw [HN.out]
      rfl
    · obtain ⟨x0, hx0⟩ : ∃ x : Int, x = (bAt s 0 : Int) := ⟨_, rfl⟩
      obtain ⟨x1, hx1⟩ : ∃ x : Int, x = (bAt s 1 : Int) := ⟨_, rfl⟩
      obtain ⟨x2, hx2⟩ : ∃ x : Int, x = (bAt s (s.size - 1) : Int) := ⟨_, rfl⟩
      have hb0 := bytes_at s 0 (by omega) x0 hx0
      have hb1 := bytes_at s 1 (by omega) x1 hx1
      have hb2 := bytes_at s (s.size - 1) (by omega) x2 hx2
      have r0 : 0 ≤ x0 ∧ x0 < 256 := by have := bAt_lt s 0; omega
      have q0 : (0 : Int) < (s.size : Int) := by omega
      have q1 : (1 : Int) < (s.size : Int) := by omega
      have q2 : (0 : Int) ≤ (s.size : Int) - 1 := by omega
      have q3 : (s.size : Int) - 1 < (s.size : Int) := by omega
      have q4 : ((s.size : Int) - 1).toNat = s.size - 1 := by omega
      have HX0 := Lib.hid hx0
      have HX1 := Lib.hid hx1
      have HX2 := Lib.hid hx2
      clear hx0 hx1 hx2
      by_cases c3 : x0 < 48
      · have HN := Lib.hid (HB.out (by have := HX0.out; omega))
        go_enter Tryd.func56, Tryd.ntmps56
        go_wp2_with fail
        refine bodyPost_ret (v := readOut s) ?_ rfl ⟨rfl, (Below.refl _ _).alloc (Nat.le_refl _) _⟩
        rw [label_ret rfl _ _ _ 0 0 rfl (heap_alloc_new w _)]
        unfold readOut
        rw [HN.out]
        rfl
      · by_cases c4 : 55 < x0
        · have HN := Lib.hid (HB.out (by have := HX0.out; omega))
          go_enter Tryd.func56, Tryd.ntmps56
          go_wp2_with fail
          refine bodyPost_ret (v := readOut s) ?_ rfl ⟨rfl, (Below.refl _ _).alloc (Nat.le_refl _) _⟩
          rw [label_ret rfl _ _ _ 0 0 rfl (heap_alloc_new w _)]
          unfold readOut
          rw [HN.out]
          rfl
        · by_cases c5 : (x1 != 123) = true
          · have HN := Lib.hid (HB.out (by have := HX1.out; have : ¬ x1 = 123 := (by simpa using c5); omega))
            go_enter Tryd.func56, Tryd.ntmps56
            go_wp2_with fail
            refine bodyPost_ret (v := readOut s) ?_ rfl ⟨rfl, (Below.refl _ _).alloc (Nat.le_refl _) _⟩
            rw [label_ret rfl _ _ _ 0 0 rfl (heap_alloc_new w _)]
            unfold readOut
            rw [HN.out]
            rfl
          · by_cases c6 : (x2 != 125) = true
            · have HN := Lib.hid (HB.out (by have := HX2.out; have : ¬ x2 = 125 := (by simpa using c6); omega))
              go_enter Tryd.func56, Tryd.ntmps56
              go_wp2_with fail
              refine bodyPost_ret (v := readOut s) ?_ rfl ⟨rfl, (Below.refl _ _).alloc (Nat.le_refl _) _⟩
              rw [label_ret rfl _ _ _ 0 0 rfl (heap_alloc_new w _)]
              unfold readOut
              rw [HN.out]
              rfl
            · have c5' : (x1 != 123) = false := by simpa using c5
              have c6' : (x2 != 125) = false := by simpa using c6
              have C5 := Lib.hid c5
              have C6 := Lib.hid c6
              clear c5 c6
              by_cases c7 : s.size % 2 = 0
              · have hm : (s.size : Int) % 2 = 0 := by omega
                have hm2 : ((s.size : Int) % 2 == 0) = true := by rw [hm]; rfl
                clear hm
                have HN := Lib.hid (HB.out (by omega))
                go_enter Tryd.func56, Tryd.ntmps56
                go_wp2_with fail
                refine bodyPost_ret (v := readOut s) ?_ rfl ⟨rfl, (Below.refl _ _).alloc (Nat.le_refl _) _⟩
                rw [label_ret rfl _ _ _ 0 0 rfl (heap_alloc_new w _)]
                unfold readOut
                rw [HN.out]
                rfl
              · have hm : (s.size : Int) % 2 = 1 := by omega
                have hm2 : ((s.size : Int) % 2 == 0) = false := by rw [hm]; rfl
                clear hm
                go_enter Tryd.func56, Tryd.ntmps56
                go_wp2_with fail
                clear hb0 hb1 hb2 c5' c6' q2 q3 q4 q0 q1 hm2
                have hstart : parseL (bl s 0) = (catsM (bl s 2) (-1) 0).map fun m => (x0 - 48, m) := by
                  have h0 := HX0.out
                  have h1 := HX1.out
                  have h3 : x1 = 123 := by simpa using C5.out
                  rw [parse_two s (by omega) (by omega), if_pos ⟨by omega, by omega, by omega⟩, h0]
                have hlast : bAt s (s.size - 1) = 125 := by
                  have h1 := HX2.out
                  have h3 : x2 = 125 := by simpa using C6.out
                  omega
                have HS := Lib.hid hstart
                have HLA := Lib.hid hlast
                clear hstart hlast c3 c4
                go_loopw [5, 6] (fun u v wr => ∃ (i : Nat) (la m : Int), u = .int .i64 la ∧ v = .int .i64 i ∧ 2 ≤ i ∧ i ≤ s.size ∧ i % 2 = 0 ∧ -1 ≤ la ∧ la ≤ 15 ∧ 0 ≤ m ∧ m < 2 ^ (la + 1).toNat ∧ RInv2 w wr (x0 - 48) m ∧ parseL (bl s 0) = (catsM (bl s i) la m).map fun m => (x0 - 48, m)) (fun _ v _ => s.size - (intOf v).toNat)
                case atStart =>
                  refine ⟨2, -1, 0, rfl, rfl, Nat.le_refl _, by omega, rfl, by omega, by omega, by omega, by decide, ⟨?_, ?_, ?_⟩, HS.out⟩
                  · exact (Below.heap_alloc _ _ _ (by simp)).trans (heap_alloc_new w _)
                  · exact heap_alloc2_new w _ _
                  · exact ((Below.refl _ _).alloc (Nat.le_refl _) _).alloc (by simp) _
                case round =>
                  obtain ⟨i, la, m, rfl, rfl, h2, his, hie, la0, la1, m0, m1, hI, hP⟩ := hrel
                  have HP := Lib.hid hP
                  have HI := Lib.hid hI
                  have M1 := Lib.hid m1
                  clear hP m1
                  have o0 : wr.cell? ⟨w.heap.size + 1, 0, none⟩ = some (.int .i64 (x0 - 48)) := blk_cell hI.o 0
                  have o1 : wr.cell? ⟨w.heap.size + 1, 1, none⟩ = some (.int .i64 m) := blk_cell hI.o 1
                  have g0 := blk_free hI.o 0
                  have g1 := blk_free hI.o 1
                  have e0 : wr.cell? ⟨w.heap.size, 0, none⟩ = some (.int .i64 0) := blk_cell hI.e 0
                  have e1 : wr.cell? ⟨w.heap.size, 1, none⟩ = some (.int .i64 0) := blk_cell hI.e 1
                  have f0 := blk_free hI.e 0
                  have f1 := blk_free hI.e 1
                  clear hI
                  have i0 : (0 : Int) ≤ (i : Int) := Int.natCast_nonneg _
                  by_cases hp2 : i + 1 < s.size
                  · have i1 : (i : Int) < (s.size : Int) := by omega
                    have i2 : (i : Int) + 1 < (s.size : Int) := by omega
                    have i4 : IntKind.i64.wrap ((i : Int) + 1) = (i : Int) + 1 := wrap_small _ (by omega) (by omega)
                    have i5 : (0 : Int) ≤ (i : Int) + 1 := by omega
                    have i6 : ((i : Int) + 1).toNat = i + 1 := by omega
                    obtain ⟨x, hx⟩ : ∃ x : Int, x = (bAt s i : Int) := ⟨_, rfl⟩
                    obtain ⟨y, hy⟩ : ∃ y : Int, y = (bAt s (i + 1) : Int) := ⟨_, rfl⟩
                    have hb0 := bytes_at s i (by omega) x hx
                    have hb1 := bytes_at s (i + 1) (by omega) y hy
                    have hgr0 := fun (u : World) => greek_calls (bAt s i) (bAt s (i + 1)) (bAt_lt _ _) (bAt_lt _ _) u
                    rw [← hx, ← hy] at hgr0
                    obtain ⟨g, hg⟩ : ∃ g : Int, g = greek (bAt s i) (bAt s (i + 1)) := ⟨_, rfl⟩
                    rw [← hg] at hgr0
                    have hgr := fun (u : World) => (hgr0 u).mono (fun e w' ⟨h1, h2⟩ => (⟨h1, h2.symm⟩ : e = Ending.returned (.int .i64 g) ∧ u = w'))
                    clear hgr0
                    have hg0 : -1 ≤ g := by rw [hg]; exact greek_ge _ _
                    have hst : catsM (bl s i) la m = if la < g ∧ g ≤ 15 then catsM (bl s (i + 2)) g (m + 2 ^ g.toNat) else none := by
                      rw [bl_cons s i (by omega), bl_cons s (i + 1) hp2, catsM_two, ← hg]
                    have HG := Lib.hid hg
                    have HST := Lib.hid hst
                    have HGR := Lib.hid hgr
                    have HXX := Lib.hid hx
                    have HYY := Lib.hid hy
                    clear hg hgr hx hy hst
                    by_cases hok : la < g ∧ g ≤ 15
                    · have ha : ¬ g ≤ la := by omega
                      have hb : ¬ 15 < g := by omega
                      have hpow := pow_pos' g.toNat
                      have hle : (2 : Int) ^ g.toNat ≤ 32768 := by
                        have : (2 : Nat) ^ g.toNat ≤ 2 ^ 15 := Nat.pow_le_pow_right (by decide) (by omega)
                        exact_mod_cast this
                      have hmm : m < 2 ^ g.toNat := by
                        have : (2 : Nat) ^ (la + 1).toNat ≤ 2 ^ g.toNat := Nat.pow_le_pow_right (by decide) (by omega)
                        have h : (2 : Int) ^ (la + 1).toNat ≤ 2 ^ g.toNat := by exact_mod_cast this
                        have := M1.out
                        omega
                      have HOK := Lib.hid hok
                      clear hok
                      go_wp2_with fail
                      go_big_quiet ((go_at_call 45; exact quiet_eq (HGR.out _)))
                      go_wp2_with fail
                      go_roundw
                      case rel =>
                        have e1 : (g + 1).toNat = g.toNat + 1 := by omega
                        refine ⟨i + 2, g, m + 2 ^ g.toNat, rfl, by go_num, by omega, by omega, by omega, hg0, HOK.out.2, by omega, by rw [e1, pow_succ']; omega, (HI.out.drewN nq).mask _, ?_⟩
                        rw [HP.out, HST.out, if_pos HOK.out]
                      case measure => simp [intOf]; omega
                    · have HN := Lib.hid (readV_none (s := s) (by rw [HP.out, HST.out, if_neg hok]; rfl))
                      by_cases ha : g ≤ la
                      · clear hok
                        go_wp2_with fail
                        go_big_quiet ((go_at_call 45; exact quiet_eq (HGR.out _)))
                        go_wp2_with fail
                        refine bodyPost_ret (v := readOut s) ?_ rfl ⟨rfl, ((HI.out.drewN nq).put 0 0).2⟩
                        rw [label_ret rfl _ _ _ 0 0 rfl ((HI.out.drewN nq).put 0 0).1]
                        unfold readOut
                        rw [HN.out]
                        rfl
                      · have hb : 15 < g := by omega
                        clear hok
                        go_wp2_with fail
                        go_big_quiet ((go_at_call 45; exact quiet_eq (HGR.out _)))
                        go_wp2_with fail
                        refine bodyPost_ret (v := readOut s) ?_ rfl ⟨rfl, ((HI.out.drewN nq).put 0 0).2⟩
                        rw [label_ret rfl _ _ _ 0 0 rfl ((HI.out.drewN nq).put 0 0).1]
                        unfold readOut
                        rw [HN.out]
                        rfl
                  · have i2 : ¬ (i : Int) + 1 < (s.size : Int) := by omega
                    have hi : i = s.size - 1 := by omega
                    have hbl : bl s i = [125] := by
                      rw [bl_cons s i (by omega), bl_nil s (i + 1) hp2, hi, HLA.out]
                    have HO := Lib.hid (readV_some (s := s) (l := x0 - 48) (c := m) (by rw [HP.out, hbl, catsM_brace]; rfl))
                    clear hi hbl
                    go_wp2_with fail
                    refine bodyPost_ret (v := readOut s) ?_ rfl ⟨rfl, (HI.out.put _ _).2⟩
                    rw [label_ret rfl _ _ _ _ _ rfl (HI.out.put _ _).1]
                    unfold readOut
                    rw [HO.out]
                    rfl
end Go.Proofs.YtkjhgfjlknbdkaaDoor
