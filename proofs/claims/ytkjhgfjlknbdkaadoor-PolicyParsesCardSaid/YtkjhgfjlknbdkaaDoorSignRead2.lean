/- What sign.Read does. Condition: the text's length, at most 2^47 bytes. -/
import Derived.Test.YtkjhgfjlknbdkaaDoorSignRead
namespace Go.Proofs.YtkjhgfjlknbdkaaDoor
open Go.RowKit

def readV (s : ByteArray) : Int × Int × Int := match parseL (bl s 0) with | some (l, c) => (l, c, 0) | none => (0, 0, 3)
theorem readV_none {s : ByteArray} (h : parseL (bl s 0) = none) : readV s = (0, 0, 3) := by unfold readV; rw [h]
theorem readV_some {s : ByteArray} {l c : Int} (h : parseL (bl s 0) = some (l, c)) : readV s = (l, c, 0) := by unfold readV; rw [h]
def readOut (s : ByteArray) : Value := .tuple #[lab (readV s).1 (readV s).2.1, .int .i64 (readV s).2.2]

/-- The reader's three blocks. -/
structure RInv (w wr : World) (s : ByteArray) (pos : Nat) (lv m : Int) : Prop where
  e : wr.heap[w.heap.size]? = some (.cells #[.int .i64 0, .int .i64 0] 35 (0, 0))
  o : wr.heap[w.heap.size + 1]? = some (.cells #[.int .i64 lv, .int .i64 m] 35 (0, 0))
  i : wr.heap[w.heap.size + 2]? = some (.stringIter s pos)
  b : Below w.heap.size w wr
section
variable {w wr : World} {s : ByteArray} {pos : Nat} {lv m : Int}
theorem RInv.next (h : RInv w wr s pos lv m) (p : Nat) : RInv w (wr.iterAt (w.heap.size + 2) s p) s p lv m :=
  ⟨(Lib.iterAt_other _ _ _ _ _ (by omega)).trans h.e, (Lib.iterAt_other _ _ _ _ _ (by omega)).trans h.o, Lib.iterAt_heap _ _ _ _ _ h.i, Lib.below_iterAt h.b (by omega) _ _⟩
theorem RInv.level (h : RInv w wr s pos lv m) (x : Int) : RInv w (wr.setCell ⟨w.heap.size + 1, 0, none⟩ (.int .i64 x)) s pos x m :=
  ⟨(Below.heap_setCell _ _ _ _ (by simp)).trans h.e, blk_set h.o 0 (.int .i64 x), (Below.heap_setCell _ _ _ _ (by simp)).trans h.i, h.b.setCell (by simp) _⟩
theorem RInv.mask (h : RInv w wr s pos lv m) (x : Int) : RInv w (wr.setCell ⟨w.heap.size + 1, 1, none⟩ (.int .i64 x)) s pos lv x :=
  ⟨(Below.heap_setCell _ _ _ _ (by simp)).trans h.e, blk_set h.o 1 (.int .i64 x), (Below.heap_setCell _ _ _ _ (by simp)).trans h.i, h.b.setCell (by simp) _⟩
theorem RInv.put (h : RInv w wr s pos lv m) (x y : Int) : ((wr.setCell ⟨w.heap.size, 0, none⟩ (.int .i64 x)).setCell ⟨w.heap.size, 1, none⟩ (.int .i64 y)).heap[w.heap.size]? = some (.cells #[.int .i64 x, .int .i64 y] 35 (0, 0)) ∧ Below w.heap.size w ((wr.setCell ⟨w.heap.size, 0, none⟩ (.int .i64 x)).setCell ⟨w.heap.size, 1, none⟩ (.int .i64 y)) :=
  ⟨blk_set (blk_set h.e 0 (.int .i64 x)) 1 (.int .i64 y), (h.b.setCell (p := ⟨w.heap.size, 0, none⟩) (Nat.le_refl _) _).setCell (p := ⟨w.heap.size, 1, none⟩) (Nat.le_refl _) _⟩
theorem RInv.drew (h : RInv w wr s pos lv m) : RInv w wr.drew s pos lv m := ⟨h.e, h.o, h.i, h.b.drew⟩
end

theorem label_load {w : World} {b : Nat} {x y : Int} (h : w.heap[b]? = some (.cells #[.int .i64 x, .int .i64 y] 35 (0, 0))) : (loadVar 35 ⟨b, 0, none⟩).run Tryd.prog w = .ok (lab x y) w :=
  run_loadVar_row w b _ _ _ _ _ h Tryd.underlying35 rfl (by kernel_rfl)
set_option maxRecDepth 100000 in
theorem label_ret {fn : Func} {p u : Tmp} (h : fn.results = #[.cell p 35, .tmp u]) (tmps : Array Value) (w : World) (b : Nat) (x y : Int) (hp : tmps.getD p undef = .pointer (some ⟨b, 0, none⟩)) (hb : w.heap[b]? = some (.cells #[.int .i64 x, .int .i64 y] 35 (0, 0))) :
    (results fn tmps).run Tryd.prog w = .ok (.tuple #[lab x y, tmps.getD u undef]) w := by
  rw [results_cell_tmp h, hp]
  show ((loadVar 35 ⟨b, 0, none⟩).run Tryd.prog w).andThen _ = _
  rw [label_load hb]
  rfl

set_option maxRecDepth 100000 in
set_option maxHeartbeats 4000000 in
theorem signRead_calls (s : ByteArray) (hs : s.size ≤ 140737488351232) (w : World) :
    Calls Tryd.prog 68 #[.string s] w fun e w' => e = .returned (readOut s) ∧ Below w.heap.size w w' := by
  go_enter Tryd.func68, Tryd.ntmps68
  go_wp2_with fail
  go_loopw [5, 6, 7] (fun a b c wr => ∃ (pos k : Nat) (la : Int) (en : Bool) (lv m : Int), a = .int .i64 k ∧ b = .int .i64 la ∧ c = .bool en ∧ RInv w wr s pos lv m ∧ RSt s pos k la en lv m) (fun _ _ _ wr => s.size - wr.iterPos (w.heap.size + 2))
  case atStart =>
    refine ⟨0, 0, -1, false, 0, 0, rfl, rfl, rfl, ⟨?_, ?_, ?_, ?_⟩, rst_start s⟩
    · exact (Below.heap_alloc _ _ _ (by simp; omega)).trans ((Below.heap_alloc _ _ _ (by simp)).trans (heap_alloc_new w _))
    · exact (Below.heap_alloc _ _ _ (by simp)).trans (heap_alloc2_new w _ _)
    · have h := World.iter_heap ((w.alloc (.cells #[.int .i64 0, .int .i64 0] 35)).alloc (.cells #[.int .i64 0, .int .i64 0] 35)) s 0
      rw [show w.heap.size + 2 = ((w.alloc (.cells #[.int .i64 0, .int .i64 0] 35)).alloc (.cells #[.int .i64 0, .int .i64 0] 35)).heap.size by simp]
      exact h
    · exact (((Below.refl _ _).alloc (Nat.le_refl _) _).alloc (by simp) _).alloc (by simp; omega) _
  case round =>
    obtain ⟨pos, k, la, en, lv, m, rfl, rfl, rfl, hI, hR⟩ := hrel
    have HR := Lib.hid hR
    have hk0 : (0 : Int) ≤ (k : Int) := Int.natCast_nonneg _
    have hk1 : (k : Int) ≤ 140737488351232 := by have := hR.1; have := hR.2.1; omega
    have hla : -1 ≤ la ∧ la ≤ 15 := ⟨hR.2.2.1, hR.2.2.2.1⟩
    have hit := hI.i
    clear hR
    by_cases hp : pos < s.size
    · obtain ⟨⟨r, wd⟩, hd⟩ : ∃ d, Utf8.decode s pos = d := ⟨_, rfl⟩
      have hnx := next_rune wr (w.heap.size + 2) s pos r wd hit hp hd
      have hr := decode_le s pos
      rw [hd] at hr
      simp only at hr
      have hI2 := hI.next (pos + wd)
      have hwd := rst_wd hp hd
      have HD := Lib.hid hd
      have HP := Lib.hid hp
      obtain ⟨W, hW⟩ : ∃ W, W = wr.iterAt (w.heap.size + 2) s (pos + wd) := ⟨_, rfl⟩
      rw [← hW] at hnx hI2
      have HM := Lib.hid (show wr.iterPos (w.heap.size + 2) = pos by simp only [World.iterPos, hit])
      clear hd hW hp hI hit
      have e0 : W.cell? ⟨w.heap.size, 0, none⟩ = some (.int .i64 0) := blk_cell hI2.e 0
      have e1 : W.cell? ⟨w.heap.size, 1, none⟩ = some (.int .i64 0) := blk_cell hI2.e 1
      have f0 := blk_free hI2.e 0
      have f1 := blk_free hI2.e 1
      have o0 : W.cell? ⟨w.heap.size + 1, 0, none⟩ = some (.int .i64 lv) := blk_cell hI2.o 0
      have o1 : W.cell? ⟨w.heap.size + 1, 1, none⟩ = some (.int .i64 m) := blk_cell hI2.o 1
      have g0 := blk_free hI2.o 0
      have g1 := blk_free hI2.o 1
      obtain ⟨n, hn⟩ : ∃ n, n = catOf r := ⟨_, rfl⟩
      have hcat := fun u : World => cat_calls (r : Int) (by omega) (by omega) u
      rw [← hn] at hcat
      have hn0 : -1 ≤ n ∧ n ≤ 15 := by rw [hn]; unfold catOf; split <;> omega
      have HN := Lib.hid hn
      clear hn
      obtain ⟨q, hq⟩ : ∃ q : Int, q = (r : Int) := ⟨_, rfl⟩
      rw [← hq] at hnx hcat
      have hq0 : 0 ≤ q := by omega
      have hq1 : q ≤ 2147483647 := by omega
      have HQ := Lib.hid hq
      clear hq
      have HRok := Lib.hid hI2
      clear hI2
      by_cases c0 : k = 0
      · subst c0
        by_cases c1 : 48 ≤ q
        · by_cases c2 : q ≤ 55
          · have HS := Lib.hid (rst_level HR.out HP.out HD.out rfl (by have := HQ.out; omega) (by have := HQ.out; omega))
            go_wp2_with (go_at_call 76; refine (hcat _).mono ?_; rintro e w' ⟨rfl, rfl⟩)
            go_roundw
            case rel =>
              have h := HS.out
              rw [← HQ.out] at h
              exact ⟨pos + wd, 0 + 1, la, en, q - 48, m, by go_num, rfl, rfl, HRok.out.level _, h⟩
            case measure =>
              rw [HM.out]
              have := (HRok.out.level (q - 48)).i
              simp only [World.iterPos, this]
              have := HP.out
              omega
          · have HB := Lib.hid (readV_none (rst_bad HR.out HP.out HD.out (fun _ => .inr (by have := HQ.out; omega)) (fun h => by omega) (fun h => by omega)))
            go_wp2_with (go_at_call 76; refine (hcat _).mono ?_; rintro e w' ⟨rfl, rfl⟩)
            refine bodyPost_ret (v := readOut s) ?_ rfl ⟨rfl, (HRok.out.put _ _).2⟩
            rw [label_ret rfl _ _ _ _ _ rfl (HRok.out.put _ _).1]
            unfold readOut
            rw [HB.out]
            rfl
        · have HB := Lib.hid (readV_none (rst_bad HR.out HP.out HD.out (fun _ => .inl (by have := HQ.out; omega)) (fun h => by omega) (fun h => by omega)))
          go_wp2_with (go_at_call 76; refine (hcat _).mono ?_; rintro e w' ⟨rfl, rfl⟩)
          refine bodyPost_ret (v := readOut s) ?_ rfl ⟨rfl, (HRok.out.put _ _).2⟩
          rw [label_ret rfl _ _ _ _ _ rfl (HRok.out.put _ _).1]
          unfold readOut
          rw [HB.out]
          rfl
      · by_cases c1 : k = 1
        · subst c1
          clear c0
          by_cases c2 : (q == 123) = true
          · have HS := Lib.hid (rst_open HR.out HP.out HD.out rfl (by have := HQ.out; have := eq_of_beq c2; omega))
            go_wp2_with (go_at_call 76; refine (hcat _).mono ?_; rintro e w' ⟨rfl, rfl⟩)
            go_roundw
            case rel =>
              have h := HS.out
              exact ⟨pos + wd, 1 + 1, la, en, lv, m, by go_num, rfl, rfl, HRok.out, h⟩
            case measure =>
              rw [HM.out]
              have := (HRok.out).i
              simp only [World.iterPos, this]
              have := HP.out
              omega
          · have HB := Lib.hid (readV_none (rst_bad HR.out HP.out HD.out (fun h => by omega) (fun _ => by have := HQ.out; have : ¬ q = 123 := (fun e => c2 (by rw [e]; rfl)); omega) (fun h => by omega)))
            go_wp2_with (go_at_call 76; refine (hcat _).mono ?_; rintro e w' ⟨rfl, rfl⟩)
            refine bodyPost_ret (v := readOut s) ?_ rfl ⟨rfl, (HRok.out.put _ _).2⟩
            rw [label_ret rfl _ _ _ _ _ rfl (HRok.out.put _ _).1]
            unfold readOut
            rw [HB.out]
            rfl
        · have c3 : (1 : Int) < (k : Int) := by omega
          have c4 : ((k : Int) == 0) = false := by simpa using (show ¬ (k : Int) = 0 by omega)
          have c5 : ((k : Int) == 1) = false := by simpa using (show ¬ (k : Int) = 1 by omega)
          have c6 : 2 ≤ k := by omega
          clear c0 c1
          cases en
          · by_cases c2 : (q == 125) = true
            · have HS := Lib.hid (rst_close HR.out HP.out HD.out (by omega) rfl (by have := HQ.out; have := eq_of_beq c2; omega))
              go_wp2_with (go_at_call 76; refine (hcat _).mono ?_; rintro e w' ⟨rfl, rfl⟩)
              go_roundw
              case rel =>
                have h := HS.out
                skip
                exact ⟨pos + wd, k + 1, la, true, lv, m, by go_num, rfl, rfl, HRok.out, h⟩
              case measure =>
                rw [HM.out]
                have := (HRok.out).i
                simp only [World.iterPos, this]
                have := HP.out
                omega
            · by_cases c7 : la < n
              · have hor := rst_or HR.out (by rw [← HN.out]; exact c7)
                rw [← HN.out] at hor
                have ho := or_plus m n hor.2 hor.1 hn0.2
                clear hor
                have HS := Lib.hid (rst_sign HR.out HP.out HD.out (by omega) rfl (by rw [← HN.out]; exact c7))
                go_wp2_with (go_at_call 76; refine (hcat _).mono ?_; rintro e w' ⟨rfl, rfl⟩)
                go_region
                go_wp2
                go_roundw
                case rel =>
                  have h := HS.out
                  rw [← HN.out] at h
                  exact ⟨pos + wd, k + 1, n, false, lv, m + 2 ^ n.toNat, by go_num, rfl, rfl, (HRok.out.mask _).drew, h⟩
                case measure =>
                  rw [HM.out]
                  have := ((HRok.out.mask (m + 2 ^ n.toNat)).drew).i
                  simp only [World.iterPos, this]
                  have := HP.out
                  omega
              · have HB := Lib.hid (readV_none (rst_bad HR.out HP.out HD.out (fun h => by omega) (fun h => by omega) (fun _ => .inr ⟨by have := HQ.out; have : ¬ q = 125 := (fun e => c2 (by rw [e]; rfl)); omega, by rw [← HN.out]; exact c7⟩)))
                go_wp2_with (go_at_call 76; refine (hcat _).mono ?_; rintro e w' ⟨rfl, rfl⟩)
                refine bodyPost_ret (v := readOut s) ?_ rfl ⟨rfl, (HRok.out.put _ _).2⟩
                rw [label_ret rfl _ _ _ _ _ rfl (HRok.out.put _ _).1]
                unfold readOut
                rw [HB.out]
                rfl
          · have HB := Lib.hid (readV_none (rst_bad HR.out HP.out HD.out (fun h => by omega) (fun h => by omega) (fun _ => .inl rfl)))
            go_wp2_with (go_at_call 76; refine (hcat _).mono ?_; rintro e w' ⟨rfl, rfl⟩)
            refine bodyPost_ret (v := readOut s) ?_ rfl ⟨rfl, (HRok.out.put _ _).2⟩
            rw [label_ret rfl _ _ _ _ _ rfl (HRok.out.put _ _).1]
            unfold readOut
            rw [HB.out]
            rfl
    · have hnx : ∀ ty, (Instr.next (.pointer (some ⟨w.heap.size + 2, 0, none⟩)) true ty).run Tryd.prog wr = _ := fun ty => Lib.run_next_end_at wr (w.heap.size + 2) s pos ty hit hp
      have e0 : wr.cell? ⟨w.heap.size, 0, none⟩ = some (.int .i64 0) := blk_cell hI.e 0
      have e1 : wr.cell? ⟨w.heap.size, 1, none⟩ = some (.int .i64 0) := blk_cell hI.e 1
      have f0 := blk_free hI.e 0
      have f1 := blk_free hI.e 1
      have o0 : wr.cell? ⟨w.heap.size + 1, 0, none⟩ = some (.int .i64 lv) := blk_cell hI.o 0
      have o1 : wr.cell? ⟨w.heap.size + 1, 1, none⟩ = some (.int .i64 m) := blk_cell hI.o 1
      have HRok := Lib.hid hI
      have HE := Lib.hid (rst_end HR.out hp)
      clear hI hit
      cases en
      · go_wp2_with fail
        refine bodyPost_ret (v := readOut s) ?_ rfl ⟨rfl, (HRok.out.put _ _).2⟩
        rw [label_ret rfl _ _ _ _ _ rfl (HRok.out.put _ _).1]
        unfold readOut
        rw [readV_none HE.out]
        rfl
      · go_wp2_with fail
        refine bodyPost_ret (v := readOut s) ?_ rfl ⟨rfl, (HRok.out.put _ _).2⟩
        rw [label_ret rfl _ _ _ _ _ rfl (HRok.out.put _ _).1]
        unfold readOut
        rw [readV_some HE.out]
        rfl
end Go.Proofs.YtkjhgfjlknbdkaaDoor
