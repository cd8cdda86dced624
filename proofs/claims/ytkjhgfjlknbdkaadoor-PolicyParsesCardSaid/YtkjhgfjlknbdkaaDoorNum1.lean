/- What policy.number does. Condition: the library's table of powers of ten is laid (Tab). -/
import Derived.Test.YtkjhgfjlknbdkaaDoorLex3
namespace Go.Proofs.YtkjhgfjlknbdkaaDoor
open Go.RowKit BigFrame Go.Sort

/-- The table that the library's Itoa reads. -/
def Tab (w : World) : Prop := Lib.TabIs Tryd.prog w "internal/strconv.uint64pow10" .u64 Lib.pow10Tab
theorem tab_global : ∃ g, Tryd.prog.globalNamed "internal/strconv.uint64pow10" = some g := by
  have h : (Tryd.prog.globalNamed "internal/strconv.uint64pow10").isSome = true := by kernel_rfl
  exact Option.isSome_iff_exists.1 h
theorem Tab.below {w w' : World} (h : Tab w) (hb : Below w.heap.size w w') : Tab w' := by
  obtain ⟨g, hg⟩ := tab_global
  unfold Tab Lib.TabIs World.var? at h ⊢
  rw [hg] at h ⊢
  simp only [Option.bind_some] at h ⊢
  have hlt : g < w.heap.size := by
    by_cases h' : g < w.heap.size
    · exact h'
    · rw [Array.getElem?_eq_none (by omega)] at h
      cases h
  rw [hb.block g hlt]
  exact h
theorem below_grew (w : World) (k : Nat) (os : Array Obj) : Below w.heap.size w (grow (w.drewN k) os) :=
  ⟨rfl, rfl, rfl, by simp [grow], fun j hj => heap_grow_old (w.drewN k) os (show j < (w.drewN k).heap.size from hj)⟩
theorem itoa_calls (n : Int) (h0 : 0 ≤ n) (h1 : n ≤ 9999) (w : World) (ht : Tab w) :
    Calls Tryd.prog 37 #[.int .i64 n] w fun e w' => e = .returned (.string ⟨(Lib.itoa n).toArray⟩) ∧ Below w.heap.size w w' :=
  (Tryd.strconv_Itoa n (by omega) (by omega) w ht).mono fun _ _ ⟨e1, k, os, e2⟩ => ⟨e1, by rw [e2]; exact below_grew w k os⟩
theorem empty_list : ByteArray.empty.toList = [] := by rw [ByteArray.toList_eq]; rfl
/-- A number, rune by rune; none: it is none. -/
def numRun (s : ByteArray) : Nat → Nat → Int → Option Int
  | 0, _, n => some n
  | f + 1, pos, n => if pos < s.size then
      (if ((Utf8.decode s pos).1 : Int) < 48 ∨ 57 < ((Utf8.decode s pos).1 : Int) then none
      else if 9999 < n * 10 + (((Utf8.decode s pos).1 : Int) - 48) then none
      else numRun s f (pos + (Utf8.decode s pos).2) (n * 10 + (((Utf8.decode s pos).1 : Int) - 48)))
    else some n
theorem numRun_end {s : ByteArray} {f pos : Nat} {n : Int} (h : ¬ pos < s.size) : numRun s f pos n = some n := by
  cases f with
  | zero => rfl
  | succ f => rw [numRun, if_neg h]
def numOk (s : ByteArray) (n : Int) : Bool := !(decide (s = ByteArray.empty)) && (decide (s.size ≤ 4) && decide ((⟨(Lib.itoa n).toArray⟩ : ByteArray) = s))
def numM (s : ByteArray) : Int × Bool := match numRun s s.size 0 0 with
  | none => (0, false)
  | some n => (n, numOk s n)
set_option maxRecDepth 100000 in
set_option maxHeartbeats 16000000 in
theorem number_calls (s : ByteArray) (hs : s.size ≤ 140737488351232) (w : World) (ht : Tab w) :
    Calls Tryd.prog 77 #[.string s] w fun e w' => e = .returned (.tuple #[.int .i64 (numM s).1, .bool (numM s).2]) ∧ Below w.heap.size w w' := by
  have HT := Lib.hid ht
  have HM := Lib.hid (show numM s = match numRun s s.size 0 0 with | none => (0, false) | some n => (n, numOk s n) from rfl)
  clear ht
  go_enter Tryd.func77, Tryd.ntmps77
  go_wp2_with fail
  go_loopw [4] (fun u wr => ∃ (pos fuel : Nat) (n : Int), u = .int .i64 n ∧ 0 ≤ n ∧ n ≤ 9999 ∧ wr.heap[w.heap.size]? = some (.stringIter s pos) ∧ Below w.heap.size w wr ∧ numRun s s.size 0 0 = numRun s fuel pos n ∧ s.size ≤ pos + fuel) (fun _ wr => s.size - wr.iterPos w.heap.size)
  case atStart => exact ⟨0, s.size, 0, rfl, by omega, by omega, World.iter_heap w s 0, (Below.refl _ _).alloc (Nat.le_refl _) _, rfl, by omega⟩
  case round =>
    obtain ⟨pos, fuel, n, rfl, hn0, hn1, hit, hbw, hru, hfu⟩ := hrel
    have HR := Lib.hid hru
    clear hru
    by_cases hp : pos < s.size
    · obtain ⟨⟨r, wd⟩, hd⟩ : ∃ d, Utf8.decode s pos = d := ⟨_, rfl⟩
      have hnx := next_rune wr w.heap.size s pos r wd hit hp hd
      have hr := decode_le s pos
      rw [hd] at hr
      simp only at hr
      have hwd := rst_wd hp hd
      obtain ⟨f, rfl⟩ : ∃ f, fuel = f + 1 := ⟨fuel - 1, by omega⟩
      have hM := HR.out
      rw [numRun, if_pos hp, hd] at hM
      simp only at hM
      have hit2 := Lib.iterAt_heap wr w.heap.size s pos (pos + wd) hit
      have hbw2 := Lib.below_iterAt hbw (k := w.heap.size) (Nat.le_refl _) s (pos + wd)
      obtain ⟨q, hq⟩ : ∃ q : Int, q = (r : Int) := ⟨_, rfl⟩
      rw [← hq] at hnx hM
      have hq0 : 0 ≤ q := by omega
      have hq1 : q ≤ 2147483647 := by omega
      have HMM := Lib.hid hM
      have HFU := Lib.hid (show s.size ≤ pos + wd + f by omega)
      have HPOS := Lib.hid (show wr.iterPos w.heap.size = pos by simp only [World.iterPos, hit])
      have HMEA := Lib.hid (show s.size - (pos + wd) < s.size - pos by omega)
      have HI2 := Lib.hid hit2
      have HB2 := Lib.hid hbw2
      generalize wr.iterAt w.heap.size s (pos + wd) = W at hnx HI2 HB2
      clear HR hM hq hr hd hfu hit hbw hit2 hbw2
      by_cases hbad : q < 48 ∨ 57 < q
      · have HV := Lib.hid (show numM s = (0, false) by rw [HM.out, HMM.out, if_pos hbad])
        clear HMM
        rcases hbad with hb | hb
        · go_wp2_with fail
          go_ret2
          rw [HV.out]
          exact ⟨rfl, HB2.out⟩
        · have hb2 : ¬ q < 48 := by omega
          go_wp2_with fail
          go_ret2
          rw [HV.out]
          exact ⟨rfl, HB2.out⟩
      · have hb1 : ¬ q < 48 := by omega
        have hb2 : ¬ 57 < q := by omega
        have HM2 := Lib.hid (show numRun s s.size 0 0 = if 9999 < n * 10 + (q - 48) then none else numRun s f (pos + wd) (n * 10 + (q - 48)) by rw [HMM.out, if_neg hbad])
        clear HMM hbad
        have u1 : q - 48 ≤ 9 := by omega
        have u0 : 0 ≤ q - 48 := by omega
        by_cases hbig : 9999 < n * 10 + (q - 48)
        · have HV := Lib.hid (show numM s = (0, false) by rw [HM.out, HM2.out, if_pos hbig])
          go_wp2_with fail
          go_ret2
          rw [HV.out]
          exact ⟨rfl, HB2.out⟩
        · have HM3 := Lib.hid (show numRun s s.size 0 0 = numRun s f (pos + wd) (n * 10 + (q - 48)) by rw [HM2.out, if_neg hbig])
          have u2 : 0 ≤ n * 10 + (q - 48) := by omega
          have u3 : n * 10 + (q - 48) ≤ 9999 := by omega
          have HU := Lib.hid (And.intro u2 u3)
          clear u2 u3
          go_wp2_with fail
          go_roundw
          case rel => exact ⟨pos + wd, f, _, rfl, HU.out.1, HU.out.2, HI2.out, HB2.out, HM3.out, HFU.out⟩
          case measure => rw [iterPos_of HI2.out, HPOS.out]; exact HMEA.out
    · have hnx : ∀ ty, (Instr.next (.pointer (some ⟨w.heap.size, 0, none⟩)) true ty).run Tryd.prog wr = _ := fun ty => Lib.run_next_end_at wr w.heap.size s pos ty hit hp
      have HV := Lib.hid (show numM s = (n, numOk s n) by rw [HM.out, HR.out, numRun_end hp])
      have HOK := Lib.hid (show numOk s n = (!(decide (s = ByteArray.empty)) && (decide (s.size ≤ 4) && decide ((⟨(Lib.itoa n).toArray⟩ : ByteArray) = s))) from rfl)
      have HB := Lib.hid hbw
      have HIT := Lib.hid (itoa_calls n hn0 hn1 wr (HT.out.below hbw))
      have HTL := Lib.hid (tl_eq (⟨(Lib.itoa n).toArray⟩ : ByteArray) s)
      have HEM := Lib.hid (tl_eq s ByteArray.empty)
      generalize numOk s n = ok at HV HOK
      generalize (⟨(Lib.itoa n).toArray⟩ : ByteArray) = t at HOK HIT HTL
      clear hit hbw HR HM
      by_cases he : s = ByteArray.empty
      · have HO := Lib.hid (show ok = false by rw [HOK.out, decide_eq_true he]; rfl)
        have e3 : s.toList.isEmpty = true := by rw [he, empty_list]; rfl
        clear he
        go_wp2_with fail
        go_ret2
        rw [HV.out, HO.out]
        exact ⟨rfl, HB.out⟩
      · have e3 : s.toList.isEmpty = false := by
          have h1 : (s.toList == ByteArray.empty.toList) = false := by rw [HEM.out]; exact decide_eq_false he
          rw [empty_list] at h1
          cases hl : s.toList with
          | nil => rw [hl] at h1; simp at h1
          | cons a l => rfl
        by_cases h4 : s.size ≤ 4
        · have h4' : (s.size : Int) ≤ 4 := by omega
          have HO := Lib.hid (show ok = decide (t = s) by rw [HOK.out, decide_eq_false he, decide_eq_true h4]; rfl)
          clear he
          cases hts : (t.toList == s.toList) with
          | true =>
            have HO2 := Lib.hid (show ok = true by rw [HO.out, ← HTL.out, hts])
            go_wp2_with fail
            refine HIT.out.mono ?_
            rintro e w5 ⟨rfl, hb5⟩
            have HB5 := Lib.hid (HB.out.trans (hb5.mono HB.out.size))
            clear hb5
            go_wp2_with fail
            go_ret2
            rw [HV.out, HO2.out]
            exact ⟨rfl, HB5.out⟩
          | false =>
            have HO2 := Lib.hid (show ok = false by rw [HO.out, ← HTL.out, hts])
            go_wp2_with fail
            refine HIT.out.mono ?_
            rintro e w5 ⟨rfl, hb5⟩
            have HB5 := Lib.hid (HB.out.trans (hb5.mono HB.out.size))
            clear hb5
            go_wp2_with fail
            go_ret2
            rw [HV.out, HO2.out]
            exact ⟨rfl, HB5.out⟩
        · have h4' : ¬ (s.size : Int) ≤ 4 := by omega
          have HO := Lib.hid (show ok = false by rw [HOK.out, decide_eq_false h4, decide_eq_false he]; rfl)
          clear he
          go_wp2_with fail
          go_ret2
          rw [HV.out, HO.out]
          exact ⟨rfl, HB.out⟩
end Go.Proofs.YtkjhgfjlknbdkaaDoor
