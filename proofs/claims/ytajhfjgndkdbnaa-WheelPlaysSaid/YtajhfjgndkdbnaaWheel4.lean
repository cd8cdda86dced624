/- What wheel's Next does, and what the nil one answers. Condition of Next: the timers lie in memory (IsM). -/
import Derived.Test.YtajhfjgndkdbnaaWheel3
import Derived.Test.YtajhfjgndkdbnaaFifoAll2
namespace Go.Proofs.Ytajhfjgndkdbnaa
open Go.RowKit BigFrame

section
variable {w w' : World} {b : WB} {N n : Nat} {M : List (Int × Nat)}
theorem take_flat {L : List (List Nat)} {n : Nat} {l : List Nat} (hl : L[n]? = some l) : (L.take (n + 1)).flatten = (L.take n).flatten ++ l := by
  rw [List.take_add_one, hl, Option.toList_some, List.flatten_append]
  simp
theorem allL_get {L : List (List Nat)} {n : Nat} {l : List Nat} (hl : L[n]? = some l) : allL L n = l := by
  unfold allL
  rw [if_neg (by omega), Int.toNat_natCast, hl]
/-- A row of numbers that was handed over: nil, or somewhere; its cells. -/
theorem reads_nat {w : World} {v : Value} {l : List Nat} (h : Reads w 1 v l.length (ints (asInts l))) : ∃ a c, v = .slice a l.length c ∧ l.length ≤ c ∧ c ≤ maxLen ∧ (0 < l.length → ∃ b o, a = some ⟨b, o, none⟩ ∧ ∀ (i x : Nat), l[i]? = some x → w.cell? ⟨b, o + i, none⟩ = some (.int .i64 x)) := by
  obtain ⟨h1, a, c, rfl, h2, h3, h4⟩ := h
  refine ⟨a, c, rfl, h2, h3, fun hn => ?_⟩
  obtain ⟨b, o, e, hc⟩ := h4 hn
  exact ⟨b, o, e, fun i x hx => hc i _ (by simp [ints, asInts, hx])⟩
set_option maxRecDepth 100000 in
set_option maxHeartbeats 8000000 in
theorem wnext_calls (h : IsM w b N M n) :
    Calls Try.prog 11 #[.pointer (some ⟨b.s, 0, none⟩)] w fun e w' => e = .returned (.tuple #[.int .i64 (nextM M).1, .bool (nextM M).2]) ∧ Below w.heap.size w w' := by
  obtain ⟨D, h1, h2, h3, h4⟩ := h
  rw [← h2.next]
  have HM := Lib.hid h2
  have H1 := Lib.hid h1
  have hN := h1.small
  have HL16 := Lib.hid h2.l16
  have HAL := Lib.hid h1.al
  clear h1 h2 h3 h4
  go_enter Try.func11, Try.ntmps11
  go_wp2_with fail
  go_loopw [4, 5, 13] (fun u4 u5 u13 wr => ∃ (k : Nat) (s : Int × Bool), u13 = .int .i64 k ∧ k ≤ 16 ∧ u4 = .int .i64 s.1 ∧ u5 = .bool s.2 ∧ s = (D.L.take k).flatten.foldl (nextStep D.at_) (0, false) ∧ Below w.heap.size w wr) (fun _ _ u _ => 16 - (intOf u).toNat)
  case atStart => exact ⟨0, (0, false), rfl, Nat.zero_le _, rfl, rfl, rfl, Below.refl _ _⟩
  case round =>
    obtain ⟨k, s, rfl, hk, rfl, rfl, hs, hb⟩ := hrel
    have HS := Lib.hid hs
    have HB := Lib.hid hb
    have hkz : (0 : Int) ≤ (k : Int) := Int.natCast_nonneg _
    clear hs hb
    by_cases hk16 : k < 16
    · have hk16' : (k : Int) < 16 := by omega
      obtain ⟨l, hl⟩ : ∃ l, D.L[k]? = some l := ⟨_, List.getElem?_eq_getElem (by rw [HL16.out]; exact hk16)⟩
      have hW := H1.out.below HB.out
      have c0 := hW.c0
      have hall := all_calls hW.fi k
      rw [allL_get hl] at hall
      have HALL := Lib.hid hall
      have HLK := Lib.hid hl
      have HW := Lib.hid hW
      have hlN := isF_len hW.fi hl
      clear hall hl hW
      go_wp2_with fail
      refine HALL.out.mono ?_
      rintro e w2 ⟨v, rfl, hv, -, hb2⟩
      obtain ⟨a, c, rfl, q1, q2, q3⟩ := reads_nat hv
      have hW2 := HW.out.below hb2
      have c1 := hW2.c1
      have HW2 := Lib.hid hW2
      have HB2 := Lib.hid (HB.out.trans (hb2.mono HB.out.size))
      have HQ := Lib.hid q3
      unfold maxLen at q2
      obtain ⟨m, hm⟩ : ∃ m, m = l.length := ⟨_, rfl⟩
      rw [← hm] at q1 hlN HQ ⊢
      have HMM := Lib.hid hm
      have HS0 := Lib.hid (show s = ((D.L.take k).flatten ++ l.take 0).foldl (nextStep D.at_) (0, false) by simpa using HS.out)
      clear hv hb2 hW2 q3 hm c0 HS HALL
      go_wp2_with fail
      go_loop [4, 5, 23] (fun u4 u5 u23 => ∃ (j : Nat) (s : Int × Bool), u23 = .int .i64 j ∧ j ≤ m ∧ u4 = .int .i64 s.1 ∧ u5 = .bool s.2 ∧ s = ((D.L.take k).flatten ++ l.take j).foldl (nextStep D.at_) (0, false)) (fun _ _ u => m - (intOf u).toNat)
      case atStart => exact ⟨0, s, rfl, Nat.zero_le _, rfl, rfl, HS0.out⟩
      case round =>
        clear HS0
        obtain ⟨j, s2, rfl, hj, rfl, rfl, hs2⟩ := hrel
        have HS2 := Lib.hid hs2
        have hjz : (0 : Int) ≤ (j : Int) := Int.natCast_nonneg _
        clear hs2
        by_cases hjm : j < m
        · have hjm' : (j : Int) < (m : Int) := by omega
          obtain ⟨x, hx⟩ : ∃ x, l[j]? = some x := ⟨_, List.getElem?_eq_getElem (by rw [← HMM.out]; exact hjm)⟩
          have hxN := (isF_where HW2.out.fi HLK.out (List.mem_of_getElem? hx)).2
          obtain ⟨bv, o, rfl, hcell⟩ := HQ.out (by omega)
          have kx := hcell j x hx
          obtain ⟨y, hy⟩ : ∃ y, D.at_[x]? = some y := ⟨_, List.getElem?_eq_getElem (by rw [HAL.out]; exact hxN)⟩
          have ky := owns_int HW2.out.at_ hy
          have hxz : (0 : Int) ≤ (x : Int) := Int.natCast_nonneg _
          have hxN' : (x : Int) < (N : Int) := by omega
          have hst : ((D.L.take k).flatten ++ l.take (j + 1)).foldl (nextStep D.at_) (0, false) = nextStep D.at_ s2 x := by
            rw [List.take_add_one, hx, Option.toList_some, ← List.append_assoc, List.foldl_append, ← HS2.out]
            rfl
          have hyd : D.at_.getD x 0 = y := by rw [List.getD_eq_getElem?_getD, hy]; rfl
          unfold nextStep at hst
          rw [hyd] at hst
          have HST := Lib.hid hst
          clear hcell hx hy hst hyd
          obtain ⟨s1, ok⟩ := s2
          cases ok with
          | false =>
            go_wp2_with fail
            go_round
            case rel => exact ⟨j + 1, (y, true), by go_num, by omega, rfl, rfl, by have := HST.out; simp only [true_or, if_true] at this; exact this.symm⟩
            case measure => simp [intOf]; omega
          | true =>
            by_cases hlt : y < s1
            · go_wp2_with fail
              go_round
              case rel => exact ⟨j + 1, (y, true), by go_num, by omega, rfl, rfl, by have := HST.out; rw [if_pos (.inr hlt)] at this; exact this.symm⟩
              case measure => simp [intOf]; omega
            · go_wp2_with fail
              go_round
              case rel => exact ⟨j + 1, (s1, true), by go_num, by omega, rfl, rfl, by have := HST.out; rw [if_neg (by simp; omega)] at this; exact this.symm⟩
              case measure => simp [intOf]; omega
        · obtain rfl : j = m := by omega
          have hjm' : ¬ (j : Int) < (j : Int) := by omega
          have HF := Lib.hid (show s2 = (D.L.take (k + 1)).flatten.foldl (nextStep D.at_) (0, false) by
            rw [take_flat HLK.out]
            have := HS2.out
            rwa [List.take_of_length_le (l := l) (by rw [← HMM.out]; exact Nat.le_refl _)] at this)
          go_wp2_with fail
          go_roundw
          case rel => exact ⟨k + 1, s2, by go_num, by omega, rfl, rfl, HF.out, HB2.out⟩
          case measure => simp [intOf]; omega
    · have hk16' : ¬ (k : Int) < 16 := by omega
      go_wp2_with fail
      go_ret2
      have hs := HS.out
      rw [List.take_of_length_le (by rw [HL16.out]; omega)] at hs
      unfold nextF
      rw [← hs]
      exact ⟨rfl, HB.out⟩
end
theorem wset_nil (x t : Int) (w : World) : Calls Try.prog 9 #[.pointer none, .int .i64 x, .int .i64 t] w fun e w' => e = .returned (.bool false) ∧ w = w' := by
  go_enter Try.func9, Try.ntmps9
  go_wp2_with fail
  go_ret
  exact ⟨rfl, rfl⟩
theorem wstop_nil (x : Int) (w : World) : Calls Try.prog 13 #[.pointer none, .int .i64 x] w fun e w' => e = .returned (.bool false) ∧ w = w' := by
  go_enter Try.func13, Try.ntmps13
  go_wp2_with fail
  go_ret
  exact ⟨rfl, rfl⟩
theorem wat_nil (x : Int) (w : World) : Calls Try.prog 20 #[.pointer none, .int .i64 x] w fun e w' => e = .returned (.tuple #[.int .i64 0, .bool false]) ∧ w = w' := by
  go_enter Try.func20, Try.ntmps20
  go_wp2_with fail
  go_ret2
  exact ⟨rfl, rfl⟩
theorem wnext_nil (w : World) : Calls Try.prog 11 #[.pointer none] w fun e w' => e = .returned (.tuple #[.int .i64 0, .bool false]) ∧ w = w' := by
  go_enter Try.func11, Try.ntmps11
  go_wp2_with fail
  go_ret2
  exact ⟨rfl, rfl⟩
theorem wdue_nil (x : Int) (w : World) : Calls Try.prog 10 #[.pointer none, .int .i64 x] w fun e w' => e = .returned (.slice none 0 0) ∧ w = w' := by
  go_enter Try.func10, Try.ntmps10
  go_wp2_with fail
  go_ret
  exact ⟨rfl, rfl⟩
end Go.Proofs.Ytajhfjgndkdbnaa
