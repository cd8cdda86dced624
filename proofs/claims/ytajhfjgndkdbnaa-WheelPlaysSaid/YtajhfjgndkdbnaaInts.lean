/- parcloseref01.Ints: are two slices of whole numbers the same? Condition: both can be read. -/
import Derived.Test.YtajhfjgndkdbnaaBase
namespace Go.Proofs.Ytajhfjgndkdbnaa
open Go.RowKit

theorem reads_int {w : World} {v : Value} {n : Nat} {l : List Int} (h : Reads w 1 v n (ints l)) : n = l.length ∧ ∃ a cap, v = .slice a n cap ∧ n ≤ cap ∧ cap ≤ maxLen ∧ (0 < n → ∃ b o, a = some ⟨b, o, none⟩ ∧ ∀ (i : Nat) (x : Int), l[i]? = some x → w.cell? ⟨b, o + i, none⟩ = some (.int .i64 x)) := by
  obtain ⟨h1, a, cap, rfl, h2, h3, h4⟩ := h
  rw [ints_len, Nat.mul_one] at h1
  refine ⟨h1.symm, a, cap, rfl, h2, h3, fun hn => ?_⟩
  obtain ⟨b, o, e, hc⟩ := h4 hn
  exact ⟨b, o, e, fun i x hx => hc i _ (by simp [ints, hx])⟩

set_option maxHeartbeats 4000000 in
theorem ints_calls {w : World} {v u : Value} {n m : Nat} {l k : List Int} (hv : Reads w 1 v n (ints l)) (hu : Reads w 1 u m (ints k)) :
    Calls Try.prog 15 #[v, u] w fun e w' => e = .returned (.bool (decide (l = k))) ∧ ∃ q, w' = w.drewN q := by
  obtain ⟨hn, a, c, rfl, h1, h2, h3⟩ := reads_int hv
  obtain ⟨hm, a', c', rfl, h1', h2', h3'⟩ := reads_int hu
  unfold maxLen at h2 h2'
  by_cases hnm : n = m
  · subst hnm
    have HN := Lib.hid hn
    have HM := Lib.hid hm
    have H3 := Lib.hid h3
    have H3' := Lib.hid h3'
    clear hn hm h3 h3' hv hu
    go_enter Try.func15, Try.ntmps15
    go_wp2_with fail
    go_loopw [5] (fun i wr => ∃ j : Nat, j ≤ n ∧ i = .int .i64 j ∧ l.take j = k.take j ∧ ∃ q, wr = w.drewN q) (fun i _ => n - (intOf i).toNat)
    case atStart => exact ⟨0, Nat.zero_le _, by go_num, by simp, 0, rfl⟩
    case round =>
      obtain ⟨j, hj, rfl, he, q, rfl⟩ := hrel
      have HE := Lib.hid he
      clear he
      by_cases hjn : j < n
      · obtain ⟨b, o, rfl, hc⟩ := H3.out (by omega)
        obtain ⟨b', o', rfl, hc'⟩ := H3'.out (by omega)
        obtain ⟨x, hx⟩ : ∃ x, l[j]? = some x := ⟨_, List.getElem?_eq_getElem (by rw [← HN.out]; exact hjn)⟩
        obtain ⟨y, hy⟩ : ∃ y, k[j]? = some y := ⟨_, List.getElem?_eq_getElem (by rw [← HM.out]; exact hjn)⟩
        have e1 := hc j x hx
        have e2 := hc' j y hy
        have HX := Lib.hid hx
        have HY := Lib.hid hy
        have i0 : (0 : Int) ≤ (j : Int) := Int.natCast_nonneg _
        have i1 : (j : Int) < (n : Int) := by omega
        clear hc hc' hx hy
        by_cases hxy : x = y
        · have HXY := Lib.hid hxy
          have hb : (x != y) = false := by rw [hxy]; simp
          clear hxy
          go_wp2_with fail
          go_quiet (fail)
          go_wp2
          go_roundw
          case rel => exact ⟨j + 1, by omega, by go_num, by rw [List.take_add_one, List.take_add_one, HE.out, HX.out, HY.out, HXY.out], _, rfl⟩
          case measure => simp [intOf]; omega
        · have HXY := Lib.hid hxy
          have hb : (x != y) = true := by simpa [bne_iff_ne] using hxy
          clear hxy
          go_wp2_with fail
          go_quiet (fail)
          go_wp2
          go_ret
          refine ⟨?_, _, World.drewN_drewN ..⟩
          rw [decide_eq_false (by
            rintro rfl
            have h := HX.out
            rw [HY.out] at h
            injection h with h
            exact HXY.out h.symm)]
          rfl
      · obtain rfl : j = n := by omega
        go_wp2
        go_ret
        refine ⟨?_, q, rfl⟩
        have := HE.out
        rw [List.take_of_length_le (by rw [HN.out]; exact Nat.le_refl _), List.take_of_length_le (by rw [HM.out]; exact Nat.le_refl _)] at this
        rw [decide_eq_true this]
        rfl
  · have hb : ((n : Int) != (m : Int)) = true := by rw [bne_iff_ne]; omega
    have HN := Lib.hid hn
    have HM := Lib.hid hm
    have HNM := Lib.hid hnm
    clear hn hm h3 h3' hv hu hnm
    go_enter Try.func15, Try.ntmps15
    go_wp2
    go_ret
    refine ⟨?_, 0, rfl⟩
    rw [decide_eq_false (by
      rintro rfl
      exact HNM.out (HN.out.trans HM.out.symm))]
    rfl
end Go.Proofs.Ytajhfjgndkdbnaa
