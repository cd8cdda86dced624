/- What slices' choosePivotCmpFunc and partialInsertionSortCmpFunc do at thirteen to sixteen of a row of timers' numbers. Condition: as in Wheel6. -/
import Derived.Test.YtajhfjgndkdbnaaBig2
import Derived.Test.YtajhfjgndkdbnaaObj
namespace Go.Proofs.Ytajhfjgndkdbnaa
open Go.RowKit BigFrame

section
variable {w0 wr w2 : World} {b : WB} {D : WD} {N bv n c : Nat} {R : List Nat}
theorem OB.new_ (h : SR w0 wr b D N bv n c R) : OB w0 (wr.alloc (.cells #[.int .i64 ((0 : Nat) : Int)] 3)) b bv wr.heap.size 0 := by
  have h1 := h.x.size
  have h2 := (h.o.lt bv rfl).2
  exact ⟨heap_alloc_new _ _, h1, by omega, fun k hk => by have := h.i.lt k hk; omega⟩
set_option maxRecDepth 100000 in
set_option maxHeartbeats 16000000 in
theorem pivot_calls (h : SR w0 wr b D N bv n c R) (hR : ∀ x ∈ R, x < N) (hn : n ≤ 16) (hc : n ≤ c) (hcm : c ≤ maxLen) (a m : Nat) (hm : m ≤ n) (hl : 13 ≤ m - a) :
    Calls Try.prog 48 #[.slice (some ⟨bv, 0, none⟩) n c, .int .i64 a, .int .i64 m, .func (.func 28) #[.pointer (some ⟨b.s, 0, none⟩)] #[]] wr fun e w' =>
      ∃ pv hint : Nat, e = .returned (.tuple #[.int .i64 pv, .int .i64 hint]) ∧ a < pv ∧ pv < m ∧ hint < 2 ∧ SR w0 w' b D N bv n c R := by
  obtain ⟨q, hq1, hq2⟩ : ∃ q : Nat, ((m : Int) - (a : Int)) / 4 = (q : Int) ∧ (q = 3 ∨ q = 4) := ⟨(m - a) / 4, by omega, by omega⟩
  have HA := Lib.hid (h.below (plus_one wr (.cells #[.int .i64 0] 3)))
  have HO := Lib.hid (OB.new_ h)
  have hmed := median_calls HA.out HO.out hR hn hc hcm (by omega) (a + q) (a + q * 2) (a + q * 3) (by omega) (by omega) (by omega)
  simp only [Int.natCast_add, Int.natCast_mul, Int.cast_ofNat_Int] at hmed
  have HMED := Lib.hid hmed
  have hm' : (m : Int) ≤ 16 := by omega
  have haz : (0 : Int) ≤ (a : Int) := Int.natCast_nonneg _
  have hml : (13 : Int) ≤ (m : Int) - (a : Int) := by omega
  have hml2 : (m : Int) - (a : Int) ≤ 16 := by omega
  clear h hR hmed hcm
  go_enter Try.func48, Try.ntmps48
  go_wp2_with fail
  refine HMED.out.mono ?_
  rintro e w1 ⟨m1, s', rfl, hor, hs', h1, ho1⟩
  have ko := blk_cell ho1.c 0
  have H1 := Lib.hid h1
  have HOR := Lib.hid (show a < m1 ∧ m1 < m by omega)
  clear h1 ho1 hor HMED HO HA hq1 hq2
  by_cases hs0 : s' = 0
  · subst hs0
    go_wp2_with fail
    go_ret2
    exact ⟨m1, 1, rfl, HOR.out.1, HOR.out.2, by omega, H1.out⟩
  · have t1 : ((s' : Int) == 0) = false := by simp; omega
    have t2 : ((s' : Int) == 12) = false := by simp; omega
    have t3 : (s' == 0) = false := by simp; omega
    have t4 : (s' == 12) = false := by simp; omega
    go_wp2_with fail
    go_ret2
    exact ⟨m1, 0, rfl, HOR.out.1, HOR.out.2, by omega, H1.out⟩
set_option maxRecDepth 100000 in
set_option maxHeartbeats 16000000 in
/-- It looks whether the part is sorted; of so few it turns nothing. -/
theorem partial_calls (h : SR w0 wr b D N bv n c R) (hR : ∀ x ∈ R, x < N) (hn : n ≤ 16) (hc : n ≤ c) (hcm : c ≤ maxLen) (a m : Nat) (hm : m ≤ n) (ha : a < m) :
    Calls Try.prog 50 #[.slice (some ⟨bv, 0, none⟩) n c, .int .i64 a, .int .i64 m, .func (.func 28) #[.pointer (some ⟨b.s, 0, none⟩)] #[]] wr fun e w' =>
      ∃ ok : Bool, e = .returned (.bool ok) ∧ (ok = true → ∀ (k x y : Nat), a ≤ k → k + 1 < m → R[k]? = some x → R[k + 1]? = some y → wle D x y) ∧ SR w0 w' b D N bv n c R := by
  have H := Lib.hid h
  have HR := Lib.hid hR
  have HLN := Lib.hid h.len
  unfold maxLen at hcm
  have haz : (0 : Int) ≤ (a : Int) := Int.natCast_nonneg _
  have hm' : (m : Int) ≤ 16 := by omega
  clear h hR
  go_enter Try.func50, Try.ntmps50
  go_wp2_with fail
  refine wp_loop_rounds 1 ?_
  rw [rounds_succ]
  go_wp2_with fail
  go_loopw [9] (fun u wv => ∃ i : Nat, u = .int .i64 i ∧ a + 1 ≤ i ∧ i ≤ m ∧ (∀ (k x y : Nat), a ≤ k → k + 1 < i → R[k]? = some x → R[k + 1]? = some y → wle D x y) ∧ SR w0 wv b D N bv n c R) (fun u _ => m - (intOf u).toNat)
  case atStart => exact ⟨a + 1, by go_num, Nat.le_refl _, ha, fun k x y h1 h2 => by omega, H.out⟩
  case round =>
    clear H
    obtain ⟨i, rfl, hi1, hi2, hso, hS⟩ := hrel
    have HS := Lib.hid hS
    have HSO := Lib.hid hso
    have hiz : (0 : Int) ≤ (i : Int) := Int.natCast_nonneg _
    clear hS hso
    by_cases him : i < m
    · obtain ⟨ip, rfl⟩ : ∃ ip, i = ip + 1 := ⟨i - 1, by omega⟩
      have hlen := HLN.out
      obtain ⟨x, hx⟩ : ∃ x, R[ip + 1]? = some x := ⟨_, List.getElem?_eq_getElem (by omega)⟩
      obtain ⟨p, hpp⟩ : ∃ p, R[ip]? = some p := ⟨_, List.getElem?_eq_getElem (by omega)⟩
      have hxN := HR.out x (List.mem_of_getElem? hx)
      have hpN := HR.out p (List.mem_of_getElem? hpp)
      have kx := HS.out.cell hx
      have kp := HS.out.cell hpp
      have hjz : (0 : Int) ≤ (ip : Int) := Int.natCast_nonneg _
      have hjb : (0 : Int) ≤ (ip : Int) + 1 := by omega
      have hjm : (ip : Int) + 1 < (m : Int) := by omega
      have hjmd : decide ((ip : Int) + 1 < (m : Int)) = true := decide_eq_true hjm
      have hjn : (ip : Int) + 1 < (n : Int) := by omega
      have hjn2 : (ip : Int) < (n : Int) := by omega
      have hor := order_calls HS.out.drew.i x p hxN hpN
      have HNEG := Lib.hid (cfW_neg D x p)
      generalize cfW D x p = r at hor HNEG
      have HOR := Lib.hid hor
      have HX := Lib.hid hx
      have HPP := Lib.hid hpp
      have r1 : IntKind.i64.wrap ((ip : Int) + 1) = (ip : Int) + 1 := IntWalk.i64_in _ (by omega)
      have r2 : IntKind.i64.wrap (ip : Int) = (ip : Int) := IntWalk.i64_in _ (by omega)
      have e1 : ((ip : Int) + 1).toNat = ip + 1 := by omega
      clear hx hpp hxN hpN hlen hor
      by_cases hneg : r < 0
      · have hd : decide (r < 0) = true := decide_eq_true hneg
        have hne : ((ip : Int) + 1 == (m : Int)) = false := by simp; omega
        have hl50 : (m : Int) - (a : Int) < 50 := by omega
        go_wp2_with fail
        go_region_held3 (fun w' => w'.cell? ⟨bv, ip + 1, none⟩ = some (.int .i64 x) ∧ w'.cell? ⟨bv, ip, none⟩ = some (.int .i64 p)) (first | go_keep | exact ⟨kx, kp⟩ | exact hkk)
          ((go_at_call 28; refine HOR.out.mono ?_; rintro e w4 ⟨rfl, hb4⟩; have HS4 := Lib.hid (HS.out.drew.below hb4); have hkk := And.intro (HS4.out.cell HX.out) (HS4.out.cell HPP.out); clear hb4))
        all_goals clear kx kp hkk
        all_goals go_wp2_with fail
        all_goals (try simp only [Exit.inBlock, Exit.then])
        all_goals go_ret
        all_goals exact ⟨false, rfl, fun h => (by cases h), HS4.out⟩
      · have hd : decide (r < 0) = false := decide_eq_false hneg
        have HW := Lib.hid (show wle D p x from fun e => hneg (HNEG.out.2 e))
        go_wp2_with fail
        go_region_held3 (fun w' => w'.cell? ⟨bv, ip + 1, none⟩ = some (.int .i64 x) ∧ w'.cell? ⟨bv, ip, none⟩ = some (.int .i64 p)) (first | go_keep | exact ⟨kx, kp⟩ | exact hkk)
          ((go_at_call 28; refine HOR.out.mono ?_; rintro e w4 ⟨rfl, hb4⟩; have HS4 := Lib.hid (HS.out.drew.below hb4); have hkk := And.intro (HS4.out.cell HX.out) (HS4.out.cell HPP.out); clear hb4))
        all_goals go_wp2_with fail
        all_goals go_roundw
        case rel =>
          refine ⟨ip + 1 + 1, by go_num, by omega, by omega, fun k u v h1 h2 hu hv => ?_, HS4.out⟩
          by_cases hk : k + 1 < ip + 1
          · exact HSO.out k u v h1 hk hu hv
          · obtain rfl : k = ip := by omega
            rw [HPP.out] at hu
            rw [HX.out] at hv
            injection hu with hu
            injection hv with hv
            subst hu hv
            exact HW.out
        case measure => simp [intOf]; omega
    · obtain rfl : i = m := by omega
      have hnlt : ¬ (i : Int) < (i : Int) := by omega
      have hjd : decide ((i : Int) < (i : Int)) = false := decide_eq_false hnlt
      go_wp2_with fail
      go_big_quiet (fail)
      go_wp2_with fail
      (try simp only [Exit.inBlock, Exit.then])
      go_ret
      exact ⟨true, rfl, fun _ => HSO.out, HS.out.below (below_draws _ _ _)⟩
end
end Go.Proofs.Ytajhfjgndkdbnaa
