/- slices.insertionSortCmpFunc and pdqsortCmpFunc (twelve or fewer) at a part of a row of timers' numbers, by wheel's order. Condition: as in Wheel6. -/
import Derived.Test.YtajhfjgndkdbnaaWheel6
namespace Go.Proofs.Ytajhfjgndkdbnaa
open Go.RowKit BigFrame

theorem mid_get {α : Type} {A S C : List α} {j : Nat} (h1 : A.length ≤ j) (h2 : j < A.length + S.length) : (A ++ S ++ C)[j]? = S[j - A.length]? := by
  rw [List.append_assoc, List.getElem?_append_right h1, List.getElem?_append_left (by omega)]
theorem mid_set {α : Type} {A S C : List α} {j : Nat} {x : α} (h1 : A.length ≤ j) (h2 : j < A.length + S.length) : (A ++ S ++ C).set j x = A ++ S.set (j - A.length) x ++ C := by
  rw [List.append_assoc, List.set_append_right _ _ h1, List.set_append_left _ _ (by omega), List.append_assoc]
section
variable {w0 wr : World} {b : WB} {D : WD} {N bv n c : Nat} {A S C : List Nat}
set_option maxRecDepth 100000 in
set_option maxHeartbeats 16000000 in
theorem insertionG_calls (h : SR w0 wr b D N bv n c (A ++ S ++ C)) (hR : ∀ x ∈ S, x < N) (hn : n ≤ 16) (hc : n ≤ c) (hcm : c ≤ maxLen) {a m : Nat} (ha : a = A.length) (hm : m = A.length + S.length) :
    Calls Try.prog 45 #[.slice (some ⟨bv, 0, none⟩) n c, .int .i64 a, .int .i64 m, .func (.func 28) #[.pointer (some ⟨b.s, 0, none⟩)] #[]] wr fun e w' => e = .returned (.tuple #[]) ∧ ∃ S', S'.Perm S ∧ S'.Pairwise (wle D) ∧ SR w0 w' b D N bv n c (A ++ S' ++ C) := by
  have H := Lib.hid h
  have HR := Lib.hid hR
  have hln := h.len
  simp only [List.length_append] at hln
  have HLN := Lib.hid hln
  have hmn : m ≤ n := by omega
  have ham : a ≤ m := by omega
  unfold maxLen at hcm
  have HA := Lib.hid ha
  have HM := Lib.hid hm
  have haz : (0 : Int) ≤ (a : Int) := Int.natCast_nonneg _
  clear h hR hln ha hm
  go_enter Try.func45, Try.ntmps45
  go_wp2_with fail
  go_loopw [8] (fun u w1 => ∃ (i : Nat) (S1 : List Nat), u = .int .i64 i ∧ a + 1 ≤ i ∧ i ≤ m + 1 ∧ S1.Perm S ∧ (S1.take (i - a)).Pairwise (wle D) ∧ SR w0 w1 b D N bv n c (A ++ S1 ++ C)) (fun u _ => m + 1 - (intOf u).toNat)
  case atStart =>
    refine ⟨a + 1, S, by go_num, Nat.le_refl _, by omega, List.Perm.refl _, ?_, H.out⟩
    rw [show a + 1 - a = 1 by omega]
    cases S with
    | nil => simp
    | cons x R => simp
  case round =>
    clear H
    obtain ⟨i, R1, rfl, hi1, hi2, hp, hs, hS⟩ := hrel
    have HP := Lib.hid hp
    have HSO := Lib.hid hs
    have HS := Lib.hid hS
    have HL1 := Lib.hid hp.length_eq
    have hiz : (0 : Int) ≤ (i : Int) := Int.natCast_nonneg _
    clear hp hs hS
    by_cases hin : i < m
    · have hin' : (i : Int) < (m : Int) := by omega
      have hI : Inn D S R1 (i - a) (i - a) := Inn.start HP.out HSO.out (by have := HA.out; have := HM.out; have := HL1.out; omega)
      have HI := Lib.hid hI
      clear hI
      go_wp2_with fail
      go_loopw [9] (fun u wv => ∃ (j : Nat) (R2 : List Nat), u = .int .i64 j ∧ a ≤ j ∧ j ≤ i ∧ Inn D S R2 (i - a) (j - a) ∧ SR w0 wv b D N bv n c (A ++ R2 ++ C)) (fun u _ => (intOf u).toNat)
      case atStart => exact ⟨i, R1, rfl, by omega, Nat.le_refl _, HI.out, HS.out⟩
      case round =>
        clear HI HS HP HSO HL1
        obtain ⟨j, R2, rfl, haj, hj, hI, hS⟩ := hrel
        have HI := Lib.hid hI
        have HS := Lib.hid hS
        clear hI hS
        by_cases hj0 : a < j
        · obtain ⟨jp, rfl⟩ : ∃ jp, j = jp + 1 := ⟨j - 1, by omega⟩
          have hlen : R2.length = S.length := HI.out.len.1
          have g1 : jp + 1 < A.length + R2.length := by have := HA.out; have := HM.out; omega
          have g2 : A.length ≤ jp := by have := HA.out; omega
          have hsub : jp + 1 - A.length = (jp - A.length) + 1 := by omega
          obtain ⟨x, hx⟩ : ∃ x, R2[jp - A.length + 1]? = some x := ⟨_, List.getElem?_eq_getElem (by omega)⟩
          obtain ⟨p, hpp⟩ : ∃ p, R2[jp - A.length]? = some p := ⟨_, List.getElem?_eq_getElem (by omega)⟩
          have hxN := HR.out x ((HI.out.sub x).1 (List.mem_of_getElem? hx))
          have hpN := HR.out p ((HI.out.sub p).1 (List.mem_of_getElem? hpp))
          have hxA : (A ++ R2 ++ C)[jp + 1]? = some x := by rw [mid_get (by omega) g1, hsub]; exact hx
          have hpA : (A ++ R2 ++ C)[jp]? = some p := by rw [mid_get g2 (by omega)]; exact hpp
          have kx := HS.out.cell hxA
          have kp := HS.out.cell hpA
          have fx := HS.out.o.frozenAt (jp + 1)
          have fp := HS.out.o.frozenAt jp
          have hjz : (0 : Int) ≤ (jp : Int) := Int.natCast_nonneg _
          have hj1 : (a : Int) < (jp : Int) + 1 := by omega
          have hj1d : decide ((a : Int) < (jp : Int) + 1) = true := decide_eq_true hj1
          have hj1n : a < jp + 1 := by omega
          have hj1b : (0 : Int) ≤ (jp : Int) + 1 := by omega
          have hjn : (jp : Int) + 1 < (n : Int) := by have := HA.out; have := HM.out; omega
          have hjn2 : (jp : Int) < (n : Int) := by omega
          have hor := fun (u : World) (hu : SR w0 u b D N bv n c (A ++ R2 ++ C)) => order_calls hu.i x p hxN hpN
          obtain ⟨r, hr⟩ : ∃ r, r = cfW D x p := ⟨_, rfl⟩
          rw [← hr] at hor
          have HOR := Lib.hid (hor wr.drew HS.out.drew)
          have HNEG := Lib.hid (show r < 0 ↔ wl D x p by rw [hr]; exact cfW_neg D x p)
          have HX := Lib.hid hx
          have HPP := Lib.hid hpp
          have HXA := Lib.hid hxA
          have HPA := Lib.hid hpA
          have HG := Lib.hid (And.intro g1 (And.intro g2 hsub))
          have r1 : IntKind.i64.wrap ((jp : Int) + 1) = (jp : Int) + 1 := IntWalk.i64_in _ (by omega)
          have r2 : IntKind.i64.wrap (jp : Int) = (jp : Int) := IntWalk.i64_in _ (by omega)
          have e1 : ((jp : Int) + 1).toNat = jp + 1 := by omega
          have hja : jp + 1 - a = (jp - A.length) + 1 := by rw [HA.out]; exact hsub
          have HJA := Lib.hid hja
          clear hx hpp hxA hpA hor hr hxN hpN hlen g1 g2 hsub hja
          by_cases hneg : r < 0
          · have hd : decide (r < 0) = true := decide_eq_true hneg
            have HWL := Lib.hid (HNEG.out.1 hneg)
            go_wp2_with fail
            go_region_held3 (fun w' => w'.cell? ⟨bv, jp + 1, none⟩ = some (.int .i64 x) ∧ w'.cell? ⟨bv, jp, none⟩ = some (.int .i64 p)) (first | go_keep | exact ⟨kx, kp⟩ | exact hkk)
              ((go_at_call 28; refine HOR.out.mono ?_; rintro e w4 ⟨rfl, hb4⟩; have HS4 := Lib.hid (HS.out.drew.below hb4); have hkk := And.intro (HS4.out.cell HXA.out) (HS4.out.cell HPA.out); clear hb4))
            all_goals go_wp2_with fail
            clear kx kp fx fp HOR
            have kx := HS4.out.cell HXA.out
            have kp := HS4.out.cell HPA.out
            have fx := HS4.out.o.frozenAt (jp + 1)
            have fp := HS4.out.o.frozenAt jp
            have kp2 := (HS4.out.set (jp + 1) p).cell (i := jp) (x := p) (by rw [List.getElem?_set_ne (by omega)]; exact HPA.out)
            clear hkk hd hneg
            go_big_region
            have hS5 := ((HS4.out.set (jp + 1) p).set jp x).drew
            rw [mid_set (by have := HG.out; omega) HG.out.1, mid_set HG.out.2.1 (by rw [List.length_set]; have := HG.out; omega), HG.out.2.2] at hS5
            have HS5 := Lib.hid hS5
            have hI5 := HI.out
            rw [HJA.out] at hI5
            have HI5 := Lib.hid (hI5.step HX.out HPP.out HWL.out)
            clear kx kp fx fp kp2 hS5 hI5
            go_wp2_with fail
            go_roundw
            case rel => exact ⟨jp, _, rfl, by omega, by omega, by have := HI5.out; rw [show jp - a = jp - A.length by rw [HA.out]]; exact this, HS5.out⟩
            case measure => simp [intOf] <;> omega
          · have hd : decide (r < 0) = false := decide_eq_false hneg
            have hI5 := HI.out
            rw [HJA.out] at hI5
            have hst := hI5.stop (.inr ⟨jp - A.length, x, p, rfl, HX.out, HPP.out, fun e => hneg (HNEG.out.2 e)⟩)
            have HST := Lib.hid hst
            clear hst hI5
            go_wp2_with fail
            go_region_held3 (fun w' => w'.cell? ⟨bv, jp + 1, none⟩ = some (.int .i64 x) ∧ w'.cell? ⟨bv, jp, none⟩ = some (.int .i64 p)) (first | go_keep | exact ⟨kx, kp⟩ | exact hkk)
              ((go_at_call 28; refine HOR.out.mono ?_; rintro e w4 ⟨rfl, hb4⟩; have HS4 := Lib.hid (HS.out.drew.below hb4); have hkk := And.intro (HS4.out.cell HXA.out) (HS4.out.cell HPA.out); clear hb4))
            all_goals go_wp2_with fail
            all_goals go_roundw
            case rel => exact ⟨i + 1, R2, by go_num, by omega, by omega, HST.out.1, by rw [show i + 1 - a = i - a + 1 by omega]; exact HST.out.2, HS4.out⟩
            case measure => simp [intOf]; omega
        · have hj0' : ¬ (a : Int) < (j : Int) := by omega
          have hjd : decide ((a : Int) < (j : Int)) = false := decide_eq_false hj0'
          have hst := HI.out.stop (.inl (by omega))
          have HST := Lib.hid hst
          have hjd3 : decide (a < j) = false := decide_eq_false hj0
          clear hst
          go_wp2_with fail
          go_big_quiet (fail)
          go_wp2_with fail
          go_roundw
          case rel => exact ⟨i + 1, R2, by go_num, by omega, by omega, HST.out.1, by rw [show i + 1 - a = i - a + 1 by omega]; exact HST.out.2, HS.out.below (below_draws _ _ _)⟩
          case measure => simp [intOf]; omega
    · have hin' : ¬ (i : Int) < (m : Int) := by omega
      have HF := Lib.hid (show R1.Pairwise (wle D) by
        have := HSO.out
        rwa [List.take_of_length_le (by have := HL1.out; have := HA.out; have := HM.out; omega)] at this)
      go_wp2_with fail
      go_end0
      exact ⟨rfl, R1, HP.out, HF.out, by first | exact HS.out | (rw [← List.append_assoc]; exact HS.out)⟩
end
end Go.Proofs.Ytajhfjgndkdbnaa
