/- slices.SortFunc at a row of timers' numbers by wheel's order: twelve of them or fewer. Condition: the timers lie in memory (IsW), the row is the call's own, its numbers are timers'. -/
import Derived.Test.YtajhfjgndkdbnaaWheel5
import Derived.Test.YtajhfjgndkdbnaaSortPure
namespace Go.Proofs.Ytajhfjgndkdbnaa
open Go.RowKit BigFrame

/-- The row R at block bv, and timers; since w0 nothing has turned but the row. -/
structure SR (w0 wr : World) (b : WB) (D : WD) (N bv n c : Nat) (R : List Nat) : Prop where
  i : IsW wr b D N
  o : wr.ownsRow 0 3 1 (.slice (some ⟨bv, 0, none⟩) n c) n (ints (asInts R))
  ap : ∀ k, (k = b.G ∨ b.ft k) → k ≠ bv
  x : Ext w0 wr (fun k => k = bv)
section
variable {w0 wr w2 : World} {b : WB} {D : WD} {N bv n c : Nat} {R : List Nat}
theorem SR.len (h : SR w0 wr b D N bv n c R) : R.length = n := by have := h.o.1; simp [ints, asInts] at this; omega
theorem SR.below (h : SR w0 wr b D N bv n c R) (hb : Below wr.heap.size wr w2) : SR w0 w2 b D N bv n c R :=
  ⟨h.i.below hb, owns_same h.o (fun k hk => hb.block k (h.o.lt k hk).2), h.ap, h.x.then (Ext.of_below hb)⟩
theorem SR.cell (h : SR w0 wr b D N bv n c R) {i x : Nat} (hx : R[i]? = some x) : wr.cell? ⟨bv, i, none⟩ = some (.int .i64 x) := owns_int h.o (by simp [asInts, hx])
theorem SR.set (h : SR w0 wr b D N bv n c R) (i x : Nat) : SR w0 (wr.setCell ⟨bv, i, none⟩ (.int .i64 x)) b D N bv n c (R.set i x) := by
  refine ⟨h.i.frame (fun k hk => heap_setCell_other _ _ _ _ (h.ap k hk)), ?_, h.ap, h.x.setCell (p := ⟨bv, i, none⟩) (fun _ => rfl) _⟩
  have := (h.o.stored i (.int .i64 x)).1
  rw [show ints (asInts (R.set i x)) = (ints (asInts R)).set i (.int .i64 x) by simp [ints, asInts, List.map_set]]
  exact this
theorem SR.drew (h : SR w0 wr b D N bv n c R) : SR w0 wr.drew b D N bv n c R := h.below ⟨rfl, rfl, rfl, Nat.le_refl _, fun _ _ => rfl⟩
set_option maxRecDepth 100000 in
set_option maxHeartbeats 16000000 in
theorem insertion_calls (h : SR w0 wr b D N bv n c R) (hR : ∀ x ∈ R, x < N) (hn : n ≤ 16) (hc : n ≤ c) (hcm : c ≤ maxLen) :
    Calls Try.prog 45 #[.slice (some ⟨bv, 0, none⟩) n c, .int .i64 0, .int .i64 n, .func (.func 28) #[.pointer (some ⟨b.s, 0, none⟩)] #[]] wr fun e w' => e = .returned (.tuple #[]) ∧ ∃ R', R'.Perm R ∧ R'.Pairwise (wle D) ∧ SR w0 w' b D N bv n c R' := by
  have H := Lib.hid h
  have HR := Lib.hid hR
  have HLN := Lib.hid h.len
  unfold maxLen at hcm
  clear h hR
  go_enter Try.func45, Try.ntmps45
  go_wp2_with fail
  go_loopw [8] (fun u w1 => ∃ (i : Nat) (R' : List Nat), u = .int .i64 i ∧ 1 ≤ i ∧ i ≤ n + 1 ∧ R'.Perm R ∧ (R'.take i).Pairwise (wle D) ∧ SR w0 w1 b D N bv n c R') (fun u _ => n + 1 - (intOf u).toNat)
  case atStart =>
    refine ⟨1, R, rfl, Nat.le_refl _, by omega, List.Perm.refl _, ?_, H.out⟩
    cases R with
    | nil => simp
    | cons x R => simp
  case round =>
    clear H
    obtain ⟨i, R1, rfl, hi1, hi2, hp, hs, hS⟩ := hrel
    have HP := Lib.hid hp
    have HSO := Lib.hid hs
    have HS := Lib.hid hS
    clear hp hs hS
    by_cases hin : i < n
    · have hin' : (i : Int) < (n : Int) := by omega
      have hI : Inn D R R1 i i := Inn.start HP.out HSO.out (by rw [HS.out.len]; exact hin)
      have HI := Lib.hid hI
      clear hI
      go_wp2_with fail
      go_loopw [9] (fun u wv => ∃ (j : Nat) (R2 : List Nat), u = .int .i64 j ∧ j ≤ i ∧ Inn D R R2 i j ∧ SR w0 wv b D N bv n c R2) (fun u _ => (intOf u).toNat)
      case atStart => exact ⟨i, R1, rfl, Nat.le_refl _, HI.out, HS.out⟩
      case round =>
        clear HI HS HP HSO
        obtain ⟨j, R2, rfl, hj, hI, hS⟩ := hrel
        have HI := Lib.hid hI
        have HS := Lib.hid hS
        clear hI hS
        by_cases hj0 : 0 < j
        · obtain ⟨jp, rfl⟩ : ∃ jp, j = jp + 1 := ⟨j - 1, by omega⟩
          have hlen := HS.out.len
          obtain ⟨x, hx⟩ : ∃ x, R2[jp + 1]? = some x := ⟨_, List.getElem?_eq_getElem (by omega)⟩
          obtain ⟨p, hpp⟩ : ∃ p, R2[jp]? = some p := ⟨_, List.getElem?_eq_getElem (by omega)⟩
          have hxN := HR.out x ((HI.out.sub x).1 (List.mem_of_getElem? hx))
          have hpN := HR.out p ((HI.out.sub p).1 (List.mem_of_getElem? hpp))
          have kx := HS.out.cell hx
          have kp := HS.out.cell hpp
          have fx := HS.out.o.frozenAt (jp + 1)
          have fp := HS.out.o.frozenAt jp
          have hjz : (0 : Int) ≤ (jp : Int) := Int.natCast_nonneg _
          have hj1 : (0 : Int) < (jp : Int) + 1 := by omega
          have hj1b : (0 : Int) ≤ (jp : Int) + 1 := by omega
          have hjn : (jp : Int) + 1 < (n : Int) := by omega
          have hjn2 : (jp : Int) < (n : Int) := by omega
          have hor := fun (u : World) (hu : SR w0 u b D N bv n c R2) => order_calls hu.i x p hxN hpN
          obtain ⟨r, hr⟩ : ∃ r, r = cfW D x p := ⟨_, rfl⟩
          rw [← hr] at hor
          have HOR := Lib.hid (hor wr.drew HS.out.drew)
          have HNEG := Lib.hid (show r < 0 ↔ wl D x p by rw [hr]; exact cfW_neg D x p)
          have HX := Lib.hid hx
          have HPP := Lib.hid hpp
          have r1 : IntKind.i64.wrap ((jp : Int) + 1) = (jp : Int) + 1 := IntWalk.i64_in _ (by omega)
          have r2 : IntKind.i64.wrap (jp : Int) = (jp : Int) := IntWalk.i64_in _ (by omega)
          have e1 : ((jp : Int) + 1).toNat = jp + 1 := by omega
          clear hx hpp hor hr hxN hpN hlen
          by_cases hneg : r < 0
          · have hd : decide (r < 0) = true := decide_eq_true hneg
            have HWL := Lib.hid (HNEG.out.1 hneg)
            go_wp2_with fail
            go_region_held3 (fun w' => w'.cell? ⟨bv, jp + 1, none⟩ = some (.int .i64 x) ∧ w'.cell? ⟨bv, jp, none⟩ = some (.int .i64 p)) (first | go_keep | exact ⟨kx, kp⟩ | exact hkk)
              ((go_at_call 28; refine HOR.out.mono ?_; rintro e w4 ⟨rfl, hb4⟩; have HS4 := Lib.hid (HS.out.drew.below hb4); have hkk := And.intro (HS4.out.cell HX.out) (HS4.out.cell HPP.out); clear hb4))
            all_goals go_wp2_with fail
            clear kx kp fx fp HOR
            have kx := HS4.out.cell HX.out
            have kp := HS4.out.cell HPP.out
            have fx := HS4.out.o.frozenAt (jp + 1)
            have fp := HS4.out.o.frozenAt jp
            have kp2 := (HS4.out.set (jp + 1) p).cell (i := jp) (x := p) (by rw [List.getElem?_set_ne (by omega)]; exact HPP.out)
            clear hkk hd hneg
            go_big_region
            have HS5 := Lib.hid (((HS4.out.set (jp + 1) p).set jp x).drew)
            have HI5 := Lib.hid (HI.out.step HX.out HPP.out HWL.out)
            clear kx kp fx fp kp2
            go_wp2_with fail
            go_roundw
            case rel => exact ⟨jp, _, rfl, by omega, HI5.out, HS5.out⟩
            case measure => simp [intOf] <;> omega
          · have hd : decide (r < 0) = false := decide_eq_false hneg
            have hst := HI.out.stop (.inr ⟨jp, x, p, rfl, HX.out, HPP.out, fun e => hneg (HNEG.out.2 e)⟩)
            have HST := Lib.hid hst
            clear hst
            go_wp2_with fail
            go_region_held3 (fun w' => w'.cell? ⟨bv, jp + 1, none⟩ = some (.int .i64 x) ∧ w'.cell? ⟨bv, jp, none⟩ = some (.int .i64 p)) (first | go_keep | exact ⟨kx, kp⟩ | exact hkk)
              ((go_at_call 28; refine HOR.out.mono ?_; rintro e w4 ⟨rfl, hb4⟩; have HS4 := Lib.hid (HS.out.drew.below hb4); have hkk := And.intro (HS4.out.cell HX.out) (HS4.out.cell HPP.out); clear hb4))
            all_goals go_wp2_with fail
            all_goals go_roundw
            case rel => exact ⟨i + 1, R2, by go_num, by omega, by omega, HST.out.1, HST.out.2, HS4.out⟩
            case measure => simp [intOf]; omega
        · have hj0' : ¬ (0 : Int) < (j : Int) := by omega
          have hjd : decide ((0 : Int) < (j : Int)) = false := decide_eq_false hj0'
          have hst := HI.out.stop (.inl (by omega))
          have HST := Lib.hid hst
          have hjd3 : decide (0 < j) = false := decide_eq_false hj0
          clear hst
          go_wp2_with fail
          go_big_quiet (fail)
          go_wp2_with fail
          go_roundw
          case rel => exact ⟨i + 1, R2, by go_num, by omega, by omega, HST.out.1, HST.out.2, HS.out.below (below_draws _ _ _)⟩
          case measure => simp [intOf]; omega
    · have hin' : ¬ (i : Int) < (n : Int) := by omega
      have hl := HS.out.len
      have HF := Lib.hid (show R1.Pairwise (wle D) by
        have := HSO.out
        rwa [List.take_of_length_le (by omega)] at this)
      clear hl
      go_wp2_with fail
      go_end0
      exact ⟨rfl, R1, HP.out, HF.out, HS.out⟩
set_option maxRecDepth 100000 in
set_option maxHeartbeats 16000000 in
theorem pdq_small (lim : Int) (h : SR w0 wr b D N bv n c R) (hR : ∀ x ∈ R, x < N) (hn : n ≤ 12) (hc : n ≤ c) (hcm : c ≤ maxLen) :
    Calls Try.prog 38 #[.slice (some ⟨bv, 0, none⟩) n c, .int .i64 0, .int .i64 n, .int .i64 lim, .func (.func 28) #[.pointer (some ⟨b.s, 0, none⟩)] #[]] wr fun e w' => e = .returned (.tuple #[]) ∧ ∃ R', R'.Perm R ∧ R'.Pairwise (wle D) ∧ SR w0 w' b D N bv n c R' := by
  have HI := Lib.hid (insertion_calls h hR (by omega) hc hcm)
  have hn' : (n : Int) ≤ 12 := by omega
  have hnz : (0 : Int) ≤ (n : Int) := Int.natCast_nonneg _
  clear h hR hcm
  go_enter Try.func38, Try.ntmps38
  go_wp2_with fail
  refine wp_loop_rounds 1 ?_
  rw [rounds_succ]
  go_wp2_with fail
  refine HI.out.mono ?_
  rintro e w1 ⟨rfl, h1⟩
  have H1 := Lib.hid h1
  clear h1
  go_wp2_with fail
  (try simp only [Exit.inBlock, Exit.then])
  refine bodyPost_ret (results_none rfl _ _ _) rfl ?_
  exact ⟨rfl, H1.out⟩
set_option maxRecDepth 100000 in
set_option maxHeartbeats 16000000 in
theorem sort_small (h : SR w0 wr b D N bv n c R) (hR : ∀ x ∈ R, x < N) (hn : n ≤ 12) (hc : n ≤ c) (hcm : c ≤ maxLen) :
    Calls Try.prog 27 #[.slice (some ⟨bv, 0, none⟩) n c, .func (.func 28) #[.pointer (some ⟨b.s, 0, none⟩)] #[]] wr fun e w' => e = .returned (.tuple #[]) ∧ ∃ R', R'.Perm R ∧ R'.Pairwise (wle D) ∧ SR w0 w' b D N bv n c R' := by
  have HP := Lib.hid (fun lim : Int => pdq_small lim h hR hn hc hcm)
  have HLB := Lib.hid (fun W : World => Try.bits_Len n W (by omega) (by omega))
  have hnz : (0 : Int) ≤ (n : Int) := Int.natCast_nonneg _
  clear h hR hcm
  go_enter Try.func27, Try.ntmps27
  go_wp2_with fail
  refine (HLB.out _).mono ?_
  rintro e w' ⟨rfl, rfl⟩
  go_wp2_with fail
  refine (HP.out _).mono ?_
  rintro e w1 ⟨rfl, h1⟩
  have H1 := Lib.hid h1
  clear h1
  go_wp2_with fail
  go_end0
  exact ⟨rfl, H1.out⟩
end
end Go.Proofs.Ytajhfjgndkdbnaa
