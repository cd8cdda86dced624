/- The document's Num (parcloseref04.Num): the decimal digits of a number. Condition: from 0 to 9999. -/
import Derived.Test.YtkjhgfjlknbdkaaDoorPrt1
import Derived.Test.YtkjhgfjlknbdkaaDoorOrd
import Derived.Lib.ItoaLen
namespace Go.Proofs.YtkjhgfjlknbdkaaDoor
open Go.RowKit BigFrame Go.BigFrame

theorem itoa_small {n : Nat} (h : n < 10) : Lib.itoa (n : Int) = [UInt8.ofNat (48 + n)] := by
  unfold Lib.itoa
  rw [if_neg (by omega), Int.toNat_natCast, Lib.decDigits, dif_pos h]
theorem itoa_big {n : Nat} (h : ¬ n < 10) : Lib.itoa (n : Int) = Lib.itoa ((n / 10 : Nat) : Int) ++ [UInt8.ofNat (48 + n % 10)] := by
  unfold Lib.itoa
  rw [if_neg (by omega), if_neg (by omega), Int.toNat_natCast, Int.toNat_natCast, Lib.decDigits, dif_neg h]
theorem conv_one {w : World} {g m : Nat} (hm : m < 10) (h : w.cell? ⟨g, 0, none⟩ = some (.int .u8 (48 + (m : Int)))) :
    (convert 72 9 (.slice (some ⟨g, 0, none⟩) 1 1)).run Tryd.prog w = .ok (.string ⟨#[UInt8.ofNat (48 + m)]⟩) w := by
  have hx : ((UInt8.ofNat (48 + m)).toNat : Int) = 48 + (m : Int) := by
    have : (UInt8.ofNat (48 + m)).toNat = 48 + m := by simp; omega
    rw [this]; omega
  exact run_convert_bytes_back (P := Tryd.prog) w 72 9 5 ⟨g, 0, none⟩ 1 [UInt8.ofNat (48 + m)] Tryd.underlying72 Tryd.underlying5 Tryd.underlying9 (fun j hj => by
    have : j = 0 := by simp at hj; omega
    subst this
    show w.cell? ⟨g, 0, none⟩ = some (.int .u8 ((UInt8.ofNat (48 + m)).toNat : Int))
    rw [hx, h])
theorem wrap_small (n : Nat) (h : n < 9223372036854775808) : IntKind.i64.wrap (n : Int) = (n : Int) := by rw [IntKind.wrap_i64]; omega
set_option maxHeartbeats 8000000 in
set_option maxRecDepth 100000 in
theorem rnum_calls : ∀ (f n : Nat) (_ : n < f) (_ : n ≤ 9999) (w : World), Calls Tryd.prog 40 #[.int .i64 n] w fun e w' => e = .returned (.string ⟨(Lib.itoa (n : Int)).toArray⟩) ∧ Below w.heap.size w w'
  | 0, n, hf, _, w => by omega
  | f + 1, n, hf, hn, w => by
    have hnz : (0 : Int) ≤ (n : Int) := Int.natCast_nonneg _
    by_cases h : n < 10
    · have h1 : (n : Int) < 10 := by omega
      have HV := Lib.hid (itoa_small h)
      have HB := Lib.hid (plus_one1 w (.cells #[.int .u8 (48 + (n : Int))] 5))
      obtain ⟨dg, hdg⟩ : ∃ t : ByteArray, t = ⟨#[UInt8.ofNat (48 + n)]⟩ := ⟨_, rfl⟩
      have HC := Lib.hid ((conv_one (g := w.heap.size) h (show (w.alloc (.cells #[.int .u8 (48 + (n : Int))] 5)).cell? ⟨w.heap.size, 0, none⟩ = some (.int .u8 (48 + (n : Int))) from blk_cell (heap_alloc_new w _) 0)).trans (show Result.ok (Value.string ⟨#[UInt8.ofNat (48 + n)]⟩) (w.alloc (.cells #[.int .u8 (48 + (n : Int))] 5)) = .ok (.string dg) (w.alloc (.cells #[.int .u8 (48 + (n : Int))] 5)) by rw [hdg]))
      have HDG := Lib.hid (show dg = ⟨(Lib.itoa (n : Int)).toArray⟩ by rw [hdg, HV.out])
      clear hdg HV
      go_enter Tryd.func40, Tryd.ntmps40
      go_wp2_with fail
      rw [HC.out]
      simp only [Result.andThen]
      rw [Oper.upon_value]
      go_wp2_with fail
      go_ret
      rw [← HDG.out]
      exact ⟨rfl, HB.out⟩
    · have h1 : ¬ (n : Int) < 10 := by omega
      have HV := Lib.hid (itoa_big h)
      have IH := Lib.hid (fun u : World => rnum_calls f (n / 10) (by omega) (by omega) u)
      have hl := Lib.itoa_length_le ((n / 10 : Nat) : Int) (by omega) (by omega)
      obtain ⟨q, hq⟩ : ∃ q, q = n / 10 := ⟨_, rfl⟩
      obtain ⟨m, hm⟩ : ∃ m, m = n % 10 := ⟨_, rfl⟩
      have q1 : Int.tdiv (n : Int) 10 = (q : Int) := by rw [Int.tdiv_eq_ediv_of_nonneg hnz]; omega
      have q2 : IntKind.i64.wrap (q : Int) = (q : Int) := wrap_small q (by omega)
      have m1 : Int.tmod (n : Int) 10 = (m : Int) := by rw [Int.tmod_eq_emod_of_nonneg hnz]; omega
      have m2 : IntKind.i64.wrap (m : Int) = (m : Int) := wrap_small m (by omega)
      have m3 : IntKind.i64.wrap (48 + (m : Int)) = 48 + (m : Int) := by rw [show (48 : Int) + (m : Int) = ((48 + m : Nat) : Int) by omega]; exact wrap_small _ (by omega)
      have m4 : IntKind.u8.wrap (48 + (m : Int)) = 48 + (m : Int) := by simp [IntKind.wrap, IntKind.bits, IntKind.signed]; omega
      have m9 : m < 10 := by omega
      rw [← hq] at IH HV hl
      rw [← hm] at HV
      have n1 : (n : Int) / 10 = (q : Int) := by omega
      have n2 : (n : Int) % 10 = (m : Int) := by omega
      obtain ⟨tq, htq⟩ : ∃ t : ByteArray, t = ⟨(Lib.itoa (q : Int)).toArray⟩ := ⟨_, rfl⟩
      rw [← htq] at IH
      obtain ⟨x, hx, hxl, _⟩ := cat_ex tq ⟨#[UInt8.ofNat (48 + m)]⟩ (by rw [htq]; show (Lib.itoa (q : Int)).toArray.size + 1 ≤ _; rw [List.size_toArray]; omega)
      have HX := Lib.hid (show x = ⟨(Lib.itoa (n : Int)).toArray⟩ from ba_ext (by rw [hxl, HV.out, htq]))
      obtain ⟨dg, hdg⟩ : ∃ t : ByteArray, t = ⟨#[UInt8.ofNat (48 + m)]⟩ := ⟨_, rfl⟩
      rw [← hdg] at hx
      have HCV := Lib.hid (fun (u : World) (g : Nat) (hc : u.cell? ⟨g, 0, none⟩ = some (.int .u8 (48 + (m : Int)))) => (conv_one m9 hc).trans (show Result.ok (Value.string ⟨#[UInt8.ofNat (48 + m)]⟩) u = .ok (.string dg) u by rw [hdg]))
      clear hq hm htq hdg hxl HV hl h hf
      go_enter Tryd.func40, Tryd.ntmps40
      go_upto_region 3 with (fail)
      clear h1
      refine wp_region_W 11 10 (fun w' : World => Below w.heap.size w w') (by kernel_rfl) (by kernel_rfl) ((Below.refl _ _).drew) (fun hT => ?_)
      refine wpAnyW_take (i := 0) (some 10) rfl rfl (by kernel_rfl) (by kernel_rfl) (by kernel_rfl) (by kernel_rfl) (fun _ _ _ h => h) (v := ?_) (.inl ⟨by rfl, ?_⟩) (.inr hT) ?_
      rotate_left
      · (intro wT _; go_simp <;> with_reducible rfl)
      simp only [Act.put, List.setIfInBounds_toArray, List.set_cons_zero, List.set_cons_succ]
      refine wpAnyW_take (i := 1) (some 11) rfl rfl (by kernel_rfl) (by kernel_rfl) (by kernel_rfl) (by kernel_rfl) (fun _ _ _ h => h) (v := ?_) (.inl ⟨by rfl, ?_⟩) (.inr hT) ?_
      rotate_left
      · (intro wT _; go_simp <;> with_reducible rfl)
      simp only [Act.put, List.setIfInBounds_toArray, List.set_cons_zero, List.set_cons_succ]
      refine wpAnyW_take (i := 3) (some 13) rfl rfl (by kernel_rfl) (by kernel_rfl) (by kernel_rfl) (by kernel_rfl) (fun _ _ _ h => h) (v := ?_) (.inl ⟨by rfl, ?_⟩) (.inr hT) ?_
      rotate_left
      · (intro wT _; go_simp <;> with_reducible rfl)
      simp only [Act.put, List.setIfInBounds_toArray, List.set_cons_zero, List.set_cons_succ]
      refine wpAnyW_take (i := 4) (some 14) rfl rfl (by kernel_rfl) (by kernel_rfl) (by kernel_rfl) (by kernel_rfl) (fun _ _ _ h => h) (v := ?_) (.inl ⟨by rfl, ?_⟩) (.inr hT) ?_
      rotate_left
      · (intro wT _; go_simp <;> with_reducible rfl)
      simp only [Act.put, List.setIfInBounds_toArray, List.set_cons_zero, List.set_cons_succ]
      refine wpAnyW_take (i := 5) (some 15) rfl rfl (by kernel_rfl) (by kernel_rfl) (by kernel_rfl) (by kernel_rfl) (fun _ _ _ h => h) (v := ?_) (.inl ⟨by rfl, ?_⟩) (.inr hT) ?_
      rotate_left
      · (intro wT _; go_simp <;> with_reducible rfl)
      simp only [Act.put, List.setIfInBounds_toArray, List.set_cons_zero, List.set_cons_succ]
      refine wpAnyW_take (i := 6) (some 16) rfl rfl (by kernel_rfl) (by kernel_rfl) (by kernel_rfl) (by kernel_rfl) (fun _ _ _ h => h) (v := ?_) (.inl ⟨by rfl, ?_⟩) (.inr hT) ?_
      rotate_left
      · (intro wT _; go_simp <;> with_reducible rfl)
      simp only [Act.put, List.setIfInBounds_toArray, List.set_cons_zero, List.set_cons_succ]
      refine wpAnyW_two (i := 2) (j := 7) (by kernel_rfl) rfl rfl (fun K hK => ?_) (fun K hK => ?_)
      · go_simp
        refine (IH.out (w.drew)).mono ?_
        rintro e W2 ⟨rfl, hq2⟩
        dsimp only
        have hb2 : Below w.heap.size w W2 := Below.trans ((Below.refl w.heap.size w).drew) (hq2.mono ((Below.refl w.heap.size w).drew).size)
        clear hq2
        refine step_owe hK ?_ (fun hT => ?_)
        · first | exact hb2 | exact hb7
        clear hK K
        refine wpAnyW_one (i := 7) (by kernel_rfl) rfl (fun K hK => ?_)
        go_simp
        refine name_world2 (fun W7 hW7 => ?_)
        obtain ⟨sb, hsbe⟩ : ∃ sb, sb = (W2).heap.size := ⟨_, rfl⟩
        have hb7 : Below w.heap.size w W7 := by rw [hW7]; first | exact Below.alloc (hb2) (Below.size (hb2)) _ | exact (Below.alloc (Below.refl _ _) (Nat.le_refl _) _).drew
        have hx7 : W7.heap[sb]? = some (.cells #[.int .u8 (48 + (m : Int))] 5 (0, 0)) := by rw [hW7, hsbe]; exact heap_alloc_new (W2) _
        rw [← hsbe]
        clear hW7 hsbe
        refine step_owe hK ?_ (fun hT => ?_)
        · first | exact hb2 | exact hb7
        clear hK K
        refine wpAnyW_one (i := 8) (by kernel_rfl) rfl (fun K hK => ?_)
        have hcv := HCV.out W7 sb (blk_cell hx7 0)
        go_simp
        clear hcv
        refine step_owe hK ?_ (fun hT => ?_)
        · first | exact hb2 | exact hb7
        clear hK K
        refine wpAnyW_take (i := 9) (some 19) rfl rfl (by kernel_rfl) (by kernel_rfl) (by kernel_rfl) (by kernel_rfl) (fun _ _ _ h => h) (v := ?_) (.inl ⟨by rfl, ?_⟩) (.inr hT) ?_
        rotate_left
        · (intro wT _; go_simp <;> with_reducible rfl)
        simp only [Act.put, List.setIfInBounds_toArray, List.set_cons_zero, List.set_cons_succ]
        refine wpAnyW_one (i := 10) (by kernel_rfl) rfl (fun K hK => ?_)
        go_simp
        refine step_paid hK (by kernel_rfl) ?_
        clear hK K
        refine wpAnyW_done (by kernel_rfl) ?_
        go_wp2_with fail
        go_ret
        rw [HX.out]
        exact ⟨rfl, by first | exact hb2 | exact hb7⟩
      · go_simp
        refine name_world2 (fun W7 hW7 => ?_)
        obtain ⟨sb, hsbe⟩ : ∃ sb, sb = (w.drew).heap.size := ⟨_, rfl⟩
        have hb7 : Below w.heap.size w W7 := by rw [hW7]; first | exact Below.alloc ((Below.refl w.heap.size w).drew) (Below.size ((Below.refl w.heap.size w).drew)) _ | exact (Below.alloc (Below.refl _ _) (Nat.le_refl _) _).drew
        have hx7 : W7.heap[sb]? = some (.cells #[.int .u8 (48 + (m : Int))] 5 (0, 0)) := by rw [hW7, hsbe]; exact heap_alloc_new (w.drew) _
        rw [show w.heap.size = sb from hsbe.symm]
        clear hW7 hsbe
        refine step_owe hK ?_ (fun hT => ?_)
        · first | exact hb2 | exact hb7
        clear hK K
        refine wpAnyW_two (i := 2) (j := 8) (by kernel_rfl) rfl rfl (fun K hK => ?_) (fun K hK => ?_)
        · go_simp
          refine (IH.out (W7)).mono ?_
          rintro e W2 ⟨rfl, hq2⟩
          dsimp only
          have hb2 : Below w.heap.size w W2 := Below.trans (hb7) (hq2.mono (hb7).size)
          have hx2 : W2.heap[sb]? = some (.cells #[.int .u8 (48 + (m : Int))] 5 (0, 0)) := (hq2.block _ (lt_of_block hx7)).trans hx7
          clear hq2
          refine step_owe hK ?_ (fun hT => ?_)
          · first | exact hb2 | exact hb7
          clear hK K
          refine wpAnyW_one (i := 8) (by kernel_rfl) rfl (fun K hK => ?_)
          have hcv := HCV.out W2 sb (blk_cell hx2 0)
          go_simp
          clear hcv
          refine step_owe hK ?_ (fun hT => ?_)
          · first | exact hb2 | exact hb7
          clear hK K
          refine wpAnyW_take (i := 9) (some 19) rfl rfl (by kernel_rfl) (by kernel_rfl) (by kernel_rfl) (by kernel_rfl) (fun _ _ _ h => h) (v := ?_) (.inl ⟨by rfl, ?_⟩) (.inr hT) ?_
          rotate_left
          · (intro wT _; go_simp <;> with_reducible rfl)
          simp only [Act.put, List.setIfInBounds_toArray, List.set_cons_zero, List.set_cons_succ]
          refine wpAnyW_one (i := 10) (by kernel_rfl) rfl (fun K hK => ?_)
          go_simp
          refine step_paid hK (by kernel_rfl) ?_
          clear hK K
          refine wpAnyW_done (by kernel_rfl) ?_
          go_wp2_with fail
          go_ret
          rw [HX.out]
          exact ⟨rfl, by first | exact hb2 | exact hb7⟩
        · have hcv := HCV.out W7 sb (blk_cell hx7 0)
          go_simp
          clear hcv
          refine step_owe hK ?_ (fun hT => ?_)
          · first | exact hb2 | exact hb7
          clear hK K
          refine wpAnyW_one (i := 2) (by kernel_rfl) rfl (fun K hK => ?_)
          go_simp
          refine (IH.out (W7)).mono ?_
          rintro e W2 ⟨rfl, hq2⟩
          dsimp only
          have hb2 : Below w.heap.size w W2 := Below.trans (hb7) (hq2.mono (hb7).size)
          have hx2 : W2.heap[sb]? = some (.cells #[.int .u8 (48 + (m : Int))] 5 (0, 0)) := (hq2.block _ (lt_of_block hx7)).trans hx7
          clear hq2
          refine step_owe hK ?_ (fun hT => ?_)
          · first | exact hb2 | exact hb7
          clear hK K
          refine wpAnyW_take (i := 9) (some 19) rfl rfl (by kernel_rfl) (by kernel_rfl) (by kernel_rfl) (by kernel_rfl) (fun _ _ _ h => h) (v := ?_) (.inl ⟨by rfl, ?_⟩) (.inr hT) ?_
          rotate_left
          · (intro wT _; go_simp <;> with_reducible rfl)
          simp only [Act.put, List.setIfInBounds_toArray, List.set_cons_zero, List.set_cons_succ]
          refine wpAnyW_one (i := 10) (by kernel_rfl) rfl (fun K hK => ?_)
          go_simp
          refine step_paid hK (by kernel_rfl) ?_
          clear hK K
          refine wpAnyW_done (by kernel_rfl) ?_
          go_wp2_with fail
          go_ret
          rw [HX.out]
          exact ⟨rfl, by first | exact hb2 | exact hb7⟩
end Go.Proofs.YtkjhgfjlknbdkaaDoor
