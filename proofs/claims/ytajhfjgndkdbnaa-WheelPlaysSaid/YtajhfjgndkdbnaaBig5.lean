/- What slices' breakPatternsCmpFunc does at thirteen to sixteen of a row of timers' numbers: it only turns their order. Condition: as in Wheel6. -/
import Derived.Test.YtajhfjgndkdbnaaBig3
import Derived.Test.YtajhfjgndkdbnaaShelf
namespace Go.Proofs.Ytajhfjgndkdbnaa
open Go.RowKit BigFrame Go.Shelf Go.Lib Go.Sort

/-- A random number of the call's own in block sb, beside the row. -/
structure XB (w0 w : World) (b : WB) (bv sb : Nat) (s : Nat) : Prop where
  c : w.heap[sb]? = some (.cells #[.int .u64 s] 95 (0, 0))
  new : w0.heap.size ≤ sb
  ne : sb ≠ bv
  ap : ∀ k, (k = b.G ∨ b.ft k) → k ≠ sb
section
variable {w0 wr w2 : World} {b : WB} {D : WD} {N bv n c sb s : Nat} {R : List Nat}
theorem XB.below (h : XB w0 wr b bv sb s) (hb : Below wr.heap.size wr w2) : XB w0 w2 b bv sb s := ⟨(hb.block sb (lt_of_block h.c)).trans h.c, h.new, h.ne, h.ap⟩
theorem XB.up (h : XB w0 wr b bv sb s) (s' : Nat) : XB w0 (wr.setCell ⟨sb, 0, none⟩ (.int .u64 s')) b bv sb s' := by
  refine ⟨?_, h.new, h.ne, h.ap⟩
  have := blk_set h.c 0 (.int .u64 s')
  simpa using this
theorem XB.row (h : XB w0 wr b bv sb s) (i : Nat) (v : Value) : XB w0 (wr.setCell ⟨bv, i, none⟩ v) b bv sb s :=
  ⟨(heap_setCell_other _ _ _ _ h.ne).trans h.c, h.new, h.ne, h.ap⟩
theorem SR.otherX (h : SR w0 wr b D N bv n c R) (ho : XB w0 wr b bv sb s) (v : Value) : SR w0 (wr.setCell ⟨sb, 0, none⟩ v) b D N bv n c R := by
  refine ⟨h.i.frame (fun k hk => heap_setCell_other _ _ _ _ (ho.ap k hk)), owns_same h.o (fun k hk => heap_setCell_other _ _ _ _ ?_), h.ap, h.x.setCell (p := ⟨sb, 0, none⟩) (fun hl => ?_) v⟩
  · simp only [Value.ownBlock, Option.some.injEq] at hk
    intro e
    exact ho.ne (by simp only at e; omega)
  · have := ho.new
    simp only at hl
    omega
theorem XB.new_ (h : SR w0 wr b D N bv n c R) (s : Nat) : XB w0 (wr.alloc (.cells #[.int .u64 s] 95)) b bv wr.heap.size s := by
  have h1 := h.x.size
  have h2 := (h.o.lt bv rfl).2
  exact ⟨heap_alloc_new _ _, h1, by omega, fun k hk => by have := h.i.lt k hk; omega⟩
theorem swap_perm {l : List Nat} {i j x y : Nat} (hx : l[i]? = some x) (hy : l[j]? = some y) : ((l.set i y).set j x).Perm l := by
  obtain ⟨hi, rfl⟩ := List.getElem?_eq_some_iff.1 hx
  obtain ⟨hj, rfl⟩ := List.getElem?_eq_some_iff.1 hy
  exact List.set_set_perm hi hj
theorem xor_calls (R0 : Nat) (hR0 : R0 < 18446744073709551616) (w : World) (hc : w.cell? ⟨sb, 0, none⟩ = some (.int .u64 R0)) (hf : w.frozen? ⟨sb, 0, none⟩ = false) :
    Calls Try.prog 60 #[.pointer (some ⟨sb, 0, none⟩)] w fun e w' => e = .returned (.int .u64 (xorNextN R0 : Nat)) ∧ w' = (w.setCell ⟨sb, 0, none⟩ (.int .u64 (xorNextN R0 : Nat))).drewN 3 :=
  AnyF.xorshift_Next { Try.laysSlF14_f38 with } sb 0 R0 hR0 w hc hf
theorem pow_calls (L : Nat) (hL : L < 4611686018427387904) (w : World) :
    Calls Try.prog 59 #[.int .i64 L] w fun e w' => e = .returned (.int .u64 ((1 <<< bitsLen L : Nat) : Int)) ∧ w' = w :=
  AnyF.nextPowerOfTwo { Try.laysSlF14_f38 with } L hL w
set_option maxRecDepth 100000 in
set_option maxHeartbeats 16000000 in
theorem break_calls {A S C : List Nat} (h : SR w0 wr b D N bv n c (A ++ S ++ C)) (hn : n ≤ 16) (hc : n ≤ c) (hcm : c ≤ maxLen) (a m L : Nat) (f : Value) (ha : a = A.length) (hm : m = A.length + S.length) (hL : L = S.length) (hl : 13 ≤ L) :
    Calls Try.prog 47 #[.slice (some ⟨bv, 0, none⟩) n c, .int .i64 a, .int .i64 m, f] wr fun e w' => e = .returned (.tuple #[]) ∧ ∃ S', S'.Perm S ∧ SR w0 w' b D N bv n c (A ++ S' ++ C) := by
  have hlen := h.len
  simp only [List.length_append] at hlen
  have HA := Lib.hid ha
  have HM := Lib.hid hm
  have HL := Lib.hid hL
  have HN := Lib.hid (show a + L ≤ n ∧ m = a + L by omega)
  have haz : (0 : Int) ≤ (a : Int) := Int.natCast_nonneg _
  have haL : (a : Int) + (L : Int) ≤ (n : Int) := by omega
  have hLz : (m : Int) - (a : Int) = (L : Int) := by omega
  have h8z : (8 : Int) ≤ (L : Int) := by omega
  have hL16 : (L : Int) ≤ 16 := by omega
  obtain ⟨P2, hP⟩ : ∃ P2 : Nat, P2 = 1 <<< bitsLen L := ⟨_, rfl⟩
  have hP1 : 1 ≤ P2 := by rw [hP, Nat.one_shiftLeft]; exact Nat.two_pow_pos _
  have hP2 : P2 ≤ 2 * L := by rw [hP, Nat.one_shiftLeft]; exact two_pow_bitsLen_le (by omega)
  have hnp := fun w : World => pow_calls L (by omega) w
  rw [← hP] at hnp
  have HNP := Lib.hid hnp
  have HS0 := Lib.hid (h.below (plus_one wr (.cells #[.int .u64 L] 95)))
  have HX0 := Lib.hid (XB.new_ h L)
  unfold maxLen at hcm
  clear h ha hm hL hlen hP hnp
  go_enter Try.func47, Try.ntmps47
  go_wp2_with fail
  refine (HNP.out _).mono ?_
  rintro e w' ⟨rfl, rfl⟩
  go_wp2_with fail
  obtain ⟨sb, hsb⟩ : ∃ sb, sb = wr.heap.size := ⟨_, rfl⟩
  rw [← hsb] at HX0 ⊢
  clear hsb
  go_loopw [11] (fun u wv => ∃ (t r : Nat) (S' : List Nat), u = .int .i64 ((a : Int) + (L : Int) / 4 * 2 - 1 + (t : Int)) ∧ t ≤ 3 ∧ r < 18446744073709551616 ∧ S'.Perm S ∧ SR w0 wv b D N bv n c (A ++ S' ++ C) ∧ XB w0 wv b bv sb r) (fun u _ => ((a : Int) + (L : Int) / 4 * 2 + 3 - intOf u).toNat)
  case atStart => exact ⟨0, L, S, by simp, by omega, by omega, List.Perm.refl _, HS0.out, HX0.out⟩
  case round =>
    clear HS0 HX0
    obtain ⟨t, r, S', rfl, ht, hr, hp, hS, hX⟩ := hrel
    have HP := Lib.hid hp
    have HS := Lib.hid hS
    have HX := Lib.hid hX
    clear hp hS
    by_cases ht3 : t < 3
    · have hle : (a : Int) + (L : Int) / 4 * 2 - 1 + (t : Int) ≤ (a : Int) + (L : Int) / 4 * 2 + 1 := by omega
      obtain ⟨R', hR'⟩ : ∃ R' : Nat, R' = xorNextN r := ⟨_, rfl⟩
      have lR' : R' < 18446744073709551616 := by rw [hR']; exact xorNextN_lt r hr
      obtain ⟨O, hO⟩ : ∃ O : Nat, O = R' &&& (P2 - 1) := ⟨_, rfl⟩
      have lO : O ≤ P2 - 1 := by rw [hO]; exact Nat.and_le_right
      have eAnd : bits .and .u64 (R' : Int) ((P2 : Int) - 1) = (O : Int) := by
        rw [show ((P2 : Int) - 1) = ((P2 - 1 : Nat) : Int) by omega, bits_and_u64_nat _ _ lR' (by omega), hO]
      have hnext := xor_calls r hr wr (blk_cell hX.c 0) (blk_free hX.c 0)
      rw [← hR'] at hnext
      have HNEXT := Lib.hid hnext
      have HSB := Lib.hid ((HS.out.otherX HX.out (.int .u64 R')).below (below_draws _ _ 3))
      have HXB := Lib.hid ((HX.out.up R').below (below_draws _ _ 3))
      clear hR' hO hnext hX HS HX
      by_cases hLO : L ≤ O
      · have hLOz : (L : Int) ≤ (O : Int) := by omega
        obtain ⟨ii, hii⟩ : ∃ ii, ii = L / 4 * 2 - 1 + t := ⟨_, rfl⟩
        obtain ⟨jj, hjj⟩ : ∃ jj, jj = O - L := ⟨_, rfl⟩
        have hiL : ii < L := by omega
        have hjL : jj < L := by omega
        obtain ⟨iN, hiN⟩ : ∃ q, q = a + ii := ⟨_, rfl⟩
        obtain ⟨jN, hjN⟩ : ∃ q, q = a + jj := ⟨_, rfl⟩
        have ea : ((a : Int) + (L : Int) / 4 * 2 - 1 + (t : Int)).toNat = iN := by omega
        have pa : (0 : Int) ≤ (a : Int) + (L : Int) / 4 * 2 - 1 + (t : Int) := by omega
        have ba : (a : Int) + (L : Int) / 4 * 2 - 1 + (t : Int) < (n : Int) := by omega
        have ra : IntKind.i64.wrap ((a : Int) + (L : Int) / 4 * 2 - 1 + (t : Int)) = (a : Int) + (L : Int) / 4 * 2 - 1 + (t : Int) := by rw [IntKind.wrap_i64]; omega
        have ec : ((a : Int) + ((O : Int) - (L : Int))).toNat = jN := by omega
        have pc : (0 : Int) ≤ (a : Int) + ((O : Int) - (L : Int)) := by omega
        have bc : (a : Int) + ((O : Int) - (L : Int)) < (n : Int) := by omega
        have rc : IntKind.i64.wrap ((a : Int) + ((O : Int) - (L : Int))) = (a : Int) + ((O : Int) - (L : Int)) := by rw [IntKind.wrap_i64]; omega
        have hSL : S'.length = L := by rw [HP.out.length_eq]; exact HL.out.symm
        obtain ⟨x, hx⟩ : ∃ x, S'[ii]? = some x := ⟨_, List.getElem?_eq_getElem (by omega)⟩
        obtain ⟨y, hy⟩ : ∃ y, S'[jj]? = some y := ⟨_, List.getElem?_eq_getElem (by omega)⟩
        have eI : iN - A.length = ii := by rw [hiN, HA.out]; omega
        have eJ : jN - A.length = jj := by rw [hjN, HA.out]; omega
        have lI : A.length ≤ iN := by rw [hiN, HA.out]; omega
        have lJ : A.length ≤ jN := by rw [hjN, HA.out]; omega
        have uI : iN < A.length + S'.length := by rw [hiN, hSL, HA.out]; omega
        have uJ : jN < A.length + S'.length := by rw [hjN, hSL, HA.out]; omega
        have hxA : (A ++ S' ++ C)[iN]? = some x := by rw [mid_get lI uI, eI]; exact hx
        have hyA : (A ++ S' ++ C)[jN]? = some y := by rw [mid_get lJ uJ, eJ]; exact hy
        have kx := HSB.out.cell hxA
        have ky := HSB.out.cell hyA
        have fx := HSB.out.o.frozenAt iN
        have fy := HSB.out.o.frozenAt jN
        obtain ⟨z, hz⟩ : ∃ z, ((A ++ S' ++ C).set iN y)[jN]? = some z := ⟨_, List.getElem?_eq_getElem (by rw [List.length_set]; exact (List.getElem?_eq_some_iff.1 hyA).1)⟩
        have k2 := (HSB.out.set iN y).cell hz
        have hS3 := ((HSB.out.set iN y).set jN x).drew
        rw [mid_set lI uI, mid_set lJ (by rw [List.length_set]; exact uJ), eI, eJ] at hS3
        have HS3 := Lib.hid hS3
        have HP3 := Lib.hid ((swap_perm hx hy).trans HP.out)
        have HX3 := Lib.hid (((HXB.out.row iN (.int .i64 y)).row jN (.int .i64 x)).below (below_draws _ _ 1))
        have HM3 := Lib.hid (show ((a : Int) + (L : Int) / 4 * 2 + 3 - ((a : Int) + (L : Int) / 4 * 2 - 1 + (t : Int) + 1)).toNat < ((a : Int) + (L : Int) / 4 * 2 + 3 - ((a : Int) + (L : Int) / 4 * 2 - 1 + (t : Int))).toNat by omega)
        clear hS3 hz hxA hyA hx hy eI eJ lI lJ uI uJ hSL hiL hjL hii hjj hiN hjN HSB HXB
        generalize (wr.setCell ⟨sb, 0, none⟩ (.int .u64 R')).drewN 3 = w2 at HNEXT HS3 HX3 kx ky fx fy k2
        go_wp2_with fail
        refine HNEXT.out.mono ?_
        rintro e w' ⟨rfl, hw'⟩
        obtain rfl : w2 = w' := hw'.symm
        go_wp2_with fail
        go_big_region
        clear kx ky fx fy k2 ea pa ba ra ec pc bc rc eAnd
        go_wp2_with fail
        go_roundw
        case rel => exact ⟨t + 1, R', _, by congr 1; push_cast; omega, by omega, lR', HP3.out, HS3.out, HX3.out⟩
        case measure => simp only [intOf]; exact HM3.out
      · have hLOz : ¬ (L : Int) ≤ (O : Int) := by omega
        obtain ⟨ii, hii⟩ : ∃ ii, ii = L / 4 * 2 - 1 + t := ⟨_, rfl⟩
        obtain ⟨jj, hjj⟩ : ∃ jj, jj = O := ⟨_, rfl⟩
        have hiL : ii < L := by omega
        have hjL : jj < L := by omega
        obtain ⟨iN, hiN⟩ : ∃ q, q = a + ii := ⟨_, rfl⟩
        obtain ⟨jN, hjN⟩ : ∃ q, q = a + jj := ⟨_, rfl⟩
        have ea : ((a : Int) + (L : Int) / 4 * 2 - 1 + (t : Int)).toNat = iN := by omega
        have pa : (0 : Int) ≤ (a : Int) + (L : Int) / 4 * 2 - 1 + (t : Int) := by omega
        have ba : (a : Int) + (L : Int) / 4 * 2 - 1 + (t : Int) < (n : Int) := by omega
        have ra : IntKind.i64.wrap ((a : Int) + (L : Int) / 4 * 2 - 1 + (t : Int)) = (a : Int) + (L : Int) / 4 * 2 - 1 + (t : Int) := by rw [IntKind.wrap_i64]; omega
        have ec : ((a : Int) + (O : Int)).toNat = jN := by omega
        have pc : (0 : Int) ≤ (a : Int) + (O : Int) := by omega
        have bc : (a : Int) + (O : Int) < (n : Int) := by omega
        have rc : IntKind.i64.wrap ((a : Int) + (O : Int)) = (a : Int) + (O : Int) := by rw [IntKind.wrap_i64]; omega
        have hSL : S'.length = L := by rw [HP.out.length_eq]; exact HL.out.symm
        obtain ⟨x, hx⟩ : ∃ x, S'[ii]? = some x := ⟨_, List.getElem?_eq_getElem (by omega)⟩
        obtain ⟨y, hy⟩ : ∃ y, S'[jj]? = some y := ⟨_, List.getElem?_eq_getElem (by omega)⟩
        have eI : iN - A.length = ii := by rw [hiN, HA.out]; omega
        have eJ : jN - A.length = jj := by rw [hjN, HA.out]; omega
        have lI : A.length ≤ iN := by rw [hiN, HA.out]; omega
        have lJ : A.length ≤ jN := by rw [hjN, HA.out]; omega
        have uI : iN < A.length + S'.length := by rw [hiN, hSL, HA.out]; omega
        have uJ : jN < A.length + S'.length := by rw [hjN, hSL, HA.out]; omega
        have hxA : (A ++ S' ++ C)[iN]? = some x := by rw [mid_get lI uI, eI]; exact hx
        have hyA : (A ++ S' ++ C)[jN]? = some y := by rw [mid_get lJ uJ, eJ]; exact hy
        have kx := HSB.out.cell hxA
        have ky := HSB.out.cell hyA
        have fx := HSB.out.o.frozenAt iN
        have fy := HSB.out.o.frozenAt jN
        obtain ⟨z, hz⟩ : ∃ z, ((A ++ S' ++ C).set iN y)[jN]? = some z := ⟨_, List.getElem?_eq_getElem (by rw [List.length_set]; exact (List.getElem?_eq_some_iff.1 hyA).1)⟩
        have k2 := (HSB.out.set iN y).cell hz
        have hS3 := ((HSB.out.set iN y).set jN x).drew
        rw [mid_set lI uI, mid_set lJ (by rw [List.length_set]; exact uJ), eI, eJ] at hS3
        have HS3 := Lib.hid hS3
        have HP3 := Lib.hid ((swap_perm hx hy).trans HP.out)
        have HX3 := Lib.hid (((HXB.out.row iN (.int .i64 y)).row jN (.int .i64 x)).below (below_draws _ _ 1))
        have HM3 := Lib.hid (show ((a : Int) + (L : Int) / 4 * 2 + 3 - ((a : Int) + (L : Int) / 4 * 2 - 1 + (t : Int) + 1)).toNat < ((a : Int) + (L : Int) / 4 * 2 + 3 - ((a : Int) + (L : Int) / 4 * 2 - 1 + (t : Int))).toNat by omega)
        clear hS3 hz hxA hyA hx hy eI eJ lI lJ uI uJ hSL hiL hjL hii hjj hiN hjN HSB HXB
        generalize (wr.setCell ⟨sb, 0, none⟩ (.int .u64 R')).drewN 3 = w2 at HNEXT HS3 HX3 kx ky fx fy k2
        go_wp2_with fail
        refine HNEXT.out.mono ?_
        rintro e w' ⟨rfl, hw'⟩
        obtain rfl : w2 = w' := hw'.symm
        go_wp2_with fail
        go_big_region
        clear kx ky fx fy k2 ea pa ba ra ec pc bc rc eAnd
        go_wp2_with fail
        go_roundw
        case rel => exact ⟨t + 1, R', _, by congr 1; push_cast; omega, by omega, lR', HP3.out, HS3.out, HX3.out⟩
        case measure => simp only [intOf]; exact HM3.out
    · obtain rfl : t = 3 := by omega
      have hle : ¬ ((a : Int) + (L : Int) / 4 * 2 - 1 + ((3 : Nat) : Int) ≤ (a : Int) + (L : Int) / 4 * 2 + 1) := by omega
      go_wp2_with fail
      go_end0
      exact ⟨rfl, S', HP.out, by first | exact HS.out | (rw [← List.append_assoc]; exact HS.out)⟩
end
end Go.Proofs.Ytajhfjgndkdbnaa
