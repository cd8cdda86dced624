/- What slices' order2CmpFunc, medianCmpFunc, choosePivotCmpFunc do at a row of timers' numbers (sixteen or fewer): they only choose a place. Condition: as in Wheel6. -/
import Derived.Test.YtajhfjgndkdbnaaBig1
namespace Go.Proofs.Ytajhfjgndkdbnaa
open Go.RowKit BigFrame

/-- A number of the call's own in block sb, beside the row. -/
structure OB (w0 w : World) (b : WB) (bv sb : Nat) (s : Nat) : Prop where
  c : w.heap[sb]? = some (.cells #[.int .i64 s] 3 (0, 0))
  new : w0.heap.size ≤ sb
  ne : sb ≠ bv
  ap : ∀ k, (k = b.G ∨ b.ft k) → k ≠ sb
section
variable {w0 wr w2 : World} {b : WB} {D : WD} {N bv n c sb s : Nat} {R : List Nat}
theorem OB.below (h : OB w0 wr b bv sb s) (hb : Below wr.heap.size wr w2) : OB w0 w2 b bv sb s := ⟨(hb.block sb (lt_of_block h.c)).trans h.c, h.new, h.ne, h.ap⟩
theorem OB.up (h : OB w0 wr b bv sb s) (s' : Nat) : OB w0 (wr.setCell ⟨sb, 0, none⟩ (.int .i64 s')) b bv sb s' := by
  refine ⟨?_, h.new, h.ne, h.ap⟩
  have := blk_set h.c 0 (.int .i64 s')
  simpa using this
theorem SR.other (h : SR w0 wr b D N bv n c R) (ho : OB w0 wr b bv sb s) (v : Value) : SR w0 (wr.setCell ⟨sb, 0, none⟩ v) b D N bv n c R := by
  refine ⟨h.i.frame (fun k hk => heap_setCell_other _ _ _ _ (ho.ap k hk)), owns_same h.o (fun k hk => heap_setCell_other _ _ _ _ ?_), h.ap, h.x.setCell (p := ⟨sb, 0, none⟩) (fun hl => ?_) v⟩
  · simp only [Value.ownBlock, Option.some.injEq] at hk
    intro e
    exact ho.ne (by simp only at e; omega)
  · have := ho.new
    simp only at hl
    omega
set_option maxRecDepth 100000 in
set_option maxHeartbeats 16000000 in
theorem order2_calls (h : SR w0 wr b D N bv n c R) (ho : OB w0 wr b bv sb s) (hR : ∀ x ∈ R, x < N) (hn : n ≤ 16) (hc : n ≤ c) (hcm : c ≤ maxLen) (hs : s < 1000) (i j : Nat) (hi : i < n) (hj : j < n) :
    Calls Try.prog 63 #[.slice (some ⟨bv, 0, none⟩) n c, .int .i64 i, .int .i64 j, .pointer (some ⟨sb, 0, none⟩), .func (.func 28) #[.pointer (some ⟨b.s, 0, none⟩)] #[]] wr fun e w' =>
      ∃ i' j' s' : Nat, e = .returned (.tuple #[.int .i64 i', .int .i64 j']) ∧ ((i' = i ∧ j' = j) ∨ (i' = j ∧ j' = i)) ∧ s' ≤ s + 1 ∧ SR w0 w' b D N bv n c R ∧ OB w0 w' b bv sb s' := by
  have hlen := h.len
  obtain ⟨x, hx⟩ : ∃ x, R[j]? = some x := ⟨_, List.getElem?_eq_getElem (by omega)⟩
  obtain ⟨p, hp⟩ : ∃ p, R[i]? = some p := ⟨_, List.getElem?_eq_getElem (by omega)⟩
  have hxN := hR x (List.mem_of_getElem? hx)
  have hpN := hR p (List.mem_of_getElem? hp)
  have kx := h.cell hx
  have kp := h.cell hp
  have hiz : (0 : Int) ≤ (i : Int) := Int.natCast_nonneg _
  have hjz : (0 : Int) ≤ (j : Int) := Int.natCast_nonneg _
  have hi' : (i : Int) < (n : Int) := by omega
  have hj' : (j : Int) < (n : Int) := by omega
  have hor := order_calls h.drew.i x p hxN hpN
  have H := Lib.hid h
  have HO := Lib.hid ho
  have HX := Lib.hid hx
  have HP := Lib.hid hp
  generalize cfW D x p = r at hor
  have HOR := Lib.hid hor
  unfold maxLen at hcm
  clear h ho hR hx hp hxN hpN hor hlen
  by_cases hneg : r < 0
  · have hd : decide (r < 0) = true := decide_eq_true hneg
    go_enter Try.func63, Try.ntmps63
    go_wp2_with fail
    go_region_held3 (fun w' => w'.cell? ⟨bv, j, none⟩ = some (.int .i64 x) ∧ w'.cell? ⟨bv, i, none⟩ = some (.int .i64 p)) (first | go_keep | exact ⟨kx, kp⟩ | exact hkk)
      ((go_at_call 28; refine HOR.out.mono ?_; rintro e w4 ⟨rfl, hb4⟩; have HS4 := Lib.hid (H.out.drew.below hb4); have HO4 := Lib.hid ((HO.out.below ((Below.refl _ _).drew)).below hb4); have hkk := And.intro (HS4.out.cell HX.out) (HS4.out.cell HP.out); clear hb4))
    all_goals have ko := blk_cell HO4.out.c 0
    all_goals have fo := blk_free HO4.out.c 0
    all_goals have hup := HO4.out.up (s + 1)
    all_goals have HUP := Lib.hid hup
    all_goals have HSS := Lib.hid (HS4.out.other HO4.out (.int .i64 ((s + 1 : Nat) : Int)))
    all_goals clear kx kp hkk hup
    all_goals go_wp2_with fail
    all_goals go_ret2
    all_goals exact ⟨j, i, s + 1, rfl, .inr ⟨rfl, rfl⟩, Nat.le_refl _, HSS.out, HUP.out⟩
  · have hd : decide (r < 0) = false := decide_eq_false hneg
    go_enter Try.func63, Try.ntmps63
    go_wp2_with fail
    go_region_held3 (fun w' => w'.cell? ⟨bv, j, none⟩ = some (.int .i64 x) ∧ w'.cell? ⟨bv, i, none⟩ = some (.int .i64 p)) (first | go_keep | exact ⟨kx, kp⟩ | exact hkk)
      ((go_at_call 28; refine HOR.out.mono ?_; rintro e w4 ⟨rfl, hb4⟩; have HS4 := Lib.hid (H.out.drew.below hb4); have HO4 := Lib.hid ((HO.out.below ((Below.refl _ _).drew)).below hb4); have hkk := And.intro (HS4.out.cell HX.out) (HS4.out.cell HP.out); clear hb4))
    all_goals clear kx kp hkk
    all_goals go_wp2_with fail
    all_goals go_ret2
    all_goals exact ⟨i, j, s, rfl, .inl ⟨rfl, rfl⟩, Nat.le_succ _, HS4.out, HO4.out⟩
set_option maxRecDepth 100000 in
set_option maxHeartbeats 16000000 in
theorem median_calls (h : SR w0 wr b D N bv n c R) (ho : OB w0 wr b bv sb s) (hR : ∀ x ∈ R, x < N) (hn : n ≤ 16) (hc : n ≤ c) (hcm : c ≤ maxLen) (hs : s < 100) (i j k : Nat) (hi : i < n) (hj : j < n) (hk : k < n) :
    Calls Try.prog 62 #[.slice (some ⟨bv, 0, none⟩) n c, .int .i64 i, .int .i64 j, .int .i64 k, .pointer (some ⟨sb, 0, none⟩), .func (.func 28) #[.pointer (some ⟨b.s, 0, none⟩)] #[]] wr fun e w' =>
      ∃ m s' : Nat, e = .returned (.int .i64 m) ∧ (m = i ∨ m = j ∨ m = k) ∧ s' ≤ s + 3 ∧ SR w0 w' b D N bv n c R ∧ OB w0 w' b bv sb s' := by
  have HO2 := Lib.hid (fun (u : World) (s : Nat) (h : SR w0 u b D N bv n c R) (ho : OB w0 u b bv sb s) (hs : s < 1000) (i j : Nat) (hi : i < n) (hj : j < n) => order2_calls h ho hR hn hc hcm hs i j hi hj)
  have H := Lib.hid (HO2.out wr s h ho (by omega) i j hi hj)
  clear h ho hR hcm
  go_enter Try.func62, Try.ntmps62
  go_wp2_with fail
  refine H.out.mono ?_
  rintro e w1 ⟨i1, j1, s1, rfl, hij, hs1, h1, ho1⟩
  have H1 := Lib.hid (HO2.out w1 s1 h1 ho1 (by omega) j1 k (by omega) hk)
  have HIJ := Lib.hid hij
  have hi1 : i1 < n := by omega
  clear h1 ho1 hij H
  go_wp2_with fail
  refine H1.out.mono ?_
  rintro e w2 ⟨j2, k2, s2, rfl, hjk, hs2, h2, ho2⟩
  have H2 := Lib.hid (HO2.out w2 s2 h2 ho2 (by omega) i1 j2 hi1 (by have := HIJ.out; omega))
  have HJK := Lib.hid hjk
  clear h2 ho2 hjk H1
  go_wp2_with fail
  refine H2.out.mono ?_
  rintro e w3 ⟨i3, j3, s3, rfl, hij3, hs3, h3, ho3⟩
  have H3 := Lib.hid (And.intro h3 ho3)
  have HIJ3 := Lib.hid hij3
  clear h3 ho3 hij3 H2
  go_wp2_with fail
  go_ret
  refine ⟨j3, s3, rfl, ?_, by omega, H3.out.1, H3.out.2⟩
  have a1 := HIJ.out
  have a2 := HJK.out
  have a3 := HIJ3.out
  omega
end
end Go.Proofs.Ytajhfjgndkdbnaa
