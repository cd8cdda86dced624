/- The walk of the statement WheelStops: it returns true. Condition: the numbers fit their kinds. -/
import Derived.Test.YtajhfjgndkdbnaaWheel9
namespace Go.Proofs.Ytajhfjgndkdbnaa
open Go.RowKit BigFrame

theorem rheld_calls5 (t : Int) (w : World) (_ : t ≤ 9223372036854775807) : Calls Try.prog 14 #[.int .i64 t] w fun e w' => e = .returned (.int .i64 (heldT t)) ∧ w = w' := by
  by_cases h : t < 0
  · rw [show heldT t = 0 by unfold heldT; omega]
    go_enter Try.func14, Try.ntmps14
    go_wp2
    go_ret
    exact ⟨rfl, rfl⟩
  · by_cases h2 : 4611686018427387904 < t
    · rw [show heldT t = 4611686018427387904 by unfold heldT; omega]
      go_enter Try.func14, Try.ntmps14
      go_wp2
      go_ret
      exact ⟨rfl, rfl⟩
    · rw [show heldT t = t by unfold heldT; omega]
      go_enter Try.func14, Try.ntmps14
      go_wp2
      go_ret
      exact ⟨rfl, rfl⟩
theorem ins_one (a c : Int) : insM [(a, 1)] c 1 = [(c, 1)] := by simp [insM, stopM]
theorem due_one (a nw : Int) : (a ≤ nw → asInts (dueM [(a, 1)] nw) = [1] ∧ restM [(a, 1)] nw = []) ∧ (¬ a ≤ nw → asInts (dueM [(a, 1)] nw) = [] ∧ restM [(a, 1)] nw = [(a, 1)]) :=
  ⟨fun h => by simp [dueM, restM, asInts, h], fun h => by simp [dueM, restM, asInts, h]⟩
set_option maxRecDepth 100000 in
set_option maxHeartbeats 8000000 in
theorem wheelStops_walk (w : World) (f : Int) (_ : -9223372036854775808 ≤ f) (f1 : f ≤ 9223372036854775807) (x : Int) (_ : -9223372036854775808 ≤ x) (x1 : x ≤ 9223372036854775807) (stop : Bool) (t : Int) (_ : -9223372036854775808 ≤ t) (t1 : t ≤ 9223372036854775807) :
    Calls Try.prog 4 #[.int .i64 f, .int .i64 x, .bool stop, .int .i64 t] w fun e w' => e = .returned (.bool true) ∧ Below w.heap.size w w' := by
  cases stop with
  | true =>
    go_enter Try.func4, Try.ntmps4
    go_wp2_with fail
    refine (wnew_any 2 _ (by omega) (by omega) (N := 2) (by decide)).mono ?_
    rintro e w1 ⟨b, rfl, h, hF⟩
    have HF := Lib.hid hF
    have H1 := Lib.hid h
    clear h hF
    go_wp2_with fail
    refine (H1.out.set HF.out 1 (by omega) f f1 (by omega) (M' := [(heldT f, 1)]) rfl).mono ?_
    rintro e w2 ⟨rfl, h, -⟩
    have H2 := Lib.hid h
    clear h
    go_wp2_with fail
    refine (H2.out.stop HF.out 1 (ok := true) (M' := []) (by simp [hasM]) (by simp [stopM])).mono ?_
    rintro e w3 ⟨rfl, h, -⟩
    have H3 := Lib.hid h
    clear h
    go_wp2_with fail
    refine (H3.out.stop HF.out 1 (ok := false) (M' := []) (by decide) (by decide)).mono ?_
    rintro e w4 ⟨rfl, h, -⟩
    have H4 := Lib.hid h
    clear h
    go_wp2_with fail
    refine (H4.out.due HF.out (sorts_small _ _ _ (by omega)) t t1 (l := []) (M' := []) rfl rfl).mono ?_
    rintro e w5 ⟨v, rfl, hv, h, -⟩
    have H5 := Lib.hid h
    obtain ⟨⟨_, a, c, hve, q1, q2, -⟩, -⟩ := hv
    simp only [List.length_nil] at hve q1
    subst hve
    unfold maxLen at q2
    clear h
    go_wp2_with fail
    refine (awake8_calls _).mono ?_
    rintro e w6 ⟨rfl, hb⟩
    have H6 := Lib.hid (H5.out.plus hb)
    clear hb
    go_wp2_with fail
    go_ret
    exact ⟨rfl, H6.out.2⟩
  | false =>
    by_cases hle : heldT x ≤ heldT t
    · have HD := Lib.hid ((due_one (heldT x) (heldT t)).1 hle)
      go_enter Try.func4, Try.ntmps4
      go_wp2_with fail
      refine (wnew_any 2 _ (by omega) (by omega) (N := 2) (by decide)).mono ?_
      rintro e w1 ⟨b, rfl, h, hF⟩
      have HF := Lib.hid hF
      have H1 := Lib.hid h
      clear h hF
      go_wp2_with fail
      refine (H1.out.set HF.out 1 (by omega) f f1 (by omega) (M' := [(heldT f, 1)]) rfl).mono ?_
      rintro e w2 ⟨rfl, h, -⟩
      have H2 := Lib.hid h
      clear h
      go_wp2_with fail
      refine (H2.out.set HF.out 1 (by omega) x x1 (by omega) (M' := [(heldT x, 1)]) (ins_one _ _)).mono ?_
      rintro e w3 ⟨rfl, h, -⟩
      have H3 := Lib.hid h
      clear h
      go_wp2_with fail
      refine (H3.out.due HF.out (sorts_small _ _ _ (by omega)) t t1 (l := [1]) (M' := []) HD.out.1 HD.out.2).mono ?_
      rintro e w5 ⟨v, rfl, hv, h, -⟩
      have H5 := Lib.hid h
      have V5 := Lib.hid hv
      clear h hv
      go_wp2_with fail
      refine (rheld_calls5 x _ x1).mono ?_
      rintro e w' ⟨rfl, rfl⟩
      have hcmp : ¬ heldT t < heldT x := by omega
      generalize heldT x = p1 at *
      go_wp2_with fail
      refine (rheld_calls5 t _ t1).mono ?_
      rintro e w' ⟨rfl, rfl⟩
      generalize heldT t = p2 at *
      go_wp2_with fail
      refine (awake8_calls _).mono ?_
      rintro e w6 ⟨rfl, hb⟩
      have H6 := Lib.hid (H5.out.plus hb)
      have V6 := Lib.hid (V5.out.below hb)
      have K6 := Lib.hid ((V6.out.below ((Below.refl w6.heap.size w6).alloc (Nat.le_refl _) (.cells (ints [1]).toArray 3))).1)
      clear hb H5 V5
      go_wp2_with fail
      refine (ints_same K6.out (reads_lit w6 [1] _ (by decide))).mono ?_
      rintro e w7 ⟨rfl, q7, rfl⟩
      have H7 := Lib.hid (H6.out.plus (below_drewN ((Below.refl _ _).alloc (Nat.le_refl _) (.cells (ints [1]).toArray 3)) q7))
      go_wp2_with fail
      refine (H7.out.stop HF.out 1 (ok := false) (M' := []) (by decide) (by decide)).mono ?_
      rintro e w8 ⟨rfl, h, -⟩
      have H8 := Lib.hid h
      clear h
      go_wp2_with fail
      go_ret
      exact ⟨rfl, H8.out.2⟩
    · have HD := Lib.hid ((due_one (heldT x) (heldT t)).2 hle)
      go_enter Try.func4, Try.ntmps4
      go_wp2_with fail
      refine (wnew_any 2 _ (by omega) (by omega) (N := 2) (by decide)).mono ?_
      rintro e w1 ⟨b, rfl, h, hF⟩
      have HF := Lib.hid hF
      have H1 := Lib.hid h
      clear h hF
      go_wp2_with fail
      refine (H1.out.set HF.out 1 (by omega) f f1 (by omega) (M' := [(heldT f, 1)]) rfl).mono ?_
      rintro e w2 ⟨rfl, h, -⟩
      have H2 := Lib.hid h
      clear h
      go_wp2_with fail
      refine (H2.out.set HF.out 1 (by omega) x x1 (by omega) (M' := [(heldT x, 1)]) (ins_one _ _)).mono ?_
      rintro e w3 ⟨rfl, h, -⟩
      have H3 := Lib.hid h
      clear h
      go_wp2_with fail
      refine (H3.out.due HF.out (sorts_small _ _ _ (by omega)) t t1 (l := []) (M' := [(heldT x, 1)]) HD.out.1 HD.out.2).mono ?_
      rintro e w5 ⟨v, rfl, hv, h, -⟩
      have H5 := Lib.hid h
      obtain ⟨⟨_, a, c, hve, q1, q2, -⟩, -⟩ := hv
      simp only [List.length_nil] at hve q1
      subst hve
      unfold maxLen at q2
      clear h
      go_wp2_with fail
      refine (rheld_calls5 x _ x1).mono ?_
      rintro e w' ⟨rfl, rfl⟩
      have hcmp : heldT t < heldT x := by omega
      have HX := Lib.hid H5.out.2
      clear H1 H2 H3 H5 HD hle
      go_wp2_with fail
      refine (rheld_calls5 t _ t1).mono ?_
      rintro e w' ⟨rfl, rfl⟩
      go_wp2_with fail
      refine (awake8_calls _).mono ?_
      rintro e w6 ⟨rfl, hb⟩
      have HB6 := Lib.hid (HX.out.trans (hb.mono HX.out.size))
      clear hb
      go_wp2_with fail
      go_ret
      exact ⟨rfl, HB6.out⟩
end Go.Proofs.Ytajhfjgndkdbnaa
