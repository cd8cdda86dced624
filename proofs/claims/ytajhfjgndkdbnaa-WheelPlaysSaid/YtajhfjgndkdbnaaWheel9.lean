/- Contracts of wheel's methods at states that are known, awake of parcloselaw08, and the walk of WheelNone. No condition but that the numbers fit their kinds. -/
import Derived.Test.YtajhfjgndkdbnaaWheel8
import Derived.Test.YtajhfjgndkdbnaaKv
namespace Go.Proofs.Ytajhfjgndkdbnaa
open Go.RowKit BigFrame

section
variable {w : World} {b : WB} {N n : Nat} {M M' : List (Int × Nat)}
/-- The timers, in a world that keeps what was below w0. -/
def Wm (w0 w : World) (b : WB) (N : Nat) (M : List (Int × Nat)) (n : Nat) : Prop := IsM w b N M n ∧ Below w0.heap.size w0 w
variable {w0 : World}
theorem Wm.act {w' : World} {n' : Nat} (h : Wm w0 w b N M n) (h' : IsM w' b N M' n') (hx : Ext w w' b.ft) (hF : ∀ k, b.ft k → w0.heap.size ≤ k) : Wm w0 w' b N M' n' := ⟨h', ext_below2 h.2 hx hF⟩
theorem Wm.plus {w' : World} (h : Wm w0 w b N M n) (hb : Below w.heap.size w w') : Wm w0 w' b N M n := ⟨h.1.below hb, h.2.trans (hb.mono h.2.size)⟩
theorem Wm.set (h : Wm w0 w b N M n) (hF : ∀ k, b.ft k → w0.heap.size ≤ k) (x : Nat) (hx : x < N) (t : Int) (ht : t ≤ 9223372036854775807) (hn : n < 4611686018427387904) (hM : insM M (heldT t) x = M') :
    Calls Try.prog 9 #[.pointer (some ⟨b.s, 0, none⟩), .int .i64 x, .int .i64 t] w fun e w' => e = .returned (.bool true) ∧ Wm w0 w' b N M' (n + 1) ∧ Ext w w' b.ft := by
  subst hM
  exact (wset_yes h.1 x hx t ht hn).mono fun _ _ ⟨e1, e2, e3⟩ => ⟨e1, h.act e2 e3 hF, e3⟩
theorem Wm.setNo (h : Wm w0 w b N M n) (x t : Int) (hx : x < 0 ∨ (N : Int) ≤ x) :
    Calls Try.prog 9 #[.pointer (some ⟨b.s, 0, none⟩), .int .i64 x, .int .i64 t] w fun e w' => e = .returned (.bool false) ∧ w = w' := wset_no h.1 x t hx
theorem Wm.stop (h : Wm w0 w b N M n) (hF : ∀ k, b.ft k → w0.heap.size ≤ k) (x : Int) {ok : Bool} (hok : hasM M x = ok) (hM : stopM M x = M') :
    Calls Try.prog 13 #[.pointer (some ⟨b.s, 0, none⟩), .int .i64 x] w fun e w' => e = .returned (.bool ok) ∧ Wm w0 w' b N M' n ∧ Ext w w' b.ft := by
  subst hM hok
  exact (wstop_calls h.1 x).mono fun _ _ ⟨e1, e2, e3⟩ => ⟨e1, h.act e2 e3 hF, e3⟩
theorem Wm.at (h : Wm w0 w b N M n) (x : Int) {a : Int} {ok : Bool} (hM : atM M x = (a, ok)) :
    Calls Try.prog 20 #[.pointer (some ⟨b.s, 0, none⟩), .int .i64 x] w fun e w' => e = .returned (.tuple #[.int .i64 a, .bool ok]) ∧ w = w' := by
  have := wat_calls h.1 x
  rw [hM] at this
  exact this
theorem Wm.next (h : Wm w0 w b N M n) {a : Int} {ok : Bool} (hM : nextM M = (a, ok)) :
    Calls Try.prog 11 #[.pointer (some ⟨b.s, 0, none⟩)] w fun e w' => e = .returned (.tuple #[.int .i64 a, .bool ok]) ∧ Wm w0 w' b N M n ∧ Below w.heap.size w w' := by
  have := wnext_calls h.1
  rw [hM] at this
  exact this.mono fun _ _ ⟨e1, e2⟩ => ⟨e1, h.plus e2, e2⟩
theorem Wm.due (h : Wm w0 w b N M n) (hF : ∀ k, b.ft k → w0.heap.size ≤ k) (hs : Sorts b N N) (t : Int) (ht : t ≤ 9223372036854775807) {l : List Int} (hl : asInts (dueM M (heldT t)) = l) (hM : restM M (heldT t) = M') :
    Calls Try.prog 10 #[.pointer (some ⟨b.s, 0, none⟩), .int .i64 t] w fun e w' => ∃ v, e = .returned v ∧ Kv w' b.ft v l ∧ Wm w0 w' b N M' n ∧ Ext w w' b.ft := by
  subst hl hM
  refine (wdue_calls h.1 hs t ht).mono fun _ _ ⟨v, e1, e2, e3, e4, e5⟩ => ⟨v, e1, Kv.new (w := w) ?_ e3 (fun k hk => h.1.lt k (.inr hk)), h.act e4 e5 hF, e5⟩
  rw [show (asInts (dueM M (heldT t))).length = (dueM M (heldT t)).length by simp [asInts]]
  exact e2
end
theorem wnew_any (q : Int) (w : World) (q0 : -9223372036854775808 ≤ q) (q1 : q ≤ 9223372036854775807) {N : Nat} (hN : wN q = N) :
    Calls Try.prog 8 #[.int .i64 q] w fun e w' => ∃ b : WB, e = .returned (.pointer (some ⟨b.s, 0, none⟩)) ∧ Wm w w' b N [] 0 ∧ (∀ k, b.ft k → w.heap.size ≤ k) := by
  subst hN
  exact (wnew_calls q w q0 q1).mono fun _ _ ⟨b, e1, e2, e3, e4⟩ => ⟨b, e1, ⟨e2, e4⟩, fun k hk => e3 k (.inr hk)⟩

set_option maxRecDepth 100000 in
set_option maxHeartbeats 8000000 in
theorem awake8_calls (w : World) : Calls Try.prog 12 #[] w fun e w' => e = .returned (.bool true) ∧ Below w.heap.size w w' := by
  go_enter Try.func12, Try.ntmps12
  go_wp2_with fail
  refine (wnew_any 3 _ (by omega) (by omega) (N := 3) (by decide)).mono ?_
  rintro e w1 ⟨b, rfl, h, hF⟩
  have HF := Lib.hid hF
  have H1 := Lib.hid h
  clear h hF
  go_wp2_with fail
  refine (H1.out.set HF.out 0 (by omega) 9 (by omega) (by omega) (M' := [(9, 0)]) (by decide)).mono ?_
  rintro e w2 ⟨rfl, h, -⟩
  have H2 := Lib.hid h
  clear h
  go_wp2_with fail
  refine (H2.out.set HF.out 1 (by omega) 4 (by omega) (by omega) (M' := [(4, 1), (9, 0)]) (by decide)).mono ?_
  rintro e w3 ⟨rfl, h, -⟩
  have H3 := Lib.hid h
  clear h
  go_wp2_with fail
  refine (H3.out.set HF.out 2 (by omega) 4 (by omega) (by omega) (M' := [(4, 1), (4, 2), (9, 0)]) (by decide)).mono ?_
  rintro e w4 ⟨rfl, h, -⟩
  have H4 := Lib.hid h
  clear h
  go_wp2_with fail
  refine (H4.out.set HF.out 1 (by omega) 4 (by omega) (by omega) (M' := [(4, 2), (4, 1), (9, 0)]) (by decide)).mono ?_
  rintro e w5 ⟨rfl, h, -⟩
  have H5 := Lib.hid h
  clear h
  go_wp2_with fail
  refine (H5.out.next (a := 4) (ok := true) (by decide)).mono ?_
  rintro e w6 ⟨rfl, h, -⟩
  have H6 := Lib.hid h
  clear h H1 H2 H3 H4 H5
  go_wp2_with fail
  refine (H6.out.due HF.out (sorts_small _ _ _ (by omega)) 8 (by omega) (l := [2, 1]) (M' := [(9, 0)]) (by decide) (by decide)).mono ?_
  rintro e w7 ⟨v, rfl, hv, h, -⟩
  have H7 := Lib.hid h
  have V7 := Lib.hid hv
  clear h hv
  go_wp2_with fail
  refine (H7.out.due HF.out (sorts_small _ _ _ (by omega)) 9 (by omega) (l := [0]) (M' := []) (by decide) (by decide)).mono ?_
  rintro e w8 ⟨v2, rfl, hv, h, hx⟩
  have H8 := Lib.hid h
  have U8 := Lib.hid hv
  have V8 := Lib.hid (V7.out.ext hx)
  have K8 := Lib.hid ((V8.out.below ((Below.refl w8.heap.size w8).alloc (Nat.le_refl _) (.cells (ints [2, 1]).toArray 3))).1)
  clear h hv hx V7
  go_wp2_with fail
  refine (ints_same K8.out (reads_lit w8 [2, 1] _ (by decide))).mono ?_
  rintro e w9 ⟨rfl, q9, rfl⟩
  have hb9 : Below w8.heap.size w8 ((w8.alloc (.cells (ints [2, 1]).toArray 3)).drewN q9) := below_drewN ((Below.refl _ _).alloc (Nat.le_refl _) _) q9
  have U9 := Lib.hid (U8.out.below hb9)
  have H9 := Lib.hid (H8.out.plus hb9)
  clear hb9
  clear H8 U8 V8 K8 H6 H7
  revert U9 H9
  generalize (w8.alloc (.cells (ints [2, 1]).toArray 3)).drewN q9 = w9
  intro U9 H9
  have K9 := Lib.hid ((U9.out.below ((Below.refl w9.heap.size w9).alloc (Nat.le_refl _) (.cells (ints [0]).toArray 3))).1)
  go_wp2_with fail
  refine (ints_same K9.out (reads_lit w9 [0] _ (by decide))).mono ?_
  rintro e w10 ⟨rfl, q10, rfl⟩
  have hb10 : Below w9.heap.size w9 ((w9.alloc (.cells (ints [0]).toArray 3)).drewN q10) := below_drewN ((Below.refl _ _).alloc (Nat.le_refl _) _) q10
  have H10 := Lib.hid (H9.out.plus hb10)
  clear hb10 K9 U9 H9
  revert H10
  generalize (w9.alloc (.cells (ints [0]).toArray 3)).drewN q10 = w10
  intro H10
  go_wp2_with fail
  refine (H10.out.stop HF.out 0 (ok := false) (M' := []) (by decide) (by decide)).mono ?_
  rintro e w11 ⟨rfl, h, -⟩
  have H11 := Lib.hid h
  clear h
  go_wp2_with fail
  refine (H11.out.setNo 3 1 (by omega)).mono ?_
  rintro e w12 ⟨rfl, rfl⟩
  go_wp2_with fail
  go_ret
  exact ⟨rfl, H11.out.2⟩
set_option maxRecDepth 100000 in
set_option maxHeartbeats 8000000 in
theorem wheelNone_walk (w : World) (id : Int) (i0 : -9223372036854775808 ≤ id) (i1 : id ≤ 9223372036854775807) (t : Int) (_ : -9223372036854775808 ≤ t) (t1 : t ≤ 9223372036854775807) :
    Calls Try.prog 7 #[.int .i64 id, .int .i64 t] w fun e w' => e = .returned (.bool true) ∧ Below w.heap.size w w' := by
  by_cases h0 : id < 0
  · have h0d : ¬ 0 ≤ id := by omega
    go_enter Try.func7, Try.ntmps7
    go_wp2_with fail
    refine (wat_nil id _).mono ?_
    rintro e w' ⟨rfl, rfl⟩
    go_wp2_with fail
    refine (wnext_nil _).mono ?_
    rintro e w' ⟨rfl, rfl⟩
    go_wp2_with fail
    refine (wset_nil id t _).mono ?_
    rintro e w' ⟨rfl, rfl⟩
    go_wp2_with fail
    refine (wstop_nil id _).mono ?_
    rintro e w' ⟨rfl, rfl⟩
    go_wp2_with fail
    refine (wdue_nil t _).mono ?_
    rintro e w' ⟨rfl, rfl⟩
    go_wp2_with fail
    refine (wnew_any 4 _ (by omega) (by omega) (N := 4) (by decide)).mono ?_
    rintro e w1 ⟨b, rfl, h, hF⟩
    have HF := Lib.hid hF
    have H1 := Lib.hid h
    clear h hF
    go_wp2_with fail
    refine (H1.out.at id (a := 0) (ok := false) rfl).mono ?_
    rintro e w' ⟨rfl, rfl⟩
    go_wp2_with fail
    refine (awake8_calls _).mono ?_
    rintro e w2 ⟨rfl, hb⟩
    have H2 := Lib.hid (H1.out.plus hb)
    clear hb
    go_wp2_with fail
    refine (H2.out.setNo id t (by omega)).mono ?_
    rintro e w' ⟨rfl, rfl⟩
    go_wp2_with fail
    refine (H2.out.stop HF.out id (ok := false) rfl rfl).mono ?_
    rintro e w4 ⟨rfl, h, -⟩
    have H4 := Lib.hid h
    clear h
    go_wp2_with fail
    go_ret
    exact ⟨rfl, H4.out.2⟩
  · by_cases h4 : id < 4
    · obtain ⟨x, rfl⟩ : ∃ x : Nat, id = x := ⟨id.toNat, by omega⟩
      have hx4 : x < 4 := by omega
      have hxz : (0 : Int) ≤ (x : Int) := Int.natCast_nonneg _
      go_enter Try.func7, Try.ntmps7
      go_wp2_with fail
      refine (wat_nil x _).mono ?_
      rintro e w' ⟨rfl, rfl⟩
      go_wp2_with fail
      refine (wnext_nil _).mono ?_
      rintro e w' ⟨rfl, rfl⟩
      go_wp2_with fail
      refine (wset_nil x t _).mono ?_
      rintro e w' ⟨rfl, rfl⟩
      go_wp2_with fail
      refine (wstop_nil x _).mono ?_
      rintro e w' ⟨rfl, rfl⟩
      go_wp2_with fail
      refine (wdue_nil t _).mono ?_
      rintro e w' ⟨rfl, rfl⟩
      go_wp2_with fail
      refine (wnew_any 4 _ (by omega) (by omega) (N := 4) (by decide)).mono ?_
      rintro e w1 ⟨b, rfl, h, hF⟩
      have HF := Lib.hid hF
      have H1 := Lib.hid h
      clear h hF
      go_wp2_with fail
      refine (H1.out.at x (a := 0) (ok := false) rfl).mono ?_
      rintro e w' ⟨rfl, rfl⟩
      go_wp2_with fail
      refine (awake8_calls _).mono ?_
      rintro e w2 ⟨rfl, hb⟩
      have H2 := Lib.hid (H1.out.plus hb)
      clear hb
      go_wp2_with fail
      refine (H2.out.set HF.out x (by omega) t t1 (by omega) rfl).mono ?_
      rintro e w3 ⟨rfl, h, -⟩
      have H3 := Lib.hid h
      clear h
      go_wp2_with fail
      refine (H3.out.stop HF.out x (ok := true) (by simp [hasM, insM, stopM]) rfl).mono ?_
      rintro e w4 ⟨rfl, h, -⟩
      have H4 := Lib.hid h
      clear h
      go_wp2_with fail
      go_ret
      exact ⟨rfl, H4.out.2⟩
    · have h0d : 0 ≤ id := by omega
      have h4d : decide (id < 4) = false := decide_eq_false h4
      go_enter Try.func7, Try.ntmps7
      go_wp2_with fail
      refine (wat_nil id _).mono ?_
      rintro e w' ⟨rfl, rfl⟩
      go_wp2_with fail
      refine (wnext_nil _).mono ?_
      rintro e w' ⟨rfl, rfl⟩
      go_wp2_with fail
      refine (wset_nil id t _).mono ?_
      rintro e w' ⟨rfl, rfl⟩
      go_wp2_with fail
      refine (wstop_nil id _).mono ?_
      rintro e w' ⟨rfl, rfl⟩
      go_wp2_with fail
      refine (wdue_nil t _).mono ?_
      rintro e w' ⟨rfl, rfl⟩
      go_wp2_with fail
      refine (wnew_any 4 _ (by omega) (by omega) (N := 4) (by decide)).mono ?_
      rintro e w1 ⟨b, rfl, h, hF⟩
      have HF := Lib.hid hF
      have H1 := Lib.hid h
      clear h hF
      go_wp2_with fail
      refine (H1.out.at id (a := 0) (ok := false) rfl).mono ?_
      rintro e w' ⟨rfl, rfl⟩
      go_wp2_with fail
      refine (awake8_calls _).mono ?_
      rintro e w2 ⟨rfl, hb⟩
      have H2 := Lib.hid (H1.out.plus hb)
      clear hb
      go_wp2_with fail
      refine (H2.out.setNo id t (by omega)).mono ?_
      rintro e w' ⟨rfl, rfl⟩
      go_wp2_with fail
      refine (H2.out.stop HF.out id (ok := false) rfl rfl).mono ?_
      rintro e w4 ⟨rfl, h, -⟩
      have H4 := Lib.hid h
      clear h
      go_wp2_with fail
      go_ret
      exact ⟨by first | rfl | simp [h4], H4.out.2⟩
end Go.Proofs.Ytajhfjgndkdbnaa
