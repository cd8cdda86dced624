/- The walk of the statement SchedTurns: it returns true. Condition: the numbers fit their kinds. -/
import Derived.Test.YtkiogbenbicghaaTurnPure
namespace Go.Proofs.Ytkiogbenbicghaa
open Go.RowKit BigFrame

/-- A Sched behind k spawns, with the run list rl. -/
def Rk (w wr : World) (b : SB) (A : Ar) (rl : List Int) : Prop := (∃ fs, IsT wr b A fs rl) ∧ Below w.heap.size w wr
theorem Rk.act {w wr w' : World} {b : SB} {A A' : Ar} {rl rl' : List Int} (h : Rk w wr b A rl) (h' : ∃ fs, IsT w' b A' fs rl') (hx : Ext wr w' b.ft) (hk : ∀ k, b.ft k → w.heap.size ≤ k) : Rk w w' b A' rl' := ⟨h', ext_below2 h.2 hx hk⟩
theorem Rk.plus {w wr w' : World} {b : SB} {A : Ar} {rl : List Int} (h : Rk w wr b A rl) (hb : Below wr.heap.size wr w') : Rk w w' b A rl := ⟨h.1.imp (fun _ h => h.below hb), h.2.trans (hb.mono h.2.size)⟩
section
variable {w wr : World} {b : SB} {A A' : Ar} {rl rl' : List Int}
theorem Rk.spawn (h : Rk w wr b A rl) (hk : ∀ k, b.ft k → w.heap.size ≤ k) {t : Int} {ok : Bool} (he : A.take.1 = t ∧ A.take.2.1 = ok ∧ spnA A = A' ∧ spnR A rl = rl') :
    Calls Try.prog 28 #[.pointer (some ⟨b.s, 0, none⟩)] wr fun e w' => e = .returned (.tuple #[.int .i64 t, .bool ok]) ∧ Rk w w' b A' rl' ∧ Ext wr w' b.ft := by
  obtain ⟨⟨fs, h1⟩, h2⟩ := h
  exact (spawn_any he h1).mono fun _ _ ⟨e1, ⟨_, e2⟩, e3⟩ => ⟨e1, ⟨⟨_, e2⟩, ext_below2 h2 e3 hk⟩, e3⟩
theorem Rk.run (h : Rk w wr b A rl) :
    Calls Try.prog 29 #[.pointer (some ⟨b.s, 0, none⟩)] wr fun e w' => ∃ v, e = .returned v ∧ Kv w' b.ft v rl ∧ Rk w w' b A rl ∧ Below wr.heap.size wr w' := by
  obtain ⟨⟨fs, h1⟩, h2⟩ := h
  exact (run_any h1).mono fun _ _ ⟨v, e1, e2, e3, e4⟩ => ⟨v, e1, e2, ⟨⟨_, e3⟩, h2.trans (e4.mono h2.size)⟩, e4⟩
theorem Rk.pick (h : Rk w wr b A rl) {n x : Int} {ok : Bool} (he : pickS rl n = (x, ok)) :
    Calls Try.prog 30 #[.pointer (some ⟨b.s, 0, none⟩), .int .i64 n] wr fun e w' => e = .returned (.tuple #[.int .i64 x, .bool ok]) ∧ Rk w w' b A rl ∧ Below wr.heap.size wr w' := by
  obtain ⟨⟨fs, h1⟩, h2⟩ := h
  exact (pick_any he h1).mono fun _ _ ⟨e1, e2, e3⟩ => ⟨e1, ⟨⟨_, e2⟩, h2.trans (e3.mono h2.size)⟩, e3⟩
theorem Rk.block (h : Rk w wr b A rl) (hk : ∀ k, b.ft k → w.heap.size ≤ k) {t : Int} {ok : Bool} (he : blkT rl t = (ok, rl')) (ht : t ≤ 9223372036854775807) :
    Calls Try.prog 33 #[.pointer (some ⟨b.s, 0, none⟩), .int .i64 t] wr fun e w' => e = .returned (.bool ok) ∧ Rk w w' b A rl' ∧ Ext wr w' b.ft := by
  obtain ⟨⟨fs, h1⟩, h2⟩ := h
  exact (block_any he h1 ht).mono fun _ _ ⟨e1, e2, e3⟩ => ⟨e1, ⟨⟨_, e2⟩, ext_below2 h2 e3 hk⟩, e3⟩
theorem Rk.ready (h : Rk w wr b A rl) (hk : ∀ k, b.ft k → w.heap.size ≤ k) {t : Int} {ok : Bool} (he : rdyT A rl t = (ok, rl')) (ht : t ≤ 9223372036854775807) :
    Calls Try.prog 35 #[.pointer (some ⟨b.s, 0, none⟩), .int .i64 t] wr fun e w' => e = .returned (.bool ok) ∧ Rk w w' b A rl' ∧ Ext wr w' b.ft := by
  obtain ⟨⟨fs, h1⟩, h2⟩ := h
  exact (ready_any he h1 ht).mono fun _ _ ⟨e1, e2, e3⟩ => ⟨e1, ⟨⟨_, e2⟩, ext_below2 h2 e3 hk⟩, e3⟩
theorem Rk.yield (h : Rk w wr b A rl) (hk : ∀ k, b.ft k → w.heap.size ≤ k) {t : Int} {ok : Bool} (he : yldT rl t = (ok, rl')) (ht : t ≤ 9223372036854775807) :
    Calls Try.prog 31 #[.pointer (some ⟨b.s, 0, none⟩), .int .i64 t] wr fun e w' => e = .returned (.bool ok) ∧ Rk w w' b A rl' ∧ Ext wr w' b.ft := by
  obtain ⟨⟨fs, h1⟩, h2⟩ := h
  exact (yield_any he h1 ht).mono fun _ _ ⟨e1, e2, e3⟩ => ⟨e1, ⟨⟨_, e2⟩, ext_below2 h2 e3 hk⟩, e3⟩
theorem Rk.exit (h : Rk w wr b A rl) (hk : ∀ k, b.ft k → w.heap.size ≤ k) {t : Int} {ok : Bool} (he : decide (0 ≤ A.place t) = ok ∧ extA A t = A' ∧ extR A rl t = rl') (ht : t ≤ 9223372036854775807) :
    Calls Try.prog 34 #[.pointer (some ⟨b.s, 0, none⟩), .int .i64 t] wr fun e w' => e = .returned (.bool ok) ∧ Rk w w' b A' rl' ∧ Ext wr w' b.ft := by
  obtain ⟨⟨fs, h1⟩, h2⟩ := h
  exact (exit_any he h1 ht).mono fun _ _ ⟨e1, e2, e3⟩ => ⟨e1, ⟨e2, ext_below2 h2 e3 hk⟩, e3⟩
theorem Rk.place (h : Rk w wr b A rl) {t p : Int} (he : A.place t = p) (ht : t ≤ 9223372036854775807) :
    Calls Try.prog 36 #[.pointer (some ⟨b.s, 0, none⟩), .int .i64 t] wr fun e w' => e = .returned (.int .i64 p) ∧ wr = w' := by
  obtain ⟨⟨fs, h1⟩, h2⟩ := h
  exact place_any he h1 ht
end
theorem new8 (w : World) : Calls Try.prog 27 #[.int .i64 8] w fun e w' => ∃ b : SB, e = .returned (.pointer (some ⟨b.s, 0, none⟩)) ∧ Rk w w' b (spK 0) (rlK 0) ∧ (∀ k, b.ft k → w.heap.size ≤ k) :=
  (tnew_calls 8 w (by omega) (by omega)).mono fun _ _ ⟨b, e1, e2, e3, e4⟩ => ⟨b, e1, ⟨⟨_, e2⟩, e4⟩, fun k hk => e3 k (.inr (.inr hk))⟩
theorem Kv.shape {w : World} {Ft : Nat → Prop} {v : Value} {l : List Int} (h : Kv w Ft v l) (hn : 0 < l.length) : ∃ bv o cap, v = .slice (some ⟨bv, o, none⟩) l.length cap ∧ l.length ≤ cap ∧ cap ≤ maxLen := by
  obtain ⟨⟨_, a, cap, rfl, h2, h3, h4⟩, _⟩ := h
  obtain ⟨bv, o, rfl, _⟩ := h4 hn
  exact ⟨bv, o, cap, rfl, h2, h3⟩
theorem Kv.cell {w : World} {Ft : Nat → Prop} {bv o n cap : Nat} {l : List Int} (h : Kv w Ft (.slice (some ⟨bv, o, none⟩) n cap) l) {i : Nat} {x : Int} (hx : l[i]? = some x) : w.cell? ⟨bv, o + i, none⟩ = some (.int .i64 x) := by
  obtain ⟨⟨_, a, c, e, h2, h3, h4⟩, _⟩ := h
  have hi := (List.getElem?_eq_some_iff.1 hx).1
  injection e with e1 e2 e3
  subst e1
  obtain ⟨b', o', e, hc⟩ := h4 (by omega)
  injection e with e
  injection e with e1 e2
  subst e1 e2
  exact hc i _ (by simp [ints, hx])

set_option maxRecDepth 100000 in
set_option maxHeartbeats 8000000 in
theorem schedTurns_walk (w : World) (n : Int) (n0 : 0 ≤ n) (n1 : n ≤ 255) (r : Int) (r0 : 0 ≤ r) (r1 : r ≤ 255) :
    Calls Try.prog 8 #[.int .u8 n, .int .u8 r] w fun e w' => e = .returned (.bool true) ∧ Below w.heap.size w w' := by
  obtain ⟨n, rfl⟩ : ∃ k : Nat, n = k := ⟨n.toNat, by omega⟩
  obtain ⟨r, rfl⟩ : ∃ k : Nat, r = k := ⟨r.toNat, by omega⟩
  go_enter Try.func8, Try.ntmps8
  go_wp2_with fail
  refine (new8 _).mono ?_
  rintro e w1 ⟨b, rfl, h1, hk⟩
  have H1 := Lib.hid h1
  have HK := Lib.hid hk
  clear h1 hk
  go_wp2_with fail
  go_loopw [6] (fun u wr => ∃ i : Nat, u = .int .i64 i ∧ i ≤ n % 8 ∧ Rk w wr b (spK i) (rlK i)) (fun u _ => n % 8 - (intOf u).toNat)
  case atStart => exact ⟨0, rfl, Nat.zero_le _, H1.out⟩
  case round =>
    clear H1
    obtain ⟨i, rfl, hi, hR⟩ := hrel
    have HR := Lib.hid hR
    clear hR
    by_cases hc : i < n % 8
    · have hc' : (i : Int) < (n : Int) % 8 := by omega
      obtain ⟨e1, e2, e3, e4⟩ := spK_step (k := i) (by omega)
      have HS := Lib.hid (HR.out.spawn HK.out ⟨e1, e2, e3, e4⟩)
      clear e1 e2 e3 e4
      go_wp2_with fail
      refine HS.out.mono ?_
      rintro e w2 ⟨rfl, h2, -⟩
      have H2 := Lib.hid h2
      clear h2
      go_wp2_with fail
      go_roundw
      case rel => exact ⟨i + 1, by go_num, by omega, H2.out⟩
      case measure => simp [intOf]; omega
    · obtain ⟨k, hkk⟩ : ∃ k, k = n % 8 := ⟨_, rfl⟩
      obtain rfl : i = k := by omega
      have hc' : ¬ (i : Int) < (n : Int) % 8 := by omega
      have hi8 : i < 8 := by omega
      have HRun := Lib.hid HR.out.run
      have HI := Lib.hid hkk
      clear hkk hi hc
      go_wp2_with fail
      refine HRun.out.mono ?_
      rintro e w2 ⟨v, rfl, hv, h2, -⟩
      obtain ⟨bv, o, cap, rfl, q1, q2⟩ := hv.shape (by rw [rlK_len]; omega)
      unfold maxLen at q2
      rw [rlK_len] at q1
      rw [rlK_len] at hv ⊢
      have H2 := Lib.hid h2
      have HV := Lib.hid hv
      clear h2 hv HR HRun
      go_wp2_with fail
      go_loopw [10] (fun u wr => ∃ j : Nat, u = .int .i64 j ∧ j ≤ r % 40 ∧ Rk w wr b (spK i) (turnL (rlK i) j) ∧ Kv wr b.ft (.slice (some ⟨bv, o, none⟩) (i + 1) cap) (rlK i)) (fun u _ => r % 40 - (intOf u).toNat)
      case atStart => exact ⟨0, rfl, Nat.zero_le _, by have := H2.out; unfold turnL; simpa using this, HV.out⟩
      case round =>
        clear H2 HV
        obtain ⟨j, rfl, hj, hR, hV⟩ := hrel
        have HR := Lib.hid hR
        have HV := Lib.hid hV
        clear hR hV
        by_cases hc : j < r % 40
        · have hcj : (j : Int) < (r : Int) % 40 := by omega
          have hz : ((i + 1 : Nat) : Int) ≠ 0 := by omega
          obtain ⟨e1, e2⟩ := turn_step (k := i) (i := j) hi8 (by omega)
          obtain ⟨x, hx⟩ : ∃ x, (rlK i)[j % (i + 1)]? = some x := ⟨_, List.getElem?_eq_getElem (by rw [rlK_len]; exact Nat.mod_lt _ (by omega))⟩
          rw [show (rlK i).getD (j % (i + 1)) 0 = x by rw [List.getD_eq_getElem?_getD, hx]; rfl] at e1 e2
          have hxb := rlK_bd i x (List.mem_of_getElem? hx)
          have hp : pickS (turnL (rlK i) j) 0 = (x, true) := by
            unfold pickS
            rw [if_pos ⟨Int.le_refl _, by rw [turn_len, rlK_len]; omega⟩]
            exact Prod.ext e1 rfl
          have HP := Lib.hid (HR.out.pick hp)
          have HX := Lib.hid hx
          have HY := Lib.hid e2
          have hm0 : (0 : Int) ≤ (j : Int) % ((i : Int) + 1) := Int.emod_nonneg _ (by omega)
          have hm1 : (j : Int) % ((i : Int) + 1) < (i : Int) + 1 := Int.emod_lt_of_pos _ (by omega)
          have hm2 : ((j : Int) % ((i : Int) + 1)).toNat = j % (i + 1) := by
            rw [show (j : Int) % ((i : Int) + 1) = ((j % (i + 1) : Nat) : Int) by simp]
            rfl
          have HM2 := Lib.hid hm2
          clear e1 e2 hx hp hm2
          go_wp2_with fail
          refine HP.out.mono ?_
          rintro e w3 ⟨rfl, h3, hb3⟩
          have hV3 := HV.out.below hb3
          have hcell : w3.cell? ⟨bv, o + j % (i + 1), none⟩ = some (.int .i64 x) := hV3.cell HX.out
          have H3 := Lib.hid h3
          have HV3 := Lib.hid hV3
          clear h3 hb3 hV3
          go_wp2_with fail
          refine (H3.out.yield HK.out HY.out (by omega)).mono ?_
          rintro e w4 ⟨rfl, h4, hx4⟩
          have H4 := Lib.hid h4
          have HV4 := Lib.hid (HV3.out.ext hx4)
          clear h4 hx4
          go_wp2_with fail
          go_roundw
          case rel => exact ⟨j + 1, by go_num, by omega, H4.out, HV4.out⟩
          case measure => simp [intOf]; omega
        · have hcj : ¬ (j : Int) < (r : Int) % 40 := by omega
          have B := Lib.hid HR.out.2
          have hi2 : (i : Int) = (n : Int) % 8 := by have := HI.out; omega
          clear HR HV
          go_wp2_with fail
          refine (awake9_calls _).mono ?_
          rintro e w5 ⟨rfl, hb5⟩
          have B5 := Lib.hid (B.out.trans (hb5.mono B.out.size))
          clear hb5
          go_wp2_with fail
          go_ret
          exact ⟨by first | rfl | (congr 2; simp; omega) | (congr 2; rw [decide_eq_true_iff]; omega), B5.out⟩
end Go.Proofs.Ytkiogbenbicghaa
